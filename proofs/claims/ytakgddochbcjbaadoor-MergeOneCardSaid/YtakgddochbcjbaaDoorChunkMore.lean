/- What holds of the chunks of any three lists, in plain Lean. -/
import Derived.Test.YtakgddochbcjbaaDoorChunkLaws
namespace Go.Proofs.YtakgddochbcjbaaDoor

section
variable {α : Type}
theorem seg_get (l : List α) (i j k : Nat) : (seg l i j)[k]? = if i + k < j then l[i + k]? else none := by
  unfold seg
  rw [List.getElem?_drop, List.getElem?_take]
theorem seg_len (l : List α) {i j : Nat} (h : j ≤ l.length) : (seg l i j).length = j - i := by
  unfold seg; rw [List.length_drop, List.length_take, Nat.min_eq_left h]
theorem seg_drop (l : List α) {i j : Nat} (h1 : i ≤ j) (h2 : j ≤ l.length) : seg l i j ++ l.drop j = l.drop i := by
  unfold seg
  conv => rhs; rw [← List.take_append_drop j l]
  rw [List.drop_append_of_le_length (by rw [List.length_take]; omega)]
theorem seg_nil {l : List α} {i j : Nat} (h1 : i ≤ j) (h2 : j ≤ l.length) (h : seg l i j = []) : i = j := by
  have := seg_len l (i := i) h2
  rw [h] at this
  simp at this
  omega
theorem seg_same (l : List α) (i : Nat) : seg l i i = [] := by unfold seg; rw [List.drop_eq_nil_of_le]; rw [List.length_take]; omega
theorem drop_end (l : List α) (i : Nat) : l.drop i = seg l i l.length := by unfold seg; rw [List.take_length]
end

section
variable {α : Type} [DecidableEq α]
theorem pieceC_nil {b o t : List α} (h1 : b = []) (h2 : o = []) (h3 : t = []) : pieceC b o t = [] := by subst h1 h2 h3; rfl
theorem pieceC_one {b o t : List α} (h : ¬ (b = [] ∧ o = [] ∧ t = [])) : pieceC b o t = [(knd b o t, b, o, t)] := by
  unfold pieceC
  rw [if_neg]
  intro hl
  refine h ⟨List.eq_nil_of_length_eq_zero (by omega), List.eq_nil_of_length_eq_zero (by omega), List.eq_nil_of_length_eq_zero (by omega)⟩
theorem pieceC_flat {β : Type} (f : Chk α → List β) {b o t : List α} (h : b = [] → o = [] → t = [] → f (knd b o t, b, o, t) = []) : (pieceC b o t).flatMap f = f (knd b o t, b, o, t) := by
  by_cases hn : b = [] ∧ o = [] ∧ t = []
  · rw [pieceC_nil hn.1 hn.2.1 hn.2.2, h hn.1 hn.2.1 hn.2.2]; rfl
  · rw [pieceC_one hn]; simp
theorem run_same {a b c : List α} {i x y : Nat} (hi : i < a.length) (hx : at3 a b i = x) (hy : at3 a c i = y) : seg a i (i + runN a b c i) = seg b x (x + runN a b c i) ∧ seg a i (i + runN a b c i) = seg c y (y + runN a b c i) := by
  refine ⟨List.ext_getElem? fun k => ?_, List.ext_getElem? fun k => ?_⟩
  · rw [seg_get, seg_get]
    by_cases hk : k < runN a b c i
    · rw [if_pos (by omega), if_pos (by omega)]
      obtain ⟨z, h1, h2⟩ := at3_same (run_all hi hx hy hk).2.1
      rw [h1, h2]
    · rw [if_neg (by omega), if_neg (by omega)]
  · rw [seg_get, seg_get]
    by_cases hk : k < runN a b c i
    · rw [if_pos (by omega), if_pos (by omega)]
      obtain ⟨z, h1, h2⟩ := at3_same (run_all hi hx hy hk).2.2
      rw [h1, h2]
    · rw [if_neg (by omega), if_neg (by omega)]
theorem run_top {a b c : List α} {i x y : Nat} (hi : i < a.length) (hx : at3 a b i = x) (hy : at3 a c i = y) : i + runN a b c i ≤ a.length ∧ x + runN a b c i ≤ b.length ∧ y + runN a b c i ≤ c.length := by
  have h := AtC.next hi hx hy
  obtain ⟨q, h1⟩ := h.ours
  obtain ⟨r, h2⟩ := h.theirs
  exact ⟨h.top, (cut_le h1).2, (cut_le h2).2⟩
theorem AtC.tops {a b c : List α} {i p o t : Nat} (h : AtC a b c i p o t) : p ≤ a.length ∧ o ≤ b.length ∧ t ≤ c.length := by
  obtain ⟨q, h1⟩ := h.ours
  obtain ⟨r, h2⟩ := h.theirs
  exact ⟨(cut_le h1).1, (cut_le h1).2, (cut_le h2).2⟩

/-- one behind the other, the chunks are the three lists -/
theorem chunks_whole (a b c : List α) : (chunks a b c).flatMap (·.2.1) = a ∧ (chunks a b c).flatMap (·.2.2.1) = b ∧ (chunks a b c).flatMap (·.2.2.2) = c := by
  refine chGo_ind (a := a) (b := b) (c := c) (M := fun _ p o t l => l.flatMap (·.2.1) = a.drop p ∧ l.flatMap (·.2.2.1) = b.drop o ∧ l.flatMap (·.2.2.2) = c.drop t) ?_ ?_ ?_ a.length 0 0 0 0 (by omega) (AtC.start a b c)
  · intro p o t h
    exact ⟨pieceC_flat _ fun h _ _ => h, pieceC_flat _ fun _ h _ => h, pieceC_flat _ fun _ _ h => h⟩
  · intro i p o t l h hi hn hM; exact hM
  · intro i p o t x y l h hi hx hy ho ht ⟨m1, m2, m3⟩
    have hs := run_same hi hx hy
    have ht3 := run_top hi hx hy
    refine ⟨?_, ?_, ?_⟩
    · rw [List.flatMap_append, pieceC_flat _ fun h _ _ => h, List.flatMap_cons, m1, seg_drop a (Nat.le_add_right _ _) ht3.1, seg_drop a h.le h.top]
    · rw [List.flatMap_append, pieceC_flat _ fun _ h _ => h, List.flatMap_cons, m2]
      dsimp only
      rw [hs.1, seg_drop b (Nat.le_add_right _ _) ht3.2.1, seg_drop b ho (by omega)]
    · rw [List.flatMap_append, pieceC_flat _ fun _ _ h => h, List.flatMap_cons, m3]
      dsimp only
      rw [hs.2, seg_drop c (Nat.le_add_right _ _) ht3.2.2, seg_drop c ht (by omega)]

/-- the kind that a chunk should be of -/
def kindOf (b o t : List α) : Int := if o = b ∧ t = b then 1 else knd b o t
def RightK (ch : Chk α) : Prop := ch.1 = kindOf ch.2.1 ch.2.2.1 ch.2.2.2 ∧ ¬ (ch.2.1 = [] ∧ ch.2.2.1 = [] ∧ ch.2.2.2 = [])
theorem knd_ne (b o t : List α) : knd b o t ≠ 1 := by unfold knd; split <;> (try split) <;> (try split) <;> decide
theorem piece_right {b o t : List α} (h : o = b → t = b → b = []) : ∀ ch ∈ pieceC b o t, RightK ch := by
  by_cases hn : b = [] ∧ o = [] ∧ t = []
  · rw [pieceC_nil hn.1 hn.2.1 hn.2.2]; simp
  · rw [pieceC_one hn]
    intro ch hc
    obtain rfl := List.mem_singleton.1 hc
    refine ⟨?_, hn⟩
    dsimp only [kindOf]
    rw [if_neg]
    rintro ⟨h1, h2⟩
    have := h h1 h2
    exact hn ⟨this, by rw [h1, this], by rw [h2, this]⟩
theorem AtC.alone {a b c : List α} {i p o t x y : Nat} (h : AtC a b c i p o t) (hx : at3 a b i = x) (hy : at3 a c i = y) (h1 : seg b o x = seg a p i) (h2 : seg c t y = seg a p i) : seg a p i = [] := by
  obtain ⟨q, c1, _⟩ := at3_cut hx
  obtain ⟨r, c2, _⟩ := at3_cut hy
  have := h.alike ⟨q, c1⟩ ⟨r, c2⟩ h1.symm h2.symm
  rw [this, seg_same]
theorem AtC.aloneEnd {a b c : List α} {p o t : Nat} (h : AtC a b c a.length p o t) (h1 : b.drop o = a.drop p) (h2 : c.drop t = a.drop p) : a.drop p = [] := by
  have c1 := CutAt.end_ (scr a b)
  have c2 := CutAt.end_ (scr a c)
  rw [scr_old, scr_new] at c1 c2
  rw [drop_end a, drop_end b] at h1
  rw [drop_end a, drop_end c] at h2
  have := h.alike ⟨_, c1⟩ ⟨_, c2⟩ h1.symm h2.symm
  rw [this, List.drop_length]
theorem chunks_right (a b c : List α) : ∀ ch ∈ chunks a b c, RightK ch := by
  refine chGo_ind (a := a) (b := b) (c := c) (M := fun _ _ _ _ l => ∀ ch ∈ l, RightK ch) ?_ ?_ ?_ a.length 0 0 0 0 (by omega) (AtC.start a b c)
  · intro p o t h; exact piece_right fun h1 h2 => h.aloneEnd h1 h2
  · intro i p o t l h hi hn hM; exact hM
  · intro i p o t x y l h hi hx hy ho ht hM ch hc
    rcases List.mem_append.1 hc with hc | hc
    · exact piece_right (fun h1 h2 => h.alone hx hy h1 h2) ch hc
    · rcases List.mem_cons.1 hc with rfl | hc
      · refine ⟨by simp [kindOf], fun hn => ?_⟩
        have h1 := seg_len a (i := i) (run_top hi hx hy).1
        have h2 := runN_pos a b c i
        have h4 : seg a i (i + runN a b c i) = [] := hn.1
        have h3 : (seg a i (i + runN a b c i)).length = 0 := by rw [h4]; rfl
        omega
      · exact hM ch hc
/-- no two Stable ones side by side -/
def noTwo : List (Chk α) → Prop
  | [] => True
  | ch :: l => (ch.1 = 1 → ∀ d, l.head? = some d → d.1 ≠ 1) ∧ noTwo l
theorem chunks_noTwo (a b c : List α) : noTwo (chunks a b c) := by
  refine (chGo_ind (a := a) (b := b) (c := c) (M := fun _ p o t l => noTwo l ∧ ∀ d, l.head? = some d → d.1 = 1 → p < a.length ∧ at3 a b p = o ∧ at3 a c p = t) ?_ ?_ ?_ a.length 0 0 0 0 (by omega) (AtC.start a b c)).1
  · intro p o t h
    by_cases hn : a.drop p = [] ∧ b.drop o = [] ∧ c.drop t = []
    · rw [pieceC_nil hn.1 hn.2.1 hn.2.2]; exact ⟨trivial, by simp⟩
    · rw [pieceC_one hn]
      refine ⟨⟨fun h1 => absurd h1 (knd_ne _ _ _), trivial⟩, fun d hd h1 => ?_⟩
      simp only [List.head?_cons, Option.some.injEq] at hd
      subst hd
      exact absurd h1 (knd_ne _ _ _)
  · intro i p o t l h hi hn hM; exact hM
  · intro i p o t x y l h hi hx hy ho ht ⟨m1, m2⟩
    have hst : noTwo ((1, seg a i (i + runN a b c i), seg a i (i + runN a b c i), seg a i (i + runN a b c i)) :: l) := by
      refine ⟨fun _ d hd h1 => ?_, m1⟩
      have := m2 d hd h1
      exact run_stop hx hy this
    by_cases hn : seg a p i = [] ∧ seg b o x = [] ∧ seg c t y = []
    · rw [pieceC_nil hn.1 hn.2.1 hn.2.2, List.nil_append]
      have ht3 := run_top hi hx hy
      have e1 := seg_nil h.le h.top hn.1
      have e2 := seg_nil ho (by omega) hn.2.1
      have e3 := seg_nil ht (by omega) hn.2.2
      refine ⟨hst, fun d _ _ => ?_⟩
      rw [e1, e2, e3]
      exact ⟨hi, hx, hy⟩
    · rw [pieceC_one hn]
      refine ⟨⟨fun h1 => absurd h1 (knd_ne _ _ _), hst⟩, fun d hd h1 => ?_⟩
      simp only [List.cons_append, List.head?_cons, Option.some.injEq] at hd
      subst hd
      exact absurd h1 (knd_ne _ _ _)

/-- of three that have nothing firm there is one piece, or none -/
theorem chunks_none {a b c : List α} (h : ∀ x ∈ a, x ∉ b) : chunks a b c = pieceC a b c := by
  refine (chGo_ind (a := a) (b := b) (c := c) (M := fun _ p o t l => p = 0 → o = 0 → t = 0 → l = pieceC a b c) ?_ ?_ ?_ a.length 0 0 0 0 (by omega) (AtC.start a b c)) rfl rfl rfl
  · intro p o t _ h1 h2 h3; subst h1 h2 h3; rfl
  · intro i p o t l _ hi hn hM; exact hM
  · intro i p o t x y l _ hi hx hy ho ht _
    obtain ⟨z, h1, h2⟩ := at3_same hx
    exact absurd (List.mem_of_getElem? h2) (h z (List.mem_of_getElem? h1))
end

end Go.Proofs.YtakgddochbcjbaaDoor
