/- Plain laws of graphs: what stands above, how chains run, the base of two, children counted. No program in sight. -/
import Derived.Test.YtdhdlkbldngmoaaGraphSpec
import Derived.Test.YtdhdlkbldngmoaaParents
namespace Go.Proofs.Ytdhdlkbldngmoaa

theorem mem_up_trans {xs : List Int} (hr : right xs = true) (i x : Int) (hi : i ∈ up xs x) : ∀ b : Int, b < xs.length → x ∈ up xs b → i ∈ up xs b :=
  up_ind hr (fun b h hx => by rw [up_neg h] at hx; cases hx) fun b h0 hb _ _ ih hx => by
    rw [up_step hr h0 hb] at hx ⊢
    rcases List.mem_cons.1 hx with rfl | hx
    · rwa [up_step hr h0 hb] at hi
    · exact List.mem_cons_of_mem _ (ih hx)
theorem mem_up_line {xs : List Int} (hr : right xs = true) (i j : Int) (hij : i ≤ j) : ∀ a : Int, a < xs.length → i ∈ up xs a → j ∈ up xs a → i ∈ up xs j :=
  up_ind hr (fun b h hx => by rw [up_neg h] at hx; cases hx) fun b h0 hb hp1 hp2 ih hi hj => by
    have hj' := hj
    rw [up_step hr h0 hb] at hj
    rcases List.mem_cons.1 hj with rfl | hj
    · exact hi
    · have hjl := up_le hr _ (by omega) j hj
      rw [up_step hr h0 hb] at hi
      rcases List.mem_cons.1 hi with rfl | hi
      · omega
      · exact ih hi hj
theorem above_iff {xs : List Int} {a b : Int} : above xs a b = true ↔ isB xs b = true ∧ a ∈ up xs b := by
  constructor
  · intro h
    have hb := (above_isB h).2.1
    rw [above_up hb, List.contains_iff_mem] at h
    exact ⟨hb, h⟩
  · rintro ⟨hb, h⟩
    rw [above_up hb, List.contains_iff_mem]
    exact h
theorem above_self {xs : List Int} {a : Int} (h : isB xs a = true) : above xs a a = true := by rw [above_le h (Int.le_refl _)]; simp
theorem above_trans {xs : List Int} {i x b : Int} (h1 : above xs i x = true) (h2 : above xs x b = true) : above xs i b = true := by
  obtain ⟨hb, hx⟩ := above_iff.1 h2
  obtain ⟨_, hl, hr⟩ := isB_iff.1 hb
  exact above_iff.2 ⟨hb, mem_up_trans hr i x (above_iff.1 h1).2 b hl hx⟩
theorem above_linear {xs : List Int} {i j a : Int} (hij : i ≤ j) (h1 : above xs i a = true) (h2 : above xs j a = true) : above xs i j = true := by
  obtain ⟨hb, hx⟩ := above_iff.1 h1
  obtain ⟨_, hl, hr⟩ := isB_iff.1 hb
  exact above_iff.2 ⟨(above_isB h2).1, mem_up_line hr i j hij a hl hx (above_iff.1 h2).2⟩

theorem base_cases (xs : List Int) (a b : Int) : (base xs a b = -1 ∧ ∀ x, above xs x a = true → above xs x b = false) ∨ (above xs (base xs a b) a = true ∧ above xs (base xs a b) b = true) := by
  unfold base
  cases h : (chain xs a).find? fun x => above xs x b with
  | none =>
    refine .inl ⟨rfl, fun x hx => ?_⟩
    rw [List.find?_eq_none] at h
    have := h x (by rw [above, List.contains_iff_mem] at hx; exact hx)
    simpa using this
  | some x =>
    refine .inr ⟨?_, ?_⟩
    · rw [above, List.contains_iff_mem]
      exact List.mem_of_find?_eq_some h
    · exact List.find?_some (p := fun x => above xs x b) h
/-- the base is the lowest one above both -/
theorem base_top {xs : List Int} {a b i : Int} (h1 : above xs i a = true) (h2 : above xs i b = true) : i ≤ base xs a b := by
  obtain ⟨hb, hi⟩ := above_iff.1 h1
  obtain ⟨_, hl, hr⟩ := isB_iff.1 hb
  have key : ∀ a' : Int, a' < xs.length → i ∈ up xs a' → i ≤ ((up xs a').find? fun x => above xs x b).getD (-1) :=
    up_ind hr (fun b h hx => by rw [up_neg h] at hx; cases hx) fun c h0 hc _ _ ih hi => by
      have hil := (up_le hr c hc i hi).2
      rw [up_step hr h0 hc] at hi ⊢
      cases hcb : above xs c b with
      | true => rw [List.find?_cons_of_pos (p := fun x => above xs x b) hcb]; exact hil
      | false =>
        rw [List.find?_cons_of_neg (p := fun x => above xs x b) (by rw [hcb]; simp)]
        rcases List.mem_cons.1 hi with rfl | hi
        · rw [h2] at hcb; cases hcb
        · exact ih hi
  have := key a hl hi
  rw [base, chain_up hb]
  exact this
theorem base_both {xs : List Int} (a b i : Int) : (above xs i a && above xs i b) = above xs i (base xs a b) := by
  rw [Bool.eq_iff_iff, Bool.and_eq_true]
  constructor
  · rintro ⟨h1, h2⟩
    rcases base_cases xs a b with ⟨_, h⟩ | ⟨h3, _⟩
    · rw [h i h1] at h2; cases h2
    · exact above_linear (base_top h1 h2) h1 h3
  · intro h
    rcases base_cases xs a b with ⟨e, _⟩ | ⟨h3, h4⟩
    · rw [e, above_none (by simp [isB])] at h; cases h
    · exact ⟨above_trans h h3, above_trans h h4⟩
theorem base_comm (xs : List Int) (a b : Int) : base xs a b = base xs b a := by
  have key : ∀ a b, base xs a b ≤ base xs b a := by
    intro a b
    rcases base_cases xs a b with ⟨e, _⟩ | ⟨h3, h4⟩
    · rw [e]
      rcases base_cases xs b a with ⟨e, _⟩ | ⟨h3, _⟩
      · omega
      · have := (isB_iff.1 (above_isB h3).1).1; omega
    · exact base_top h4 h3
  exact Int.le_antisymm (key a b) (key b a)
/-- base, told of commits: none, or above both -/
theorem base_ask {xs : List Int} (a b i : Int) : (decide (0 ≤ base xs a b) && above xs i (base xs a b)) = above xs i (base xs a b) := by
  cases h : above xs i (base xs a b) with
  | false => simp
  | true => have := (isB_iff.1 (above_isB h).2.1).1; simp [this]

/-- how a chain runs -/
theorem up_next {xs : List Int} (hr : right xs = true) : ∀ (k : Nat) (i : Int), i < xs.length → k + 1 < (up xs i).length → gi (up xs i) (k + 1) = gi xs (gi (up xs i) k).toNat := by
  intro k
  induction k with
  | zero =>
    intro i hi hk
    by_cases h0 : i < 0
    · rw [up_neg h0] at hk; simp at hk
    · have hp := right_at hr (k := i.toNat) (by omega)
      rw [up_step hr (by omega) hi] at hk ⊢
      by_cases hn : gi xs i.toNat < 0
      · rw [up_neg hn] at hk; simp at hk
      · rw [up_step hr (i := gi xs i.toNat) (by omega) (by omega)]
        simp [gi]
  | succ k ih =>
    intro i hi hk
    by_cases h0 : i < 0
    · rw [up_neg h0] at hk; simp at hk
    · have hp := right_at hr (k := i.toNat) (by omega)
      rw [up_step hr (by omega) hi] at hk ⊢
      have e : ∀ (x : Int) (l : List Int) (j : Nat), gi (x :: l) (j + 1) = gi l j := fun x l j => by simp [gi]
      rw [e, e]
      exact ih _ (by omega) (by simpa using hk)
theorem up_get {xs : List Int} (hr : right xs = true) {i : Int} (hi : i < xs.length) {k : Nat} (hk : k < (up xs i).length) : 0 ≤ gi (up xs i) k ∧ gi (up xs i) k ≤ i := by
  have hm : gi (up xs i) k ∈ up xs i := by
    simp only [gi, List.getD_eq_getElem?_getD, List.getElem?_eq_getElem hk, Option.getD_some]
    exact List.getElem_mem hk
  exact up_le hr i hi _ hm
theorem up_head {xs : List Int} (hr : right xs = true) {i : Int} (h0 : 0 ≤ i) (hi : i < xs.length) : 0 < (up xs i).length ∧ gi (up xs i) 0 = i := by
  rw [up_step hr h0 hi]
  simp [gi]

/-- sel, one by one -/
theorem gi_selTo {p : Nat → Bool} {n k : Nat} (hk : k < (selTo p n).length) : 0 ≤ gi (selTo p n) k ∧ gi (selTo p n) k < n ∧ p (gi (selTo p n) k).toNat = true := by
  have hm : gi (selTo p n) k ∈ selTo p n := by
    simp only [gi, List.getD_eq_getElem?_getD, List.getElem?_eq_getElem hk, Option.getD_some]
    exact List.getElem_mem hk
  exact mem_selTo.1 hm
theorem gi_append {xs ys : List Int} {k : Nat} : gi (xs ++ ys) k = if k < xs.length then gi xs k else gi ys (k - xs.length) := by
  unfold gi
  by_cases h : k < xs.length
  · rw [if_pos h]; simp [List.getElem?_append_left h]
  · rw [if_neg h]; simp [List.getElem?_append_right (by omega : xs.length ≤ k)]
theorem selTo_up {p : Nat → Bool} : ∀ (n k : Nat), k + 1 < (selTo p n).length → gi (selTo p n) k < gi (selTo p n) (k + 1) := by
  intro n
  induction n with
  | zero => intro k hk; simp [selTo, nats] at hk
  | succ n ih =>
    intro k hk
    cases hp : p n with
    | false => rw [selTo_no hp] at hk ⊢; exact ih k hk
    | true =>
      rw [selTo_yes hp] at hk ⊢
      rw [List.length_append, List.length_singleton] at hk
      rw [gi_append, gi_append, if_pos (by omega)]
      by_cases h : k + 1 < (selTo p n).length
      · rw [if_pos h]; exact ih k h
      · rw [if_neg h]
        have := (gi_selTo (p := p) (n := n) (k := k) (by omega)).2.1
        have e : k + 1 - (selTo p n).length = 0 := by omega
        rw [e]
        simpa [gi] using this
/-- how many children all have -/
def fewer (xs : List Int) (i : Int) (n : Nat) : Nat := (selTo (fun k => decide (gi xs k < i)) n).length
theorem fewer_succ (xs : List Int) (i : Int) : ∀ n, fewer xs (i + 1) n = fewer xs i n + (selTo (fun k => gi xs k == i) n).length := by
  intro n
  induction n with
  | zero => rfl
  | succ n ih =>
    unfold fewer at ih ⊢
    by_cases h1 : gi xs n < i
    · rw [selTo_yes (p := fun k => decide (gi xs k < i + 1)) (by simp; omega), selTo_yes (p := fun k => decide (gi xs k < i)) (by simp; omega), selTo_no (p := fun k => gi xs k == i) (by simp; omega)]
      simp only [List.length_append, ih]; simp; omega
    · by_cases h2 : gi xs n = i
      · rw [selTo_yes (p := fun k => decide (gi xs k < i + 1)) (by simp; omega), selTo_no (p := fun k => decide (gi xs k < i)) (by simp; omega), selTo_yes (p := fun k => gi xs k == i) (by simp; omega)]
        simp only [List.length_append, ih]; simp; omega
      · rw [selTo_no (p := fun k => decide (gi xs k < i + 1)) (by simp; omega), selTo_no (p := fun k => decide (gi xs k < i)) (by simp; omega), selTo_no (p := fun k => gi xs k == i) (by simp; omega)]
        exact ih
theorem selTo_all {p : Nat → Bool} {n : Nat} (h : ∀ k, k < n → p k = true) : (selTo p n).length = n := by
  unfold selTo nats
  rw [List.filter_eq_self.2 fun k hk => h k (List.mem_range.1 hk)]
  simp
theorem fewer_all {xs : List Int} (hr : right xs = true) : fewer xs xs.length xs.length = xs.length := selTo_all fun k hk => by have := right_at hr hk; simp; omega
theorem fewer_none {xs : List Int} (hr : right xs = true) : fewer xs (-1) xs.length = 0 := by
  unfold fewer
  rw [selTo_none fun k hk => by have := right_at hr hk; simp; omega]
  rfl
theorem fewer_le (xs : List Int) (i : Int) (n : Nat) : fewer xs i n ≤ n := selTo_len _ _
/-- one parent spoilt: no graph -/
theorem right_set {xs : List Int} {at_ : Nat} {v : Int} (h : at_ < xs.length) (hv : (at_ : Int) ≤ v) : right (xs.set at_ v) = false := by
  refine rightTo_false (k := at_) (by simpa using h) ?_
  have e : gi (xs.set at_ v) at_ = v := by simp [gi, h]
  rw [e]; omega

end Go.Proofs.Ytdhdlkbldngmoaa
