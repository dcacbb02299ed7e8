/- The chunks where one side is as base, and with the sides exchanged, in plain Lean. -/
import Derived.Test.YtakgddochbcjbaaDoorChunkMore
namespace Go.Proofs.YtakgddochbcjbaaDoor

theorem goesOn_comm {X Y : Nat → Int} {len i n : Nat} : goesOn X Y len i n ↔ goesOn Y X len i n := ⟨fun ⟨h1, h2, h3⟩ => ⟨h1, h3, h2⟩, fun ⟨h1, h2, h3⟩ => ⟨h1, h3, h2⟩⟩
theorem ext_comm (X Y : Nat → Int) (len i : Nat) : ∀ f n, ext X Y len i f n = ext Y X len i f n
  | 0, n => rfl
  | f + 1, n => by
    rw [ext, ext, ext_comm X Y len i f (n + 1)]
    by_cases h : goesOn X Y len i n
    · rw [if_pos h, if_pos (goesOn_comm.1 h)]
    · rw [if_neg h, if_neg (fun h2 => h (goesOn_comm.1 h2))]

section
variable {α : Type}
/-- whether nothing clashes -/
def cleanC (l : List (Chk α)) : Bool := l.all fun ch => ch.1 != 5
/-- what the chunks come to -/
def mergeC (l : List (Chk α)) : List α := l.flatMap fun ch => if ch.1 = 3 then ch.2.2.2 else ch.2.2.1

theorem merge_congr {l : List (Chk α)} (f : Chk α → List α) (h : ∀ ch ∈ l, (if ch.1 = 3 then ch.2.2.2 else ch.2.2.1) = f ch) : mergeC l = l.flatMap f := by
  unfold mergeC
  induction l with
  | nil => rfl
  | cons ch l ih => rw [List.flatMap_cons, List.flatMap_cons, h ch (List.mem_cons_self ..), ih fun d hd => h d (List.mem_cons_of_mem _ hd)]

end

section
variable {α : Type} [DecidableEq α]
theorem at3_self {a : List α} {i : Nat} (h : i < a.length) : at3 a a i = i := by
  have c1 : Cut (scr a a) 0 0 := ⟨0, CutAt.start _⟩
  have c2 := CutAt.end_ (scr a a)
  rw [scr_old, scr_new] at c2
  have := piece_keep c1 ⟨_, c2⟩ rfl (d := i) (by omega)
  simpa using this
theorem kindOf_ours {b t : List α} : kindOf b b t ≠ 5 ∧ (kindOf b b t = 3 ∨ t = b) := by
  unfold kindOf knd
  by_cases h : t = b
  · rw [if_pos ⟨rfl, h⟩]; exact ⟨by decide, .inr h⟩
  · rw [if_neg (fun hh => h hh.2), if_pos rfl]; exact ⟨by decide, .inl rfl⟩
theorem kindOf_theirs {b o : List α} : kindOf b o b ≠ 5 ∧ (kindOf b o b ≠ 3 ∨ o = b) := by
  unfold kindOf knd
  by_cases h : o = b
  · rw [if_pos ⟨h, rfl⟩]; exact ⟨by decide, .inr h⟩
  · rw [if_neg (fun hh => h hh.1), if_neg h, if_pos rfl]; exact ⟨by decide, .inl (by decide)⟩
theorem kindOf_both {b o : List α} : kindOf b o o ≠ 5 := by
  unfold kindOf knd
  by_cases h : o = b
  · rw [if_pos ⟨h, h⟩]; decide
  · rw [if_neg (fun hh => h hh.1), if_neg h, if_neg h, if_pos rfl]; decide
theorem clean_all {l : List (Chk α)} (h : ∀ ch ∈ l, RightK ch ∧ (ch.2.2.1 = ch.2.1 ∨ ch.2.2.2 = ch.2.1 ∨ ch.2.2.1 = ch.2.2.2)) : cleanC l = true := by
  unfold cleanC
  rw [List.all_eq_true]
  intro ch hc
  obtain ⟨⟨hk, _⟩, h2⟩ := h ch hc
  rw [bne_iff_ne, hk]
  rcases h2 with h2 | h2 | h2
  · rw [h2]; exact kindOf_ours.1
  · rw [h2]; exact kindOf_theirs.1
  · rw [h2]; exact kindOf_both
/-- where ours is as base, each chunk's ours is its base -/
theorem ours_same (a c : List α) : ∀ ch ∈ chunks a a c, ch.2.2.1 = ch.2.1 := by
  refine (chGo_ind (a := a) (b := a) (c := c) (M := fun _ p o _ l => o = p → ∀ ch ∈ l, ch.2.2.1 = ch.2.1) ?_ ?_ ?_ a.length 0 0 0 0 (by omega) (AtC.start a a c)) rfl
  · intro p o t _ hop ch hc
    subst hop
    unfold pieceC at hc
    split at hc
    · cases hc
    · obtain rfl := List.mem_singleton.1 hc; rfl
  · intro i p o t l _ _ _ hM; exact hM
  · intro i p o t x y l _ hi hx hy _ _ hM hop ch hc
    subst hop
    have hxi : x = i := by rw [at3_self hi] at hx; omega
    subst hxi
    rcases List.mem_append.1 hc with hc | hc
    · unfold pieceC at hc
      split at hc
      · cases hc
      · obtain rfl := List.mem_singleton.1 hc; rfl
    · rcases List.mem_cons.1 hc with rfl | hc
      · rfl
      · exact hM rfl ch hc
/-- with ours and theirs exchanged -/
def turnC (ch : Chk α) : Chk α := (if ch.1 = 2 then 3 else if ch.1 = 3 then 2 else ch.1, ch.2.1, ch.2.2.2, ch.2.2.1)
theorem runN_turn (a b c : List α) (i : Nat) : runN a c b i = runN a b c i := ext_comm _ _ _ _ _ _
theorem knd_turn {b o t : List α} (h : ¬ (o = b ∧ t = b)) : knd b t o = (if knd b o t = 2 then 3 else if knd b o t = 3 then 2 else knd b o t) := by
  unfold knd
  by_cases h1 : o = b
  · have h2 : t ≠ b := fun e => h ⟨h1, e⟩
    rw [if_pos h1, if_neg h2, if_pos h1]; rfl
  · by_cases h2 : t = b
    · rw [if_pos h2, if_neg h1, if_pos h2]; rfl
    · rw [if_neg h2, if_neg h1, if_neg h1, if_neg h2]
      by_cases h3 : o = t
      · rw [if_pos h3, if_pos h3.symm]; rfl
      · rw [if_neg h3, if_neg (fun e => h3 e.symm)]; rfl
theorem pieceC_turn {b o t : List α} (h : o = b → t = b → b = []) : pieceC b t o = (pieceC b o t).map turnC := by
  by_cases hn : b = [] ∧ o = [] ∧ t = []
  · rw [pieceC_nil hn.1 hn.2.1 hn.2.2, pieceC_nil hn.1 hn.2.2 hn.2.1]; rfl
  · rw [pieceC_one hn, pieceC_one (fun h => hn ⟨h.1, h.2.2, h.2.1⟩)]
    have hne : ¬ (o = b ∧ t = b) := fun ⟨h1, h2⟩ => by
      have := h h1 h2
      exact hn ⟨this, by rw [h1, this], by rw [h2, this]⟩
    rw [knd_turn hne]
    rfl
theorem chunks_turn (a b c : List α) : chunks a c b = (chunks a b c).map turnC := by
  refine chGo_ind (a := a) (b := b) (c := c) (M := fun i p o t l => chGo a c b i p t o = l.map turnC) ?_ ?_ ?_ a.length 0 0 0 0 (by omega) (AtC.start a b c)
  · intro p o t h
    rw [chGo, if_neg (by omega)]
    exact pieceC_turn fun h1 h2 => h.aloneEnd h1 h2
  · intro i p o t l h hi hn hM
    rw [chGo, if_pos hi, if_pos hn.symm]
    exact hM
  · intro i p o t x y l h hi hx hy ho ht hM
    rw [chGo, if_pos hi, if_neg (by omega), hx, hy, Int.toNat_natCast, Int.toNat_natCast, runN_turn, hM, List.map_append, List.map_cons, pieceC_turn fun h1 h2 => h.alone hx hy h1 h2]
    rfl
theorem theirs_same (a b : List α) : ∀ ch ∈ chunks a b a, ch.2.2.2 = ch.2.1 := by
  intro ch hc
  rw [chunks_turn, List.mem_map] at hc
  obtain ⟨d, hd, rfl⟩ := hc
  exact ours_same a b d hd
theorem both_same (a b : List α) : ∀ ch ∈ chunks a b b, ch.2.2.1 = ch.2.2.2 := by
  refine (chGo_ind (a := a) (b := b) (c := b) (M := fun _ _ o t l => o = t → ∀ ch ∈ l, ch.2.2.1 = ch.2.2.2) ?_ ?_ ?_ a.length 0 0 0 0 (by omega) (AtC.start a b b)) rfl
  · intro p o t _ hop ch hc
    subst hop
    unfold pieceC at hc
    split at hc
    · cases hc
    · obtain rfl := List.mem_singleton.1 hc; rfl
  · intro i p o t l _ _ _ hM; exact hM
  · intro i p o t x y l _ hi hx hy _ _ hM hop ch hc
    subst hop
    have hxy : x = y := by rw [hx] at hy; omega
    subst hxy
    rcases List.mem_append.1 hc with hc | hc
    · unfold pieceC at hc
      split at hc
      · cases hc
      · obtain rfl := List.mem_singleton.1 hc; rfl
    · rcases List.mem_cons.1 hc with rfl | hc
      · rfl
      · exact hM rfl ch hc

/-- where one side is as base, or both are alike: clean, and it comes to the other one -/
theorem one_ours (a b : List α) : cleanC (chunks a a b) = true ∧ mergeC (chunks a a b) = b := by
  have h1 := ours_same a b
  have h2 := chunks_right a a b
  refine ⟨clean_all fun ch hc => ⟨h2 ch hc, .inl (h1 ch hc)⟩, ?_⟩
  rw [merge_congr (fun ch => ch.2.2.2) fun ch hc => ?_]
  · exact (chunks_whole a a b).2.2
  · have hk := (h2 ch hc).1
    rw [h1 ch hc] at hk
    split
    · rfl
    · rename_i hne
      rcases (kindOf_ours (b := ch.2.1) (t := ch.2.2.2)).2 with h3 | h3
      · exact absurd (hk.trans h3) hne
      · rw [h1 ch hc, h3]
theorem one_theirs (a b : List α) : cleanC (chunks a b a) = true ∧ mergeC (chunks a b a) = b := by
  have h1 := theirs_same a b
  have h2 := chunks_right a b a
  refine ⟨clean_all fun ch hc => ⟨h2 ch hc, .inr (.inl (h1 ch hc))⟩, ?_⟩
  rw [merge_congr (fun ch => ch.2.2.1) fun ch hc => ?_]
  · exact (chunks_whole a b a).2.1
  · have hk := (h2 ch hc).1
    rw [h1 ch hc] at hk
    split
    · rename_i he
      rcases (kindOf_theirs (b := ch.2.1) (o := ch.2.2.1)).2 with h3 | h3
      · exact absurd (hk.symm.trans he) h3
      · rw [h1 ch hc, h3]
    · rfl
theorem one_both (a b : List α) : cleanC (chunks a b b) = true ∧ mergeC (chunks a b b) = b := by
  have h1 := both_same a b
  have h2 := chunks_right a b b
  refine ⟨clean_all fun ch hc => ⟨h2 ch hc, .inr (.inr (h1 ch hc))⟩, ?_⟩
  rw [merge_congr (fun ch => ch.2.2.1) fun ch hc => ?_]
  · exact (chunks_whole a b b).2.1
  · split
    · exact (h1 ch hc).symm
    · rfl
end

end Go.Proofs.YtakgddochbcjbaaDoor
