/- similar's alike, walked: pairs that are most alike, one by one. -/
import Derived.Test.YtakgddochbcjbaaDoorRatio
namespace Go.Proofs.YtakgddochbcjbaaDoor
open Go.RowKit Go.Deep Go.MapKept Go.Shelf

/-- how much alike two files' texts are -/
def ratioF (l m : List FileB) (i j : Int) : Int := (ratioT (ft l i.toNat) (ft m j.toNat) : Nat)
def fillRow (R : Int → Int → Int) (i : Int) (T : List Int) (f : Int × Int → Option Int) : Nat → Int × Int → Option Int
  | 0 => f
  | j + 1 => putF (fillRow R i T f j) (i, gi T j) (R i (gi T j))
def fillTo (R : Int → Int → Int) (F T : List Int) (f : Int × Int → Option Int) : Nat → Int × Int → Option Int
  | 0 => f
  | k + 1 => fillRow R (gi F k) T (fillTo R F T f k) T.length
theorem mem_gi {T : List Int} {x : Int} (h : x ∈ T) : ∃ k, k < T.length ∧ gi T k = x := by
  obtain ⟨k, hk, e⟩ := List.getElem_of_mem h
  exact ⟨k, hk, by rw [gi, List.getD_eq_getElem?_getD, List.getElem?_eq_getElem hk]; exact e⟩
/-- what is told of pairs is how much alike they are -/
theorem fillRow_told {R : Int → Int → Int} {i : Int} {T : List Int} {f : Int × Int → Option Int} (hf : ∀ p v, f p = some v → v = R p.1 p.2) : ∀ j p v, fillRow R i T f j p = some v → v = R p.1 p.2
  | 0, p, v, h => hf p v h
  | j + 1, p, v, h => by
    rw [fillRow, putF] at h
    split at h
    · rename_i e
      rw [e, ← Option.some.inj h]
    · exact fillRow_told hf j p v h
theorem fillRow_keeps {R : Int → Int → Int} {i : Int} {T : List Int} {f : Int × Int → Option Int} {p : Int × Int} (h : (f p).isSome = true) : ∀ j, (fillRow R i T f j p).isSome = true
  | 0 => h
  | j + 1 => by
    rw [fillRow, putF]
    split
    · rfl
    · exact fillRow_keeps h j
theorem fillRow_has {R : Int → Int → Int} {i : Int} {T : List Int} {f : Int × Int → Option Int} : ∀ j k, k < j → (fillRow R i T f j (i, gi T k)).isSome = true
  | j + 1, k, h => by
    rw [fillRow, putF]
    split
    · rfl
    · rename_i hne
      rcases Nat.lt_succ_iff_lt_or_eq.1 h with h1 | rfl
      · exact fillRow_has j k h1
      · exact absurd rfl hne
theorem fillTo_told {R : Int → Int → Int} {F T : List Int} {f : Int × Int → Option Int} (hf : ∀ p v, f p = some v → v = R p.1 p.2) : ∀ k p v, fillTo R F T f k p = some v → v = R p.1 p.2
  | 0, p, v, h => hf p v h
  | k + 1, p, v, h => fillRow_told (fillTo_told hf k) _ p v h
theorem fillTo_has {R : Int → Int → Int} {F T : List Int} {f : Int × Int → Option Int} {y : Int} (hy : y ∈ T) : ∀ k j, j < k → (fillTo R F T f k (gi F j, y)).isSome = true
  | k + 1, j, h => by
    rw [fillTo]
    rcases Nat.lt_succ_iff_lt_or_eq.1 h with h1 | rfl
    · exact fillRow_keeps (fillTo_has hy k j h1) _
    · obtain ⟨n, hn, e⟩ := mem_gi hy
      rw [← e]
      exact fillRow_has _ n hn
theorem fill_get {R : Int → Int → Int} {F T : List Int} {x y : Int} (hx : x ∈ F) (hy : y ∈ T) : fillTo R F T (fun _ => none) F.length (x, y) = some (R x y) := by
  obtain ⟨j, hj, e⟩ := mem_gi hx
  have h := fillTo_has (R := R) (f := fun _ => none) (F := F) hy F.length j hj
  rw [e] at h
  obtain ⟨v, hv⟩ := Option.isSome_iff_exists.1 h
  have := fillTo_told (R := R) (F := F) (T := T) (f := fun _ => none) (fun p v h => by cases h) F.length (x, y) v hv
  rw [hv, this]

/-- the best pair is one of those that are there -/
def BestOk (f : Int × Int → Option Int) (F T : List Int) (b : (Int × Int) × Int) : Prop := b = ((0, 0), 49) ∨ (b.1.1 ∈ F ∧ b.1.2 ∈ T ∧ (f b.1).getD 0 = b.2 ∧ 49 < b.2)
theorem BestOk.least {f : Int × Int → Option Int} {F T : List Int} {b : (Int × Int) × Int} (h : BestOk f F T b) : 49 ≤ b.2 := by
  rcases h with rfl | ⟨_, _, _, h⟩
  · decide
  · omega
theorem stepJ_ok {f : Int × Int → Option Int} {F T : List Int} {i j : Int} {b : (Int × Int) × Int} (h : BestOk f F T b) (hi : i ∈ F) (hj : j ∈ T) : BestOk f F T (stepJ f i b j) := by
  unfold stepJ
  split
  · have := h.least
    exact .inr ⟨hi, hj, rfl, by omega⟩
  · exact h
theorem rowTo_ok {f : Int × Int → Option Int} {F T : List Int} {i : Int} {b : (Int × Int) × Int} (h : BestOk f F T b) (hi : i ∈ F) : ∀ k, k ≤ T.length → BestOk f F T (rowTo f i T b k)
  | 0, _ => h
  | k + 1, hk => stepJ_ok (rowTo_ok h hi k (by omega)) hi (gi_mem (by omega))
theorem bestTo_ok (f : Int × Int → Option Int) (F T : List Int) : ∀ k, k ≤ F.length → BestOk f F T (bestTo f F T k)
  | 0, _ => .inl rfl
  | k + 1, hk => rowTo_ok (bestTo_ok f F T k (by omega)) (gi_mem (by omega)) _ (Nat.le_refl _)
theorem best_ok (f : Int × Int → Option Int) (F T : List Int) : BestOk f F T (bestOf f F T) := bestTo_ok f F T _ (Nat.le_refl _)
theorem best_in {f : Int × Int → Option Int} {F T : List Int} (h : 50 ≤ (bestOf f F T).2) : (bestOf f F T).1.1 ∈ F ∧ (bestOf f F T).1.2 ∈ T ∧ (f (bestOf f F T).1).getD 0 = (bestOf f F T).2 := by
  rcases best_ok f F T with e | ⟨h1, h2, h3, _⟩
  · rw [e] at h; exact absurd h (by decide)
  · exact ⟨h1, h2, h3⟩

def alikeN (f : Int × Int → Option Int) : Nat → SSt → SSt
  | 0, s => s
  | n + 1, s => if 50 ≤ (bestOf f s.F s.T).2 then alikeN f n (s.take (bestOf f s.F s.T).1.1 (bestOf f s.F s.T).1.2) else s
theorem delL_lt {x : Int} {F : List Int} (h : x ∈ F) : (delL x F).length < F.length := by
  have h1 : (delL x F).length ≠ F.length := fun e => by
    have := List.filter_sublist (p := fun j => !(j == x)) (l := F)
    have h2 := this.eq_of_length e
    have : x ∈ delL x F := by rw [delL, h2]; exact h
    exact (mem_delL.1 this).2 rfl
  have := delL_len x F
  omega
theorem alikeN_more {f : Int × Int → Option Int} : ∀ (n k : Nat) (s : SSt), s.F.length ≤ n → alikeN f (n + k) s = alikeN f n s
  | 0, k, s, h => by
    cases k with
    | zero => rfl
    | succ k =>
      rw [Nat.zero_add, alikeN, alikeN, if_neg]
      intro h50
      have := (best_in h50).1
      have h0 : s.F = [] := List.length_eq_zero_iff.1 (by omega)
      rw [h0] at this
      cases this
  | n + 1, k, s, h => by
    rw [show n + 1 + k = (n + k) + 1 by omega, alikeN, alikeN]
    split
    · rename_i h50
      refine alikeN_more n k _ ?_
      have := delL_lt (best_in h50).1
      show (delL _ s.F).length ≤ n
      omega
    · rfl
def alikeE (f : Int × Int → Option Int) (s : SSt) : SSt := alikeN f s.F.length s
theorem alikeE_stop {f : Int × Int → Option Int} {s : SSt} (h : ¬ 50 ≤ (bestOf f s.F s.T).2) : alikeE f s = s := by
  unfold alikeE
  cases s.F.length with
  | zero => rfl
  | succ n => rw [alikeN, if_neg h]
theorem alikeE_step {f : Int × Int → Option Int} {s : SSt} (h : 50 ≤ (bestOf f s.F s.T).2) : alikeE f s = alikeE f (s.take (bestOf f s.F s.T).1.1 (bestOf f s.F s.T).1.2) := by
  have hl := delL_lt (best_in h).1
  unfold alikeE
  obtain ⟨n, hn⟩ : ∃ n, s.F.length = n + 1 := ⟨s.F.length - 1, by omega⟩
  rw [hn, alikeN, if_pos h]
  have e : (s.take (bestOf f s.F s.T).1.1 (bestOf f s.F s.T).1.2).F.length ≤ n := by show (delL _ s.F).length ≤ n; omega
  have := alikeN_more (f := f) _ (n - (s.take (bestOf f s.F s.T).1.1 (bestOf f s.F s.T).1.2).F.length) _ (Nat.le_refl (s.take (bestOf f s.F s.T).1.1 (bestOf f s.F s.T).1.2).F.length)
  rw [show (s.take (bestOf f s.F s.T).1.1 (bestOf f s.F s.T).1.2).F.length + (n - (s.take (bestOf f s.F s.T).1.1 (bestOf f s.F s.T).1.2).F.length) = n by omega] at this
  exact this
end Go.Proofs.YtakgddochbcjbaaDoor
