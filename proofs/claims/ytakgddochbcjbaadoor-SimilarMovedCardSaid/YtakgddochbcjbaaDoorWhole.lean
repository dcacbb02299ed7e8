/- Lines: Same, Whole of the program. -/
import Derived.Test.YtakgddochbcjbaaDoorLines
import Derived.Test.YtakgddochbcjbaaDoorEqualS
namespace Go.Proofs.YtakgddochbcjbaaDoor
open Go.RowKit Go.Deep Go.MapKept

theorem indexByte_no {c : UInt8} : ∀ {l : List UInt8}, c ∉ l → Lib.indexByte l c = -1
  | [], _ => rfl
  | b :: l, h => by
    simp only [List.mem_cons, not_or] at h
    have h1 : (b == c) = false := by
      rw [beq_eq_false_iff_ne]
      exact fun e => h.1 e.symm
    rw [Lib.indexByte, h1, indexByte_no h.2]
    rfl
theorem indexByte_at {c : UInt8} {v : List UInt8} : ∀ {u : List UInt8}, c ∉ u → Lib.indexByte (u ++ c :: v) c = u.length
  | [], _ => by simp [Lib.indexByte]
  | b :: u, h => by
    simp only [List.mem_cons, not_or] at h
    have h1 : (b == c) = false := by
      rw [beq_eq_false_iff_ne]
      exact fun e => h.1 e.symm
    have h2 : ((u.length : Int) == -1) = false := by
      rw [beq_eq_false_iff_ne]
      omega
    rw [List.cons_append, Lib.indexByte, h1, indexByte_at h.2]
    simp only [h2]
    simp
theorem good_all : ∀ (l : List (List UInt8)), good l = true ↔ ∀ i x, l[i]? = some x → okLine (decide (i + 1 < l.length)) x = true
  | [] => by simp [good]
  | [x] => by
    rw [good]
    constructor
    · intro h i y hy
      cases i with
      | zero => cases hy; exact h
      | succ i => simp at hy
    · intro h
      exact h 0 x rfl
  | x :: y :: l => by
    rw [good, Bool.and_eq_true, good_all (y :: l)]
    constructor
    · rintro ⟨h1, h2⟩ i z hz
      cases i with
      | zero => cases hz; simpa using h1
      | succ i =>
        have := h2 i z (by simpa using hz)
        rw [← this]
        congr 1
        simp
    · intro h
      refine ⟨by simpa using h 0 x rfl, fun i z hz => ?_⟩
      rw [← h (i + 1) z (by simpa using hz)]
      congr 1
      simp
/-- may element i stand? -/
def okAt (l : List ByteArray) (n i : Nat) : Bool := okLine (decide (i + 1 < n)) (gs l i).data.toList
theorem goodT_all {l : List ByteArray} {n : Nat} (hl : l.length = n) : goodT l = true ↔ ∀ i, i < n → okAt l n i = true := by
  have e : (bl l).length = n := by rw [bl, List.length_map, hl]
  have hg : ∀ i, i < n → (bl l)[i]? = some (gs l i).data.toList := by
    intro i hi
    rw [bl, List.getElem?_map, gs_some (by omega)]
    rfl
  rw [goodT, good_all, e]
  constructor
  · intro h i hi
    exact h i _ (hg i hi)
  · intro h i x hx
    have hi : i < n := by rw [← e]; exact (List.getElem?_eq_some_iff.1 hx).1
    rw [hg i hi] at hx
    cases hx
    exact h i hi
theorem okLine_no {x : List UInt8} (h : (10 : UInt8) ∉ x) (m : Bool) : okLine m x = (!x.isEmpty && !m) := by
  cases hx : x.isEmpty with
  | true => rw [okLine, hx]; rfl
  | false =>
    have h1 : x.dropLast.contains 10 = false := by
      rw [← Bool.not_eq_true, List.contains_iff_mem]
      exact fun hm => h ((List.dropLast_sublist x).subset hm)
    have h2 : (x.getLast? == some 10) = false := by
      rw [beq_eq_false_iff_ne]
      exact fun e => h (List.mem_of_getLast? e)
    rw [okLine, hx, h1, h2]
    cases m <;> rfl
theorem okLine_mid {u v : List UInt8} (hv : v ≠ []) (m : Bool) : okLine m (u ++ 10 :: v) = false := by
  have h1 : (u ++ 10 :: v).dropLast.contains 10 = true := by
    rw [List.contains_iff_mem]
    obtain ⟨v', b, rfl⟩ := split_end hv
    rw [show u ++ 10 :: (v' ++ [b]) = (u ++ 10 :: v') ++ [b] by simp, List.dropLast_concat]
    simp
  rw [okLine, h1]
  simp

end Go.Proofs.YtakgddochbcjbaaDoor
