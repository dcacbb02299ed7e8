/- What two lists have in common: package diff's answer. -/
import Derived.Test.YtmfgbkbbmeedjaaDoorGrid
namespace Go.Proofs.YtmfgbkbbmeedjaaDoor
open Go.RowKit Go.Deep Go.MapKept

theorem Reads.takeS {w : World} {B n k : Nat} {A : Option Addr} {xs : List ByteArray} (h : Reads w B 1 A n (strs xs)) (hk : k ≤ n) : Reads w B 1 A k (strs (xs.take k)) := by
  have hl := h.strLen
  refine ⟨by simp [strs]; omega, fun h0 => ?_⟩
  obtain ⟨ad, e, hb, hc⟩ := h.2 (by omega)
  refine ⟨ad, e, hb, fun j u hu => hc j u ?_⟩
  rw [strs, List.map_take, List.getElem?_take] at hu
  split at hu
  · exact hu
  · cases hu
theorem Reads.dropS {w : World} {B n k c : Nat} {A : Option Addr} {xs : List ByteArray} (h : Reads w B 1 A n (strs xs)) (hk : k ≤ n) (hc : n ≤ c) : Reads w B 1 (if c = k then A else A.map (·.add k)) (n - k) (strs (xs.drop k)) := by
  have := h.cut (k := k) (cap := c) hk hc
  rw [Nat.mul_one] at this
  rw [strs, List.map_drop]
  exact this

theorem lcs_strip {xs ys : List ByteArray} {k : Nat} (h : xs.take k = ys.take k) (hk : k ≤ xs.length) : lcs xs ys = k + lcs (xs.drop k) (ys.drop k) := by
  have h1 := lcs_front (xs.take k) (xs.drop k) (ys.drop k)
  rw [List.take_append_drop, h, List.take_append_drop, ← h, List.length_take] at h1
  rw [h1]; omega
theorem lcs_strip_end {xs ys : List ByteArray} {n m e : Nat} (hx : xs.length = n) (hn : e ≤ n) (h : xs.drop (n - e) = ys.drop (m - e)) : lcs xs ys = lcs (xs.take (n - e)) (ys.take (m - e)) + e := by
  have h1 := lcs_back (xs.take (n - e)) (ys.take (m - e)) (xs.drop (n - e))
  rw [List.take_append_drop, h, List.take_append_drop, ← h, List.length_drop] at h1
  rw [h1]; omega

theorem row_drewN {w : World} {b : Nat} {t : TypeId} {n : Nat} {f : Nat → Value} (h : w.rowIs b t n f) (d : Nat) : (w.drewN d).rowIs b t n f := h

end Go.Proofs.YtmfgbkbbmeedjaaDoor
