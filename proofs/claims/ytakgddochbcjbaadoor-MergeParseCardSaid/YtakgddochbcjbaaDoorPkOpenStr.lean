/- Slices of strings that came in: read whole. -/
import Derived.Test.YtakgddochbcjbaaDoorPkStrs
import Derived.Test.YtakgddochbcjbaaDoorPkShut
import Derived.SliceStrings
import Derived.ChangeMaps5
import Derived.Deep.Slices
import Derived.Deep.Fields
namespace Go.Proofs.YtakgddochbcjbaaDoor
open Go.RowKit Go.WideShapes Go.ChangeShapes Go.ChangeAt Go.Deep

section
variable {H : Type} {enc : TypeId × Value → H} {P : Program}
theorem open_readsS {r : Reach} {b0 : Nat} {t e : TypeId} {v : Value} {d : DataW H} {ps : List MemPlace} {W : World} (ht : P.underlying t = some (.slice e)) (he : P.underlying e = some .string) (hc : P.cellsOf e = 1)
    (hval : Value.okWide P W r b0 t v) (h : DataW.Trod enc P W 0 (fun _ => true) true t v d ps) :
    ∃ A n c xs, v = .slice A n c ∧ Reads W W.heap.size 1 A n (Proofs.YtakgddochbcjbaaDoor.strs xs) ∧ n ≤ c ∧ c ≤ maxLen := by
  obtain ⟨a, n, c, rfl⟩ := okWide_slice ht hval
  obtain ⟨fuel, hf⟩ := h
  rcases open_strings ht he hc hf with ⟨hcs, _⟩ | ⟨a', len, cap, zs, hcs, _, hlc, hm, hz, _, hcell, _⟩
  · have e1 : Value.slice a n c = .slice none 0 0 := by simpa [Value.cells] using hcs
    cases e1
    exact ⟨none, 0, 0, [], rfl, Reads.none_, Nat.zero_le _, Nat.zero_le _⟩
  · have e1 : Value.slice a n c = .slice (some a') len cap := by simpa [Value.cells] using hcs
    cases e1
    rw [if_pos rfl] at hz
    refine ⟨_, _, _, zs.take n, rfl, ⟨by simp [Proofs.YtakgddochbcjbaaDoor.strs]; omega, fun h0 => ⟨a', rfl, ?_, fun j u hu => ?_⟩⟩, hlc, hm⟩
    · have h1 := hcell 0 (by omega)
      exact World.block_lt_of_cell? W _ h1
    · have hj : j < (zs.take n).length := by
        have := (List.getElem?_eq_some_iff.1 hu).1
        rwa [strs_len] at this
      rw [strs_get hj] at hu
      cases hu
      rw [List.length_take] at hj
      rw [hcell j (by omega)]
      congr 2
      simp [gs, show j < n by omega]

end

end Go.Proofs.YtakgddochbcjbaaDoor
