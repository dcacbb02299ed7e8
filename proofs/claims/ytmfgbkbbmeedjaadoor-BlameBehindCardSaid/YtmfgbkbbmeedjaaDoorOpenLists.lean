/- Slices of slices of strings that came in: read whole. -/
import Derived.Test.YtmfgbkbbmeedjaaDoorBlame2
import Derived.Test.YtmfgbkbbmeedjaaDoorOpenStr
namespace Go.Proofs.YtmfgbkbbmeedjaaDoor
open Go.RowKit Go.WideShapes Go.ChangeShapes Go.ChangeAt Go.Deep

section
variable {H : Type} {enc : TypeId × Value → H} {P : Program}
/-- a slice of strings by its cell -/
theorem cell_list {t e : TypeId} {v : Value} {x : DataW H × List MemPlace} {W : World} {fuel : Nat} (ht : P.underlying t = some (.slice e)) (he : P.underlying e = some .string) (hc : P.cellsOf e = 1)
    (hf : DataW.trod enc P W 0 (fun _ => true) true fuel t [v] = some x) : ∃ A n c xs, v = .slice A n c ∧ Reads W W.heap.size 1 A n (Proofs.YtmfgbkbbmeedjaaDoor.strs xs) ∧ n ≤ c ∧ c ≤ maxLen := by
  rcases open_strings ht he hc hf with ⟨hcs, _⟩ | ⟨a', len, cap, zs, hcs, _, hlc, hm, hz, _, hcell, _⟩
  · have e1 : v = .slice none 0 0 := by simpa using hcs
    subst e1
    exact ⟨none, 0, 0, [], rfl, Reads.none_, Nat.zero_le _, Nat.zero_le _⟩
  · have e1 : v = .slice (some a') len cap := by simpa using hcs
    subst e1
    rw [if_pos rfl] at hz
    refine ⟨_, _, _, zs.take len, rfl, ⟨by simp [Proofs.YtmfgbkbbmeedjaaDoor.strs]; omega, fun h0 => ⟨a', rfl, ?_, fun j u hu => ?_⟩⟩, hlc, hm⟩
    · exact World.block_lt_of_cell? W _ (hcell 0 (by omega))
    · have hj : j < (zs.take len).length := by
        have := (List.getElem?_eq_some_iff.1 hu).1
        rwa [strs_len] at this
      rw [strs_get hj] at hu
      cases hu
      rw [List.length_take] at hj
      rw [hcell j (by omega)]
      congr 2
      simp [gs, show j < len by omega]

theorem open_lists {r : Reach} {b0 : Nat} {t e es : TypeId} {v : Value} {d : DataW H} {ps : List MemPlace} {W : World} (ht : P.underlying t = some (.slice e)) (he : P.underlying e = some (.slice es)) (hes : P.underlying es = some .string) (hce : P.cellsOf e = 1) (hcs1 : P.cellsOf es = 1)
    (hval : Value.okWide P W r b0 t v) (h : DataW.Trod enc P W 0 (fun _ => true) true t v d ps) :
    ∃ A n c l, v = .slice A n c ∧ Vers W W.heap.size A n l ∧ n ≤ c ∧ c ≤ maxLen := by
  obtain ⟨a, n, c, rfl⟩ := okWide_slice ht hval
  obtain ⟨fuel, hf⟩ := h
  rcases open_slice ht hf with ⟨hcs, _⟩ | ⟨a', len, cap, m, nn, D, Pl, hcs, _, hlc, hm, hmm, hx, hi⟩
  · have e1 : Value.slice a n c = .slice none 0 0 := by simpa [Value.cells] using hcs
    cases e1
    exact ⟨none, 0, 0, [], rfl, ⟨rfl, [], Reads.none_, fun i hi => absurd hi (Nat.not_lt_zero i)⟩, Nat.zero_le _, Nat.zero_le _⟩
  · have e1 : Value.slice a n c = .slice (some a') len cap := by simpa [Value.cells] using hcs
    cases e1
    have hpick : ∀ k, ∃ q : Option Addr × Nat × Nat × List ByteArray, k < n → W.cell? (a'.add k) = some (.slice q.1 q.2.1 q.2.2.1) ∧ Reads W W.heap.size 1 q.1 q.2.1 (Proofs.YtmfgbkbbmeedjaaDoor.strs q.2.2.2) ∧ q.2.1 ≤ q.2.2.1 ∧ q.2.2.1 ≤ maxLen := by
      intro k
      by_cases hk : k < n
      · obtain ⟨cs', hc', ht'⟩ := hi k (by rw [hmm, if_pos rfl]; omega)
        rw [hce] at hc'
        obtain ⟨_, hcl, hat⟩ := World.cells?_some hc'
        obtain ⟨u, rfl⟩ : ∃ u, cs' = [u] := by
          match cs', hcl with
          | [u], _ => exact ⟨u, rfl⟩
        obtain ⟨A1, m1, c1, x1, rfl, hr1, h2, h3⟩ := cell_list he hes hcs1 ht'
        refine ⟨(A1, m1, c1, x1), fun _ => ⟨?_, hr1, h2, h3⟩⟩
        have h0 := hat 0 (by omega)
        simpa [Addr.add] using h0
      · exact ⟨(none, 0, 0, []), fun h => absurd h hk⟩
    obtain ⟨F, hF⟩ : ∃ F : Nat → Option Addr × Nat × Nat × List ByteArray, ∀ k, k < n → W.cell? (a'.add k) = some (.slice (F k).1 (F k).2.1 (F k).2.2.1) ∧ Reads W W.heap.size 1 (F k).1 (F k).2.1 (Proofs.YtmfgbkbbmeedjaaDoor.strs (F k).2.2.2) ∧ (F k).2.1 ≤ (F k).2.2.1 ∧ (F k).2.2.1 ≤ maxLen := ⟨fun k => Classical.choose (hpick k), fun k => Classical.choose_spec (hpick k)⟩
    refine ⟨_, _, _, (List.range n).map (fun k => (F k).2.2.2), rfl, ⟨by simp, (List.range n).map (fun k => .slice (F k).1 (F k).2.1 (F k).2.2.1), ⟨by simp, fun h0 => ⟨a', rfl, ?_, fun j u hu => ?_⟩⟩, fun i hi => ?_⟩, hlc, hm⟩
    · have h1 := World.block_lt_of_cell? W _ (hF 0 h0).1
      rwa [block_of_add] at h1
    · have hj : j < n := by
        have := (List.getElem?_eq_some_iff.1 hu).1
        simpa using this
      rw [List.getElem?_map, List.getElem?_range hj] at hu
      cases hu
      exact (hF j hj).1
    · have hg : gv ((List.range n).map (fun k => (F k).2.2.2)) i = (F i).2.2.2 := by simp [gv, hi]
      refine ⟨(F i).1, (F i).2.1, (F i).2.2.1, by rw [List.getElem?_map, List.getElem?_range hi]; rfl, ?_, (hF i hi).2.2.1, (hF i hi).2.2.2⟩
      rw [hg]
      exact (hF i hi).2.1
end
end Go.Proofs.YtmfgbkbbmeedjaaDoor
