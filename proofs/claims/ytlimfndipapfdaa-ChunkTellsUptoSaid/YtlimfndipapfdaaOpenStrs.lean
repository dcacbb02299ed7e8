/- Slices of strings and of edits that came in: read whole. -/
import Derived.Test.YtlimfndipapfdaaEdits
import Derived.Test.YtlimfndipapfdaaShut
import Derived.SliceStrings
import Derived.ChangeMaps5
import Derived.Deep.Slices
import Derived.Deep.Fields
namespace Go.Proofs.Ytlimfndipapfdaa
open Go.RowKit Go.WideShapes Go.ChangeShapes Go.ChangeAt Go.Deep

section
variable {H : Type} {enc : TypeId × Value → H} {P : Program}
theorem open_readsS {r : Reach} {b0 : Nat} {t e : TypeId} {v : Value} {d : DataW H} {ps : List MemPlace} {W : World} (ht : P.underlying t = some (.slice e)) (he : P.underlying e = some .string) (hc : P.cellsOf e = 1)
    (hval : Value.okWide P W r b0 t v) (h : DataW.Trod enc P W 0 (fun _ => true) true t v d ps) :
    ∃ A n c xs, v = .slice A n c ∧ Reads W W.heap.size 1 A n (Proofs.Ytlimfndipapfdaa.strs xs) ∧ n ≤ c ∧ c ≤ maxLen := by
  obtain ⟨a, n, c, rfl⟩ := okWide_slice ht hval
  obtain ⟨fuel, hf⟩ := h
  rcases open_strings ht he hc hf with ⟨hcs, _⟩ | ⟨a', len, cap, zs, hcs, _, hlc, hm, hz, _, hcell, _⟩
  · have e1 : Value.slice a n c = .slice none 0 0 := by simpa [Value.cells] using hcs
    cases e1
    exact ⟨none, 0, 0, [], rfl, Reads.none_, Nat.zero_le _, Nat.zero_le _⟩
  · have e1 : Value.slice a n c = .slice (some a') len cap := by simpa [Value.cells] using hcs
    cases e1
    rw [if_pos rfl] at hz
    refine ⟨_, _, _, zs.take n, rfl, ⟨by simp [Proofs.Ytlimfndipapfdaa.strs]; omega, fun h0 => ⟨a', rfl, ?_, fun j u hu => ?_⟩⟩, hlc, hm⟩
    · have h1 := hcell 0 (by omega)
      exact World.block_lt_of_cell? W _ h1
    · have hj : j < (zs.take n).length := by
        have := (List.getElem?_eq_some_iff.1 hu).1
        rwa [strs_len] at this
      rw [strs_get hj] at hu
      cases hu
      rw [List.length_take] at hj
      rw [hcell j (by omega)]
      congr 2
      simp [gs, show j < n by omega]

theorem open_edits {r : Reach} {b0 : Nat} {t e : TypeId} {f0 f1 : Field} {v : Value} {d : DataW H} {ps : List MemPlace} {W : World} (ht : P.underlying t = some (.slice e)) (he : P.underlying e = some (.struct #[f0, f1]))
    (hC : P.cellsOf e = 2) (hk0 : f0.offset = 0 ∧ P.cellsOf f0.type = 1 ∧ P.underlying f0.type = some (.int .i64)) (hk1 : f1.offset = 1 ∧ P.cellsOf f1.type = 1 ∧ P.underlying f1.type = some .string)
    (hval : Value.okWide P W r b0 t v) (h : DataW.Trod enc P W 0 (fun _ => true) true t v d ps) :
    ∃ A n c l, v = .slice A n c ∧ Reads W W.heap.size 2 A n (edCells l) ∧ n ≤ c ∧ c ≤ maxLen := by
  obtain ⟨a, n, c, rfl⟩ := okWide_slice ht hval
  obtain ⟨fuel, hf⟩ := h
  rcases open_slice ht hf with ⟨hcs, _⟩ | ⟨a', len, cap, m, nn, D, Pl, hcs, _, hlc, hm, hmm, _, hi⟩
  · have e1 : Value.slice a n c = .slice none 0 0 := by simpa [Value.cells] using hcs
    cases e1
    exact ⟨none, 0, 0, [], rfl, Reads.none_, Nat.zero_le _, Nat.zero_le _⟩
  · have e1 : Value.slice a n c = .slice (some a') len cap := by simpa [Value.cells] using hcs
    cases e1
    have hel : ∀ k, k < n → ∃ p : Int × ByteArray, W.cell? (a'.add (k * 2)) = some (.int .i64 p.1) ∧ W.cell? (a'.add (k * 2 + 1)) = some (.string p.2) := by
      intro k hk
      obtain ⟨cs', hc', ht'⟩ := hi k (by rw [hmm, if_pos rfl]; omega)
      rw [hC] at hc'
      obtain ⟨_, hcl, hat⟩ := World.cells?_some hc'
      obtain ⟨ys, n', _, _, hlen, hyl, hfl⟩ := DataW.trod_struct he ht'
      have g0 := hfl 0 f0 rfl
      have g1 := hfl 1 f1 rfl
      rw [hk0.1, hk0.2.1] at g0
      rw [hk1.1, hk1.2.1] at g1
      obtain ⟨u0, u1, rfl⟩ : ∃ u0 u1, cs' = [u0, u1] := by
        match cs', hcl with
        | [u0, u1], _ => exact ⟨u0, u1, rfl⟩
      match ys, hyl with
      | [y0, y1], _ =>
        obtain ⟨z, hz, _, _⟩ := DataW.trod_int hk0.2.2 g0
        have hz0 : u0 = .int .i64 z := by simpa using hz
        obtain ⟨s, hs, _, _⟩ := DataW.trod_string hk1.2.2 g1
        have hs0 : u1 = .string s := by simpa using hs
        subst hz0
        subst hs0
        have h0 := hat 0 (by omega)
        have h1 := hat 1 (by omega)
        refine ⟨(z, s), h0, ?_⟩
        rw [← add_of_add]
        exact h1
    have hpick : ∀ k, ∃ p : Int × ByteArray, k < n → W.cell? (a'.add (k * 2)) = some (.int .i64 p.1) ∧ W.cell? (a'.add (k * 2 + 1)) = some (.string p.2) := by
      intro k
      by_cases hk : k < n
      · obtain ⟨p, h0⟩ := hel k hk
        exact ⟨p, fun _ => h0⟩
      · exact ⟨(0, ByteArray.empty), fun h => absurd h hk⟩
    obtain ⟨F, hF⟩ : ∃ F : Nat → Int × ByteArray, ∀ k, k < n → W.cell? (a'.add (k * 2)) = some (.int .i64 (F k).1) ∧ W.cell? (a'.add (k * 2 + 1)) = some (.string (F k).2) := ⟨fun k => Classical.choose (hpick k), fun k => Classical.choose_spec (hpick k)⟩
    refine ⟨_, _, _, (List.range n).map F, rfl, ⟨by rw [edCells_len]; simp, fun h0 => ⟨a', rfl, by have := World.block_lt_of_cell? W _ (hF 0 h0).1; rwa [block_of_add] at this, fun j u hu => ?_⟩⟩, hlc, hm⟩
    have hj : j < ((List.range n).map F).length * 2 := by
      have := (List.getElem?_eq_some_iff.1 hu).1
      rwa [edCells_len] at this
    rw [List.length_map, List.length_range] at hj
    have hk : j / 2 < n := by omega
    have hg := edCells_get (l := (List.range n).map F) (k := j / 2) (by simpa using hk)
    have ek : gek ((List.range n).map F) (j / 2) = (F (j / 2)).1 := by simp [gek, hk]
    have el : gel ((List.range n).map F) (j / 2) = (F (j / 2)).2 := by simp [gel, hk]
    rw [ek, el] at hg
    rcases Nat.mod_two_eq_zero_or_one j with h2 | h2
    · have e : j = j / 2 * 2 := by omega
      rw [e] at hu ⊢
      rw [hg.1] at hu
      cases hu
      exact (hF (j / 2) hk).1
    · have e : j = j / 2 * 2 + 1 := by omega
      rw [e] at hu ⊢
      rw [hg.2] at hu
      cases hu
      exact (hF (j / 2) hk).2
end

end Go.Proofs.Ytlimfndipapfdaa
