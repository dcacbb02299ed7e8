/- Slices of files that came in: read whole. -/
import Derived.Test.YtakgddochbcjbaaDoorFiles
import Derived.Test.YtakgddochbcjbaaDoorOpenStr
namespace Go.Proofs.YtakgddochbcjbaaDoor
open Go.RowKit Go.WideShapes Go.ChangeShapes Go.ChangeAt Go.Deep

section
variable {H : Type} {enc : TypeId × Value → H} {P : Program}
theorem open_files {r : Reach} {b0 : Nat} {t e : TypeId} {f0 f1 f2 : Field} {v : Value} {d : DataW H} {ps : List MemPlace} {W : World} (ht : P.underlying t = some (.slice e)) (he : P.underlying e = some (.struct #[f0, f1, f2]))
    (hC : P.cellsOf e = 3) (hk0 : f0.offset = 0 ∧ P.cellsOf f0.type = 1 ∧ P.underlying f0.type = some .string) (hk1 : f1.offset = 1 ∧ P.cellsOf f1.type = 1 ∧ P.underlying f1.type = some .bool) (hk2 : f2.offset = 2 ∧ P.cellsOf f2.type = 1 ∧ P.underlying f2.type = some .string)
    (hval : Value.okWide P W r b0 t v) (h : DataW.Trod enc P W 0 (fun _ => true) true t v d ps) :
    ∃ A n c l, v = .slice A n c ∧ Reads W W.heap.size 3 A n (fileCells l) ∧ n ≤ c ∧ c ≤ maxLen := by
  obtain ⟨a, n, c, rfl⟩ := okWide_slice ht hval
  obtain ⟨fuel, hf⟩ := h
  rcases open_slice ht hf with ⟨hcs, _⟩ | ⟨a', len, cap, m, nn, D, Pl, hcs, _, hlc, hm, hmm, _, hi⟩
  · have e1 : Value.slice a n c = .slice none 0 0 := by simpa [Value.cells] using hcs
    cases e1
    exact ⟨none, 0, 0, [], rfl, Reads.none_, Nat.zero_le _, Nat.zero_le _⟩
  · have e1 : Value.slice a n c = .slice (some a') len cap := by simpa [Value.cells] using hcs
    cases e1
    have hel : ∀ k, k < n → ∃ p : FileB, W.cell? (a'.add (k * 3)) = some (.string p.1) ∧ W.cell? (a'.add (k * 3 + 1)) = some (.bool p.2.1) ∧ W.cell? (a'.add (k * 3 + 2)) = some (.string p.2.2) := by
      intro k hk
      obtain ⟨cs', hc', ht'⟩ := hi k (by rw [hmm, if_pos rfl]; omega)
      rw [hC] at hc'
      obtain ⟨_, hcl, hat⟩ := World.cells?_some hc'
      obtain ⟨ys, n', _, _, hlen, hyl, hfl⟩ := DataW.trod_struct he ht'
      have g0 := hfl 0 f0 rfl
      have g1 := hfl 1 f1 rfl
      have g2 := hfl 2 f2 rfl
      rw [hk0.1, hk0.2.1] at g0
      rw [hk1.1, hk1.2.1] at g1
      rw [hk2.1, hk2.2.1] at g2
      obtain ⟨u0, u1, u2, rfl⟩ : ∃ u0 u1 u2, cs' = [u0, u1, u2] := by
        match cs', hcl with
        | [u0, u1, u2], _ => exact ⟨u0, u1, u2, rfl⟩
      match ys, hyl with
      | [y0, y1, y2], _ =>
        obtain ⟨z, hz, _, _⟩ := DataW.trod_string hk0.2.2 g0
        have hz0 : u0 = .string z := by simpa using hz
        obtain ⟨b, hb, _⟩ := DataW.trod_bool hk1.2.2 g1
        have hb0 : u1 = .bool b := by simpa using hb
        obtain ⟨s, hs, _, _⟩ := DataW.trod_string hk2.2.2 g2
        have hs0 : u2 = .string s := by simpa using hs
        subst hz0
        subst hb0
        subst hs0
        have h0 := hat 0 (by omega)
        have h1 := hat 1 (by omega)
        have h2 := hat 2 (by omega)
        refine ⟨(z, b, s), h0, ?_, ?_⟩
        · rw [← add_of_add]
          exact h1
        · rw [← add_of_add]
          exact h2
    have hpick : ∀ k, ∃ p : FileB, k < n → W.cell? (a'.add (k * 3)) = some (.string p.1) ∧ W.cell? (a'.add (k * 3 + 1)) = some (.bool p.2.1) ∧ W.cell? (a'.add (k * 3 + 2)) = some (.string p.2.2) := by
      intro k
      by_cases hk : k < n
      · obtain ⟨p, h0⟩ := hel k hk
        exact ⟨p, fun _ => h0⟩
      · exact ⟨(ByteArray.empty, false, ByteArray.empty), fun h => absurd h hk⟩
    obtain ⟨F, hF⟩ : ∃ F : Nat → FileB, ∀ k, k < n → W.cell? (a'.add (k * 3)) = some (.string (F k).1) ∧ W.cell? (a'.add (k * 3 + 1)) = some (.bool (F k).2.1) ∧ W.cell? (a'.add (k * 3 + 2)) = some (.string (F k).2.2) := ⟨fun k => Classical.choose (hpick k), fun k => Classical.choose_spec (hpick k)⟩
    refine ⟨_, _, _, (List.range n).map F, rfl, ⟨by rw [fileCells_len]; simp, fun h0 => ⟨a', rfl, by have := World.block_lt_of_cell? W _ (hF 0 h0).1; rwa [block_of_add] at this, fun j u hu => ?_⟩⟩, hlc, hm⟩
    have hj : j < ((List.range n).map F).length * 3 := by
      have := (List.getElem?_eq_some_iff.1 hu).1
      rwa [fileCells_len] at this
    rw [List.length_map, List.length_range] at hj
    have hk : j / 3 < n := by omega
    have hg := fileCells_get (l := (List.range n).map F) (k := j / 3) (by simpa using hk)
    have eg : gf ((List.range n).map F) (j / 3) = F (j / 3) := by simp [gf, hk]
    rw [fp, fx, ft, eg] at hg
    have h3 : j % 3 = 0 ∨ j % 3 = 1 ∨ j % 3 = 2 := by omega
    rcases h3 with h2 | h2 | h2
    · have e : j = j / 3 * 3 := by omega
      rw [e] at hu ⊢
      rw [hg.1] at hu
      cases hu
      exact (hF (j / 3) hk).1
    · have e : j = j / 3 * 3 + 1 := by omega
      rw [e] at hu ⊢
      rw [hg.2.1] at hu
      cases hu
      exact (hF (j / 3) hk).2.1
    · have e : j = j / 3 * 3 + 2 := by omega
      rw [e] at hu ⊢
      rw [hg.2.2] at hu
      cases hu
      exact (hF (j / 3) hk).2.2
end

end Go.Proofs.YtakgddochbcjbaaDoor
