/- A slice of markers that came in: read whole. -/
import Derived.Test.YtdhdlkbldngmoaaMarkers
import Derived.Test.YtdhdlkbldngmoaaShut
import Derived.Deep.Slices
import Derived.Deep.Fields
namespace Go.Proofs.Ytdhdlkbldngmoaa
open Go.RowKit Go.WideShapes Go.ChangeShapes Go.ChangeAt Go.Deep

section
variable {H : Type} {enc : TypeId × Value → H} {P : Program}
/-- a slice of ints by its cell -/
theorem reads_ints {t e : TypeId} {v : Value} {x : DataW H × List MemPlace} {W : World} {fuel : Nat} (ht : P.underlying t = some (.slice e)) (he : P.underlying e = some (.int .i64)) (hc : P.cellsOf e = 1)
    (hf : DataW.trod enc P W 0 (fun _ => true) true fuel t [v] = some x) : ∃ A n c xs, v = .slice A n c ∧ Reads W W.heap.size 1 A n (ints xs) ∧ n ≤ maxLen := by
  rcases open_ints ht he hc hf with ⟨hcs, _⟩ | ⟨a', len, cap, zs, hcs, _, hlc, hm, hz, _, hcell, _⟩
  · have e1 : v = .slice none 0 0 := by simpa using hcs
    subst e1
    exact ⟨none, 0, 0, [], rfl, Reads.none_, Nat.zero_le _⟩
  · have e1 : v = .slice (some a') len cap := by simpa using hcs
    subst e1
    rw [if_pos rfl] at hz
    refine ⟨_, _, _, zs.take len, rfl, ⟨by simp [ints]; omega, fun h0 => ⟨a', rfl, ?_, fun j u hu => ?_⟩⟩, Nat.le_trans hlc hm⟩
    · exact World.block_lt_of_cell? W _ (hcell 0 (by omega))
    · have hj : j < (zs.take len).length := by
        have := (List.getElem?_eq_some_iff.1 hu).1
        rwa [ints_len] at this
      rw [ints_get hj] at hu
      cases hu
      rw [List.length_take] at hj
      rw [hcell j (by omega)]
      congr 2
      simp [gi, show j < len by omega]

theorem open_marks {r : Reach} {b0 : Nat} {t e ti ei : TypeId} {f0 f1 : Field} {v : Value} {d : DataW H} {ps : List MemPlace} {W : World} (ht : P.underlying t = some (.slice e)) (he : P.underlying e = some (.struct #[f0, f1]))
    (hC : P.cellsOf e = 2) (hk0 : f0.offset = 0 ∧ P.cellsOf f0.type = 1 ∧ P.underlying f0.type = some (.int .i64)) (hk1 : f1.offset = 1 ∧ P.cellsOf f1.type = 1 ∧ f1.type = ti) (hti : P.underlying ti = some (.slice ei)) (hei : P.underlying ei = some (.int .i64)) (hci : P.cellsOf ei = 1)
    (hval : Value.okWide P W r b0 t v) (h : DataW.Trod enc P W 0 (fun _ => true) true t v d ps) :
    ∃ A n c olds news, v = .slice A n c ∧ MarksN W W.heap.size A n olds news ∧ n ≤ maxLen := by
  obtain ⟨a, n, c, rfl⟩ := okWide_slice ht hval
  obtain ⟨fuel, hf⟩ := h
  rcases open_slice ht hf with ⟨hcs, _⟩ | ⟨a', len, cap, m, nn, D, Pl, hcs, _, hlc, hm, hmm, _, hi⟩
  · have e1 : Value.slice a n c = .slice none 0 0 := by simpa [Value.cells] using hcs
    cases e1
    exact ⟨none, 0, 0, [], fun _ => [], rfl, ⟨rfl, fun h => absurd h (by omega)⟩, Nat.zero_le _⟩
  · have e1 : Value.slice a n c = .slice (some a') len cap := by simpa [Value.cells] using hcs
    cases e1
    have hel : ∀ k, k < n → ∃ (o : Int) (ys : List Int), W.cell? (a'.add (k * 2)) = some (.int .i64 o) ∧ ∃ A' m c, W.cell? ⟨(a'.add (k * 2)).block, (a'.add (k * 2)).off + 1, none⟩ = some (.slice A' m c) ∧ Reads W W.heap.size 1 A' m (ints ys) := by
      intro k hk
      obtain ⟨cs', hc', ht'⟩ := hi k (by rw [hmm, if_pos rfl]; omega)
      rw [hC] at hc'
      obtain ⟨_, hcl, hat⟩ := World.cells?_some hc'
      obtain ⟨ys, n', _, _, hlen, hyl, hfl⟩ := DataW.trod_struct he ht'
      have g0 := hfl 0 f0 rfl
      have g1 := hfl 1 f1 rfl
      rw [hk0.1, hk0.2.1] at g0
      rw [hk1.1, hk1.2.1, hk1.2.2] at g1
      obtain ⟨u0, u1, rfl⟩ : ∃ u0 u1, cs' = [u0, u1] := by
        match cs', hcl with
        | [u0, u1], _ => exact ⟨u0, u1, rfl⟩
      match ys, hyl with
      | [y0, y1], _ =>
        obtain ⟨z, hz, _, _⟩ := DataW.trod_int hk0.2.2 g0
        have hz0 : u0 = .int .i64 z := by simpa using hz
        obtain ⟨A', m', c', zs, hv, hr, _⟩ := reads_ints hti hei hci (v := u1) g1
        subst hz0
        subst hv
        have h0 := hat 0 (by omega)
        have h1 := hat 1 (by omega)
        refine ⟨z, zs, ?_, A', m', c', ?_, hr⟩
        · exact h0
        · simpa [Addr.add] using h1
    have hpick : ∀ k, ∃ p : Int × List Int, k < n → W.cell? (a'.add (k * 2)) = some (.int .i64 p.1) ∧ ∃ A' m c, W.cell? ⟨(a'.add (k * 2)).block, (a'.add (k * 2)).off + 1, none⟩ = some (.slice A' m c) ∧ Reads W W.heap.size 1 A' m (ints p.2) := by
      intro k
      by_cases hk : k < n
      · obtain ⟨o, ys, h0, h1⟩ := hel k hk
        exact ⟨(o, ys), fun _ => ⟨h0, h1⟩⟩
      · exact ⟨(0, []), fun h => absurd h hk⟩
    let F : Nat → Int × List Int := fun k => Classical.choose (hpick k)
    have hF : ∀ k, k < n → W.cell? (a'.add (k * 2)) = some (.int .i64 (F k).1) ∧ ∃ A' m c, W.cell? ⟨(a'.add (k * 2)).block, (a'.add (k * 2)).off + 1, none⟩ = some (.slice A' m c) ∧ Reads W W.heap.size 1 A' m (ints (F k).2) := fun k => Classical.choose_spec (hpick k)
    refine ⟨_, _, _, (List.range n).map fun k => (F k).1, fun k => (F k).2, rfl, ⟨by simp, fun h0 => ⟨a', rfl, by have := World.block_lt_of_cell? W _ (hF 0 h0).1; rwa [block_of_add] at this, fun k hk => ?_⟩⟩, Nat.le_trans hlc hm⟩
    have hg : gi ((List.range n).map fun k => (F k).1) k = (F k).1 := by simp [gi, hk]
    rw [hg]
    exact hF k hk
end

end Go.Proofs.Ytdhdlkbldngmoaa
