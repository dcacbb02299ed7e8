/- Rows of chunks of the call's own: what their cells hold. -/
import Derived.Test.YtakgddochbcjbaaDoorChunks
import Derived.Test.YtakgddochbcjbaaDoorOwnS
namespace Go.Proofs.YtakgddochbcjbaaDoor
open Go.RowKit Go.Deep Go.MapKept

/-- the cells of a row of chunks -/
def Parts (w : World) : List ChkB → List Value → Prop
  | [], xs => xs = []
  | ch :: l, xs => ∃ v1 v2 v3 r, xs = .int .i64 ch.1 :: v1 :: v2 :: v3 :: r ∧ OwnS w v1 ch.2.1 ∧ OwnS w v2 ch.2.2.1 ∧ OwnS w v3 ch.2.2.2 ∧ Parts w l r
theorem Parts.mono {w w' : World} (hk : ∀ v ys, OwnS w v ys → OwnS w' v ys) : ∀ {l : List ChkB} {xs : List Value}, Parts w l xs → Parts w' l xs
  | [], _, h => h
  | _ :: _, _, ⟨v1, v2, v3, r, e, h1, h2, h3, h4⟩ => ⟨v1, v2, v3, r, e, hk _ _ h1, hk _ _ h2, hk _ _ h3, Parts.mono hk h4⟩
theorem Parts.app {w : World} : ∀ {l m : List ChkB} {xs ys : List Value}, Parts w l xs → Parts w m ys → Parts w (l ++ m) (xs ++ ys)
  | [], _, xs, ys, h, h' => by
    have : xs = [] := h
    subst this
    exact h'
  | _ :: _, _, _, _, ⟨v1, v2, v3, r, e, h1, h2, h3, h4⟩, h' => ⟨v1, v2, v3, _, by rw [e]; rfl, h1, h2, h3, Parts.app h4 h'⟩
theorem Parts.one {w : World} {k : Int} {v1 v2 v3 : Value} {x1 x2 x3 : List ByteArray} (h1 : OwnS w v1 x1) (h2 : OwnS w v2 x2) (h3 : OwnS w v3 x3) : Parts w [(k, x1, x2, x3)] [.int .i64 k, v1, v2, v3] :=
  ⟨v1, v2, v3, [], rfl, h1, h2, h3, rfl⟩
theorem Parts.get {w : World} : ∀ {l : List ChkB} {xs : List Value} {k : Nat}, Parts w l xs → k < l.length → ∃ v1 v2 v3, xs[k * 4]? = some (.int .i64 (gch l k).1) ∧ xs[k * 4 + 1]? = some v1 ∧ xs[k * 4 + 2]? = some v2 ∧ xs[k * 4 + 3]? = some v3 ∧
    OwnS w v1 (gch l k).2.1 ∧ OwnS w v2 (gch l k).2.2.1 ∧ OwnS w v3 (gch l k).2.2.2
  | [], _, _, _, hk => absurd hk (by simp)
  | ch :: l, xs, k, ⟨v1, v2, v3, r, e, h1, h2, h3, h4⟩, hk => by
    subst e
    cases k with
    | zero => exact ⟨v1, v2, v3, rfl, rfl, rfl, rfl, h1, h2, h3⟩
    | succ k =>
      obtain ⟨u1, u2, u3, g0, g1, g2, g3, g4, g5, g6⟩ := Parts.get (k := k) h4 (by simpa using hk)
      refine ⟨u1, u2, u3, ?_, ?_, ?_, ?_, g4, g5, g6⟩
      · rw [show (k + 1) * 4 = k * 4 + 1 + 1 + 1 + 1 by omega]; exact g0
      · rw [show (k + 1) * 4 + 1 = k * 4 + 1 + 1 + 1 + 1 + 1 by omega]; exact g1
      · rw [show (k + 1) * 4 + 2 = k * 4 + 2 + 1 + 1 + 1 + 1 by omega]; exact g2
      · rw [show (k + 1) * 4 + 3 = k * 4 + 3 + 1 + 1 + 1 + 1 by omega]; exact g3
theorem OwnS.cellS {w : World} {p : Addr} {v : Value} {ys : List ByteArray} (h : OwnS w v ys) (hc : w.cell? p = some v) : CellS w w.heap.size p ys := by
  obtain ⟨A, c, rfl, h1, h2⟩ := h.form
  exact ⟨A, _, c, hc, h.reads, h1, h2⟩
theorem chunksN_of {w : World} {B n c : Nat} {A : Option Addr} {l : List ChkB} {xs : List Value} (h : w.ownsRow B 36 4 (.slice A n c) n xs) (hp : Parts w l xs) (hl : l.length = n) : ChunksN w w.heap.size A n l := by
  refine ⟨hl, fun hn => ?_⟩
  obtain ⟨g, cap, hv, _, hlt⟩ := h.form hn
  have hA : A = some ⟨g, 0, none⟩ := by injection hv
  subst hA
  refine ⟨_, rfl, hlt, fun k hk => ?_⟩
  obtain ⟨v1, v2, v3, g0, g1, g2, g3, g4, g5, g6⟩ := hp.get (k := k) (by omega)
  have hc := h.cells (g := g) rfl
  have ea : ∀ j, (⟨g, 0, none⟩ : Addr).add j = ⟨g, j, none⟩ := fun j => by unfold Addr.add; split <;> simp_all
  refine ⟨hc _ _ g0, ?_, ?_, ?_⟩
  · rw [ea]
    refine g4.cellS ?_
    have := hc _ _ g1
    rwa [ea] at this
  · rw [ea]
    refine g5.cellS ?_
    have := hc _ _ g2
    rwa [ea] at this
  · rw [ea]
    refine g6.cellS ?_
    have := hc _ _ g3
    rwa [ea] at this

end Go.Proofs.YtakgddochbcjbaaDoor
