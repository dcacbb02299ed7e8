/- A map from pairs of places to numbers, that a call makes. -/
import Derived.Test.YtakgddochbcjbaaDoorMaps
namespace Go.Proofs.YtakgddochbcjbaaDoor
open Go.RowKit Go.Deep Go.MapKept Go.Maps

theorem Tryd.rowPr : (103 : TypeId) < Tryd.prog.types.size := of_decide_eq_true (by kernel_rfl)
theorem Tryd.widePr : (match Tryd.prog.underlying 103 with | some (.array _ _) | some (.struct _) => true | _ => false) = true := by kernel_rfl
set_option maxRecDepth 100000 in
theorem keyedPr : Keyed Tryd.prog 103 := Keyed.of_law (deep_law_laid Tryd.laidOut (m := 3) (by omega) Tryd.rowPr (by kernel_rfl) Tryd.widePr)
theorem Tryd.keyTypePr : Tryd.prog.keyType 103 = true := by kernel_rfl
theorem Tryd.cellsPr : Tryd.prog.cellsOf 103 = 2 := by kernel_rfl
theorem keyOf_pair {a b : Int} (wa : (Lit.int .i64 a).wf = true) (wb : (Lit.int .i64 b).wf = true) : keyOf Tryd.prog 103 (.agg #[.int .i64 a, .int .i64 b]) = some (plKey (a, b)) := by
  obtain ⟨m, hm⟩ := Tryd.sizeTypes
  unfold keyOf
  simp only [Tryd.underlying103]
  rw [if_pos (by simp [Tryd.keyTypePr, Value.formed, Tryd.underlying103, Tryd.cellsPr]), hm]
  unfold Program.keyLits
  simp only [Tryd.underlying103, Value.cells]
  rw [if_pos (by rw [Tryd.cellsPr]; exact ⟨rfl, by simp⟩)]
  simp [Tryd.cellsInt, Program.keyLits, Tryd.underlying3, wa, wb, plKey]
/-- a map[pair]int -/
abbrev MapR (w : World) (b n : Nat) (f : Int × Int → Option Int) : Prop := MapFn 103 plKey (fun p => ok64 p.1 ∧ ok64 p.2) w b n f
theorem MapR.put {w : World} {b n : Nat} {f : Int × Int → Option Int} (h : MapR w b n f) (hn : n < maxLen) (p : Int × Int) (hp : ok64 p.1 ∧ ok64 p.2) (v : Int) (hv : ok64 v) :
    ∃ w', (Instr.mapUpdate 97 (.map (some b)) (placeV p) (.int .i64 v)).run Tryd.prog w = .ok () w' ∧ MapR w' b (n + 1) (putF f p v) ∧ w.grownBy w' (some b) :=
  MapFn.put (mk := placeV) keyedPr (fun _ hi => keyOf_pair (WalkArith.wf_i64 hi.1) (WalkArith.wf_i64 hi.2)) placeV_inj Tryd.underlying97 h hn p hp v (WalkArith.wf_i64 hv)
theorem MapR.look {w : World} {b n : Nat} {f : Int × Int → Option Int} (h : MapR w b n f) (i j : Int) (hi : ok64 i) (hj : ok64 j) :
    (Instr.lookup 97 (.map (some b)) (.agg #[.int .i64 i, .int .i64 j]) false).run Tryd.prog w = .ok (.int .i64 ((f (i, j)).getD 0)) w := by
  obtain ⟨D, hown, h2⟩ := h
  obtain ⟨c, hrun, hat, _⟩ := hown.lookup_int keyedPr Tryd.underlying97 Tryd.underlying3 (Tryd.zeroInt w) (keyOf_pair (WalkArith.wf_i64 hi) (WalkArith.wf_i64 hj))
  have h6 := (h2 (i, j) ⟨hi, hj⟩).2
  rw [hat] at h6
  simp only [DataW.lit.injEq, Lit.int.injEq, true_and] at h6
  rw [hrun, h6]
section
variable {ops : Array Oper} {rest : List Oper} {o : Oper} {a : Act} {Q : Exit → Act → World → Prop}
theorem wpList_putR {w : World} (hg : o.guard = none) (m x v : Operand) (hop : o.op = Op.mapUpdate 97 m x v) (b n : Nat) (f : Int × Int → Option Int) (hm : a.eval m = .map (some b)) (h : MapR w b n f) (hn : n < maxLen)
    (i j y : Int) (hx : a.eval x = .agg #[.int .i64 i, .int .i64 j]) (hv : a.eval v = .int .i64 y) (hi : ok64 i) (hj : ok64 j) (hy : ok64 y)
    (hK : ∀ w', MapR w' b (n + 1) (putF f (i, j) y) → w.grownBy w' (some b) → wpList Tryd.prog ops Q rest (a.put o.dst undef) w') : wpList Tryd.prog ops Q (o :: rest) a w := by
  refine wpList_plain hg fun K' hK' => ?_
  obtain ⟨w', hrun, r1, r2⟩ := MapR.put h hn (i, j) ⟨hi, hj⟩ y hy
  simp only [placeV] at hrun
  unfold Oper.wp
  simp [execOp, hop, hm, hx, hv, hrun, Result.andThen]
  exact hK' _ _ (hK w' r1 r2)
theorem wpList_lookR {w : World} (hg : o.guard = none) (m x : Operand) (hop : o.op = Op.lookup 97 m x false) (b n : Nat) (f : Int × Int → Option Int) (hm : a.eval m = .map (some b)) (h : MapR w b n f)
    (i j : Int) (hx : a.eval x = .agg #[.int .i64 i, .int .i64 j]) (hi : ok64 i) (hj : ok64 j) (c : Int) (hc : (f (i, j)).getD 0 = c)
    (hK : wpList Tryd.prog ops Q rest (a.put o.dst (.int .i64 c)) w) : wpList Tryd.prog ops Q (o :: rest) a w := by
  refine wpList_plain hg fun K' hK' => ?_
  have hrun := MapR.look h i j hi hj
  rw [hc] at hrun
  unfold Oper.wp
  simp [execOp, hop, hm, hx, hrun, Result.andThen]
  exact hK' _ _ hK
end
end Go.Proofs.YtakgddochbcjbaaDoor
