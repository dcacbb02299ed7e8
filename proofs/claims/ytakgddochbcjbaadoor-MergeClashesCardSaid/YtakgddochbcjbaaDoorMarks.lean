/- The four marks, as the map that tells what each begins. -/
import Derived.StringKeys
import Derived.Test.YtakgddochbcjbaaDoorParseSpec
namespace Go.Proofs.YtakgddochbcjbaaDoor
open Go.RowKit Go.Deep Go.MapKept Go.Maps

theorem keyedStr : Keyed Tryd.prog 9 := string_keyed Tryd.underlying9
/-- a map[string]int -/
abbrev MapS (w : World) (b n : Nat) (f : ByteArray → Option Int) : Prop := MapFn 9 (fun s : ByteArray => .string s.data.toList) (fun s => s.size ≤ maxLen) w b n f
theorem MapS.put {w : World} {b n : Nat} {f : ByteArray → Option Int} (h : MapS w b n f) (hn : n < maxLen) (i : ByteArray) (hi : i.size ≤ maxLen) (v : Int) (hv : ok64 v) :
    ∃ w', (Instr.mapUpdate 80 (.map (some b)) (.string i) (.int .i64 v)).run Tryd.prog w = .ok () w' ∧ MapS w' b (n + 1) (putF f i v) ∧ w.grownBy w' (some b) :=
  MapFn.put (mk := fun i => .string i) keyedStr (fun _ hs => WideMaps.keyOf_string_mk Tryd.underlying9 hs) (fun i j e => by injection e) Tryd.underlying80 h hn i hi v (WalkArith.wf_i64 hv)
theorem MapS.look {w : World} {b n : Nat} {f : ByteArray → Option Int} (h : MapS w b n f) (i : ByteArray) (hi : i.size ≤ maxLen) :
    (Instr.lookup 80 (.map (some b)) (.string i) true).run Tryd.prog w = .ok (.tuple #[.int .i64 ((f i).getD 0), .bool (f i).isSome]) w :=
  MapFn.look (mk := fun i => .string i) keyedStr (fun _ hs => WideMaps.keyOf_string_mk Tryd.underlying9 hs) Tryd.underlying80 h i hi

section
variable {ops : Array Oper} {rest : List Oper} {o : Oper} {a : Act} {Q : Exit → Act → World → Prop}
theorem wpList_putS {w : World} (hg : o.guard = none) (m x v : Operand) (hop : o.op = Op.mapUpdate 80 m x v) (b n : Nat) (f : ByteArray → Option Int) (hm : a.eval m = .map (some b)) (h : MapS w b n f) (hn : n < maxLen)
    (i : ByteArray) (hi : i.size ≤ maxLen) (y : Int) (hx : a.eval x = .string i) (hv : a.eval v = .int .i64 y) (hy : ok64 y)
    (hK : ∀ w', MapS w' b (n + 1) (putF f i y) → w.grownBy w' (some b) → wpList Tryd.prog ops Q rest (a.put o.dst undef) w') : wpList Tryd.prog ops Q (o :: rest) a w := by
  refine wpList_plain hg fun K' hK' => ?_
  obtain ⟨w', hrun, r1, r2⟩ := MapS.put h hn i hi y hy
  unfold Oper.wp
  simp [execOp, hop, hm, hx, hv, hrun, Result.andThen]
  exact hK' _ _ (hK w' r1 r2)
theorem wpList_insS {w : World} (hg : o.guard = none) (m x v : Operand) (hop : o.op = Op.insert 80 m x v) (b n : Nat) (f : ByteArray → Option Int) (hm : a.eval m = .map (some b)) (h : MapS w b n f) (hn : n < maxLen)
    (i : ByteArray) (hi : i.size ≤ maxLen) (y : Int) (hx : a.eval x = .string i) (hv : a.eval v = .int .i64 y) (hy : ok64 y)
    (hK : ∀ w', MapS w' b (n + 1) (putF f i y) → w.grownBy w' (some b) → wpList Tryd.prog ops Q rest (a.put o.dst undef) w') : wpList Tryd.prog ops Q (o :: rest) a w := by
  refine wpList_plain hg fun K' hK' => ?_
  obtain ⟨w', hrun, r1, r2⟩ := MapS.put h hn i hi y hy
  unfold Oper.wp
  simp [execOp, hop, hm, hx, hv, hrun, Result.andThen]
  exact hK' _ _ (hK w' r1 r2)
theorem wpList_lookS {w : World} (hg : o.guard = none) (m x : Operand) (hop : o.op = Op.lookup 80 m x true) (b n : Nat) (f : ByteArray → Option Int) (hm : a.eval m = .map (some b)) (h : MapS w b n f)
    (i : ByteArray) (hi : i.size ≤ maxLen) (hx : a.eval x = .string i) (c : Int) (is : Bool) (hc : (f i).getD 0 = c) (his : (f i).isSome = is)
    (hK : wpList Tryd.prog ops Q rest (a.put o.dst (.tuple #[.int .i64 c, .bool is])) w) : wpList Tryd.prog ops Q (o :: rest) a w := by
  refine wpList_plain hg fun K' hK' => ?_
  have hrun := MapS.look h i hi
  rw [hc, his] at hrun
  unfold Oper.wp
  simp [execOp, hop, hm, hx, hrun, Result.andThen]
  exact hK' _ _ hK
end
theorem mkO_le : mkO.size ≤ maxLen := by decide
theorem mkB_le : mkB.size ≤ maxLen := by decide
theorem mkT_le : mkT.size ≤ maxLen := by decide
theorem mkE_le : mkE.size ≤ maxLen := by decide
set_option maxRecDepth 100000 in
set_option maxHeartbeats 1000000 in
theorem marks_any (w : World) : Calls Tryd.prog 48 #[] w fun e w' => ∃ b, e = .returned (.map (some b)) ∧ MapS w' b 4 markF ∧ Grows w w' ∧ w.heap.size ≤ b := by
  have hmm := @run_makeMap Tryd.prog
  have HM0 := Lib.hid (MapFn.made (k := 9) (kl := fun s : ByteArray => .string s.data.toList) (ok := fun s => s.size ≤ maxLen) w)
  have hg0 := (Grows.refl w).alloc (.map #[] 0)
  go_enter Tryd.func48, Tryd.ntmps48
  go_wp2_with (first
    | (refine wpList_insS rfl _ _ _ rfl _ 0 _ rfl HM0.out (by unfold maxLen; omega) mkO mkO_le _ rfl rfl ⟨by decide, by decide⟩ ?_; intro w1 hm1 hb1)
    | (refine wpList_insS rfl _ _ _ rfl _ 1 _ rfl hm1 (by unfold maxLen; omega) mkB mkB_le _ rfl rfl ⟨by decide, by decide⟩ ?_; intro w2 hm2 hb2)
    | (refine wpList_insS rfl _ _ _ rfl _ 2 _ rfl hm2 (by unfold maxLen; omega) mkT mkT_le _ rfl rfl ⟨by decide, by decide⟩ ?_; intro w3 hm3 hb3)
    | (refine wpList_insS rfl _ _ _ rfl _ 3 _ rfl hm3 (by unfold maxLen; omega) mkE mkE_le _ rfl rfl ⟨by decide, by decide⟩ ?_; intro w4 hm4 hb4))
  go_ret
  have g1 : Grows w w1 := Below.grown hg0 hb1 hg0.size (fun k hk => by cases hk; exact Nat.le_refl _)
  have g2 : Grows w w2 := Below.grown g1 hb2 g1.size (fun k hk => by cases hk; exact Nat.le_refl _)
  have g3 : Grows w w3 := Below.grown g2 hb3 g2.size (fun k hk => by cases hk; exact Nat.le_refl _)
  have g4 : Grows w w4 := Below.grown g3 hb4 g3.size (fun k hk => by cases hk; exact Nat.le_refl _)
  exact ⟨_, rfl, hm4, g4, Nat.le_refl _⟩
end Go.Proofs.YtakgddochbcjbaaDoor
