/- The four marks, as the map that tells what each begins. Lists of edits, one behind another: slices.Grow, slices.Concat. -/
import Derived.StringKeys
import Derived.Test.YtakgddochbcjbaaDoorPkParseSpec
import Derived.Test.YtakgddochbcjbaaDoorPkCommon
import Derived.Lib.AppendZeros
namespace Go.Proofs.YtakgddochbcjbaaDoor
open Go.RowKit Go.Deep Go.MapKept Go.Maps

theorem keyedStr : Keyed Tryd.prog 9 := string_keyed Tryd.underlying9
/-- a map[string]int -/
abbrev MapS (w : World) (b n : Nat) (f : ByteArray → Option Int) : Prop := MapFn 9 (fun s : ByteArray => .string s.data.toList) (fun s => s.size ≤ maxLen) w b n f
theorem MapS.put {w : World} {b n : Nat} {f : ByteArray → Option Int} (h : MapS w b n f) (hn : n < maxLen) (i : ByteArray) (hi : i.size ≤ maxLen) (v : Int) (hv : ok64 v) :
    ∃ w', (Instr.mapUpdate 80 (.map (some b)) (.string i) (.int .i64 v)).run Tryd.prog w = .ok () w' ∧ MapS w' b (n + 1) (putF f i v) ∧ w.grownBy w' (some b) :=
  MapFn.put (mk := fun i => .string i) keyedStr (fun _ hs => WideMaps.keyOf_string_mk Tryd.underlying9 hs) (fun i j e => by injection e) Tryd.underlying80 h hn i hi v (WalkArith.wf_i64 hv)
theorem MapS.look {w : World} {b n : Nat} {f : ByteArray → Option Int} (h : MapS w b n f) (i : ByteArray) (hi : i.size ≤ maxLen) :
    (Instr.lookup 80 (.map (some b)) (.string i) true).run Tryd.prog w = .ok (.tuple #[.int .i64 ((f i).getD 0), .bool (f i).isSome]) w :=
  MapFn.look (mk := fun i => .string i) keyedStr (fun _ hs => WideMaps.keyOf_string_mk Tryd.underlying9 hs) Tryd.underlying80 h i hi

section
variable {ops : Array Oper} {rest : List Oper} {o : Oper} {a : Act} {Q : Exit → Act → World → Prop}
theorem wpList_putS {w : World} (hg : o.guard = none) (m x v : Operand) (hop : o.op = Op.mapUpdate 80 m x v) (b n : Nat) (f : ByteArray → Option Int) (hm : a.eval m = .map (some b)) (h : MapS w b n f) (hn : n < maxLen)
    (i : ByteArray) (hi : i.size ≤ maxLen) (y : Int) (hx : a.eval x = .string i) (hv : a.eval v = .int .i64 y) (hy : ok64 y)
    (hK : ∀ w', MapS w' b (n + 1) (putF f i y) → w.grownBy w' (some b) → wpList Tryd.prog ops Q rest (a.put o.dst undef) w') : wpList Tryd.prog ops Q (o :: rest) a w := by
  refine wpList_plain hg fun K' hK' => ?_
  obtain ⟨w', hrun, r1, r2⟩ := MapS.put h hn i hi y hy
  unfold Oper.wp
  simp [execOp, hop, hm, hx, hv, hrun, Result.andThen]
  exact hK' _ _ (hK w' r1 r2)
theorem wpList_insS {w : World} (hg : o.guard = none) (m x v : Operand) (hop : o.op = Op.insert 80 m x v) (b n : Nat) (f : ByteArray → Option Int) (hm : a.eval m = .map (some b)) (h : MapS w b n f) (hn : n < maxLen)
    (i : ByteArray) (hi : i.size ≤ maxLen) (y : Int) (hx : a.eval x = .string i) (hv : a.eval v = .int .i64 y) (hy : ok64 y)
    (hK : ∀ w', MapS w' b (n + 1) (putF f i y) → w.grownBy w' (some b) → wpList Tryd.prog ops Q rest (a.put o.dst undef) w') : wpList Tryd.prog ops Q (o :: rest) a w := by
  refine wpList_plain hg fun K' hK' => ?_
  obtain ⟨w', hrun, r1, r2⟩ := MapS.put h hn i hi y hy
  unfold Oper.wp
  simp [execOp, hop, hm, hx, hv, hrun, Result.andThen]
  exact hK' _ _ (hK w' r1 r2)
theorem wpList_lookS {w : World} (hg : o.guard = none) (m x : Operand) (hop : o.op = Op.lookup 80 m x true) (b n : Nat) (f : ByteArray → Option Int) (hm : a.eval m = .map (some b)) (h : MapS w b n f)
    (i : ByteArray) (hi : i.size ≤ maxLen) (hx : a.eval x = .string i) (c : Int) (is : Bool) (hc : (f i).getD 0 = c) (his : (f i).isSome = is)
    (hK : wpList Tryd.prog ops Q rest (a.put o.dst (.tuple #[.int .i64 c, .bool is])) w) : wpList Tryd.prog ops Q (o :: rest) a w := by
  refine wpList_plain hg fun K' hK' => ?_
  have hrun := MapS.look h i hi
  rw [hc, his] at hrun
  unfold Oper.wp
  simp [execOp, hop, hm, hx, hrun, Result.andThen]
  exact hK' _ _ hK
end
theorem mkO_le : mkO.size ≤ maxLen := by decide
theorem mkB_le : mkB.size ≤ maxLen := by decide
theorem mkT_le : mkT.size ≤ maxLen := by decide
theorem mkE_le : mkE.size ≤ maxLen := by decide
set_option maxRecDepth 100000 in
set_option maxHeartbeats 1000000 in
theorem marks_any (w : World) : Calls Tryd.prog 48 #[] w fun e w' => ∃ b, e = .returned (.map (some b)) ∧ MapS w' b 4 markF ∧ Grows w w' ∧ w.heap.size ≤ b := by
  have hmm := @run_makeMap Tryd.prog
  have HM0 := Lib.hid (MapFn.made (k := 9) (kl := fun s : ByteArray => .string s.data.toList) (ok := fun s => s.size ≤ maxLen) w)
  have hg0 := (Grows.refl w).alloc (.map #[] 0)
  go_enter Tryd.func48, Tryd.ntmps48
  go_wp2_with (first
    | (refine wpList_insS rfl _ _ _ rfl _ 0 _ rfl HM0.out (by unfold maxLen; omega) mkO mkO_le _ rfl rfl ⟨by decide, by decide⟩ ?_; intro w1 hm1 hb1)
    | (refine wpList_insS rfl _ _ _ rfl _ 1 _ rfl hm1 (by unfold maxLen; omega) mkB mkB_le _ rfl rfl ⟨by decide, by decide⟩ ?_; intro w2 hm2 hb2)
    | (refine wpList_insS rfl _ _ _ rfl _ 2 _ rfl hm2 (by unfold maxLen; omega) mkT mkT_le _ rfl rfl ⟨by decide, by decide⟩ ?_; intro w3 hm3 hb3)
    | (refine wpList_insS rfl _ _ _ rfl _ 3 _ rfl hm3 (by unfold maxLen; omega) mkE mkE_le _ rfl rfl ⟨by decide, by decide⟩ ?_; intro w4 hm4 hb4))
  go_ret
  have g1 : Grows w w1 := Below.grown hg0 hb1 hg0.size (fun k hk => by cases hk; exact Nat.le_refl _)
  have g2 : Grows w w2 := Below.grown g1 hb2 g1.size (fun k hk => by cases hk; exact Nat.le_refl _)
  have g3 : Grows w w3 := Below.grown g2 hb3 g2.size (fun k hk => by cases hk; exact Nat.le_refl _)
  have g4 : Grows w w4 := Below.grown g3 hb4 g3.size (fun k hk => by cases hk; exact Nat.le_refl _)
  exact ⟨_, rfl, hm4, g4, Nat.le_refl _⟩
end Go.Proofs.YtakgddochbcjbaaDoor
namespace Go.Proofs.YtakgddochbcjbaaDoor
open Go.RowKit Go.Deep Go.MapKept

theorem Tryd.infoEdit2 : ∃ t1 z, Tryd.prog.info? 138 = some t1 ∧ t1.zero = some z ∧ t1.size = 2 ∧ t1.bytes = 24 ∧ z.cells.size = 2 := by
  obtain ⟨t1, hj0, hy0, hy1, hy2⟩ := info_parts Tryd.infoEdit
  exact ⟨t1, _, hj0, hy0, hy1, hy2, rfl⟩
theorem Tryd.underInt : Tryd.prog.underlying 3 = some (.int .i64) := by kernel_rfl

set_option maxRecDepth 100000 in
set_option maxHeartbeats 1000000 in
theorem grow_any (n : Nat) (w : World) (hn : n ≤ 1000000000000) :
    Calls Tryd.prog 151 #[.slice none 0 0, .int .i64 n] w fun e w' => ∃ v, e = .returned v ∧ w'.ownsRow w.heap.size 138 2 v 0 [] ∧ Grows w w' := by
  obtain ⟨t1, z, hj0, hy0, hy1, hy2, hzs⟩ := Tryd.infoEdit2
  go_enter Tryd.func151, Tryd.ntmps151
  by_cases h0 : n = 0
  · subst h0
    go_wp2
    go_ret
    exact ⟨_, rfl, World.ownsRow_nil _ _ _ _, Grows.refl _⟩
  · have hpos : 0 < n := by omega
    have hp1 : (0 : Int) < n := by omega
    have hrun := Lib.run_append_nil_zeros (P := Tryd.prog) w 135 3 135 138 t1 z .i64 .i64 Tryd.underlying135 Tryd.underInt hj0 hy0 n hpos (by rw [hy1]; omega) (by omega) (by rw [hy2]; omega)
    have hge := grownCap_ge w n 0 138
    have hle := grownCap_le_maxLen w n 0 138 (by unfold maxLen; omega)
    obtain ⟨cp, hcp⟩ : ∃ cp, cp = grownCap w n 0 138 := ⟨_, rfl⟩
    rw [← hcp] at hrun hge hle
    obtain ⟨cells, hcells⟩ : ∃ cells : Array Value, cells = Builtin.zeroCells z.cells n ++ Builtin.zeroCells z.cells (cp - n) := ⟨_, rfl⟩
    rw [← hcells] at hrun
    have hcs : cells.size = cp * 2 := by rw [hcells, Array.size_append, size_zeroCells, size_zeroCells, hzs]; omega
    have HCS := Lib.hid hcs
    clear hcp hcells hcs
    have hle2 := hle
    unfold maxLen at hle2
    go_wp2_with (at_builtin; refine Lib.wpList_append_run _ rfl _ _ _ _ rfl _ _ rfl rfl _ _ hrun ?_)
    go_ret
    exact ⟨_, rfl, World.ownsRow_made w.drew cells cp (Nat.le_refl _) hle HCS.out, (Grows.refl w).drew.alloc _⟩

/-- how many there are in the first k of some lists -/
def totN (N : Nat → Nat) : Nat → Nat
  | 0 => 0
  | k + 1 => totN N k + N k
/-- the first k of some lists, one behind another -/
def catL (L : Nat → List (Int × ByteArray)) : Nat → List (Int × ByteArray)
  | 0 => []
  | k + 1 => catL L k ++ L k

set_option maxRecDepth 100000 in
set_option maxHeartbeats 1000000 in
theorem concat_any (B S M cM : Nat) (A : Nat → Option Addr) (N c : Nat → Nat) (L : Nat → List (Int × ByteArray)) (w : World) (hS : ∀ i, i < M → w.cell? ⟨S, i, none⟩ = some (.slice (A i) (N i) (c i))) (hR : ∀ i, i < M → Reads w B 2 (A i) (N i) (edCells (L i))) (hB : B ≤ w.heap.size) (hSw : S < w.heap.size) (hN : ∀ k, k ≤ M → totN N k ≤ 1000000000) (hM : M ≤ 1000) :
    Calls Tryd.prog 135 #[.slice (some ⟨S, 0, none⟩) M cM] w fun e w' => ∃ v, e = .returned v ∧ w'.ownsRow w.heap.size 138 2 v (totN N M) (edCells (catL L M)) ∧ Grows w w' := by
  obtain ⟨t1, hj0, hy0, hy1, hy2⟩ := info_parts Tryd.infoEdit
  have HS := Lib.hid hS
  have HR := Lib.hid hR
  have HN := Lib.hid hN
  clear hS hR hN
  go_enter Tryd.func135, Tryd.ntmps135
  go_wp2
  go_loopg [11, 3] M (fun gk q s wr => ∃ k : Nat, q = .int .i64 k ∧ s = .int .i64 (totN N k : Nat) ∧ k ≤ M ∧ gk = M - k ∧ w = wr)
  case atStart => exact ⟨0, rfl, rfl, by omega, rfl, rfl⟩
  case round =>
    obtain ⟨k, rfl, rfl, hk, hgk, rfl⟩ := hrel
    have HG := Lib.hid hgk; clear hgk
    have hlim := HN.out k hk
    by_cases hlt : k < M
    · have hcell := HS.out k hlt
      have hlim2 := HN.out (k + 1) (by omega)
      have hst := Lib.hid (show totN N (k + 1) = totN N k + N k from rfl)
      rw [hst.out] at hlim2
      generalize totN N k = T at hlim hlim2 hst ⊢
      have i0 : (0 : Int) ≤ k := by omega
      have i1 : (k : Int) < M := by omega
      have i2 : IntKind.i64.wrap ((T : Int) + (N k : Int)) = (T : Int) + (N k : Int) := wrap_small (by omega) (by omega)
      have i3 : (0 : Int) ≤ (T : Int) + (N k : Int) := by omega
      go_wp2
      go_roundg (M - (k + 1))
      case measure => rw [HG.out]; omega
      case rel => exact ⟨k + 1, by go_num, by rw [hst.out]; go_num, by omega, rfl, rfl⟩
    · have hkM : k = M := by omega
      have HKM := Lib.hid hkM
      clear hkM
      generalize hT : totN N k = T at hlim ⊢
      have HT := Lib.hid hT
      clear hT
      go_wp2_with fail
      refine (grow_any T w (by omega)).mono ?_
      rintro e w1 ⟨v, rfl, hown, hgr⟩
      go_wp2_with fail
      go_loopg [27, 6] M (fun gk q s wr => ∃ k : Nat, q = .int .i64 k ∧ k ≤ M ∧ gk = M - k ∧ wr.ownsRow w.heap.size 138 2 s (totN N k) (edCells (catL L k)) ∧ Grows w wr)
      case atStart => exact ⟨0, rfl, by omega, rfl, hown, hgr⟩
      case round =>
        clear hown hgr
        obtain ⟨j, rfl, hj, hgj, hown, hgr⟩ := hrel
        have HG2 := Lib.hid hgj; clear hgj
        have hsz := hgr.size
        by_cases hlt2 : j < M
        · have hcell := (hgr.cell hSw).trans (HS.out j hlt2)
          have hrd := (HR.out j hlt2).grows hB hgr
          have hlim2 := HN.out (j + 1) (by omega)
          have hst := Lib.hid (show totN N (j + 1) = totN N j + N j from rfl)
          have hct := Lib.hid (show edCells (catL L (j + 1)) = edCells (catL L j) ++ edCells (L j) by rw [catL, edCells_append])
          rw [hst.out] at hlim2
          generalize totN N j = T2 at hlim2 hst hown ⊢
          have i0 : (0 : Int) ≤ j := by omega
          have i1 : (j : Int) < M := by omega
          go_wp2_with (at_builtin; refine wpList_append_any _ rfl (.tmp 31) (.tmp 32) _ rfl w.heap.size 138 t1 _ 2 24 Tryd.underlying135 hj0 hy0 hy1 hy2 rfl (by decide) _ _ _ rfl hown B _ _ _ _ rfl hrd (edCells_oneCell _) (by simp only [maxLen]; omega) (by omega) hsz ?_; intro v' w' hown' hgb hor; have hgr' : Grows w w' := Below.grown hgr hgb hsz (fun k hk => (hown.lt k hk).1))
          go_roundg (M - (j + 1))
          case measure => rw [HG2.out]; omega
          case rel => exact ⟨j + 1, by go_num, by omega, rfl, by rw [hst.out, hct.out]; exact hown', hgr'⟩
        · have hjM := Lib.hid (show j = M by omega)
          go_wp2
          go_ret
          exact ⟨_, rfl, by rw [← hjM.out]; exact hown, hgr⟩

theorem concat3_any (B S cM : Nat) (A0 A1 A2 : Option Addr) (n0 n1 n2 c0 c1 c2 : Nat) (l0 l1 l2 : List (Int × ByteArray)) (w : World) (h0 : w.cell? ⟨S, 0, none⟩ = some (.slice A0 n0 c0)) (h1 : w.cell? ⟨S, 1, none⟩ = some (.slice A1 n1 c1)) (h2 : w.cell? ⟨S, 2, none⟩ = some (.slice A2 n2 c2)) (r0 : Reads w B 2 A0 n0 (edCells l0)) (r1 : Reads w B 2 A1 n1 (edCells l1)) (r2 : Reads w B 2 A2 n2 (edCells l2)) (hB : B ≤ w.heap.size) (hSw : S < w.heap.size) (hN : n0 + n1 + n2 ≤ 1000000000) :
    Calls Tryd.prog 135 #[.slice (some ⟨S, 0, none⟩) 3 cM] w fun e w' => ∃ v, e = .returned v ∧ w'.ownsRow w.heap.size 138 2 v (n0 + n1 + n2) (edCells (l0 ++ l1 ++ l2)) ∧ Grows w w' := by
  have key := concat_any B S 3 cM (fun i => if i = 0 then A0 else if i = 1 then A1 else A2) (fun i => if i = 0 then n0 else if i = 1 then n1 else n2) (fun i => if i = 0 then c0 else if i = 1 then c1 else c2) (fun i => if i = 0 then l0 else if i = 1 then l1 else l2) w (fun i hi => ?_) (fun i hi => ?_) hB hSw (fun k hk => ?_) (by omega)
  · refine key.mono ?_
    rintro e w' ⟨v, rfl, h, hg⟩
    refine ⟨v, rfl, ?_, hg⟩
    simpa [totN, catL] using h
  · match i, hi with
    | 0, _ => exact h0
    | 1, _ => exact h1
    | 2, _ => exact h2
  · match i, hi with
    | 0, _ => exact r0
    | 1, _ => exact r1
    | 2, _ => exact r2
  · match k, hk with
    | 0, _ => simp [totN]
    | 1, _ => simp [totN]; omega
    | 2, _ => simp [totN]; omega
    | 3, _ => simp [totN]; omega

/-- append onto a row of the call's own: what else there is stays -/
theorem wpList_pushG {P : Program} {w : World} {ops : Array Oper} {rest : List Oper} {o : Oper} {a : Act} {Q : Exit → Act → World → Prop} (hgd : o.guard = none) (s x : Operand) (t : TypeId)
    (ho : o.op = .call { callee := .builtin .append, args := #[s, x], argTypes := #[t, t] })
    (base : Nat) (e : TypeId) (i : TypeInfo) (z : Value) (size bytes : Nat) (ht : P.underlying t = some (.slice e)) (hi : P.info? e = some i) (hz : i.zero = some z)
    (hsize : i.size = size) (hby : i.bytes = bytes) (hzs : z.cells.size = size) (hsz : 0 < size)
    (v : Value) (n : Nat) (xs : List Value) (hs : a.eval s = v) (hown : w.ownsRow base e size v n xs)
    (ad : Addr) (m c : Nat) (news : List Value) (hx : a.eval x = .slice (some ad) m c) (hl : news.length = m * size) (hnews : ∀ j u, news[j]? = some u → w.cell? (ad.add j) = some u) (h1 : ∀ u ∈ news, u.oneCell' = true)
    (h63 : n + m ≤ maxLen) (hbytes : (n + m) * bytes ≤ 140737488355328) (hbase : base ≤ w.heap.size)
    (h : ∀ v' w', w'.ownsRow base e size v' (n + m) (xs ++ news) → Below base w w' → w.grownBy w' v.ownBlock → wpList P ops Q rest (a.put o.dst v') w') : wpList P ops Q (o :: rest) a w :=
  wpList_append_own _ hgd s x t ho base e i z size bytes ht hi hz hsize hby hzs hsz v n xs hs hown ad m c news hx hl hnews h1 h63 hbytes hbase fun v' w' h2 h3 _ =>
    h v' w' h2 ((Below.refl _ _).grown h3 hbase fun k hk => (hown.lt k hk).1) h3

/-- a block of another type stays where a row of edits is appended to -/
theorem Blk.beside {w w' : World} {base e size n g : Nat} {t : TypeId} {cs : Array Value} {v : Value} {xs : List Value} {o : Obj} (h : Blk w g t cs) (hown : w.ownsRow base e size v n xs) (hg : (w.alloc o).grownBy w' v.ownBlock) (hne : e ≠ t) : Blk w' g t cs :=
  (h.alloc o).grown hg (Ne.symm (own_blk_ne (hown.alloc o) (h.alloc o) hne))
theorem row_beside {w w' : World} {base e size n g N : Nat} {t : TypeId} {f : Nat → Value} {v : Value} {xs : List Value} {o : Obj} (h : w.rowIs g t N f) (hown : w.ownsRow base e size v n xs) (hg : (w.alloc o).grownBy w' v.ownBlock) (hne : e ≠ t) : w'.rowIs g t N f := by
  obtain ⟨c, hb, h1, h2⟩ := h
  exact ⟨c, Blk.beside (cs := c) hb hown hg hne, h1, h2⟩

end Go.Proofs.YtakgddochbcjbaaDoor
