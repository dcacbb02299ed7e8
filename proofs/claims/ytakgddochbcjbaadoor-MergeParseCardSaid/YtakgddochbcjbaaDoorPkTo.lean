/- chunk's texts: the step to other places, what stands ahead of them being a piece. -/
import Derived.Test.YtakgddochbcjbaaDoorPkFirm
namespace Go.Proofs.YtakgddochbcjbaaDoor
open Go.RowKit Go.Deep Go.MapKept

theorem put4 {w w0 : World} {g : Nat} {a0 a1 a2 a3 : Value} (hb : Blk w g 36 #[a0, a1, a2, a3]) (hg : Grows w0 w) (hge : w0.heap.size ≤ g) (u0 u1 u2 u3 : Value) :
    Blk (w.setCells g 0 [u0, u1, u2, u3]) g 36 #[u0, u1, u2, u3] ∧ Grows w0 (w.setCells g 0 [u0, u1, u2, u3]) ∧ ∀ v ys, OwnS w v ys → OwnS (w.setCells g 0 [u0, u1, u2, u3]) v ys := by
  have key : ∀ (w : World) (cs : Array Value) (i : Nat) (u : Value), Blk w g 36 cs → Grows w0 w → Blk (w.setCell ⟨g, i, none⟩ u) g 36 (cs.setIfInBounds i u) ∧ Grows w0 (w.setCell ⟨g, i, none⟩ u) ∧ ∀ v ys, OwnS w v ys → OwnS (w.setCell ⟨g, i, none⟩ u) v ys := fun w cs i u hb hg =>
    ⟨hb.set_ i u, Below.grown hg (grown_setCell w ⟨g, i, none⟩ u) hg.size (fun k hk => by cases hk; exact hge), fun v ys h => h.kept (grown_setCell w ⟨g, i, none⟩ u) (own_blk_ne h hb (by decide))⟩
  obtain ⟨a, b, c⟩ := key _ _ 0 u0 hb hg
  obtain ⟨a', b', c'⟩ := key _ _ 1 u1 a b
  obtain ⟨a'', b'', c''⟩ := key _ _ 2 u2 a' b'
  obtain ⟨a3, b3, c3⟩ := key _ _ 3 u3 a'' b''
  exact ⟨a3, b3, fun v ys h => c3 _ _ (c'' _ _ (c' _ _ (c _ _ h)))⟩
theorem there4 {w : World} {g : Nat} {a0 a1 a2 a3 : Value} (hb : Blk w g 36 #[a0, a1, a2, a3]) : w.there g 0 4 := by
  intro j hj
  rw [Nat.zero_add, hb.cell, hb.frozen]
  refine ⟨?_, rfl⟩
  match j, hj with
  | 0, _ => rfl
  | 1, _ => rfl
  | 2, _ => rfl
  | 3, _ => rfl

/-- the piece that is cut out -/
def ToR (w0 : World) (x1 x2 x3 : List ByteArray) (s : Value) (w : World) : Prop := ∃ (g : Nat) (A1 A2 A3 : Option Addr) (c1 c2 c3 : Nat), s = .pointer (some ⟨g, 0, none⟩) ∧ w0.heap.size ≤ g ∧ Blk w g 36 #[.int .i64 0, .slice A1 x1.length c1, .slice A2 x2.length c2, .slice A3 x3.length c3] ∧
  OwnS w (.slice A1 x1.length c1) x1 ∧ OwnS w (.slice A2 x2.length c2) x2 ∧ OwnS w (.slice A3 x3.length c3) x3 ∧ Grows w0 w

set_option maxRecDepth 100000 in
set_option maxHeartbeats 4000000 in
theorem to_any (B Ba Bb Bc T na nb nc ca cb cc p o t i x y : Nat) (A1 A2 A3 : Option Addr) (xs ys zs : List ByteArray) (v : Value) (out : List ChkB) (w : World)
    (h : TX w B T (.slice A1 na ca) (.slice A2 nb cb) (.slice A3 nc cc) p o t v out) (ha : Reads w Ba 1 A1 na (strs xs)) (hb : Reads w Bb 1 A2 nb (strs ys)) (hc : Reads w Bc 1 A3 nc (strs zs)) (hBa : Ba ≤ B) (hBb : Bb ≤ B) (hBc : Bc ≤ B) (hBw : B ≤ w.heap.size)
    (hp : p ≤ i) (hi : i ≤ na) (ho : o ≤ x) (hx : x ≤ nb) (ht : t ≤ y) (hy : y ≤ nc) (hna : na ≤ 450) (hnb : nb ≤ 450) (hnc : nc ≤ 450) (hca : na ≤ ca) (hcb : nb ≤ cb) (hcc : nc ≤ cc) (hcaM : ca ≤ maxLen) (hcbM : cb ≤ maxLen) (hccM : cc ≤ maxLen) (hout : out.length ≤ 1000) :
    Calls Tryd.prog 79 #[.pointer (some ⟨T, 0, none⟩), .int .i64 i, .agg #[.int .i64 x, .int .i64 y]] w fun e w' => (∃ u, e = .returned u) ∧ (∃ v', TX w' B T (.slice A1 na ca) (.slice A2 nb cb) (.slice A3 nc cc) i x y v' (out ++ pieceC (seg xs p i) (seg ys o x) (seg zs t y))) ∧ Turn B w w' := by
  have L1 : (seg xs p i).length = i - p := by have := ha.strLen; unfold seg; rw [List.length_drop, List.length_take]; omega
  have L2 : (seg ys o x).length = x - o := by have := hb.strLen; unfold seg; rw [List.length_drop, List.length_take]; omega
  have L3 : (seg zs t y).length = y - t := by have := hc.strLen; unfold seg; rw [List.length_drop, List.length_take]; omega
  have s1 := ha.segS (p := p) (q := i) (c := ca) hi hp hca
  have s2 := hb.segS (p := o) (q := x) (c := cb) hx ho hcb
  have s3 := hc.segS (p := t) (q := y) (c := cc) hy ht hcc
  obtain ⟨x1, hx1⟩ : ∃ x1, x1 = seg xs p i := ⟨_, rfl⟩
  obtain ⟨x2, hx2⟩ : ∃ x2, x2 = seg ys o x := ⟨_, rfl⟩
  obtain ⟨x3, hx3⟩ : ∃ x3, x3 = seg zs t y := ⟨_, rfl⟩
  rw [← hx1] at L1 s1
  rw [← hx2] at L2 s2
  rw [← hx3] at L3 s3
  have HX1 := Lib.hid hx1
  have HX2 := Lib.hid hx2
  have HX3 := Lib.hid hx3
  have S1 := Lib.hid s1
  have S2 := Lib.hid s2
  have S3 := Lib.hid s3
  have HL1 := Lib.hid L1
  have HL2 := Lib.hid L2
  have HL3 := Lib.hid L3
  have HB := h.base
  have hT := h.blk.lt
  have HT := Lib.hid h
  have q1 : (p : Int) ≤ i := by omega
  have q2 : (i : Int) ≤ ca := by omega
  have q3 : (o : Int) ≤ x := by omega
  have q4 : (x : Int) ≤ cb := by omega
  have q5 : (t : Int) ≤ y := by omega
  have q6 : (y : Int) ≤ cc := by omega
  have q7 : (0 : Int) ≤ p := by omega
  have q8 : (0 : Int) ≤ o := by omega
  have q9 : (0 : Int) ≤ t := by omega
  have m1 : (ca : Int) ≤ 9223372036854775807 := by unfold maxLen at hcaM; omega
  have m2 : (cb : Int) ≤ 9223372036854775807 := by unfold maxLen at hcbM; omega
  have m3 : (cc : Int) ≤ 9223372036854775807 := by unfold maxLen at hccM; omega
  clear hx1 hx2 hx3 s1 s2 s3 L1 L2 L3 h ha hb hc
  obtain ⟨t1, hj0, hy0, hy1, hy2⟩ := info_parts Tryd.infoChunk
  obtain ⟨xr, hrow, hparts⟩ := HT.out.row
  have HR := Lib.hid hrow
  have HP := Lib.hid hparts
  clear hrow hparts
  go_enter Tryd.func79, Tryd.ntmps79
  go_upto_region 1 with fail
  have hg0 : Grows w (w.alloc (.cells #[.int .i64 x, .int .i64 y] 116)) := (Grows.refl w).alloc _
  have hbox0 := Blk.new w 116 #[.int .i64 x, .int .i64 y]
  have HT0 := Lib.hid (HT.out.grows hg0)
  have R1 := Lib.hid (S1.out.grows (Nat.le_trans hBa hBw) hg0)
  have R2 := Lib.hid (S2.out.grows (Nat.le_trans hBb hBw) hg0)
  have R3 := Lib.hid (S3.out.grows (Nat.le_trans hBc hBw) hg0)
  have HG0 := Lib.hid hg0
  have hz0 : w.heap.size < (w.alloc (.cells #[.int .i64 x, .int .i64 y] 116)).heap.size := by simp
  obtain ⟨bx, hbx⟩ : ∃ bx, bx = w.heap.size := ⟨_, rfl⟩
  rw [← hbx] at hbox0 hz0 ⊢
  have HBX := Lib.hid hbx
  clear hbx hg0 S1 S2 S3
  generalize w.alloc (.cells #[.int .i64 x, .int .i64 y] 116) = w0 at hbox0 HT0 R1 R2 R3 HG0 hz0 ⊢
  go_cut [6] (fun s6 wr => ToR w0 x1 x2 x3 s6 wr)
  case first =>
    obtain ⟨S, hS⟩ : ∃ S : World → Prop, S = fun w' => Blk w' T 121 #[.slice A1 na ca, .slice A2 nb cb, .slice A3 nc cc, .int .i64 p, .int .i64 o, .int .i64 t, v] ∧ Blk w' bx 116 #[.int .i64 x, .int .i64 y] := ⟨_, rfl⟩
    have hSb : ∀ s : SW S, Blk s.w T 121 #[.slice A1 na ca, .slice A2 nb cb, .slice A3 nc cc, .int .i64 p, .int .i64 o, .int .i64 t, v] ∧ Blk s.w bx 116 #[.int .i64 x, .int .i64 y] := fun s => by
      have := s.ok
      subst hS
      exact this
    have hS0 : ∀ s : SW S, s.w.cell? ⟨T, 0, none⟩ = some (.slice A1 na ca) := fun s => (hSb s).1.cell 0
    have hS1 : ∀ s : SW S, s.w.cell? ⟨T, 1, none⟩ = some (.slice A2 nb cb) := fun s => (hSb s).1.cell 1
    have hS2 : ∀ s : SW S, s.w.cell? ⟨T, 2, none⟩ = some (.slice A3 nc cc) := fun s => (hSb s).1.cell 2
    have hS3 : ∀ s : SW S, s.w.cell? ⟨T, 3, none⟩ = some (.int .i64 p) := fun s => (hSb s).1.cell 3
    have hS6 : ∀ s : SW S, s.w.cell? ⟨bx, 0, none⟩ = some (.int .i64 x) := fun s => (hSb s).2.cell 0
    have hS7 : ∀ s : SW S, s.w.cell? ⟨bx, 1, none⟩ = some (.int .i64 y) := fun s => (hSb s).2.cell 1
    have hSi : ∀ w', Blk w' T 121 #[.slice A1 na ca, .slice A2 nb cb, .slice A3 nc cc, .int .i64 p, .int .i64 o, .int .i64 t, v] → Blk w' bx 116 #[.int .i64 x, .int .i64 y] → S w' := by rw [hS]; exact fun _ h h' => ⟨h, h'⟩
    have hSS : S w0.drew := hSi _ HT0.out.blk.drew hbox0.drew
    clear hSb hS
    haveI : Nonempty (SW S) := ⟨⟨_, hSS⟩⟩
    have z1 : Ba ≤ w0.drew.heap.size := Nat.le_trans hBa (Nat.le_trans hBw HG0.out.size)
    have z2 : Bb ≤ w0.drew.heap.size := Nat.le_trans hBb (Nat.le_trans hBw HG0.out.size)
    have z3 : Bc ≤ w0.drew.heap.size := Nat.le_trans hBc (Nat.le_trans hBw HG0.out.size)
    have HBOX := Lib.hid hbox0
    have HK : ∀ w', Grows w0.drew w' → S w' := fun w' hg => hSi _ (HT0.out.blk.drew.grows hg) (HBOX.out.drew.grows hg)
    have Q1 := Lib.hid R1.out.drew
    have Q2 := Lib.hid R2.out.drew
    have Q3 := Lib.hid R3.out.drew
    have HGD := Lib.hid ((Grows.refl w0).drew)
    clear hbox0 R1 R2 R3 HT HP HR hSi hSS
    go_wp2_with fail
    refine wp_region_fre S 32 [([0, 1, 2, 3, 4, 5, 6, 7, 8, 9, 11, 12, 13, 14, 15, 17, 18, 21, 22, 23, 24, 25, 27, 28], 10), ([], 16), ([19], 20), ([], 26), ([29], 30), ([], 31)] [([], 33)] [] [] (by kernel_rfl) (fun _ _ _ _ _ h => h) (by kernel_rfl) (HK _ (Grows.refl _)) ?_
    simp only [pickS, pickT, pickL, List.map_cons, List.map_nil, List.filterMap_cons, List.filterMap_nil, List.getElem?_cons_zero, List.getElem?_cons_succ]
    have hgr : Grows w0.drew w0.drew := Grows.refl _
    generalize hwd : w0.drew = wd at hgr z1 z2 z3 HK Q1 Q2 Q3 HGD ⊢
    refine wpFre_consK fun K1 hK1 K2 hK2 K hK => ?_
    repeat (show wpQuiet _ _ _ _ (_ :: _) _; go_big_quiet_step (fail))
    generalize (if ca = p then A1 else Option.map (fun x => x.add p) A1) = E1 at Q1 ⊢
    refine wpQuiet_nil (hK _ ?_ ?_)
    ·
      clear hK K hK2 K2
      show wpList _ _ _ [_] _ _
      go_wp2_with fail
      have hgn : Grows wd (wd.alloc (.cells #[.int .i64 0, .slice none 0 0, .slice none 0 0, .slice none 0 0] 36)) := (Grows.refl _).alloc _
      have hA := Blk.new wd 36 #[.int .i64 0, .slice none 0 0, .slice none 0 0, .slice none 0 0]
      obtain ⟨g, hgq⟩ : ∃ g, g = wd.heap.size := ⟨_, rfl⟩
      have hge : wd.heap.size ≤ g := by rw [hgq]; exact hgr.size
      rw [← hgq] at hA ⊢
      clear hgq
      generalize wd.alloc (.cells #[.int .i64 0, .slice none 0 0, .slice none 0 0, .slice none 0 0] 36) = wda at hgn hA ⊢
      replace hgr := hgr.trans hgn
      clear hgn
      refine hK1.out _ _ (HK _ hgr) ?_
      clear hK1 K1
      refine wpSeq_consK fun K2 hK2 K hK => ?_
      refine wpQuiet_nil (hK _ ?_)
      clear hK K
      show wpList _ _ _ [_] _ _
      go_wp2_with fail
      refine (clone_any Ba E1 _ _ x1 wda (Q1.out.grows z1 hgr) (Nat.le_trans z1 hgr.size) (by omega)).mono ?_
      rintro e wda' ⟨u1, rfl, hv1, hgn⟩
      obtain ⟨A1o, c1o, rfl, _, _⟩ := hv1.form
      replace hA := hA.grows hgn
      replace hgr := hgr.trans hgn
      clear hgn
      go_wp2_with fail
      refine hK2.out _ _ (HK _ hgr) ?_
      clear hK2 K2
      refine wpSeq_consK fun K2 hK2 K hK => ?_
      repeat (show wpQuiet _ _ _ _ (_ :: _) _; go_big_quiet_step (fail))
      refine wpQuiet_nil (hK _ ?_)
      clear hK K
      show wpList _ _ _ [_] _ _
      go_wp2_with fail
      refine (ours0_any wda' T (.slice A1 na ca) (.slice A2 nb cb) (.slice A3 nc cc) v p o t (HT0.out.blk.grows (HGD.out.trans hgr))).mono ?_
      rintro e _ ⟨rfl, rfl⟩
      go_wp2_with fail
      refine hK2.out _ _ (HK _ hgr) ?_
      clear hK2 K2
      refine wpSeq_consK fun K2 hK2 K hK => ?_
      repeat (show wpQuiet _ _ _ _ (_ :: _) _; go_big_quiet_step (fail))
      generalize (if cb = o then A2 else Option.map (fun x => x.add o) A2) = E2 at Q2 ⊢
      refine wpQuiet_nil (hK _ ?_)
      clear hK K
      show wpList _ _ _ [_] _ _
      go_wp2_with fail
      refine (clone_any Bb E2 _ _ x2 wda' (Q2.out.grows z2 hgr) (Nat.le_trans z2 hgr.size) (by omega)).mono ?_
      rintro e wda'' ⟨u2, rfl, hv2, hgn⟩
      obtain ⟨A2o, c2o, rfl, _, _⟩ := hv2.form
      replace hv1 := hv1.grows hgn
      replace hA := hA.grows hgn
      replace hgr := hgr.trans hgn
      clear hgn
      go_wp2_with fail
      refine hK2.out _ _ (HK _ hgr) ?_
      clear hK2 K2
      refine wpSeq_consK fun K2 hK2 K hK => ?_
      repeat (show wpQuiet _ _ _ _ (_ :: _) _; go_big_quiet_step (fail))
      refine wpQuiet_nil (hK _ ?_)
      clear hK K
      show wpList _ _ _ [_] _ _
      go_wp2_with fail
      refine (theirs0_any wda'' T (.slice A1 na ca) (.slice A2 nb cb) (.slice A3 nc cc) v p o t (HT0.out.blk.grows (HGD.out.trans hgr))).mono ?_
      rintro e _ ⟨rfl, rfl⟩
      go_wp2_with fail
      refine hK2.out _ _ (HK _ hgr) ?_
      clear hK2 K2
      refine wpSeq_consK fun K2 hK2 K hK => ?_
      repeat (show wpQuiet _ _ _ _ (_ :: _) _; go_big_quiet_step (fail))
      generalize (if cc = t then A3 else Option.map (fun x => x.add t) A3) = E3 at Q3 ⊢
      refine wpQuiet_nil (hK _ ?_)
      clear hK K
      show wpList _ _ _ [_] _ _
      go_wp2_with fail
      refine (clone_any Bc E3 _ _ x3 wda'' (Q3.out.grows z3 hgr) (Nat.le_trans z3 hgr.size) (by omega)).mono ?_
      rintro e wda''' ⟨u3, rfl, hv3, hgn⟩
      obtain ⟨A3o, c3o, rfl, _, _⟩ := hv3.form
      replace hv1 := hv1.grows hgn
      replace hv2 := hv2.grows hgn
      replace hA := hA.grows hgn
      replace hgr := hgr.trans hgn
      clear hgn
      go_wp2_with fail
      refine hK2.out _ _ (HK _ hgr) ?_
      clear hK2 K2
      refine wpSeq_consK fun K2 hK2 K hK => ?_
      repeat (show wpQuiet _ _ _ _ (_ :: _) _; go_big_quiet_step (fail))
      refine wpQuiet_nil (hK _ ?_)
      clear hK K
      show wpList _ _ _ [_] _ _
      go_wp2_with fail
      refine hK2.out _ _ (HK _ hgr) ?_
      clear hK2 K2
      refine wpSeq_consK fun K2 hK2 K hK => ?_
      refine wpQuiet_nil (hK _ ?_)
      clear hK K
      show wpList _ _ _ [_] _ _
      obtain ⟨p1, p2, p3⟩ := put4 hA hgr hge (.int .i64 0) (.slice A1o x1.length c1o) (.slice A2o x2.length c2o) (.slice A3o x3.length c3o)
      refine wpList_store_mid rfl _ (.tmp 6) (.tmp 38) rfl g 0 #[.int .i64 0, .slice A1o x1.length c1o, .slice A2o x2.length c2o, .slice A3o x3.length c3o] rfl rfl (there4 hA) (by kernel_rfl) (by simp [Value.oneCell']) ?_
      go_wp2_with fail
      refine hK2.out _ _ (HK _ p2) ?_
      clear hK2 K2
      refine wpSeq_nil (wpRest_K fun K hK => ?_)
      refine wpQuiet_nil (hK _ ?_)
      clear hK K
      refine wpSegs_nil ?_
      simp only [Act.put]
      go_wp2_with fail
      go_meet
      refine ⟨g, _, _, _, _, _, _, rfl, ?_, p1, p3 _ _ hv1, p3 _ _ hv2, p3 _ _ hv3, HGD.out.trans p2⟩
      rw [← hwd] at hge; exact hge
    ·
      clear hK K hK1 K1
      show wpList _ _ _ [_] _ _
      go_wp2_with fail
      refine (clone_any Ba E1 _ _ x1 wd (Q1.out.grows z1 hgr) (Nat.le_trans z1 hgr.size) (by omega)).mono ?_
      rintro e wd' ⟨u1, rfl, hv1, hgn⟩
      obtain ⟨A1o, c1o, rfl, _, _⟩ := hv1.form
      replace hgr := hgr.trans hgn
      clear hgn
      go_wp2_with fail
      refine hK2.out _ _ (HK _ hgr) ?_
      clear hK2 K2
      refine wpFre_consK fun K1 hK1 K2 hK2 K hK => ?_
      repeat (show wpQuiet _ _ _ _ (_ :: _) _; go_big_quiet_step (fail))
      refine wpQuiet_nil (hK _ ?_ ?_)
      ·
        clear hK K hK2 K2
        show wpList _ _ _ [_] _ _
        go_wp2_with fail
        have hgn : Grows wd' (wd'.alloc (.cells #[.int .i64 0, .slice none 0 0, .slice none 0 0, .slice none 0 0] 36)) := (Grows.refl _).alloc _
        have hA := Blk.new wd' 36 #[.int .i64 0, .slice none 0 0, .slice none 0 0, .slice none 0 0]
        obtain ⟨g, hgq⟩ : ∃ g, g = wd'.heap.size := ⟨_, rfl⟩
        have hge : wd.heap.size ≤ g := by rw [hgq]; exact hgr.size
        rw [← hgq] at hA ⊢
        clear hgq
        generalize wd'.alloc (.cells #[.int .i64 0, .slice none 0 0, .slice none 0 0, .slice none 0 0] 36) = wd'a at hgn hA ⊢
        replace hv1 := hv1.grows hgn
        replace hgr := hgr.trans hgn
        clear hgn
        refine hK1.out _ _ (HK _ hgr) ?_
        clear hK1 K1
        refine wpSeq_consK fun K2 hK2 K hK => ?_
        refine wpQuiet_nil (hK _ ?_)
        clear hK K
        show wpList _ _ _ [_] _ _
        go_wp2_with fail
        refine (ours0_any wd'a T (.slice A1 na ca) (.slice A2 nb cb) (.slice A3 nc cc) v p o t (HT0.out.blk.grows (HGD.out.trans hgr))).mono ?_
        rintro e _ ⟨rfl, rfl⟩
        go_wp2_with fail
        refine hK2.out _ _ (HK _ hgr) ?_
        clear hK2 K2
        refine wpSeq_consK fun K2 hK2 K hK => ?_
        repeat (show wpQuiet _ _ _ _ (_ :: _) _; go_big_quiet_step (fail))
        generalize (if cb = o then A2 else Option.map (fun x => x.add o) A2) = E2 at Q2 ⊢
        refine wpQuiet_nil (hK _ ?_)
        clear hK K
        show wpList _ _ _ [_] _ _
        go_wp2_with fail
        refine (clone_any Bb E2 _ _ x2 wd'a (Q2.out.grows z2 hgr) (Nat.le_trans z2 hgr.size) (by omega)).mono ?_
        rintro e wd'a' ⟨u2, rfl, hv2, hgn⟩
        obtain ⟨A2o, c2o, rfl, _, _⟩ := hv2.form
        replace hv1 := hv1.grows hgn
        replace hA := hA.grows hgn
        replace hgr := hgr.trans hgn
        clear hgn
        go_wp2_with fail
        refine hK2.out _ _ (HK _ hgr) ?_
        clear hK2 K2
        refine wpSeq_consK fun K2 hK2 K hK => ?_
        repeat (show wpQuiet _ _ _ _ (_ :: _) _; go_big_quiet_step (fail))
        refine wpQuiet_nil (hK _ ?_)
        clear hK K
        show wpList _ _ _ [_] _ _
        go_wp2_with fail
        refine (theirs0_any wd'a' T (.slice A1 na ca) (.slice A2 nb cb) (.slice A3 nc cc) v p o t (HT0.out.blk.grows (HGD.out.trans hgr))).mono ?_
        rintro e _ ⟨rfl, rfl⟩
        go_wp2_with fail
        refine hK2.out _ _ (HK _ hgr) ?_
        clear hK2 K2
        refine wpSeq_consK fun K2 hK2 K hK => ?_
        repeat (show wpQuiet _ _ _ _ (_ :: _) _; go_big_quiet_step (fail))
        generalize (if cc = t then A3 else Option.map (fun x => x.add t) A3) = E3 at Q3 ⊢
        refine wpQuiet_nil (hK _ ?_)
        clear hK K
        show wpList _ _ _ [_] _ _
        go_wp2_with fail
        refine (clone_any Bc E3 _ _ x3 wd'a' (Q3.out.grows z3 hgr) (Nat.le_trans z3 hgr.size) (by omega)).mono ?_
        rintro e wd'a'' ⟨u3, rfl, hv3, hgn⟩
        obtain ⟨A3o, c3o, rfl, _, _⟩ := hv3.form
        replace hv1 := hv1.grows hgn
        replace hv2 := hv2.grows hgn
        replace hA := hA.grows hgn
        replace hgr := hgr.trans hgn
        clear hgn
        go_wp2_with fail
        refine hK2.out _ _ (HK _ hgr) ?_
        clear hK2 K2
        refine wpSeq_consK fun K2 hK2 K hK => ?_
        repeat (show wpQuiet _ _ _ _ (_ :: _) _; go_big_quiet_step (fail))
        refine wpQuiet_nil (hK _ ?_)
        clear hK K
        show wpList _ _ _ [_] _ _
        go_wp2_with fail
        refine hK2.out _ _ (HK _ hgr) ?_
        clear hK2 K2
        refine wpSeq_consK fun K2 hK2 K hK => ?_
        refine wpQuiet_nil (hK _ ?_)
        clear hK K
        show wpList _ _ _ [_] _ _
        obtain ⟨p1, p2, p3⟩ := put4 hA hgr hge (.int .i64 0) (.slice A1o x1.length c1o) (.slice A2o x2.length c2o) (.slice A3o x3.length c3o)
        refine wpList_store_mid rfl _ (.tmp 6) (.tmp 38) rfl g 0 #[.int .i64 0, .slice A1o x1.length c1o, .slice A2o x2.length c2o, .slice A3o x3.length c3o] rfl rfl (there4 hA) (by kernel_rfl) (by simp [Value.oneCell']) ?_
        go_wp2_with fail
        refine hK2.out _ _ (HK _ p2) ?_
        clear hK2 K2
        refine wpSeq_nil (wpRest_K fun K hK => ?_)
        refine wpQuiet_nil (hK _ ?_)
        clear hK K
        refine wpSegs_nil ?_
        simp only [Act.put]
        go_wp2_with fail
        go_meet
        refine ⟨g, _, _, _, _, _, _, rfl, ?_, p1, p3 _ _ hv1, p3 _ _ hv2, p3 _ _ hv3, HGD.out.trans p2⟩
        rw [← hwd] at hge; exact hge
      ·
        clear hK K hK1 K1
        show wpList _ _ _ [_] _ _
        go_wp2_with fail
        refine (ours0_any wd' T (.slice A1 na ca) (.slice A2 nb cb) (.slice A3 nc cc) v p o t (HT0.out.blk.grows (HGD.out.trans hgr))).mono ?_
        rintro e _ ⟨rfl, rfl⟩
        go_wp2_with fail
        refine hK2.out _ _ (HK _ hgr) ?_
        clear hK2 K2
        refine wpFre_consK fun K1 hK1 K2 hK2 K hK => ?_
        repeat (show wpQuiet _ _ _ _ (_ :: _) _; go_big_quiet_step (fail))
        generalize (if cb = o then A2 else Option.map (fun x => x.add o) A2) = E2 at Q2 ⊢
        refine wpQuiet_nil (hK _ ?_ ?_)
        ·
          clear hK K hK2 K2
          show wpList _ _ _ [_] _ _
          go_wp2_with fail
          have hgn : Grows wd' (wd'.alloc (.cells #[.int .i64 0, .slice none 0 0, .slice none 0 0, .slice none 0 0] 36)) := (Grows.refl _).alloc _
          have hA := Blk.new wd' 36 #[.int .i64 0, .slice none 0 0, .slice none 0 0, .slice none 0 0]
          obtain ⟨g, hgq⟩ : ∃ g, g = wd'.heap.size := ⟨_, rfl⟩
          have hge : wd.heap.size ≤ g := by rw [hgq]; exact hgr.size
          rw [← hgq] at hA ⊢
          clear hgq
          generalize wd'.alloc (.cells #[.int .i64 0, .slice none 0 0, .slice none 0 0, .slice none 0 0] 36) = wd'a at hgn hA ⊢
          replace hv1 := hv1.grows hgn
          replace hgr := hgr.trans hgn
          clear hgn
          refine hK1.out _ _ (HK _ hgr) ?_
          clear hK1 K1
          refine wpSeq_consK fun K2 hK2 K hK => ?_
          refine wpQuiet_nil (hK _ ?_)
          clear hK K
          show wpList _ _ _ [_] _ _
          go_wp2_with fail
          refine (clone_any Bb E2 _ _ x2 wd'a (Q2.out.grows z2 hgr) (Nat.le_trans z2 hgr.size) (by omega)).mono ?_
          rintro e wd'a' ⟨u2, rfl, hv2, hgn⟩
          obtain ⟨A2o, c2o, rfl, _, _⟩ := hv2.form
          replace hv1 := hv1.grows hgn
          replace hA := hA.grows hgn
          replace hgr := hgr.trans hgn
          clear hgn
          go_wp2_with fail
          refine hK2.out _ _ (HK _ hgr) ?_
          clear hK2 K2
          refine wpSeq_consK fun K2 hK2 K hK => ?_
          repeat (show wpQuiet _ _ _ _ (_ :: _) _; go_big_quiet_step (fail))
          refine wpQuiet_nil (hK _ ?_)
          clear hK K
          show wpList _ _ _ [_] _ _
          go_wp2_with fail
          refine (theirs0_any wd'a' T (.slice A1 na ca) (.slice A2 nb cb) (.slice A3 nc cc) v p o t (HT0.out.blk.grows (HGD.out.trans hgr))).mono ?_
          rintro e _ ⟨rfl, rfl⟩
          go_wp2_with fail
          refine hK2.out _ _ (HK _ hgr) ?_
          clear hK2 K2
          refine wpSeq_consK fun K2 hK2 K hK => ?_
          repeat (show wpQuiet _ _ _ _ (_ :: _) _; go_big_quiet_step (fail))
          generalize (if cc = t then A3 else Option.map (fun x => x.add t) A3) = E3 at Q3 ⊢
          refine wpQuiet_nil (hK _ ?_)
          clear hK K
          show wpList _ _ _ [_] _ _
          go_wp2_with fail
          refine (clone_any Bc E3 _ _ x3 wd'a' (Q3.out.grows z3 hgr) (Nat.le_trans z3 hgr.size) (by omega)).mono ?_
          rintro e wd'a'' ⟨u3, rfl, hv3, hgn⟩
          obtain ⟨A3o, c3o, rfl, _, _⟩ := hv3.form
          replace hv1 := hv1.grows hgn
          replace hv2 := hv2.grows hgn
          replace hA := hA.grows hgn
          replace hgr := hgr.trans hgn
          clear hgn
          go_wp2_with fail
          refine hK2.out _ _ (HK _ hgr) ?_
          clear hK2 K2
          refine wpSeq_consK fun K2 hK2 K hK => ?_
          repeat (show wpQuiet _ _ _ _ (_ :: _) _; go_big_quiet_step (fail))
          refine wpQuiet_nil (hK _ ?_)
          clear hK K
          show wpList _ _ _ [_] _ _
          go_wp2_with fail
          refine hK2.out _ _ (HK _ hgr) ?_
          clear hK2 K2
          refine wpSeq_consK fun K2 hK2 K hK => ?_
          refine wpQuiet_nil (hK _ ?_)
          clear hK K
          show wpList _ _ _ [_] _ _
          obtain ⟨p1, p2, p3⟩ := put4 hA hgr hge (.int .i64 0) (.slice A1o x1.length c1o) (.slice A2o x2.length c2o) (.slice A3o x3.length c3o)
          refine wpList_store_mid rfl _ (.tmp 6) (.tmp 38) rfl g 0 #[.int .i64 0, .slice A1o x1.length c1o, .slice A2o x2.length c2o, .slice A3o x3.length c3o] rfl rfl (there4 hA) (by kernel_rfl) (by simp [Value.oneCell']) ?_
          go_wp2_with fail
          refine hK2.out _ _ (HK _ p2) ?_
          clear hK2 K2
          refine wpSeq_nil (wpRest_K fun K hK => ?_)
          refine wpQuiet_nil (hK _ ?_)
          clear hK K
          refine wpSegs_nil ?_
          simp only [Act.put]
          go_wp2_with fail
          go_meet
          refine ⟨g, _, _, _, _, _, _, rfl, ?_, p1, p3 _ _ hv1, p3 _ _ hv2, p3 _ _ hv3, HGD.out.trans p2⟩
          rw [← hwd] at hge; exact hge
        ·
          clear hK K hK1 K1
          show wpList _ _ _ [_] _ _
          go_wp2_with fail
          refine (clone_any Bb E2 _ _ x2 wd' (Q2.out.grows z2 hgr) (Nat.le_trans z2 hgr.size) (by omega)).mono ?_
          rintro e wd'' ⟨u2, rfl, hv2, hgn⟩
          obtain ⟨A2o, c2o, rfl, _, _⟩ := hv2.form
          replace hv1 := hv1.grows hgn
          replace hgr := hgr.trans hgn
          clear hgn
          go_wp2_with fail
          refine hK2.out _ _ (HK _ hgr) ?_
          clear hK2 K2
          refine wpFre_consK fun K1 hK1 K2 hK2 K hK => ?_
          repeat (show wpQuiet _ _ _ _ (_ :: _) _; go_big_quiet_step (fail))
          refine wpQuiet_nil (hK _ ?_ ?_)
          ·
            clear hK K hK2 K2
            show wpList _ _ _ [_] _ _
            go_wp2_with fail
            have hgn : Grows wd'' (wd''.alloc (.cells #[.int .i64 0, .slice none 0 0, .slice none 0 0, .slice none 0 0] 36)) := (Grows.refl _).alloc _
            have hA := Blk.new wd'' 36 #[.int .i64 0, .slice none 0 0, .slice none 0 0, .slice none 0 0]
            obtain ⟨g, hgq⟩ : ∃ g, g = wd''.heap.size := ⟨_, rfl⟩
            have hge : wd.heap.size ≤ g := by rw [hgq]; exact hgr.size
            rw [← hgq] at hA ⊢
            clear hgq
            generalize wd''.alloc (.cells #[.int .i64 0, .slice none 0 0, .slice none 0 0, .slice none 0 0] 36) = wd''a at hgn hA ⊢
            replace hv1 := hv1.grows hgn
            replace hv2 := hv2.grows hgn
            replace hgr := hgr.trans hgn
            clear hgn
            refine hK1.out _ _ (HK _ hgr) ?_
            clear hK1 K1
            refine wpSeq_consK fun K2 hK2 K hK => ?_
            refine wpQuiet_nil (hK _ ?_)
            clear hK K
            show wpList _ _ _ [_] _ _
            go_wp2_with fail
            refine (theirs0_any wd''a T (.slice A1 na ca) (.slice A2 nb cb) (.slice A3 nc cc) v p o t (HT0.out.blk.grows (HGD.out.trans hgr))).mono ?_
            rintro e _ ⟨rfl, rfl⟩
            go_wp2_with fail
            refine hK2.out _ _ (HK _ hgr) ?_
            clear hK2 K2
            refine wpSeq_consK fun K2 hK2 K hK => ?_
            repeat (show wpQuiet _ _ _ _ (_ :: _) _; go_big_quiet_step (fail))
            generalize (if cc = t then A3 else Option.map (fun x => x.add t) A3) = E3 at Q3 ⊢
            refine wpQuiet_nil (hK _ ?_)
            clear hK K
            show wpList _ _ _ [_] _ _
            go_wp2_with fail
            refine (clone_any Bc E3 _ _ x3 wd''a (Q3.out.grows z3 hgr) (Nat.le_trans z3 hgr.size) (by omega)).mono ?_
            rintro e wd''a' ⟨u3, rfl, hv3, hgn⟩
            obtain ⟨A3o, c3o, rfl, _, _⟩ := hv3.form
            replace hv1 := hv1.grows hgn
            replace hv2 := hv2.grows hgn
            replace hA := hA.grows hgn
            replace hgr := hgr.trans hgn
            clear hgn
            go_wp2_with fail
            refine hK2.out _ _ (HK _ hgr) ?_
            clear hK2 K2
            refine wpSeq_consK fun K2 hK2 K hK => ?_
            repeat (show wpQuiet _ _ _ _ (_ :: _) _; go_big_quiet_step (fail))
            refine wpQuiet_nil (hK _ ?_)
            clear hK K
            show wpList _ _ _ [_] _ _
            go_wp2_with fail
            refine hK2.out _ _ (HK _ hgr) ?_
            clear hK2 K2
            refine wpSeq_consK fun K2 hK2 K hK => ?_
            refine wpQuiet_nil (hK _ ?_)
            clear hK K
            show wpList _ _ _ [_] _ _
            obtain ⟨p1, p2, p3⟩ := put4 hA hgr hge (.int .i64 0) (.slice A1o x1.length c1o) (.slice A2o x2.length c2o) (.slice A3o x3.length c3o)
            refine wpList_store_mid rfl _ (.tmp 6) (.tmp 38) rfl g 0 #[.int .i64 0, .slice A1o x1.length c1o, .slice A2o x2.length c2o, .slice A3o x3.length c3o] rfl rfl (there4 hA) (by kernel_rfl) (by simp [Value.oneCell']) ?_
            go_wp2_with fail
            refine hK2.out _ _ (HK _ p2) ?_
            clear hK2 K2
            refine wpSeq_nil (wpRest_K fun K hK => ?_)
            refine wpQuiet_nil (hK _ ?_)
            clear hK K
            refine wpSegs_nil ?_
            simp only [Act.put]
            go_wp2_with fail
            go_meet
            refine ⟨g, _, _, _, _, _, _, rfl, ?_, p1, p3 _ _ hv1, p3 _ _ hv2, p3 _ _ hv3, HGD.out.trans p2⟩
            rw [← hwd] at hge; exact hge
          ·
            clear hK K hK1 K1
            show wpList _ _ _ [_] _ _
            go_wp2_with fail
            refine (theirs0_any wd'' T (.slice A1 na ca) (.slice A2 nb cb) (.slice A3 nc cc) v p o t (HT0.out.blk.grows (HGD.out.trans hgr))).mono ?_
            rintro e _ ⟨rfl, rfl⟩
            go_wp2_with fail
            refine hK2.out _ _ (HK _ hgr) ?_
            clear hK2 K2
            refine wpFre_consK fun K1 hK1 K2 hK2 K hK => ?_
            repeat (show wpQuiet _ _ _ _ (_ :: _) _; go_big_quiet_step (fail))
            generalize (if cc = t then A3 else Option.map (fun x => x.add t) A3) = E3 at Q3 ⊢
            refine wpQuiet_nil (hK _ ?_ ?_)
            ·
              clear hK K hK2 K2
              show wpList _ _ _ [_] _ _
              go_wp2_with fail
              have hgn : Grows wd'' (wd''.alloc (.cells #[.int .i64 0, .slice none 0 0, .slice none 0 0, .slice none 0 0] 36)) := (Grows.refl _).alloc _
              have hA := Blk.new wd'' 36 #[.int .i64 0, .slice none 0 0, .slice none 0 0, .slice none 0 0]
              obtain ⟨g, hgq⟩ : ∃ g, g = wd''.heap.size := ⟨_, rfl⟩
              have hge : wd.heap.size ≤ g := by rw [hgq]; exact hgr.size
              rw [← hgq] at hA ⊢
              clear hgq
              generalize wd''.alloc (.cells #[.int .i64 0, .slice none 0 0, .slice none 0 0, .slice none 0 0] 36) = wd''a at hgn hA ⊢
              replace hv1 := hv1.grows hgn
              replace hv2 := hv2.grows hgn
              replace hgr := hgr.trans hgn
              clear hgn
              refine hK1.out _ _ (HK _ hgr) ?_
              clear hK1 K1
              refine wpSeq_consK fun K2 hK2 K hK => ?_
              refine wpQuiet_nil (hK _ ?_)
              clear hK K
              show wpList _ _ _ [_] _ _
              go_wp2_with fail
              refine (clone_any Bc E3 _ _ x3 wd''a (Q3.out.grows z3 hgr) (Nat.le_trans z3 hgr.size) (by omega)).mono ?_
              rintro e wd''a' ⟨u3, rfl, hv3, hgn⟩
              obtain ⟨A3o, c3o, rfl, _, _⟩ := hv3.form
              replace hv1 := hv1.grows hgn
              replace hv2 := hv2.grows hgn
              replace hA := hA.grows hgn
              replace hgr := hgr.trans hgn
              clear hgn
              go_wp2_with fail
              refine hK2.out _ _ (HK _ hgr) ?_
              clear hK2 K2
              refine wpSeq_consK fun K2 hK2 K hK => ?_
              repeat (show wpQuiet _ _ _ _ (_ :: _) _; go_big_quiet_step (fail))
              refine wpQuiet_nil (hK _ ?_)
              clear hK K
              show wpList _ _ _ [_] _ _
              go_wp2_with fail
              refine hK2.out _ _ (HK _ hgr) ?_
              clear hK2 K2
              refine wpSeq_consK fun K2 hK2 K hK => ?_
              refine wpQuiet_nil (hK _ ?_)
              clear hK K
              show wpList _ _ _ [_] _ _
              obtain ⟨p1, p2, p3⟩ := put4 hA hgr hge (.int .i64 0) (.slice A1o x1.length c1o) (.slice A2o x2.length c2o) (.slice A3o x3.length c3o)
              refine wpList_store_mid rfl _ (.tmp 6) (.tmp 38) rfl g 0 #[.int .i64 0, .slice A1o x1.length c1o, .slice A2o x2.length c2o, .slice A3o x3.length c3o] rfl rfl (there4 hA) (by kernel_rfl) (by simp [Value.oneCell']) ?_
              go_wp2_with fail
              refine hK2.out _ _ (HK _ p2) ?_
              clear hK2 K2
              refine wpSeq_nil (wpRest_K fun K hK => ?_)
              refine wpQuiet_nil (hK _ ?_)
              clear hK K
              refine wpSegs_nil ?_
              simp only [Act.put]
              go_wp2_with fail
              go_meet
              refine ⟨g, _, _, _, _, _, _, rfl, ?_, p1, p3 _ _ hv1, p3 _ _ hv2, p3 _ _ hv3, HGD.out.trans p2⟩
              rw [← hwd] at hge; exact hge
            ·
              clear hK K hK1 K1
              show wpList _ _ _ [_] _ _
              go_wp2_with fail
              refine (clone_any Bc E3 _ _ x3 wd'' (Q3.out.grows z3 hgr) (Nat.le_trans z3 hgr.size) (by omega)).mono ?_
              rintro e wd''' ⟨u3, rfl, hv3, hgn⟩
              obtain ⟨A3o, c3o, rfl, _, _⟩ := hv3.form
              replace hv1 := hv1.grows hgn
              replace hv2 := hv2.grows hgn
              replace hgr := hgr.trans hgn
              clear hgn
              go_wp2_with fail
              refine hK2.out _ _ (HK _ hgr) ?_
              clear hK2 K2
              refine wpFre_consK fun K1 hK1 K2 hK2 K hK => ?_
              repeat (show wpQuiet _ _ _ _ (_ :: _) _; go_big_quiet_step (fail))
              refine wpQuiet_nil (hK _ ?_ ?_)
              ·
                clear hK K hK2 K2
                show wpList _ _ _ [_] _ _
                go_wp2_with fail
                have hgn : Grows wd''' (wd'''.alloc (.cells #[.int .i64 0, .slice none 0 0, .slice none 0 0, .slice none 0 0] 36)) := (Grows.refl _).alloc _
                have hA := Blk.new wd''' 36 #[.int .i64 0, .slice none 0 0, .slice none 0 0, .slice none 0 0]
                obtain ⟨g, hgq⟩ : ∃ g, g = wd'''.heap.size := ⟨_, rfl⟩
                have hge : wd.heap.size ≤ g := by rw [hgq]; exact hgr.size
                rw [← hgq] at hA ⊢
                clear hgq
                generalize wd'''.alloc (.cells #[.int .i64 0, .slice none 0 0, .slice none 0 0, .slice none 0 0] 36) = wd'''a at hgn hA ⊢
                replace hv1 := hv1.grows hgn
                replace hv2 := hv2.grows hgn
                replace hv3 := hv3.grows hgn
                replace hgr := hgr.trans hgn
                clear hgn
                refine hK1.out _ _ (HK _ hgr) ?_
                clear hK1 K1
                refine wpSeq_consK fun K2 hK2 K hK => ?_
                refine wpQuiet_nil (hK _ ?_)
                clear hK K
                show wpList _ _ _ [_] _ _
                go_wp2_with fail
                refine hK2.out _ _ (HK _ hgr) ?_
                clear hK2 K2
                refine wpSeq_consK fun K2 hK2 K hK => ?_
                refine wpQuiet_nil (hK _ ?_)
                clear hK K
                show wpList _ _ _ [_] _ _
                obtain ⟨p1, p2, p3⟩ := put4 hA hgr hge (.int .i64 0) (.slice A1o x1.length c1o) (.slice A2o x2.length c2o) (.slice A3o x3.length c3o)
                refine wpList_store_mid rfl _ (.tmp 6) (.tmp 38) rfl g 0 #[.int .i64 0, .slice A1o x1.length c1o, .slice A2o x2.length c2o, .slice A3o x3.length c3o] rfl rfl (there4 hA) (by kernel_rfl) (by simp [Value.oneCell']) ?_
                go_wp2_with fail
                refine hK2.out _ _ (HK _ p2) ?_
                clear hK2 K2
                refine wpSeq_nil (wpRest_K fun K hK => ?_)
                refine wpQuiet_nil (hK _ ?_)
                clear hK K
                refine wpSegs_nil ?_
                simp only [Act.put]
                go_wp2_with fail
                go_meet
                refine ⟨g, _, _, _, _, _, _, rfl, ?_, p1, p3 _ _ hv1, p3 _ _ hv2, p3 _ _ hv3, HGD.out.trans p2⟩
                rw [← hwd] at hge; exact hge
              ·
                clear hK K hK1 K1
                show wpList _ _ _ [_] _ _
                go_wp2_with fail
                refine hK2.out _ _ (HK _ hgr) ?_
                clear hK2 K2
                refine wpFre_nilK fun K1 hK1 => ?_
                show wpList _ _ _ [_] _ _
                go_wp2_with fail
                have hgn : Grows wd''' (wd'''.alloc (.cells #[.int .i64 0, .slice none 0 0, .slice none 0 0, .slice none 0 0] 36)) := (Grows.refl _).alloc _
                have hA := Blk.new wd''' 36 #[.int .i64 0, .slice none 0 0, .slice none 0 0, .slice none 0 0]
                obtain ⟨g, hgq⟩ : ∃ g, g = wd'''.heap.size := ⟨_, rfl⟩
                have hge : wd.heap.size ≤ g := by rw [hgq]; exact hgr.size
                rw [← hgq] at hA ⊢
                clear hgq
                generalize wd'''.alloc (.cells #[.int .i64 0, .slice none 0 0, .slice none 0 0, .slice none 0 0] 36) = wd'''a at hgn hA ⊢
                replace hv1 := hv1.grows hgn
                replace hv2 := hv2.grows hgn
                replace hv3 := hv3.grows hgn
                replace hgr := hgr.trans hgn
                clear hgn
                refine hK1.out _ _ (HK _ hgr) ?_
                clear hK1 K1
                refine wpSeq_consK fun K2 hK2 K hK => ?_
                refine wpQuiet_nil (hK _ ?_)
                clear hK K
                show wpList _ _ _ [_] _ _
                obtain ⟨p1, p2, p3⟩ := put4 hA hgr hge (.int .i64 0) (.slice A1o x1.length c1o) (.slice A2o x2.length c2o) (.slice A3o x3.length c3o)
                refine wpList_store_mid rfl _ (.tmp 6) (.tmp 38) rfl g 0 #[.int .i64 0, .slice A1o x1.length c1o, .slice A2o x2.length c2o, .slice A3o x3.length c3o] rfl rfl (there4 hA) (by kernel_rfl) (by simp [Value.oneCell']) ?_
                go_wp2_with fail
                refine hK2.out _ _ (HK _ p2) ?_
                clear hK2 K2
                refine wpSeq_nil (wpRest_K fun K hK => ?_)
                refine wpQuiet_nil (hK _ ?_)
                clear hK K
                refine wpSegs_nil ?_
                simp only [Act.put]
                go_wp2_with fail
                go_meet
                refine ⟨g, _, _, _, _, _, _, rfl, ?_, p1, p3 _ _ hv1, p3 _ _ hv2, p3 _ _ hv3, HGD.out.trans p2⟩
                rw [← hwd] at hge; exact hge
  case rest =>
    obtain ⟨g, B1, B2, B3, e1, e2, e3, rfl, hge, hG, hv1, hv2, hv3, hgr⟩ := hcut
    have hbT : B ≤ wc.drew.heap.size := Nat.le_trans hBw (Nat.le_trans HG0.out.size hgr.size)
    have hX := (HT0.out.grows hgr).grows ((Grows.refl wc).drew)
    have hM := hX.moved hbT i x y
    have hth := hX.there hbT i
    have hc3 := hX.blk.cell 3
    simp only [List.getElem?_toArray, List.getElem?_cons_succ, List.getElem?_cons_zero] at hc3
    have hf3 := hX.blk.frozen 3
    have hgT : g ≠ T := hG.ne_ (HT0.out.grows hgr).blk (by decide)
    have hG2 : Blk ((wc.drew.setCell ⟨T, 3, none⟩ (.int .i64 i)).setCells T 4 [.int .i64 x, .int .i64 y]) g 36 #[.int .i64 0, .slice B1 x1.length e1, .slice B2 x2.length e2, .slice B3 x3.length e3] := ((hG.drew.far hgT _).far hgT _).far hgT _
    have hu1 := hM.2.owns (hv1.grows ((Grows.refl wc).drew))
    have hu2 := hM.2.owns (hv2.grows ((Grows.refl wc).drew))
    have hu3 := hM.2.owns (hv3.grows ((Grows.refl wc).drew))
    have hTu : Turn B w wc.drew := Turn.of_grows ((HG0.out.trans hgr).drew) hBw
    have hrl := (own_grows HR.out ((HG0.out.trans hgr).drew)).lt
    have hrv : v.ownBlock ≠ some g := fun he => by
      have := ((own_grows HR.out HG0.out).lt g he).2
      omega
    have hzz : g < wc.heap.size := hG.lt
    have hBg : B ≤ g := Nat.le_trans hBw (Nat.le_trans HG0.out.size hge)
    have HF := Lib.hid (⟨hM.1, hTu.trans hM.2, hG2, hu1, hu2, hu3, Nat.lt_of_lt_of_le (show g < wc.drew.heap.size from hzz) hM.2.size⟩ : TX ((wc.drew.setCell ⟨T, 3, none⟩ (.int .i64 i)).setCells T 4 [.int .i64 x, .int .i64 y]) B T (.slice A1 na ca) (.slice A2 nb cb) (.slice A3 nc cc) i x y v out ∧ Turn B w ((wc.drew.setCell ⟨T, 3, none⟩ (.int .i64 i)).setCells T 4 [.int .i64 x, .int .i64 y]) ∧
      Blk ((wc.drew.setCell ⟨T, 3, none⟩ (.int .i64 i)).setCells T 4 [.int .i64 x, .int .i64 y]) g 36 #[.int .i64 0, .slice B1 x1.length e1, .slice B2 x2.length e2, .slice B3 x3.length e3] ∧ OwnS ((wc.drew.setCell ⟨T, 3, none⟩ (.int .i64 i)).setCells T 4 [.int .i64 x, .int .i64 y]) (.slice B1 x1.length e1) x1 ∧ OwnS ((wc.drew.setCell ⟨T, 3, none⟩ (.int .i64 i)).setCells T 4 [.int .i64 x, .int .i64 y]) (.slice B2 x2.length e2) x2 ∧ OwnS ((wc.drew.setCell ⟨T, 3, none⟩ (.int .i64 i)).setCells T 4 [.int .i64 x, .int .i64 y]) (.slice B3 x3.length e3) x3 ∧ g < ((wc.drew.setCell ⟨T, 3, none⟩ (.int .i64 i)).setCells T 4 [.int .i64 x, .int .i64 y]).heap.size)
    obtain ⟨S, hS⟩ : ∃ S : World → Prop, S = fun w' => Blk w' bx 116 #[.int .i64 x, .int .i64 y] := ⟨_, rfl⟩
    have hSb : ∀ s : SW S, Blk s.w bx 116 #[.int .i64 x, .int .i64 y] := fun s => by
      have := s.ok
      subst hS
      exact this
    have hS6 : ∀ s : SW S, s.w.cell? ⟨bx, 0, none⟩ = some (.int .i64 x) := fun s => (hSb s).cell 0
    have hS7 : ∀ s : SW S, s.w.cell? ⟨bx, 1, none⟩ = some (.int .i64 y) := fun s => (hSb s).cell 1
    have hSi : ∀ w', Blk w' bx 116 #[.int .i64 x, .int .i64 y] → S w' := by rw [hS]; exact fun _ h => h
    have hbw := (hbox0.grows hgr).drew
    have hSS : S wc.drew := hSi _ hbw
    have hbT2 : bx ≠ T := hbw.ne_ hX.blk (by decide)
    have hk6 := hSi _ (hbw.far (p := ⟨T, 3, none⟩) hbT2 (.int .i64 i))
    have hk9 : S ((wc.drew.setCell ⟨T, 3, none⟩ (.int .i64 i)).setCells T 4 [.int .i64 x, .int .i64 y]) := hSi _ (((hbw.far hbT2 _).far hbT2 _).far hbT2 _)
    clear hSb hS hM hG2 hu1 hu2 hu3 hTu hX hv1 hv2 hv3 hG hbw hSi hge hgr hrl R1 R2 R3 hbox0
    haveI : Nonempty (SW S) := ⟨⟨_, hSS⟩⟩
    go_wp2_with fail
    refine wp_region_seq S [([0, 1, 2, 3, 4, 5], 6), ([7, 8], 9)] [] [] (by kernel_rfl) (fun _ _ _ _ _ h => h) (by kernel_rfl) hSS ?_
    simp only [pickS, pickT, pickL, List.map_cons, List.map_nil, List.filterMap_cons, List.filterMap_nil, List.getElem?_cons_zero, List.getElem?_cons_succ]
    refine wpSeq_consK fun K2 hK2 K hK => ?_
    repeat (show wpQuiet _ _ _ _ (_ :: _) _; go_big_quiet_step (fail))
    refine wpQuiet_nil (hK _ ?_)
    clear hK K
    show wpList _ _ _ [_] _ _
    go_wp2_with fail
    refine hK2.out _ _ hk6 ?_
    clear hK2 K2
    refine wpSeq_consK fun K2 hK2 K hK => ?_
    repeat (show wpQuiet _ _ _ _ (_ :: _) _; go_big_quiet_step (fail))
    refine wpQuiet_nil (hK _ ?_)
    clear hK K
    show wpList _ _ _ [_] _ _
    refine wpList_store_mid rfl _ (.tmp 46) (.tmp 42) rfl T 4 #[.int .i64 x, .int .i64 y] rfl rfl hth (by kernel_rfl) (by simp [Value.oneCell']) ?_
    go_wp2_with fail
    refine hK2.out _ _ hk9 ?_
    clear hK2 K2
    refine wpSeq_nil (wpRest_K fun K hK => ?_)
    refine wpQuiet_nil (hK _ ?_)
    clear hK K
    refine wpSegs_nil ?_
    simp only [Act.put]
    generalize hw3 : ((wc.setCell ⟨T, 3, none⟩ (.int .i64 i)).drew.setCells T 4 [.int .i64 x, .int .i64 y]) = w3
    have HF3 : TX w3 B T (.slice A1 na ca) (.slice A2 nb cb) (.slice A3 nc cc) i x y v out ∧ Turn B w w3 ∧ Blk w3 g 36 #[.int .i64 0, .slice B1 x1.length e1, .slice B2 x2.length e2, .slice B3 x3.length e3] ∧ OwnS w3 (.slice B1 x1.length e1) x1 ∧ OwnS w3 (.slice B2 x2.length e2) x2 ∧ OwnS w3 (.slice B3 x3.length e3) x3 ∧ g < w3.heap.size := by rw [← hw3]; exact HF.out
    clear HF hw3 hth hc3 hf3 hk6 hk9 hS6 hS7 hSS this
    clear S
    obtain ⟨hX, hTu, hG, hv1, hv2, hv3, hgl⟩ := HF3
    have hB3 : B ≤ w3.heap.size := Nat.le_trans hBw hTu.size
    have hg0 := hG.cell 0
    have hg1 := hG.cell 1
    have hg2 := hG.cell 2
    have hg3 := hG.cell 3
    simp only [List.getElem?_toArray, List.getElem?_cons_succ, List.getElem?_cons_zero] at hg0 hg1 hg2 hg3
    have l1 : ((x1.length : Nat) : Int) ≤ 450 := by rw [HL1.out]; omega
    have l2 : ((x2.length : Nat) : Int) ≤ 450 := by rw [HL2.out]; omega
    have l3 : ((x3.length : Nat) : Int) ≤ 450 := by rw [HL3.out]; omega
    have k1 : (0 : Int) ≤ (x1.length : Nat) := by omega
    have k2 : (0 : Int) ≤ (x2.length : Nat) := by omega
    have k3 : (0 : Int) ≤ (x3.length : Nat) := by omega
    clear HL1 HL2 HL3
    have HX := Lib.hid hX
    have HTU := Lib.hid hTu
    have HGB := Lib.hid hG
    have V1 := Lib.hid hv1
    have V2 := Lib.hid hv2
    have V3 := Lib.hid hv3
    clear hX hTu hG hv1 hv2 hv3
    by_cases hz : x1.length + x2.length + x3.length = 0
    · have hgt : ¬ (((x1.length : Nat) : Int) + (x2.length : Nat) + (x3.length : Nat) > 0) := by omega
      have HPC := Lib.hid (show pieceC x1 x2 x3 = [] by unfold pieceC; rw [if_pos hz])
      clear hz
      go_wp2_with fail
      go_end0
      rw [← HX1.out, ← HX2.out, ← HX3.out, HPC.out, List.append_nil]
      exact ⟨⟨_, rfl⟩, ⟨_, HX.out⟩, HTU.out⟩
    · have hgt : ((x1.length : Nat) : Int) + (x2.length : Nat) + (x3.length : Nat) > 0 := by omega
      have HPC := Lib.hid (show pieceC x1 x2 x3 = [(knd x1 x2 x3, x1, x2, x3)] by unfold pieceC; rw [if_neg hz])
      clear hz
      go_wp2_with fail
      refine (kind_any w3.heap.size 0 B1 B2 B3 x1.length x2.length x3.length e1 e2 e3 x1 x2 x3 w3 V1.out.reads V2.out.reads V3.out.reads (Nat.le_refl _) (by omega) (by omega)).mono ?_
      rintro e w4 ⟨rfl, hgk⟩
      obtain ⟨kd, hkd⟩ : ∃ kd, kd = knd x1 x2 x3 := ⟨_, rfl⟩
      rw [← hkd] at HPC ⊢
      clear hkd hg0 hg1 hg2 hg3
      have hX4 := HX.out.grows hgk
      have hG4 := HGB.out.grows hgk
      have hg0 := hG4.cell 0
      simp only [List.getElem?_toArray, List.getElem?_cons_zero] at hg0
      have hgf := hG4.frozen 0
      have hG5 := hG4.set_ 0 (.int .i64 kd)
      go_wp2_with fail
      have hgs := grown_setCell w4 ⟨g, 0, none⟩ (.int .i64 kd)
      have hTg : T ≠ g := Ne.symm hgT
      have hB4 : B ≤ w4.heap.size := Nat.le_trans hB3 hgk.size
      have hT5 := hX4.blk.far (p := ⟨g, 0, none⟩) hTg (.int .i64 kd)
      obtain ⟨xr5, hrow4, hpar4⟩ := hX4.row
      have hrow5 := World.ownsRow.kept hrow4 hgs (.inr hrv)
      have hpar5 := Parts.mono (fun u ys h => h.kept hgs (own_blk_ne h hG4 (by decide))) hpar4
      have hv1 := (V1.out.grows hgk).kept hgs (own_blk_ne (V1.out.grows hgk) hG4 (by decide))
      have hv2 := (V2.out.grows hgk).kept hgs (own_blk_ne (V2.out.grows hgk) hG4 (by decide))
      have hv3 := (V3.out.grows hgk).kept hgs (own_blk_ne (V3.out.grows hgk) hG4 (by decide))
      have hTu := HTU.out.trans ((Turn.of_grows hgk hB3).trans (Turn.of_row hgs hB4 (fun k hk => by cases hk; exact ⟨hBg, _, _, _, hG4, .inr rfl⟩)))
      have hG6 : Blk (w4.setCell ⟨g, 0, none⟩ (.int .i64 kd)) g 36 #[.int .i64 kd, .slice B1 x1.length e1, .slice B2 x2.length e2, .slice B3 x3.length e3] := hG5
      have hB5 : B ≤ (w4.setCell ⟨g, 0, none⟩ (.int .i64 kd)).heap.size := Nat.le_trans hB4 hgs.size
      clear hgs hG5 hrow4 hpar4 hg0 hgf hX4 hG4 hgk V1 V2 V3 HTU HGB HX
      generalize w4.setCell ⟨g, 0, none⟩ (.int .i64 kd) = w5 at hT5 hrow5 hpar5 hv1 hv2 hv3 hTu hG6 hB5 ⊢
      obtain ⟨S, hS⟩ : ∃ S : World → Prop, S = fun w' => Blk w' T 121 #[.slice A1 na ca, .slice A2 nb cb, .slice A3 nc cc, .int .i64 i, .int .i64 x, .int .i64 y, v] ∧ Blk w' g 36 #[.int .i64 kd, .slice B1 x1.length e1, .slice B2 x2.length e2, .slice B3 x3.length e3] := ⟨_, rfl⟩
      have hSb : ∀ s : SW S, Blk s.w T 121 #[.slice A1 na ca, .slice A2 nb cb, .slice A3 nc cc, .int .i64 i, .int .i64 x, .int .i64 y, v] ∧ Blk s.w g 36 #[.int .i64 kd, .slice B1 x1.length e1, .slice B2 x2.length e2, .slice B3 x3.length e3] := fun s => by
        have := s.ok
        subst hS
        exact this
      have hS6 : ∀ s : SW S, s.w.cell? ⟨T, 6, none⟩ = some v := fun s => (hSb s).1.cell 6
      have hSg0 : ∀ s : SW S, s.w.cell? ⟨g, 0, none⟩ = some (.int .i64 kd) := fun s => (hSb s).2.cell 0
      have hSg1 : ∀ s : SW S, s.w.cell? ⟨g, 1, none⟩ = some (.slice B1 x1.length e1) := fun s => (hSb s).2.cell 1
      have hSg2 : ∀ s : SW S, s.w.cell? ⟨g, 2, none⟩ = some (.slice B2 x2.length e2) := fun s => (hSb s).2.cell 2
      have hSg3 : ∀ s : SW S, s.w.cell? ⟨g, 3, none⟩ = some (.slice B3 x3.length e3) := fun s => (hSb s).2.cell 3
      have hSi : ∀ w', Blk w' T 121 #[.slice A1 na ca, .slice A2 nb cb, .slice A3 nc cc, .int .i64 i, .int .i64 x, .int .i64 y, v] → Blk w' g 36 #[.int .i64 kd, .slice B1 x1.length e1, .slice B2 x2.length e2, .slice B3 x3.length e3] → S w' := by rw [hS]; exact fun _ h h' => ⟨h, h'⟩
      have hSS : S w5.drew := hSi _ hT5.drew hG6.drew
      clear hSb hS
      haveI : Nonempty (SW S) := ⟨⟨_, hSS⟩⟩
      refine wp_region_seq S [([0, 1, 2, 3, 4, 5], 6), ([], 7)] [] [([], [8, 9, 10])] (by kernel_rfl) (fun _ _ _ _ _ h => h) (by kernel_rfl) hSS ?_
      simp only [pickS, pickT, pickL, List.map_cons, List.map_nil, List.filterMap_cons, List.filterMap_nil, List.getElem?_cons_zero, List.getElem?_cons_succ]
      refine wpSeq_consK fun K2 hK2 K hK => ?_
      repeat (show wpQuiet _ _ _ _ (_ :: _) _; go_big_quiet_step (fail))
      refine wpQuiet_nil (hK _ ?_)
      clear hK K
      show wpList _ _ _ [_] _ _
      go_wp2_with fail
      have hgd : Grows w5 (w5.alloc (.cells #[.int .i64 kd, .slice B1 x1.length e1, .slice B2 x2.length e2, .slice B3 x3.length e3] 36)).drew := ((Grows.refl w5).alloc _).drew
      have hnews : ∀ j u, [Value.int .i64 kd, .slice B1 x1.length e1, .slice B2 x2.length e2, .slice B3 x3.length e3][j]? = some u → (w5.alloc (.cells #[.int .i64 kd, .slice B1 x1.length e1, .slice B2 x2.length e2, .slice B3 x3.length e3] 36)).drew.cell? (Addr.add ⟨w5.heap.size, 0, none⟩ j) = some u := cell_four_new w5 (.int .i64 kd) (.slice B1 x1.length e1) (.slice B2 x2.length e2) (.slice B3 x3.length e3) 36
      have hT6 := hT5.grows hgd
      have hG7 := hG6.grows hgd
      have hrow6 := own_grows hrow5 hgd
      have hpar6 := Parts.mono (fun u ys h => h.grows hgd) hpar5
      have hv1' := hv1.grows hgd
      have hv2' := hv2.grows hgd
      have hv3' := hv3.grows hgd
      have hB6 := Nat.le_trans hB5 hgd.size
      have hTu6 := hTu.trans (Turn.of_grows hgd hB5)
      clear hgd hT5 hG6 hrow5 hpar5 hv1 hv2 hv3 hTu
      generalize (w5.alloc (.cells #[.int .i64 kd, .slice B1 x1.length e1, .slice B2 x2.length e2, .slice B3 x3.length e3] 36)).drew = w6 at hnews hT6 hG7 hrow6 hpar6 hv1' hv2' hv3' hB6 hTu6 ⊢
      refine hK2.out _ _ (hSi _ hT6 hG7) ?_
      clear hK2 K2
      refine wpSeq_consK fun K2 hK2 K hK => ?_
      refine wpQuiet_nil (hK _ ?_)
      clear hK K
      show wpList _ _ _ [_] _ _
      go_wp2_with (at_builtin; refine wpList_append_own _ rfl (.tmp 66) (.tmp 68) _ rfl B 36 t1 _ 4 80 Tryd.underlying30 hj0 hy0 hy1 hy2 rfl (by decide) v out.length xr5 rfl hrow6 ⟨_, 0, none⟩ 1 1 [.int .i64 kd, .slice B1 x1.length e1, .slice B2 x2.length e2, .slice B3 x3.length e3] rfl rfl hnews (by intro u hu; simp at hu; rcases hu with rfl | rfl | rfl | rfl <;> rfl) (by simp only [maxLen]; omega) (by omega) hB6 ?_; intro v' w7 hrow7 hgb7 _)
      have hT7 := Blk.grown hT6 hgb7 (Ne.symm (own_blk_ne hrow6 hT6 (by decide)))
      have hG8 := Blk.grown hG7 hgb7 (Ne.symm hrv)
      have hP7 : Parts w7 (out ++ [(kd, x1, x2, x3)]) (xr5 ++ [.int .i64 kd, .slice B1 x1.length e1, .slice B2 x2.length e2, .slice B3 x3.length e3]) := Parts.app (Parts.mono (fun u ys h => h.beside hrow6 (by decide) hgb7) hpar6) (Parts.one (hv1'.beside hrow6 (by decide) hgb7) (hv2'.beside hrow6 (by decide) hgb7) (hv3'.beside hrow6 (by decide) hgb7))
      have hTu7 := hTu6.trans (Turn.of_row hgb7 hB6 (own_isRow hrow6 (.inr rfl)))
      have hB7 := Nat.le_trans hB6 hgb7.size
      obtain ⟨A9, c9, rfl, hc9, hc9M⟩ := own_form hrow7
      refine hK2.out _ _ (hSi _ hT7 hG8) ?_
      clear hK2 K2
      refine wpSeq_nil (wpRest_K fun K hK => ?_)
      refine wpQuiet_nil (hK _ ?_)
      clear hK K
      refine wpSegs_consK fun K2 hK2 K hK => ?_
      refine wpQuiet_nil (hK _ ?_)
      clear hK K
      show wpList _ _ _ [_, _, _] _ _
      have hblk5 := hT7.set_ 6 (.slice A9 (out.length + 1) c9)
      have hfz := hT7.frozen 6
      have hcl := hT7.cell 6
      simp only [List.getElem?_toArray, List.getElem?_cons_succ, List.getElem?_cons_zero] at hcl
      have hg6 := grown_setCell w7 ⟨T, 6, none⟩ (.slice A9 (out.length + 1) c9)
      have HE := Lib.hid (⟨⟨HB, hblk5, _, by rw [HPC.out, List.length_append]; exact World.ownsRow.kept hrow7 hg6 (.inr (own_blk_ne hrow7 hT7 (by decide))), by rw [HPC.out]; exact Parts.mono (fun u ys h => h.kept hg6 (own_blk_ne h hT7 (by decide))) hP7⟩, hTu7.trans (Turn.of_row hg6 hB7 (fun k hk => by cases hk; exact ⟨HB, _, _, _, hT7, .inl rfl⟩))⟩ : TX (w7.setCell ⟨T, 6, none⟩ (.slice A9 (out.length + 1) c9)) B T (.slice A1 na ca) (.slice A2 nb cb) (.slice A3 nc cc) i x y (.slice A9 (out.length + 1) c9) (out ++ pieceC x1 x2 x3) ∧ Turn B w (w7.setCell ⟨T, 6, none⟩ (.slice A9 (out.length + 1) c9)))
      clear hblk5 hg6 hP7 hTu7 hrow7 hT7 hG8 hgb7 hrow6 hpar6 hv1' hv2' hv3' hTu6
      go_wp2_with fail
      refine hK2.out _ _ (wpSegs_nil ?_)
      clear hK2 K2
      go_wp2_with fail
      go_end0
      rw [← HX1.out, ← HX2.out, ← HX3.out]
      exact ⟨⟨_, rfl⟩, ⟨_, HE.out.1⟩, HE.out.2⟩

end Go.Proofs.YtakgddochbcjbaaDoor
