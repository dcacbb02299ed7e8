/- The document's chunk of what stands in all three. -/
import Derived.Test.YtakgddochbcjbaaDoorPkDiffSame
import Derived.Deep.CutBlock
import Derived.Deep.DeepCutAuto
namespace Go.Proofs.YtakgddochbcjbaaDoor
open Go.RowKit Go.Deep Go.MapKept

theorem plainS_v (v : Bool) (B B' : Nat) (A A' : Option Addr) (n n' c c' : Nat) (xs ys : List ByteArray) (w : World) (hv : eqS xs ys = v) (hx : Reads w B 1 A n (strs xs)) (hy : Reads w B' 1 A' n' (strs ys)) (hn : n ≤ 1000000000000) :
    Calls Tryd.prog 51 #[.slice A n c, .slice A' n' c'] w fun e w' => e = .returned (.bool v) ∧ ∃ m, w' = w.drewN m := by
  subst hv
  exact plainS_any B B' A A' n n' c c' xs ys w hx hy hn

set_option maxRecDepth 100000 in
set_option maxHeartbeats 4000000 in
theorem between_any (B : Nat) (A1 A2 A3 : Option Addr) (n1 n2 n3 c1 c2 c3 : Nat) (x1 x2 x3 : List ByteArray) (w : World) (h1 : Reads w B 1 A1 n1 (strs x1)) (h2 : Reads w B 1 A2 n2 (strs x2)) (h3 : Reads w B 1 A3 n3 (strs x3)) (hB : B ≤ w.heap.size) (l1 : n1 ≤ 1000) (l2 : n2 ≤ 1000) (l3 : n3 ≤ 1000) :
    Calls Tryd.prog 59 #[.slice A1 n1 c1, .slice A2 n2 c2, .slice A3 n3 c3] w fun e w' => ∃ (k : Int) (E1 E2 E3 : Option Addr) (d1 d2 d3 : Nat), e = .returned (.tuple #[.agg #[.int .i64 k, .slice E1 n1 d1, .slice E2 n2 d2, .slice E3 n3 d3], .bool (decide (¬ (n1 + n2 + n3 = 0)))]) ∧
      (¬ n1 + n2 + n3 = 0 → k = knd x1 x2 x3) ∧ OwnS w' (.slice E1 n1 d1) x1 ∧ OwnS w' (.slice E2 n2 d2) x2 ∧ OwnS w' (.slice E3 n3 d3) x3 ∧ Grows w w' := by
  obtain ⟨s0, hs0, hs1, hs2, hs3⟩ := info_parts Tryd.infoStr
  have L1 := Lib.hid h1.strLen
  have L2 := Lib.hid h2.strLen
  have L3 := Lib.hid h3.strLen
  have H1 := Lib.hid h1
  have H2 := Lib.hid h2
  have H3 := Lib.hid h3
  clear h1 h2 h3
  go_enter Tryd.func59, Tryd.ntmps59
  go_upto_region 1 with fail
  have hg0 : Grows w (w.alloc (.cells #[.int .i64 0, .slice none 0 0, .slice none 0 0, .slice none 0 0] 36)) := (Grows.refl w).alloc _
  have hb0 := Blk.new w 36 #[.int .i64 0, .slice none 0 0, .slice none 0 0, .slice none 0 0]
  have R1 := Lib.hid (H1.out.grows hB hg0)
  have R2 := Lib.hid (H2.out.grows hB hg0)
  have R3 := Lib.hid (H3.out.grows hB hg0)
  have hB1 := Nat.le_trans hB hg0.size
  obtain ⟨r, hr⟩ : ∃ r, r = w.heap.size := ⟨_, rfl⟩
  rw [← hr] at hb0 ⊢
  have hge : w.heap.size ≤ r := Nat.le_of_eq hr.symm
  clear hr H1 H2 H3
  generalize w.alloc (.cells #[.int .i64 0, .slice none 0 0, .slice none 0 0, .slice none 0 0] 36) = w1 at hg0 hb0 R1 R2 R3 hB1 ⊢
  go_upto_block 0 with (first | (at_builtin; refine wpList_append_any _ rfl (.const (.slice none 0 0)) (.tmp 9) _ rfl w1.heap.size 9 s0 _ 1 16 Tryd.underlying28 hs0 hs1 hs2 hs3 rfl (by decide) _ _ _ rfl (World.ownsRow_nil w1 _ _ _) _ _ _ _ _ rfl R1.out (strs_oneCell _) (by simp only [maxLen]; omega) (by omega) (Nat.le_refl _) ?_; intro v1 w2 ow1 hgb1 _; have hg1 : Grows w1 w2 := Below.grown (Grows.refl _) hgb1 (Nat.le_refl _) (fun k hk => by cases hk); rw [List.nil_append, Nat.zero_add] at ow1; obtain ⟨E1, d1, rfl, _, _⟩ := own_form ow1; have o1 : OwnS w2 (.slice E1 n1 d1) x1 := OwnS.of ow1; clear ow1 hgb1) | (at_builtin; refine wpList_append_any _ rfl (.const (.slice none 0 0)) (.tmp 11) _ rfl w2.heap.size 9 s0 _ 1 16 Tryd.underlying28 hs0 hs1 hs2 hs3 rfl (by decide) _ _ _ rfl (World.ownsRow_nil w2 _ _ _) _ _ _ _ _ rfl (R2.out.grows hB1 hg1) (strs_oneCell _) (by simp only [maxLen]; omega) (by omega) (Nat.le_refl _) ?_; intro v2 w3 ow2 hgb2 _; have hg2 : Grows w2 w3 := Below.grown (Grows.refl _) hgb2 (Nat.le_refl _) (fun k hk => by cases hk); rw [List.nil_append, Nat.zero_add] at ow2; obtain ⟨E2, d2, rfl, _, _⟩ := own_form ow2; have o2 : OwnS w3 (.slice E2 n2 d2) x2 := OwnS.of ow2; clear ow2 hgb2; replace o1 := o1.grows hg2; replace hg2 := hg1.trans hg2) | (at_builtin; refine wpList_append_any _ rfl (.const (.slice none 0 0)) (.tmp 13) _ rfl w3.heap.size 9 s0 _ 1 16 Tryd.underlying28 hs0 hs1 hs2 hs3 rfl (by decide) _ _ _ rfl (World.ownsRow_nil w3 _ _ _) _ _ _ _ _ rfl (R3.out.grows hB1 hg2) (strs_oneCell _) (by simp only [maxLen]; omega) (by omega) (Nat.le_refl _) ?_; intro v3 w4 ow3 hgb3 _; have hg3 : Grows w3 w4 := Below.grown (Grows.refl _) hgb3 (Nat.le_refl _) (fun k hk => by cases hk); rw [List.nil_append, Nat.zero_add] at ow3; obtain ⟨E3, d3, rfl, _, _⟩ := own_form ow3; have o3 : OwnS w4 (.slice E3 n3 d3) x3 := OwnS.of ow3; clear ow3 hgb3; replace o1 := o1.grows hg3; replace o2 := o2.grows hg3; replace hg3 := hg2.trans hg3))
  have hg4 : Grows w1 (w4.alloc (.cells #[.int .i64 0, .slice E1 n1 d1, .slice E2 n2 d2, .slice E3 n3 d3] 36)) := hg3.alloc _
  have hn5 := (Grows.refl w4).alloc (.cells #[.int .i64 0, .slice E1 n1 d1, .slice E2 n2 d2, .slice E3 n3 d3] 36)
  have hb5 := Blk.new w4 36 #[.int .i64 0, .slice E1 n1 d1, .slice E2 n2 d2, .slice E3 n3 d3]
  have hr5 := hb0.grows hg4
  have O1 := Lib.hid (o1.grows hn5)
  have O2 := Lib.hid (o2.grows hn5)
  have O3 := Lib.hid (o3.grows hn5)
  have hne : r ≠ w4.heap.size := fun e => by have := (hb0.grows hg3).lt; omega
  obtain ⟨q, hq⟩ : ∃ q, q = w4.heap.size := ⟨_, rfl⟩
  have hq0 : w.heap.size ≤ q := by rw [hq]; exact Nat.le_trans hg0.size hg3.size
  rw [← hq] at hb5 hne ⊢
  clear hq hn5 hg3 o1 o2 o3 hb0
  have HG5 := Lib.hid (hg0.trans hg4)
  have hz5 : w1.heap.size ≤ (w4.alloc (.cells #[.int .i64 0, .slice E1 n1 d1, .slice E2 n2 d2, .slice E3 n3 d3] 36)).heap.size := hg4.size
  have Q1 := Lib.hid (R1.out.grows hB1 hg4)
  have Q2 := Lib.hid (R2.out.grows hB1 hg4)
  have Q3 := Lib.hid (R3.out.grows hB1 hg4)
  clear R1 R2 R3 hg4
  generalize w4.alloc (.cells #[.int .i64 0, .slice E1 n1 d1, .slice E2 n2 d2, .slice E3 n3 d3] 36) = w5 at hb5 hr5 O1 O2 O3 HG5 hz5 Q1 Q2 Q3 ⊢
  have hq1 := hb5.cell 0
  have hq2 := hb5.cell 1
  have hq3 := hb5.cell 2
  have hq4 := hb5.cell 3
  simp only [List.getElem?_toArray, List.getElem?_cons_succ, List.getElem?_cons_zero] at hq1 hq2 hq3 hq4
  have hp1 := hr5.cell 0
  have hp2 := hr5.cell 1
  have hp3 := hr5.cell 2
  have hp4 := hr5.cell 3
  simp only [List.getElem?_toArray, List.getElem?_cons_succ, List.getElem?_cons_zero] at hp1 hp2 hp3 hp4
  have hf1 := hr5.frozen 0
  have hf2 := hr5.frozen 1
  have hf3 := hr5.frozen 2
  have hf4 := hr5.frozen 3
  have k1 : (0 : Int) ≤ n1 := by omega
  have k2 : (0 : Int) ≤ n2 := by omega
  have k3 : (0 : Int) ≤ n3 := by omega
  have k4 : (n1 : Int) ≤ 1000 := by omega
  have k5 : (n2 : Int) ≤ 1000 := by omega
  have k6 : (n3 : Int) ≤ 1000 := by omega
  by_cases hz : n1 + n2 + n3 = 0
  · have hzz : ((n1 : Int) + n2 + n3 == 0) = true := by simp; omega
    have HDZ := Lib.hid (show decide (¬ (n1 + n2 + n3 = 0)) = false from decide_eq_false (fun h => h hz))
    have HZ0 := Lib.hid hz
    have hr6 := hr5
    have hG6 := HG5.out
    have o1 := O1.out
    have o2 := O2.out
    have o3 := O3.out
    clear hz
    go_wp2_with fail
    obtain ⟨p1, p2, p3⟩ := put4 hr6 hG6 hge (.int .i64 0) (.slice E1 n1 d1) (.slice E2 n2 d2) (.slice E3 n3 d3)
    have f1 := p3 _ _ o1
    have f2 := p3 _ _ o2
    have f3 := p3 _ _ o3
    simp only [World.setCells, Nat.zero_add, Nat.reduceAdd] at p1 p2 f1 f2 f3
    clear p3 hr6 hG6 o1 o2 o3
    generalize (((w5.setCell ⟨r, 0, none⟩ (.int .i64 0)).setCell ⟨r, 1, none⟩ (.slice E1 n1 d1)).setCell ⟨r, 2, none⟩ (.slice E2 n2 d2)).setCell ⟨r, 3, none⟩ (.slice E3 n3 d3) = wf at p1 p2 f1 f2 f3 ⊢
    have z0 := p1.cell 0
    have z1 := p1.cell 1
    have z2 := p1.cell 2
    have z3 := p1.cell 3
    simp only [List.getElem?_toArray, List.getElem?_cons_succ, List.getElem?_cons_zero] at z0 z1 z2 z3
    (try simp only [Exit.inBlock, Exit.then])
    refine bodyPost_ret (v := .tuple #[.agg #[.int .i64 0, .slice E1 n1 d1, .slice E2 n2 d2, .slice E3 n3 d3], .bool false]) ?_ rfl ⟨0, E1, E2, E3, d1, d2, d3, by rw [HDZ.out], fun h => absurd HZ0.out h, f1, f2, f3, p2⟩
    rw [results_cell_tmp rfl]
    go_simp
  · have hzz : ((n1 : Int) + n2 + n3 == 0) = false := by simp; omega
    have HDZ := Lib.hid (show decide (¬ (n1 + n2 + n3 = 0)) = true from decide_eq_true hz)
    clear hz
    have hqf := hb5.frozen 0
    cases e1 : eqS x2 x1 with
    | true =>
      have HKN := Lib.hid (show knd x1 x2 x3 = 3 by unfold knd; rw [if_pos (eqS_iff.1 e1)])
      have HE1 := Lib.hid e1
      clear e1
      go_wp2_with fail
      refine (plainS_v true B B A2 A1 n2 n1 c2 c1 x2 x1 w5 HE1.out Q2.out Q1.out (by omega)).mono ?_
      rintro e w6 ⟨rfl, dd1, rfl⟩
      have hgs := grown_setCell (w5.drewN dd1) ⟨q, 0, none⟩ (.int .i64 3)
      have hr6 := (show Blk (w5.drewN dd1) r _ _ from hr5).far (p := ⟨q, 0, none⟩) hne (.int .i64 3)
      have hG6 : Grows w ((w5.drewN dd1).setCell ⟨q, 0, none⟩ (.int .i64 3)) := Below.grown (show Grows w (w5.drewN dd1) from HG5.out.drewN _) hgs (show Grows w (w5.drewN dd1) from HG5.out.drewN _).size (fun k hk => by cases hk; exact hq0)
      have o1 := (show OwnS (w5.drewN dd1) _ _ from O1.out).kept hgs (own_blk_ne O1.out hb5 (by decide))
      have o2 := (show OwnS (w5.drewN dd1) _ _ from O2.out).kept hgs (own_blk_ne O2.out hb5 (by decide))
      have o3 := (show OwnS (w5.drewN dd1) _ _ from O3.out).kept hgs (own_blk_ne O3.out hb5 (by decide))
      go_wp2_with fail
      obtain ⟨p1, p2, p3⟩ := put4 hr6 hG6 hge (.int .i64 3) (.slice E1 n1 d1) (.slice E2 n2 d2) (.slice E3 n3 d3)
      have f1 := p3 _ _ o1
      have f2 := p3 _ _ o2
      have f3 := p3 _ _ o3
      simp only [World.setCells, Nat.zero_add, Nat.reduceAdd] at p1 p2 f1 f2 f3
      clear p3 hr6 hG6 o1 o2 o3
      generalize (((((w5.drewN dd1).setCell ⟨q, 0, none⟩ (.int .i64 3)).setCell ⟨r, 0, none⟩ (.int .i64 3)).setCell ⟨r, 1, none⟩ (.slice E1 n1 d1)).setCell ⟨r, 2, none⟩ (.slice E2 n2 d2)).setCell ⟨r, 3, none⟩ (.slice E3 n3 d3) = wf at p1 p2 f1 f2 f3 ⊢
      have z0 := p1.cell 0
      have z1 := p1.cell 1
      have z2 := p1.cell 2
      have z3 := p1.cell 3
      simp only [List.getElem?_toArray, List.getElem?_cons_succ, List.getElem?_cons_zero] at z0 z1 z2 z3
      (try simp only [Exit.inBlock, Exit.then])
      refine bodyPost_ret (v := .tuple #[.agg #[.int .i64 3, .slice E1 n1 d1, .slice E2 n2 d2, .slice E3 n3 d3], .bool true]) ?_ rfl ⟨3, E1, E2, E3, d1, d2, d3, by rw [HDZ.out], fun _ => HKN.out.symm, f1, f2, f3, p2⟩
      rw [results_cell_tmp rfl]
      go_simp
    | false =>
      have ne1 : ¬ x2 = x1 := fun e => by rw [eqS_iff.2 e] at e1; cases e1
      have HE1 := Lib.hid e1
      clear e1
      cases e2 : eqS x3 x1 with
      | true =>
        have HKN := Lib.hid (show knd x1 x2 x3 = 2 by unfold knd; rw [if_neg ne1, if_pos (eqS_iff.1 e2)])
        have HE2 := Lib.hid e2
        clear e2 ne1
        go_wp2_with fail
        refine (plainS_v false B B A2 A1 n2 n1 c2 c1 x2 x1 w5 HE1.out Q2.out Q1.out (by omega)).mono ?_
        rintro e w6 ⟨rfl, dd1, rfl⟩
        go_wp2_with fail
        refine (plainS_v true B B A3 A1 n3 n1 c3 c1 x3 x1 (w5.drewN dd1) HE2.out (Q3.out.drewN _) (Q1.out.drewN _) (by omega)).mono ?_
        rintro e w6 ⟨rfl, dd2, rfl⟩
        have hgs := grown_setCell (w5.drewN (dd1 + dd2)) ⟨q, 0, none⟩ (.int .i64 2)
        have hr6 := (show Blk (w5.drewN (dd1 + dd2)) r _ _ from hr5).far (p := ⟨q, 0, none⟩) hne (.int .i64 2)
        have hG6 : Grows w ((w5.drewN (dd1 + dd2)).setCell ⟨q, 0, none⟩ (.int .i64 2)) := Below.grown (show Grows w (w5.drewN (dd1 + dd2)) from HG5.out.drewN _) hgs (show Grows w (w5.drewN (dd1 + dd2)) from HG5.out.drewN _).size (fun k hk => by cases hk; exact hq0)
        have o1 := (show OwnS (w5.drewN (dd1 + dd2)) _ _ from O1.out).kept hgs (own_blk_ne O1.out hb5 (by decide))
        have o2 := (show OwnS (w5.drewN (dd1 + dd2)) _ _ from O2.out).kept hgs (own_blk_ne O2.out hb5 (by decide))
        have o3 := (show OwnS (w5.drewN (dd1 + dd2)) _ _ from O3.out).kept hgs (own_blk_ne O3.out hb5 (by decide))
        go_wp2_with fail
        obtain ⟨p1, p2, p3⟩ := put4 hr6 hG6 hge (.int .i64 2) (.slice E1 n1 d1) (.slice E2 n2 d2) (.slice E3 n3 d3)
        have f1 := p3 _ _ o1
        have f2 := p3 _ _ o2
        have f3 := p3 _ _ o3
        simp only [World.setCells, Nat.zero_add, Nat.reduceAdd] at p1 p2 f1 f2 f3
        clear p3 hr6 hG6 o1 o2 o3
        generalize (((((w5.drewN (dd1 + dd2)).setCell ⟨q, 0, none⟩ (.int .i64 2)).setCell ⟨r, 0, none⟩ (.int .i64 2)).setCell ⟨r, 1, none⟩ (.slice E1 n1 d1)).setCell ⟨r, 2, none⟩ (.slice E2 n2 d2)).setCell ⟨r, 3, none⟩ (.slice E3 n3 d3) = wf at p1 p2 f1 f2 f3 ⊢
        have z0 := p1.cell 0
        have z1 := p1.cell 1
        have z2 := p1.cell 2
        have z3 := p1.cell 3
        simp only [List.getElem?_toArray, List.getElem?_cons_succ, List.getElem?_cons_zero] at z0 z1 z2 z3
        (try simp only [Exit.inBlock, Exit.then])
        refine bodyPost_ret (v := .tuple #[.agg #[.int .i64 2, .slice E1 n1 d1, .slice E2 n2 d2, .slice E3 n3 d3], .bool true]) ?_ rfl ⟨2, E1, E2, E3, d1, d2, d3, by rw [HDZ.out], fun _ => HKN.out.symm, f1, f2, f3, p2⟩
        rw [results_cell_tmp rfl]
        go_simp
      | false =>
        have ne2 : ¬ x3 = x1 := fun e => by rw [eqS_iff.2 e] at e2; cases e2
        have HE2 := Lib.hid e2
        clear e2
        cases e3 : eqS x2 x3 with
        | true =>
          have HKN := Lib.hid (show knd x1 x2 x3 = 4 by unfold knd; rw [if_neg ne1, if_neg ne2, if_pos (eqS_iff.1 e3)])
          have HE3 := Lib.hid e3
          clear e3 ne1 ne2
          go_wp2_with fail
          refine (plainS_v false B B A2 A1 n2 n1 c2 c1 x2 x1 w5 HE1.out Q2.out Q1.out (by omega)).mono ?_
          rintro e w6 ⟨rfl, dd1, rfl⟩
          go_wp2_with fail
          refine (plainS_v false B B A3 A1 n3 n1 c3 c1 x3 x1 (w5.drewN dd1) HE2.out (Q3.out.drewN _) (Q1.out.drewN _) (by omega)).mono ?_
          rintro e w6 ⟨rfl, dd2, rfl⟩
          go_wp2_with fail
          refine (plainS_v true B B A2 A3 n2 n3 c2 c3 x2 x3 (w5.drewN (dd1 + dd2)) HE3.out (Q2.out.drewN _) (Q3.out.drewN _) (by omega)).mono ?_
          rintro e w6 ⟨rfl, dd3, rfl⟩
          have hgs := grown_setCell (w5.drewN (dd1 + dd2 + dd3)) ⟨q, 0, none⟩ (.int .i64 4)
          have hr6 := (show Blk (w5.drewN (dd1 + dd2 + dd3)) r _ _ from hr5).far (p := ⟨q, 0, none⟩) hne (.int .i64 4)
          have hG6 : Grows w ((w5.drewN (dd1 + dd2 + dd3)).setCell ⟨q, 0, none⟩ (.int .i64 4)) := Below.grown (show Grows w (w5.drewN (dd1 + dd2 + dd3)) from HG5.out.drewN _) hgs (show Grows w (w5.drewN (dd1 + dd2 + dd3)) from HG5.out.drewN _).size (fun k hk => by cases hk; exact hq0)
          have o1 := (show OwnS (w5.drewN (dd1 + dd2 + dd3)) _ _ from O1.out).kept hgs (own_blk_ne O1.out hb5 (by decide))
          have o2 := (show OwnS (w5.drewN (dd1 + dd2 + dd3)) _ _ from O2.out).kept hgs (own_blk_ne O2.out hb5 (by decide))
          have o3 := (show OwnS (w5.drewN (dd1 + dd2 + dd3)) _ _ from O3.out).kept hgs (own_blk_ne O3.out hb5 (by decide))
          go_wp2_with fail
          obtain ⟨p1, p2, p3⟩ := put4 hr6 hG6 hge (.int .i64 4) (.slice E1 n1 d1) (.slice E2 n2 d2) (.slice E3 n3 d3)
          have f1 := p3 _ _ o1
          have f2 := p3 _ _ o2
          have f3 := p3 _ _ o3
          simp only [World.setCells, Nat.zero_add, Nat.reduceAdd] at p1 p2 f1 f2 f3
          clear p3 hr6 hG6 o1 o2 o3
          generalize (((((w5.drewN (dd1 + dd2 + dd3)).setCell ⟨q, 0, none⟩ (.int .i64 4)).setCell ⟨r, 0, none⟩ (.int .i64 4)).setCell ⟨r, 1, none⟩ (.slice E1 n1 d1)).setCell ⟨r, 2, none⟩ (.slice E2 n2 d2)).setCell ⟨r, 3, none⟩ (.slice E3 n3 d3) = wf at p1 p2 f1 f2 f3 ⊢
          have z0 := p1.cell 0
          have z1 := p1.cell 1
          have z2 := p1.cell 2
          have z3 := p1.cell 3
          simp only [List.getElem?_toArray, List.getElem?_cons_succ, List.getElem?_cons_zero] at z0 z1 z2 z3
          (try simp only [Exit.inBlock, Exit.then])
          refine bodyPost_ret (v := .tuple #[.agg #[.int .i64 4, .slice E1 n1 d1, .slice E2 n2 d2, .slice E3 n3 d3], .bool true]) ?_ rfl ⟨4, E1, E2, E3, d1, d2, d3, by rw [HDZ.out], fun _ => HKN.out.symm, f1, f2, f3, p2⟩
          rw [results_cell_tmp rfl]
          go_simp
        | false =>
          have ne3 : ¬ x2 = x3 := fun e => by rw [eqS_iff.2 e] at e3; cases e3
          have HKN := Lib.hid (show knd x1 x2 x3 = 5 by unfold knd; rw [if_neg ne1, if_neg ne2, if_neg ne3])
          have HE3 := Lib.hid e3
          clear e3 ne1 ne2 ne3
          go_wp2_with fail
          refine (plainS_v false B B A2 A1 n2 n1 c2 c1 x2 x1 w5 HE1.out Q2.out Q1.out (by omega)).mono ?_
          rintro e w6 ⟨rfl, dd1, rfl⟩
          go_wp2_with fail
          refine (plainS_v false B B A3 A1 n3 n1 c3 c1 x3 x1 (w5.drewN dd1) HE2.out (Q3.out.drewN _) (Q1.out.drewN _) (by omega)).mono ?_
          rintro e w6 ⟨rfl, dd2, rfl⟩
          go_wp2_with fail
          refine (plainS_v false B B A2 A3 n2 n3 c2 c3 x2 x3 (w5.drewN (dd1 + dd2)) HE3.out (Q2.out.drewN _) (Q3.out.drewN _) (by omega)).mono ?_
          rintro e w6 ⟨rfl, dd3, rfl⟩
          have hgs := grown_setCell (w5.drewN (dd1 + dd2 + dd3)) ⟨q, 0, none⟩ (.int .i64 5)
          have hr6 := (show Blk (w5.drewN (dd1 + dd2 + dd3)) r _ _ from hr5).far (p := ⟨q, 0, none⟩) hne (.int .i64 5)
          have hG6 : Grows w ((w5.drewN (dd1 + dd2 + dd3)).setCell ⟨q, 0, none⟩ (.int .i64 5)) := Below.grown (show Grows w (w5.drewN (dd1 + dd2 + dd3)) from HG5.out.drewN _) hgs (show Grows w (w5.drewN (dd1 + dd2 + dd3)) from HG5.out.drewN _).size (fun k hk => by cases hk; exact hq0)
          have o1 := (show OwnS (w5.drewN (dd1 + dd2 + dd3)) _ _ from O1.out).kept hgs (own_blk_ne O1.out hb5 (by decide))
          have o2 := (show OwnS (w5.drewN (dd1 + dd2 + dd3)) _ _ from O2.out).kept hgs (own_blk_ne O2.out hb5 (by decide))
          have o3 := (show OwnS (w5.drewN (dd1 + dd2 + dd3)) _ _ from O3.out).kept hgs (own_blk_ne O3.out hb5 (by decide))
          go_wp2_with fail
          obtain ⟨p1, p2, p3⟩ := put4 hr6 hG6 hge (.int .i64 5) (.slice E1 n1 d1) (.slice E2 n2 d2) (.slice E3 n3 d3)
          have f1 := p3 _ _ o1
          have f2 := p3 _ _ o2
          have f3 := p3 _ _ o3
          simp only [World.setCells, Nat.zero_add, Nat.reduceAdd] at p1 p2 f1 f2 f3
          clear p3 hr6 hG6 o1 o2 o3
          generalize (((((w5.drewN (dd1 + dd2 + dd3)).setCell ⟨q, 0, none⟩ (.int .i64 5)).setCell ⟨r, 0, none⟩ (.int .i64 5)).setCell ⟨r, 1, none⟩ (.slice E1 n1 d1)).setCell ⟨r, 2, none⟩ (.slice E2 n2 d2)).setCell ⟨r, 3, none⟩ (.slice E3 n3 d3) = wf at p1 p2 f1 f2 f3 ⊢
          have z0 := p1.cell 0
          have z1 := p1.cell 1
          have z2 := p1.cell 2
          have z3 := p1.cell 3
          simp only [List.getElem?_toArray, List.getElem?_cons_succ, List.getElem?_cons_zero] at z0 z1 z2 z3
          (try simp only [Exit.inBlock, Exit.then])
          refine bodyPost_ret (v := .tuple #[.agg #[.int .i64 5, .slice E1 n1 d1, .slice E2 n2 d2, .slice E3 n3 d3], .bool true]) ?_ rfl ⟨5, E1, E2, E3, d1, d2, d3, by rw [HDZ.out], fun _ => HKN.out.symm, f1, f2, f3, p2⟩
          rw [results_cell_tmp rfl]
          go_simp

end Go.Proofs.YtakgddochbcjbaaDoor
