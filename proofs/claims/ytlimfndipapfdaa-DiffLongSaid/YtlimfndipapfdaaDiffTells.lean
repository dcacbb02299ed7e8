/- DiffTells: the program's answers are the document's. -/
import Derived.Test.YtlimfndipapfdaaRefDiff
import Derived.Test.YtlimfndipapfdaaDiffLeads
namespace Go.Proofs.Ytlimfndipapfdaa
open Go.RowKit Go.Deep Go.MapKept

theorem row_grows {w w' : World} {g : Nat} {t : TypeId} {n : Nat} {f : Nat → Value} (h : w.rowIs g t n f) (hg : Grows w w') : w'.rowIs g t n f := h.of_block (Below.block hg g h.lt)

set_option maxHeartbeats 2000000 in
theorem dtells_any (A0 A1 A2 : Option Addr) (n0 c0 n1 c1 n2 c2 : Nat) (x0 x1 : List ByteArray) (l : List (Int × ByteArray)) (w : World) (hr0 : Reads w w.heap.size 1 A0 n0 (strs x0)) (hn0 : n0 ≤ c0) (hr1 : Reads w w.heap.size 1 A1 n1 (strs x1)) (hn1 : n1 ≤ c1) (hr2 : Reads w w.heap.size 2 A2 n2 (edCells l)) :
    Calls Try.prog 6 #[.slice A0 n0 c0, .slice A1 n1 c1, .slice A2 n2 c2] w fun e w' => e = .returned (.bool true) ∧ Grows w w' := by
  have L0 := Lib.hid hr0.strLen
  have L1 := Lib.hid hr1.strLen
  have L2 := Lib.hid hr2.edLen
  have H0 := Lib.hid hr0
  have H1 := Lib.hid hr1
  have H2 := Lib.hid hr2
  clear hr0 hr1 hr2
  go_enter Try.func6, Try.ntmps6
  by_cases hbig : 120 < n0 ∨ 120 < n1 ∨ 200 < n2
  · have hsp : (120 : Int) < n0 ∨ ¬ ((120 : Int) < n0) ∧ (120 : Int) < n1 ∨ ¬ ((120 : Int) < n0) ∧ ¬ ((120 : Int) < n1) ∧ (200 : Int) < n2 := by omega
    clear hbig
    have HSP := Lib.hid hsp
    clear hsp
    rcases HSP.out with g0 | ⟨g0, g1⟩ | ⟨g0, g1, g2⟩
    all_goals
      go_wp2_with fail
      refine (dawake_any w).mono ?_
      rintro e w1 ⟨rfl, hg⟩
      go_wp2_with fail
      go_ret
      exact ⟨rfl, hg⟩
  · have g0 : n0 ≤ 120 := by omega
    have g1 : n1 ≤ 120 := by omega
    have g2 : n2 ≤ 200 := by omega
    clear hbig
    obtain ⟨s, hs⟩ : ∃ s, script 400 x0 x1 = s := ⟨_, rfl⟩
    obtain ⟨N, hN⟩ : ∃ N, s.length = N := ⟨_, rfl⟩
    obtain ⟨C, hC⟩ : ∃ C, lcs x0 x1 = C := ⟨_, rfl⟩
    obtain ⟨D, hD⟩ : ∃ D, dst x0 x1 = D := ⟨_, rfl⟩
    obtain ⟨so, hso⟩ : ∃ so, side 2 l = so := ⟨_, rfl⟩
    obtain ⟨sn, hsn⟩ : ∃ sn, side 3 l = sn := ⟨_, rfl⟩
    obtain ⟨No, hNo⟩ : ∃ No, so.length = No := ⟨_, rfl⟩
    obtain ⟨Nn, hNn⟩ : ∃ Nn, sn.length = Nn := ⟨_, rfl⟩
    have hNl := script_len_le x0 x1
    rw [hs, hN, L0.out, L1.out] at hNl
    have hNol : No ≤ 200 := by
      have : (side 2 l).length ≤ l.length := by unfold side; rw [List.length_map]; exact List.length_filter_le _ _
      rw [hso, hNo, L2.out] at this; omega
    have hNnl : Nn ≤ 200 := by
      have : (side 3 l).length ≤ l.length := by unfold side; rw [List.length_map]; exact List.length_filter_le _ _
      rw [hsn, hNn, L2.out] at this; omega
    have E1 := Lib.hid hs
    have E2 := Lib.hid hN
    have E3 := Lib.hid hC
    have E4 := Lib.hid hD
    have E5 := Lib.hid hso
    have E6 := Lib.hid hNo
    have E7 := Lib.hid hsn
    have E8 := Lib.hid hNn
    clear hs hN hC hD hso hNo hsn hNn
    have k0 : (n0 : Int) ≤ 120 := by omega
    have k1 : (n1 : Int) ≤ 120 := by omega
    have k2 : (n2 : Int) ≤ 200 := by omega
    have q0 : n0 + 3 ≤ maxLen := by unfold maxLen; omega
    have q1 : n1 + 3 ≤ maxLen := by unfold maxLen; omega
    go_wp2_with fail
    refine (ownS_any w.heap.size A0 n0 c0 x0 { data := #[55, 49] } w H0.out (Nat.le_refl _) (by omega)).mono ?_
    rintro e w1 ⟨rfl, hrow1, hg1⟩
    have hs1 := hg1.size
    go_wp2_with fail
    refine (ownS_any w.heap.size A1 n1 c1 x1 { data := #[55, 49] } w1 (H1.out.grows (Nat.le_refl _) hg1) hs1 (by omega)).mono ?_
    rintro e w2 ⟨rfl, hrow2, hg2⟩
    have hrow1' := row_grows hrow1 hg2
    have hgw := hg1.trans hg2
    have hlt1 := hrow1'.lt
    have hlt2 := hrow2.lt
    have HI := Lib.hid (reads_rowS hrow1' (fun i hi => by rw [ownCellS, if_pos hi]) L0.out (by omega))
    have HO := Lib.hid (reads_rowS hrow2 (fun i hi => by rw [ownCellS, if_pos hi]) L1.out (by omega))
    have R1 := Lib.hid hrow1'
    have R2 := Lib.hid hrow2
    have G0 := Lib.hid (H0.out.grows (Nat.le_refl _) hgw)
    have G1 := Lib.hid (H1.out.grows (Nat.le_refl _) hgw)
    have G2 := Lib.hid (H2.out.grows (Nat.le_refl _) hgw)
    have HGW := Lib.hid hgw
    have hsw := hgw.size
    clear hrow1 hrow1' hrow2 hg1 hg2 hgw hs1 H0 H1 H2
    generalize w.heap.size = p1 at HI R1 G0 G1 G2 hsw hlt1 ⊢
    generalize w1.heap.size = p2 at HO R2 hlt2 ⊢
    go_wp2_with fail
    refine (dawake_any w2).mono ?_
    rintro e w3 ⟨rfl, hg3⟩
    go_wp2_with fail
    refine (common_v C (p1 + 1) (p2 + 1) _ _ n0 n1 (n0 + 3) (n1 + 3) x0 x1 w3 E3.out (HI.out.grows hlt1 hg3) (HO.out.grows hlt2 hg3) (Nat.le_trans hlt1 hg3.size) (Nat.le_trans hlt2 hg3.size) (by omega) (by omega) (by omega) (by omega) q0 q1).mono ?_
    rintro e w4 ⟨rfl, hg4⟩
    replace hg4 := hg3.trans hg4
    clear hg3
    go_wp2_with fail
    refine (rcommon_v C p1 p1 A0 A1 n0 n1 c0 c1 x0 x1 w4 E3.out (G0.out.grows hsw hg4) (G1.out.grows hsw hg4) (Nat.le_trans hsw hg4.size) (Nat.le_trans hsw hg4.size) (by omega) (by omega)).mono ?_
    rintro e w5 ⟨rfl, hg5⟩
    replace hg5 := hg4.trans hg5
    clear hg4
    go_wp2_with fail
    refine (script_r s N (p1 + 1) (p2 + 1) _ _ n0 n1 (n0 + 3) (n1 + 3) x0 x1 w5 E1.out E2.out (HI.out.grows hlt1 hg5) (HO.out.grows hlt2 hg5) (Nat.le_trans hlt1 hg5.size) (Nat.le_trans hlt2 hg5.size) (by omega) (by omega) (by omega) (by omega) q0 q1).mono ?_
    rintro e w6 ⟨Aa, ba, rfl, hba, hra, hg6⟩
    replace hg6 := hg5.trans hg6
    clear hg5 hba
    go_wp2_with fail
    refine (rscript_r s N p1 p1 A0 A1 n0 n1 c0 c1 x0 x1 w6 E1.out E2.out (G0.out.grows hsw hg6) (G1.out.grows hsw hg6) (Nat.le_trans hsw hg6.size) (Nat.le_trans hsw hg6.size) (by omega) (by omega) hn0 hn1).mono ?_
    rintro e w7 ⟨Ab, bb, rfl, hbb, hrb, hg7⟩
    have hra7 := hra.grows (Nat.le_refl _) hg7
    have hs7 := hg7.size
    replace hg7 := hg6.trans hg7
    clear hg6 hbb hra
    go_wp2_with fail
    refine (plainE_eq w6.heap.size w7.heap.size Aa Ab N N ba bb s w7 hra7 hrb hs7 (Nat.le_refl _) (by omega)).mono ?_
    rintro e w8 ⟨rfl, hg8⟩
    replace hg8 := hg7.trans hg8
    clear hg7 hra7 hrb hs7
    go_wp2_with fail
    refine (dist_any D (p1 + 1) (p2 + 1) _ _ n0 n1 (n0 + 3) (n1 + 3) x0 x1 w8 E4.out (HI.out.grows hlt1 hg8) (HO.out.grows hlt2 hg8) (Nat.le_trans hlt1 hg8.size) (Nat.le_trans hlt2 hg8.size) (by omega) (by omega) (by omega) (by omega) q0 q1).mono ?_
    rintro e w9 ⟨rfl, hg9⟩
    replace hg9 := hg8.trans hg9
    clear hg8
    go_wp2_with fail
    refine (rdist_v D p1 p1 A0 A1 n0 n1 c0 c1 x0 x1 w9 E4.out (G0.out.grows hsw hg9) (G1.out.grows hsw hg9) (Nat.le_trans hsw hg9.size) (Nat.le_trans hsw hg9.size) (by omega) (by omega) hn0 hn1).mono ?_
    rintro e w10 ⟨rfl, hg10⟩
    replace hg10 := hg9.trans hg10
    clear hg9
    go_wp2_with fail
    refine (old_r so No p1 A2 n2 c2 l w10 E5.out E6.out (G2.out.grows hsw hg10) (Nat.le_trans hsw hg10.size) (by omega)).mono ?_
    rintro e w11 ⟨Aa, ba, rfl, hba, hra, hg11⟩
    replace hg11 := hg10.trans hg11
    clear hg10 hba
    go_wp2_with fail
    refine (rold_r so No p1 A2 n2 c2 l w11 E5.out E6.out (G2.out.grows hsw hg11) (Nat.le_trans hsw hg11.size) (by omega)).mono ?_
    rintro e w12 ⟨Ab, bb, rfl, hbb, hrb, hg12⟩
    have hra2 := hra.grows (Nat.le_refl _) hg12
    replace hg12 := hg11.trans hg12
    clear hg11 hbb hra
    go_wp2_with fail
    refine (plainS_eq w11.heap.size w12.heap.size Aa Ab No No ba bb so w12 hra2 hrb (by omega)).mono ?_
    rintro e w13 ⟨rfl, d13, rfl⟩
    have hg13 := hg12.drewN d13
    clear hg12 hra2 hrb
    generalize w12.drewN d13 = w13 at hg13 ⊢
    go_wp2_with fail
    refine (new_r sn Nn p1 A2 n2 c2 l w13 E7.out E8.out (G2.out.grows hsw hg13) (Nat.le_trans hsw hg13.size) (by omega)).mono ?_
    rintro e w14 ⟨Aa, ba, rfl, hba, hra, hg14⟩
    replace hg14 := hg13.trans hg14
    clear hg13 hba
    go_wp2_with fail
    refine (rnew_r sn Nn p1 A2 n2 c2 l w14 E7.out E8.out (G2.out.grows hsw hg14) (Nat.le_trans hsw hg14.size) (by omega)).mono ?_
    rintro e w15 ⟨Ab, bb, rfl, hbb, hrb, hg15⟩
    have hra2 := hra.grows (Nat.le_refl _) hg15
    replace hg15 := hg14.trans hg15
    clear hg14 hbb hra
    go_wp2_with fail
    refine (plainS_eq w14.heap.size w15.heap.size Aa Ab Nn Nn ba bb sn w15 hra2 hrb (by omega)).mono ?_
    rintro e w16 ⟨rfl, d16, rfl⟩
    have hg16 := hg15.drewN d16
    clear hg15 hra2 hrb
    generalize w15.drewN d16 = w16 at hg16 ⊢
    go_wp2_with fail
    refine (keptS_any p1 A0 n0 c0 p1 x0 { data := #[55, 49] } w16 (G0.out.grows hsw hg16) (row_grows R1.out hg16) (by omega)).mono ?_
    rintro e w17 ⟨rfl, d17, rfl⟩
    have hg17 := hg16.drewN d17
    clear hg16
    generalize w16.drewN d17 = w17 at hg17 ⊢
    go_wp2_with fail
    refine (keptS_any p1 A1 n1 c1 p2 x1 { data := #[55, 49] } w17 (G1.out.grows hsw hg17) (row_grows R2.out hg17) (by omega)).mono ?_
    rintro e w18 ⟨rfl, d18, rfl⟩
    have hg18 := hg17.drewN d18
    go_wp2_with fail
    go_ret
    exact ⟨rfl, HGW.out.trans hg18⟩

end Go.Proofs.Ytlimfndipapfdaa
