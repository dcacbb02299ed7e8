/- LinesTell: the walk. -/
import Derived.Test.YtmfgbkbbmeedjaaDoorLinesEnds
namespace Go.Proofs.YtmfgbkbbmeedjaaDoor
open Go.RowKit Go.Deep Go.MapKept

theorem rowS_grows {w w' : World} {g : Nat} {t : TypeId} {n : Nat} {f : Nat → Value} (h : w.rowIs g t n f) (hg : Grows w w') : w'.rowIs g t n f := h.of_block (Below.block hg g h.lt)
set_option maxRecDepth 100000 in
set_option maxHeartbeats 2000000 in
theorem ltell_any (s : ByteArray) (A1 A2 : Option Addr) (n1 c1 n2 c2 : Nat) (x1 x2 : List ByteArray) (w : World) (h1 : Reads w w.heap.size 1 A1 n1 (strs x1)) (h2 : Reads w w.heap.size 1 A2 n2 (strs x2)) (hm : MaxL w) (hb : (bl x1).flatten.length ≤ 1048576) :
    Calls Tryd.prog 8 #[.string s, .slice A1 n1 c1, .slice A2 n2 c2] w fun e w' => e = .returned (.bool true) ∧ Grows w w' := by
  have H1 := Lib.hid h1
  have H2 := Lib.hid h2
  have HB := Lib.hid hb
  clear h1 h2 hb
  by_cases g1 : 3000 < s.size
  · have k1 : (s.size : Int) > 3000 := by omega
    go_enter Tryd.func8, Tryd.ntmps8
    go_wp2_with fail
    refine (lawake_any w hm).mono ?_
    rintro e w1 ⟨rfl, hg⟩
    go_wp2_with fail
    go_ret
    exact ⟨rfl, hg⟩
  have k1 : ¬ ((s.size : Int) > 3000) := by omega
  by_cases g2 : 60 < n1
  · have k2 : (n1 : Int) > 60 := by omega
    go_enter Tryd.func8, Tryd.ntmps8
    go_wp2_with fail
    refine (lawake_any w hm).mono ?_
    rintro e w1 ⟨rfl, hg⟩
    go_wp2_with fail
    go_ret
    exact ⟨rfl, hg⟩
  have k2 : ¬ ((n1 : Int) > 60) := by omega
  by_cases g3 : 60 < n2
  · have k3 : (n2 : Int) > 60 := by omega
    go_enter Tryd.func8, Tryd.ntmps8
    go_wp2_with fail
    refine (lawake_any w hm).mono ?_
    rintro e w1 ⟨rfl, hg⟩
    go_wp2_with fail
    go_ret
    exact ⟨rfl, hg⟩
  have k3 : ¬ ((n2 : Int) > 60) := by omega
  have HL := Lib.hid H1.out.strLen
  have hnS := Lib.hid (lines_len s)
  obtain ⟨gd, hgd0⟩ : ∃ gd, goodT x1 = gd := ⟨_, rfl⟩
  obtain ⟨es, hes0⟩ : ∃ es, eqS x1 x2 = es := ⟨_, rfl⟩
  obtain ⟨jt, hjt0⟩ : ∃ jt, joinT x1 = jt := ⟨_, rfl⟩
  have HGD := Lib.hid hgd0
  have HES := Lib.hid hes0
  have HJT := Lib.hid hjt0
  clear hgd0 hes0 hjt0
  go_enter Tryd.func8, Tryd.ntmps8
  go_wp2_with fail
  refine (ownS_any w.heap.size A1 n1 c1 x1 { data := #[55, 49] } w H1.out (Nat.le_refl _) (by omega)).mono ?_
  rintro e w1 ⟨rfl, hrow, hg1⟩
  have hs1 := hg1.size
  have hlt := hrow.lt
  have HI := Lib.hid (reads_rowS hrow (fun i hi => by rw [ownCellS, if_pos hi]) HL.out (by omega))
  have HR := Lib.hid hrow
  have HG1 := Lib.hid hg1
  have G1 := Lib.hid (H1.out.grows (Nat.le_refl _) hg1)
  have G2 := Lib.hid (H2.out.grows (Nat.le_refl _) hg1)
  have hm1 := hm.grows hg1
  clear hrow hg1 H1 H2 hm
  obtain ⟨p, hp⟩ : ∃ p, w.heap.size = p := ⟨_, rfl⟩
  rw [hp] at HI HR G1 G2 hs1 hlt ⊢
  clear hp
  go_wp2_with fail
  refine (lawake_any w1 hm1).mono ?_
  rintro e w2 ⟨rfl, hg2⟩
  have hm2 := hm1.grows hg2
  clear hm1
  go_wp2_with fail
  refine (split_any s w2 hm2 (by omega)).mono ?_
  rintro e w3 ⟨v, rfl, g3', c3, rfl, _, _, hr3, hg3⟩
  have HR3 := Lib.hid hr3
  have hg3' := hg2.trans hg3
  have hm3 := hm2.grows hg3
  clear hr3 hg2 hg3 hm2
  go_wp2_with fail
  refine (rsplit_any s w3 (by omega)).mono ?_
  rintro e w4 ⟨v, rfl, hown, hg4⟩
  obtain ⟨A4, c4, rfl, _, _⟩ := own_form hown
  have HR4 := Lib.hid (Reads.of_own hown)
  have HR3' := Lib.hid (HR3.out.grows (Nat.le_refl _) hg4)
  have hg4' := hg3'.trans hg4
  have hm4 := hm3.grows hg4
  clear hown HR3 hg3' hg4 hm3
  go_wp2_with fail
  refine (plainS_yes' _ _ _ _ _ _ _ _ _ _ _ rfl HR3'.out HR4.out (by have := hnS.out; omega)).mono ?_
  rintro e w5 ⟨rfl, d, rfl⟩
  have hg5 := hg4'.drewN d
  have hm5 := hm4.drewN d
  clear HR3' HR4 hg4' hm4
  obtain ⟨w5, hw5⟩ : ∃ w5, w4.drewN d = w5 := ⟨_, rfl⟩
  rw [hw5] at hg5 hm5 ⊢
  clear hw5
  have hs5 := hg5.size
  go_wp2_with fail
  refine (join_any _ _ n1 (n1 + 3) x1 w5 (by rintro ad ⟨⟩; rfl) (HI.out.grows (by omega) hg5) (by omega) (by omega) (by omega) (by have := HB.out; omega)).mono ?_
  rw [HJT.out]
  rintro e w6 ⟨rfl, hg6⟩
  have hg6' := hg5.trans hg6
  have hs6 := hg6'.size
  clear hg5 hg6 hm5
  go_wp2_with fail
  refine (rjoin_any _ _ n1 c1 x1 w6 (G1.out.grows hs1 hg6') (by omega) (by have := HB.out; omega)).mono ?_
  rw [HJT.out]
  rintro e w' ⟨rfl, rfl⟩
  go_wp2_with fail
  refine (lsame_any _ _ _ _ n1 n2 _ _ x1 x2 w6 (HI.out.grows (by omega) hg6') (G2.out.grows hs1 hg6') (by omega)).mono ?_
  rw [HES.out]
  rintro e w7 ⟨rfl, d7, rfl⟩
  have hg7 := hg6'.drewN d7
  clear hg6'
  obtain ⟨w7, hw7⟩ : ∃ w7, w6.drewN d7 = w7 := ⟨_, rfl⟩
  rw [hw7] at hg7 ⊢
  clear hw7
  go_wp2_with fail
  refine (plainS_any _ _ _ _ n1 n2 _ _ x1 x2 w7 (G1.out.grows hs1 hg7) (G2.out.grows hs1 hg7) (by omega)).mono ?_
  rw [HES.out]
  rintro e w8 ⟨rfl, d8, rfl⟩
  have hg8 := hg7.drewN d8
  clear hg7
  obtain ⟨w8, hw8⟩ : ∃ w8, w7.drewN d8 = w8 := ⟨_, rfl⟩
  rw [hw8] at hg8 ⊢
  clear hw8
  have hs8 := hg8.size
  go_wp2_with fail
  refine (whole_any _ _ n1 _ x1 w8 (HI.out.grows (by omega) hg8) (by omega) (fun i hi => by have h1 := gs_flat (l := x1) (i := i) (by rw [HL.out]; exact hi); have h2 := HB.out; omega)).mono ?_
  rw [HGD.out]
  rintro e w' ⟨rfl, rfl⟩
  go_wp2_with fail
  refine (rwhole_any _ _ n1 c1 x1 w8 (G1.out.grows hs1 hg8) (by omega) (by omega) (by have := HB.out; omega)).mono ?_
  rw [HGD.out]
  rintro e w9 ⟨rfl, hg9⟩
  have hg9' := hg8.trans hg9
  clear hg8 hg9
  go_wp2_with fail
  refine (keptS_any _ A1 n1 c1 p x1 { data := #[55, 49] } w9 (G1.out.grows hs1 hg9') (rowS_grows HR.out hg9') (by omega)).mono ?_
  rintro e w10 ⟨rfl, d10, rfl⟩
  have hg10 := hg9'.drewN d10
  go_wp2_with fail
  go_ret
  exact ⟨rfl, HG1.out.trans hg10⟩
end Go.Proofs.YtmfgbkbbmeedjaaDoor
