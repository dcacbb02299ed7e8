/- ChunkApart: changes that stand apart come together. -/
import Derived.Test.YtlimfndipapfdaaChunkJoin
import Derived.Test.YtlimfndipapfdaaChunkApart
namespace Go.Proofs.Ytlimfndipapfdaa
open Go.RowKit Go.Deep Go.MapKept

set_option maxRecDepth 100000 in
set_option maxHeartbeats 8000000 in
theorem capart_any (A0 A1 A2 A3 : Option Addr) (n0 c0 n1 c1 n2 c2 n3 c3 : Nat) (a b x y : List ByteArray) (mid : ByteArray) (w : World) (hr0 : Reads w w.heap.size 1 A0 n0 (strs a)) (hr1 : Reads w w.heap.size 1 A1 n1 (strs b)) (hr2 : Reads w w.heap.size 1 A2 n2 (strs x)) (hr3 : Reads w w.heap.size 1 A3 n3 (strs y)) :
    Calls Try.prog 13 #[.slice A0 n0 c0, .slice A1 n1 c1, .slice A2 n2 c2, .slice A3 n3 c3, .string mid] w fun e w' => e = .returned (.bool true) ∧ Grows w w' := by
  have L0 := Lib.hid hr0.strLen
  have L1 := Lib.hid hr1.strLen
  have L2 := Lib.hid hr2.strLen
  have L3 := Lib.hid hr3.strLen
  have H0 := Lib.hid hr0
  have H1 := Lib.hid hr1
  have H2 := Lib.hid hr2
  have H3 := Lib.hid hr3
  clear hr0 hr1 hr2 hr3
  go_enter Try.func13, Try.ntmps13
  by_cases hfew : n0 ≤ 60 ∧ n1 ≤ 60
  · have HD := Lib.hid (show decide (n0 ≤ 60 ∧ n1 ≤ 60 ∧ 0 ≤ 60) = true from decide_eq_true ⟨hfew.1, hfew.2, by omega⟩)
    obtain ⟨g0, g1⟩ := hfew
    by_cases hbig : 20 < n2 ∨ 20 < n3 ∨ 50 < mid.size
    · have hsp : (20 : Int) < n2 ∨ ¬ ((20 : Int) < n2) ∧ (20 : Int) < n3 ∨ ¬ ((20 : Int) < n2) ∧ ¬ ((20 : Int) < n3) ∧ (50 : Int) < mid.size := by omega
      clear hbig
      have HSP := Lib.hid hsp
      clear hsp
      rcases HSP.out with e0 | ⟨e0, e1⟩ | ⟨e0, e1, e2⟩
      all_goals
        go_wp2_with fail
        refine (few_v true A0 A1 none n0 n1 0 c0 c1 0 w HD.out).mono ?_
        rintro e _ ⟨rfl, rfl⟩
        go_wp2_with fail
        refine (cawake_any w).mono ?_
        rintro e w1 ⟨rfl, hg⟩
        go_wp2_with fail
        go_ret
        exact ⟨rfl, hg⟩
    · have g2 : n2 ≤ 20 := by omega
      have g3 : n3 ≤ 20 := by omega
      have g4 : mid.size ≤ 50 := by omega
      have e0 : ¬ ((20 : Int) < n2) := by omega
      have e1 : ¬ ((20 : Int) < n3) := by omega
      have e2 : ¬ ((50 : Int) < mid.size) := by omega
      clear hbig
      go_wp2_with fail
      refine (few_v true A0 A1 none n0 n1 0 c0 c1 0 w HD.out).mono ?_
      rintro e _ ⟨rfl, rfl⟩
      go_wp2_with fail
      have hga : Grows w (w.alloc (.cells #[.string (mid ++ { data := #[35] })] 9)) := (Grows.refl w).alloc _
      have hsc : (w.alloc (.cells #[.string (mid ++ { data := #[35] })] 9)).cell? ⟨w.heap.size, 0, none⟩ = some (.string (mid ++ { data := #[35] })) := cell_of_row _ w.heap.size 0 _ _ _ (heap_alloc_new w _)
      have hsl : w.heap.size < (w.alloc (.cells #[.string (mid ++ { data := #[35] })] 9)).heap.size := by simp
      generalize hw1 : w.alloc (.cells #[.string (mid ++ { data := #[35] })] 9) = w1 at hga hsc hsl ⊢
      clear hw1
      obtain ⟨sep, hsep⟩ : ∃ sep, sep = mid ++ ({ data := #[35] } : ByteArray) := ⟨_, rfl⟩
      rw [← hsep] at hsc ⊢
      have HSEP := Lib.hid hsep
      clear hsep
      by_cases hi0 : sep ∈ a
      ·
        have HI0 := Lib.hid (inS_iff.2 hi0)
        refine (inS_v true w.heap.size A0 n0 c0 a sep w1 HI0.out (H0.out.grows (Nat.le_refl _) hga) (by omega)).mono ?_
        rintro e _ ⟨rfl, rfl⟩
        go_wp2_with fail
        refine (cawake_any w1).mono ?_
        rintro e w2 ⟨rfl, hg⟩
        go_wp2_with fail
        go_ret
        exact ⟨rfl, hga.trans hg⟩
      ·
        have HI0 := Lib.hid (inS_false hi0)
        by_cases hi1 : sep ∈ b
        ·
          have HI1 := Lib.hid (inS_iff.2 hi1)
          refine (inS_v false w.heap.size A0 n0 c0 a sep w1 HI0.out (H0.out.grows (Nat.le_refl _) hga) (by omega)).mono ?_
          rintro e _ ⟨rfl, rfl⟩
          go_wp2_with fail
          try rw [← HSEP.out]
          refine (inS_v true w.heap.size A1 n1 c1 b sep w1 HI1.out (H1.out.grows (Nat.le_refl _) hga) (by omega)).mono ?_
          rintro e _ ⟨rfl, rfl⟩
          go_wp2_with fail
          refine (cawake_any w1).mono ?_
          rintro e w2 ⟨rfl, hg⟩
          go_wp2_with fail
          go_ret
          exact ⟨rfl, hga.trans hg⟩
        ·
          have HI1 := Lib.hid (inS_false hi1)
          by_cases hi2 : sep ∈ x
          ·
            have HI2 := Lib.hid (inS_iff.2 hi2)
            refine (inS_v false w.heap.size A0 n0 c0 a sep w1 HI0.out (H0.out.grows (Nat.le_refl _) hga) (by omega)).mono ?_
            rintro e _ ⟨rfl, rfl⟩
            go_wp2_with fail
            try rw [← HSEP.out]
            refine (inS_v false w.heap.size A1 n1 c1 b sep w1 HI1.out (H1.out.grows (Nat.le_refl _) hga) (by omega)).mono ?_
            rintro e _ ⟨rfl, rfl⟩
            go_wp2_with fail
            try rw [← HSEP.out]
            refine (inS_v true w.heap.size A2 n2 c2 x sep w1 HI2.out (H2.out.grows (Nat.le_refl _) hga) (by omega)).mono ?_
            rintro e _ ⟨rfl, rfl⟩
            go_wp2_with fail
            refine (cawake_any w1).mono ?_
            rintro e w2 ⟨rfl, hg⟩
            go_wp2_with fail
            go_ret
            exact ⟨rfl, hga.trans hg⟩
          ·
            have HI2 := Lib.hid (inS_false hi2)
            by_cases hi3 : sep ∈ y
            ·
              have HI3 := Lib.hid (inS_iff.2 hi3)
              refine (inS_v false w.heap.size A0 n0 c0 a sep w1 HI0.out (H0.out.grows (Nat.le_refl _) hga) (by omega)).mono ?_
              rintro e _ ⟨rfl, rfl⟩
              go_wp2_with fail
              try rw [← HSEP.out]
              refine (inS_v false w.heap.size A1 n1 c1 b sep w1 HI1.out (H1.out.grows (Nat.le_refl _) hga) (by omega)).mono ?_
              rintro e _ ⟨rfl, rfl⟩
              go_wp2_with fail
              try rw [← HSEP.out]
              refine (inS_v false w.heap.size A2 n2 c2 x sep w1 HI2.out (H2.out.grows (Nat.le_refl _) hga) (by omega)).mono ?_
              rintro e _ ⟨rfl, rfl⟩
              go_wp2_with fail
              try rw [← HSEP.out]
              refine (inS_v true w.heap.size A3 n3 c3 y sep w1 HI3.out (H3.out.grows (Nat.le_refl _) hga) (by omega)).mono ?_
              rintro e _ ⟨rfl, rfl⟩
              go_wp2_with fail
              refine (cawake_any w1).mono ?_
              rintro e w2 ⟨rfl, hg⟩
              go_wp2_with fail
              go_ret
              exact ⟨rfl, hga.trans hg⟩
            ·
              have HI3 := Lib.hid (inS_false hi3)
              refine (inS_v false w.heap.size A0 n0 c0 a sep w1 HI0.out (H0.out.grows (Nat.le_refl _) hga) (by omega)).mono ?_
              rintro e _ ⟨rfl, rfl⟩
              go_wp2_with fail
              try rw [← HSEP.out]
              refine (inS_v false w.heap.size A1 n1 c1 b sep w1 HI1.out (H1.out.grows (Nat.le_refl _) hga) (by omega)).mono ?_
              rintro e _ ⟨rfl, rfl⟩
              go_wp2_with fail
              try rw [← HSEP.out]
              refine (inS_v false w.heap.size A2 n2 c2 x sep w1 HI2.out (H2.out.grows (Nat.le_refl _) hga) (by omega)).mono ?_
              rintro e _ ⟨rfl, rfl⟩
              go_wp2_with fail
              try rw [← HSEP.out]
              refine (inS_v false w.heap.size A3 n3 c3 y sep w1 HI3.out (H3.out.grows (Nat.le_refl _) hga) (by omega)).mono ?_
              rintro e _ ⟨rfl, rfl⟩
              have hap := chunks_apart hi0 hi1 hi2 hi3
              have hcm := common_one (a := a) (b := b) (x := x) (y := y) (z := sep)
              obtain ⟨l, hl⟩ : ∃ l, chunks (a ++ sep :: b) (x ++ sep :: b) (a ++ sep :: y) = l := ⟨_, rfl⟩
              obtain ⟨v, hv⟩ : ∃ v, lcs (a ++ sep :: b) (x ++ sep :: y) = v := ⟨_, rfl⟩
              rw [hl] at hap
              rw [hv] at hcm
              have M1 := Lib.hid (fun k => Nat.le_trans (hl ▸ merge_chunks (a ++ sep :: b) (x ++ sep :: b) (a ++ sep :: y) k) (show (x ++ sep :: b).length + (a ++ sep :: y).length ≤ 1000000000 by simp only [List.length_append, List.length_cons]; rw [L0.out, L1.out, L2.out, L3.out]; omega))
              have N1 := chunks_len (a ++ sep :: b) (x ++ sep :: b) (a ++ sep :: y)
              rw [hl, List.length_append, List.length_cons, L0.out, L1.out] at N1
              have EL := Lib.hid hl
              have EV := Lib.hid hv
              have AP := Lib.hid hap
              have hv1 : (1 : Int) ≤ v := by omega
              have lxy : (x ++ sep :: y).length = n2 + 1 + n3 := by rw [List.length_append, List.length_cons, L2.out, L3.out]; omega
              have LXY := Lib.hid lxy
              have hcell : ∀ w', Grows w1 w' → w'.cell? ⟨w.heap.size, 0, none⟩ = some (.string sep) := fun w' hg => by rw [Below.cell hg hsl]; exact hsc
              have hlt : ∀ w', Grows w1 w' → w.heap.size < w'.heap.size := fun w' hg => Nat.lt_of_lt_of_le hsl hg.size
              clear hl hv hi0 hi1 hi2 hi3 hap lxy
              go_wp2_with fail
              refine (join_any w.heap.size w.heap.size n0 n1 c0 c1 w.heap.size A0 A1 a b sep w1 (H0.out.grows (Nat.le_refl _) hga) (H1.out.grows (Nat.le_refl _) hga) hga.size hga.size (by omega) (by omega) (hcell w1 (Grows.refl _)) (hlt w1 (Grows.refl _))).mono ?_
              rintro e w2 ⟨J1, d1, rfl, hd1, hdM1, hj1, hg2⟩
              have z2 := hg2
              go_wp2_with fail
              refine (join_any w.heap.size w.heap.size n2 n1 c2 c1 w.heap.size A2 A1 x b sep w2 (H2.out.grows (Nat.le_refl _) (hga.trans hg2)) (H1.out.grows (Nat.le_refl _) (hga.trans hg2)) (hga.trans hg2).size (hga.trans hg2).size (by omega) (by omega) (hcell w2 hg2) (hlt w2 hg2)).mono ?_
              rintro e w3 ⟨J2, d2, rfl, hd2, hdM2, hj2, hg3⟩
              have hj1b := hj1.grows (Nat.le_refl _) hg3
              have hs23 := hg3.size
              replace hg3 := hg2.trans hg3
              go_wp2_with fail
              refine (join_any w.heap.size w.heap.size n0 n3 c0 c3 w.heap.size A0 A3 a y sep w3 (H0.out.grows (Nat.le_refl _) (hga.trans hg3)) (H3.out.grows (Nat.le_refl _) (hga.trans hg3)) (hga.trans hg3).size (hga.trans hg3).size (by omega) (by omega) (hcell w3 hg3) (hlt w3 hg3)).mono ?_
              rintro e w4 ⟨J3, d3, rfl, hd3, hdM3, hj3, hg4⟩
              have hj1c := hj1b.grows hs23 hg4
              have hj2c := hj2.grows (Nat.le_refl _) hg4
              have hs34 := hg4.size
              replace hg4 := hg3.trans hg4
              go_wp2_with fail
              refine (of_v l w2.heap.size w3.heap.size w4.heap.size (n0 + 1 + n1) (n2 + 1 + n1) (n0 + 1 + n3) d1 d2 d3 J1 J2 J3 _ _ _ w4 EL.out hj1c hj2c hj3 (Nat.le_trans hs23 hs34) hs34 (Nat.le_refl _) (by omega) (by omega) (by omega) hd1 hd2 hd3 hdM1 hdM2 hdM3).mono ?_
              rintro e w5 ⟨E1, m1, q1, rfl, hC1, hg5, hq1, hqM1⟩
              have k1 := hC1.len
              replace hg5 := hg4.trans hg5
              clear hj1 hj1b hj1c hj2 hj2c hj3 hg2 hg3 hg4 hs23 hs34 z2
              go_wp2_with fail
              refine (cawake_any w5).mono ?_
              rintro e w6 ⟨rfl, h6⟩
              go_wp2_with fail
              refine (clean_v true w5.heap.size E1 m1 q1 l w6 AP.out.1 (hC1.grows (Nat.le_refl _) h6) h6.size (Nat.le_trans hq1 hqM1)).mono ?_
              rintro e w7 ⟨rfl, h7⟩
              replace h7 := h6.trans h7
              go_wp2_with fail
              refine (merged_v (x ++ sep :: y) w5.heap.size E1 m1 q1 l w7 AP.out.2 (hC1.grows (Nat.le_refl _) h7) h7.size (by omega) M1.out).mono ?_
              rw [LXY.out]
              rintro e w8 ⟨A8, c8, rfl, _, _, hr8, h8⟩
              replace h8 := hg5.trans (h7.trans h8)
              clear hC1 h6 h7 hg5
              go_wp2_with fail
              refine (join_any w.heap.size w.heap.size n2 n3 c2 c3 w.heap.size A2 A3 x y sep w8 (H2.out.grows (Nat.le_refl _) (hga.trans h8)) (H3.out.grows (Nat.le_refl _) (hga.trans h8)) (hga.trans h8).size (hga.trans h8).size (by omega) (by omega) (hcell w8 h8) (hlt w8 h8)).mono ?_
              rintro e w9 ⟨J9, d9, rfl, hd9, hdM9, hj9, hg9⟩
              have hr9 := hr8.grows (Nat.le_refl _) hg9
              replace hg9 := h8.trans hg9
              go_wp2_with fail
              refine (plainS_eq w8.heap.size w9.heap.size A8 J9 (n2 + 1 + n3) (n2 + 1 + n3) c8 d9 (x ++ sep :: y) w9 hr9 hj9 (by omega)).mono ?_
              rintro e w10 ⟨rfl, dd, rfl⟩
              have hg10 := hg9.drewN dd
              clear hr8 hr9 hj9 hg9 h8
              generalize w9.drewN dd = w10 at hg10 ⊢
              go_wp2_with fail
              refine (join_any w.heap.size w.heap.size n0 n1 c0 c1 w.heap.size A0 A1 a b sep w10 (H0.out.grows (Nat.le_refl _) (hga.trans hg10)) (H1.out.grows (Nat.le_refl _) (hga.trans hg10)) (hga.trans hg10).size (hga.trans hg10).size (by omega) (by omega) (hcell w10 hg10) (hlt w10 hg10)).mono ?_
              rintro e w11 ⟨J11, d11, rfl, hd11, hdM11, hj11, hg11⟩
              replace hg11 := hg10.trans hg11
              go_wp2_with fail
              refine (join_any w.heap.size w.heap.size n2 n3 c2 c3 w.heap.size A2 A3 x y sep w11 (H2.out.grows (Nat.le_refl _) (hga.trans hg11)) (H3.out.grows (Nat.le_refl _) (hga.trans hg11)) (hga.trans hg11).size (hga.trans hg11).size (by omega) (by omega) (hcell w11 hg11) (hlt w11 hg11)).mono ?_
              rintro e w12 ⟨J12, d12, rfl, hd12, hdM12, hj12, hg12⟩
              have hj11b := hj11.grows (Nat.le_refl _) hg12
              have hs12 := hg12.size
              replace hg12 := hg11.trans hg12
              go_wp2_with fail
              refine (rcommon_v v w11.heap.size w12.heap.size J11 J12 (n0 + 1 + n1) (n2 + 1 + n3) d11 d12 _ _ w12 EV.out hj11b hj12 hs12 (Nat.le_refl _) (by omega) (by omega)).mono ?_
              rintro e w13 ⟨rfl, hg13⟩
              replace hg13 := hga.trans (hg12.trans hg13)
              clear hj11 hj11b hj12 hg12 hg11 hg10
              go_wp2_with fail
              go_ret
              exact ⟨rfl, hg13⟩
  · have HD := Lib.hid (show decide (n0 ≤ 60 ∧ n1 ≤ 60 ∧ 0 ≤ 60) = false from decide_eq_false (fun h => hfew ⟨h.1, h.2.1⟩))
    clear hfew
    go_wp2_with fail
    refine (few_v false A0 A1 none n0 n1 0 c0 c1 0 w HD.out).mono ?_
    rintro e _ ⟨rfl, rfl⟩
    go_wp2_with fail
    refine (cawake_any w).mono ?_
    rintro e w1 ⟨rfl, hg⟩
    go_wp2_with fail
    go_ret
    exact ⟨rfl, hg⟩

end Go.Proofs.Ytlimfndipapfdaa
