/- VisibleTells: the walk of the law. -/
import Derived.Test.YtdhdlkbldngmoaaMarkers
namespace Go.Proofs.Ytdhdlkbldngmoaa
open Go.RowKit Go.Deep

theorem seenL_len (xs olds keep : List Int) : (seenL xs olds keep).length ≤ xs.length := by
  unfold seenL
  split
  · exact selTo_len _ _
  · simp
theorem headL_len (xs olds : List Int) : (headL xs olds).length ≤ xs.length := by
  unfold headL
  split
  · exact selTo_len _ _
  · simp

set_option maxHeartbeats 4000000 in
set_option maxRecDepth 100000 in
theorem vtells_any (A A' A2 : Option Addr) (n c m c' q c2 : Nat) (xs olds keep : List Int) (raw : Bool) (w : World) (h : Reads w w.heap.size 1 A n (ints xs)) (hn : n ≤ maxLen) (hm0 : Marks w w.heap.size A' m olds) (hm : m ≤ maxLen) (hk0 : Reads w w.heap.size 1 A2 q (ints keep)) (hq : q ≤ maxLen) :
    Calls Try.prog 8 #[.slice A n c, .slice A' m c', .slice A2 q c2, .bool raw] w fun e w' => e = .returned (.bool true) ∧ Grows w w' := by
  have H := Lib.hid h; clear h
  have HM := Lib.hid hm0; clear hm0
  have HK := Lib.hid hk0; clear hk0
  have hqc := hq
  have hmc := hm
  unfold maxLen at hqc hmc
  by_cases hbig : 40 < n
  · have hb : (40 : Int) < n := by omega
    go_enter Try.func8, Try.ntmps8
    go_wp2_with fail
    refine (vawake_any _).mono ?_
    rintro e w3 ⟨rfl, hg3⟩
    go_wp2_with fail
    go_ret
    exact ⟨rfl, hg3⟩
  · have hb : ¬ (40 : Int) < n := by omega
    go_enter Try.func8, Try.ntmps8
    go_wp2_with fail
    refine (few_any _ _ _ _ olds _ HM.out hm).mono ?_
    rintro e w' ⟨b, rfl, hbm, rfl⟩
    cases b
    · go_wp2_with fail
      refine (vawake_any _).mono ?_
      rintro e w3 ⟨rfl, hg3⟩
      go_wp2_with fail
      go_ret
      exact ⟨rfl, hg3⟩
    · have hm40 := hbm rfl
      clear hbm
      by_cases hqb : 20 < q
      · have hqb' : (20 : Int) < q := by omega
        go_wp2_with fail
        refine (vawake_any _).mono ?_
        rintro e w3 ⟨rfl, hg3⟩
        go_wp2_with fail
        go_ret
        exact ⟨rfl, hg3⟩
      · have hqb' : ¬ (20 : Int) < q := by omega
        have key : ∃ (N : Nat) (G : List Int), N ≤ 40 ∧ G.length = N ∧ G = (if raw then xs else parents xs 40) := ⟨_, _, by
          have := H.out.intLen
          cases raw
          · simp [parents_len]; omega
          · simp; omega, rfl, rfl⟩
        obtain ⟨N, G, hN, hGL, hG⟩ := key
        have HGL := Lib.hid hGL
        have HG := Lib.hid hG
        clear hGL hG
        cases raw
        all_goals
          first
          | (go_wp2_with fail
             refine (parents_any _ _ _ _ _ 40 _ H.out (Nat.le_refl _) hn (by omega)).mono fun e w1 h => ?_
             obtain ⟨A1, c1, rfl, hr1, hg1⟩ := retL G N HG.out.symm HGL.out h
             clear h
             go_wp2_with fail)
          | (go_wp2_with fail
             have e1 : xs = G := HG.out.symm
             have e2 : N = n := by rw [← HGL.out, ← e1]; exact H.out.intLen
             obtain ⟨w1, hw1⟩ : ∃ w1, w1 = w := ⟨_, rfl⟩
             obtain ⟨A1, hA1⟩ : ∃ A1, A1 = A := ⟨_, rfl⟩
             have hr1 : Reads w1 w1.heap.size 1 A1 N (ints G) := by rw [hw1, hA1, ← e1, e2]; exact H.out
             have hg1 : Grows w w1 := by rw [hw1]; exact Grows.refl _
             subst e2
             rw [← hw1, ← hA1]
             clear hw1 hA1 e1)
          have hk1 := Lib.hid (HK.out.grows (Nat.le_refl _) hg1)
          have hm1 := Lib.hid (HM.out.grows (Nat.le_refl _) hg1)
          have hz1 := hg1.size
          refine (own_any _ _ _ _ _ _ _ hk1.out (by omega) (by omega)).mono ?_
          rintro e w2 ⟨rfl, hrow2, hg2⟩
          have hrow := Lib.hid hrow2
          have hi2 := Lib.hid (reads_row hrow2 (fun i hi => by rw [ownCell, if_pos hi]) HK.out.intLen (by omega))
          have hgg := hg1.trans hg2
          have hz12 := hg2.size
          have hz3 : w1.heap.size + 1 ≤ w2.heap.size := hrow2.lt
          clear hrow2
          obtain ⟨bl, hbl⟩ : ∃ bl, bl = w1.heap.size := ⟨_, rfl⟩
          have HBL := Lib.hid hbl
          have hl2 := Lib.hid (hr1.grows (Nat.le_refl _) hg2)
          rw [← hbl] at hl2 hrow hi2 hz3 hz12 hz1 ⊢
          clear hbl hr1 hk1 hm1
          have hk2 := Lib.hid (HK.out.grows (Nat.le_refl _) hgg)
          have hm2 := Lib.hid (HM.out.grows (Nat.le_refl _) hgg)
          go_wp2_with fail
          refine (vawake_any _).mono ?_
          rintro e w3 ⟨rfl, hg3⟩
          have hl3 := Lib.hid (hl2.out.grows hz12 hg3)
          have hi3 := Lib.hid (hi2.out.grows hz3 hg3)
          have hk3 := Lib.hid (hk2.out.grows (by omega) hg3)
          have hm3 := Lib.hid (hm2.out.grows (by omega) hg3)
          have hz3' := hg3.size
          go_wp2_with fail
          refine (vLive_any _ _ _ _ _ _ _ _ _ olds _ hl3.out hm3.out (by omega) (by omega) hm).mono fun e w4 h => ?_
          obtain ⟨A4, c4, rfl, hr4, hg4⟩ := retL (liveL G olds) _ rfl rfl h
          clear h
          have hl4 := Lib.hid (hl3.out.grows (by omega) hg4)
          have hm4 := Lib.hid (hm3.out.grows (by omega) hg4)
          have hz4 := hg4.size
          go_wp2_with fail
          refine (rlive_any _ _ _ _ _ _ _ _ _ olds _ hl4.out hm4.out (by omega) (by omega) (by omega) hm).mono fun e w5 h => ?_
          obtain ⟨A5, c5, rfl, hr5, hg5⟩ := retL (liveL G olds) _ rfl rfl h
          clear h
          have hc5 := liveL_len G olds
          rw [HGL.out] at hc5
          go_wp2_with fail
          refine (plain_any _ _ _ _ _ _ _ _ (liveL G olds) (liveL G olds) _ (hr4.grows (Nat.le_refl _) hg5) hr5 (by omega)).mono ?_
          rintro e w6 ⟨rfl, m6, rfl⟩
          rw [eqL_self]
          have hg6 := hg4.trans (hg5.drewN m6)
          have hl6 := Lib.hid (hl3.out.grows (by omega) hg6)
          have hi6 := Lib.hid (hi3.out.grows (by omega) hg6)
          have hk6 := Lib.hid (hk3.out.grows (by omega) hg6)
          have hm6 := Lib.hid (hm3.out.grows (by omega) hg6)
          have hz6 := hg6.size
          obtain ⟨w6, hw6⟩ : ∃ w6, w6 = w5.drewN m6 := ⟨_, rfl⟩
          rw [← hw6] at hg6 hl6 hi6 hk6 hm6 hz6 ⊢
          clear hw6 hr4 hr5 hl4 hm4
          go_wp2_with fail
          refine (vSeen_any _ _ _ _ _ _ _ _ _ _ _ _ _ olds keep _ hl6.out hm6.out hi6.out (by omega) (by omega) (by omega) (by omega) hm hq).mono fun e w7 h => ?_
          obtain ⟨A7, c7, rfl, hr7, hg7⟩ := retL (seenL G olds keep) _ rfl rfl h
          clear h
          have hl7 := Lib.hid (hl6.out.grows (by omega) hg7)
          have hk7 := Lib.hid (hk6.out.grows (by omega) hg7)
          have hm7 := Lib.hid (hm6.out.grows (by omega) hg7)
          have hz7 := hg7.size
          go_wp2_with fail
          refine (rseen_any _ _ _ _ _ _ _ _ _ _ _ _ _ olds keep _ hl7.out hm7.out hk7.out (by omega) (by omega) (by omega) (by omega) hm (by omega)).mono fun e w8 h => ?_
          obtain ⟨A8, c8, rfl, hr8, hg8⟩ := retL (seenL G olds keep) _ rfl rfl h
          clear h
          have hc8 := seenL_len G olds keep
          rw [HGL.out] at hc8
          go_wp2_with fail
          refine (plain_any _ _ _ _ _ _ _ _ (seenL G olds keep) (seenL G olds keep) _ (hr7.grows (Nat.le_refl _) hg8) hr8 (by omega)).mono ?_
          rintro e w9 ⟨rfl, m9, rfl⟩
          rw [eqL_self]
          have hg9 := hg6.trans (hg7.trans (hg8.drewN m9))
          have hl9 := Lib.hid (hl3.out.grows (by omega) hg9)
          have hm9 := Lib.hid (hm3.out.grows (by omega) hg9)
          have hz9 := hg9.size
          obtain ⟨w9, hw9⟩ : ∃ w9, w9 = w8.drewN m9 := ⟨_, rfl⟩
          rw [← hw9] at hg9 hl9 hm9 hz9 ⊢
          clear hw9 hr7 hr8 hl7 hk7 hm7 hg8 hg7 hg6 hl6 hi6 hm6 hk6 hz6 hz7 hg4 hg5
          go_wp2_with fail
          refine (vHeads_any _ _ _ _ _ _ _ _ _ olds _ hl9.out hm9.out (by omega) (by omega) (by omega) hm).mono fun e w10 h => ?_
          obtain ⟨A10, c10, rfl, hr10, hg10⟩ := retL (headL G olds) _ rfl rfl h
          clear h
          have hl10 := Lib.hid (hl9.out.grows (by omega) hg10)
          have hm10 := Lib.hid (hm9.out.grows (by omega) hg10)
          have hz10 := hg10.size
          go_wp2_with fail
          refine (rheads_any _ _ _ _ _ _ _ _ _ olds _ hl10.out hm10.out (by omega) (by omega) (by omega) hm).mono fun e w11 h => ?_
          obtain ⟨A11, c11, rfl, hr11, hg11⟩ := retL (headL G olds) _ rfl rfl h
          clear h
          have hc11 := headL_len G olds
          rw [HGL.out] at hc11
          go_wp2_with fail
          refine (plain_any _ _ _ _ _ _ _ _ (headL G olds) (headL G olds) _ (hr10.grows (Nat.le_refl _) hg11) hr11 (by omega)).mono ?_
          rintro e w12 ⟨rfl, m12, rfl⟩
          rw [eqL_self]
          have hgz := hg9.trans (hg10.trans (hg11.drewN m12))
          have hk14 := Lib.hid (hk3.out.grows (by omega) hgz)
          have hrow14 := Lib.hid (row_grows (row_grows hrow.out hg3) hgz)
          go_wp2_with fail
          refine (kept_any _ _ _ _ _ _ _ _ hk14.out hrow14.out (by omega)).mono ?_
          rintro e w15 ⟨rfl, m15, rfl⟩
          have hfin := (hgg.trans hg3).trans (hgz.drewN m15)
          rw [World.drewN_drewN] at hfin
          go_wp2_with fail
          go_ret
          exact ⟨rfl, hfin⟩

end Go.Proofs.Ytdhdlkbldngmoaa
