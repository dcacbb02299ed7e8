/- GraphTells: the walk of the law. -/
import Derived.Test.YtdhdlkbldngmoaaGraphAwake
namespace Go.Proofs.Ytdhdlkbldngmoaa
open Go.RowKit Go.Deep

theorem row_grows {w w' : World} {g n : Nat} {t : TypeId} {f : Nat → Value} (h : w.rowIs g t n f) (hg : Grows w w') : w'.rowIs g t n f := h.of_block (hg.block g h.lt)
theorem children_len (xs : List Int) (i : Int) : (children xs i).length ≤ xs.length := by
  unfold children
  split
  · exact selTo_len _ _
  · simp
theorem chain_len (xs : List Int) (i : Int) : (chain xs i).length ≤ xs.length := by
  cases hb : isB xs i with
  | false => rw [chain_none hb]; simp
  | true =>
    obtain ⟨h0, hl2, hr⟩ := isB_iff.1 hb
    rw [chain_up hb]
    have := up_len hr i hl2
    omega

set_option maxHeartbeats 4000000 in
set_option maxRecDepth 100000 in
theorem gtells_any (A : Option Addr) (n c : Nat) (xs : List Int) (a b : Int) (raw : Bool) (w : World) (h : Reads w w.heap.size 1 A n (ints xs)) (hn : n ≤ maxLen) :
    Calls Try.prog 6 #[.slice A n c, .int .i64 a, .int .i64 b, .bool raw] w fun e w' => e = .returned (.bool true) ∧ Grows w w' := by
  have H := Lib.hid h; clear h
  by_cases hbig : 60 < n
  · have hb : (60 : Int) < n := by omega
    go_enter Try.func6, Try.ntmps6
    go_wp2_with fail
    refine (gawake_any _).mono ?_
    rintro e w3 ⟨rfl, hg3⟩
    go_wp2_with fail
    go_ret
    exact ⟨rfl, hg3⟩
  · have key : ∃ (N : Nat) (G : List Int), N ≤ 60 ∧ G.length = N ∧ G = (if raw then xs else parents xs 60) := ⟨_, _, by
      have := H.out.intLen
      cases raw
      · simp [parents_len]; omega
      · simp; omega, rfl, rfl⟩
    obtain ⟨N, G, hN, hGL, hG⟩ := key
    have HGL := Lib.hid hGL
    have HG := Lib.hid hG
    clear hGL hG
    go_enter Try.func6, Try.ntmps6
    cases raw
    all_goals
      first
      | (go_wp2_with fail
         refine (parents_any _ _ _ _ _ 60 _ H.out (Nat.le_refl _) hn (by omega)).mono fun e w1 h => ?_
         obtain ⟨A1, c1, rfl, hr1, hg1⟩ := retL G N HG.out.symm HGL.out h
         clear h
         go_wp2_with fail)
      | (go_wp2_with fail
         have e1 : xs = G := HG.out.symm
         have e2 : N = n := by rw [← HGL.out, ← e1]; exact H.out.intLen
         obtain ⟨w1, hw1⟩ : ∃ w1, w1 = w := ⟨_, rfl⟩
         obtain ⟨A1, hA1⟩ : ∃ A1, A1 = A := ⟨_, rfl⟩
         have hr1 : Reads w1 w1.heap.size 1 A1 N (ints G) := by rw [hw1, hA1, ← e1, e2]; exact H.out
         have hg1 : Grows w w1 := by rw [hw1]; exact Grows.refl _
         subst e2
         rw [← hw1, ← hA1]
         clear hw1 hA1 e1)
      refine (own_any _ _ _ _ _ _ _ hr1 (Nat.le_refl _) (by omega)).mono ?_
      rintro e w2 ⟨rfl, hrow2, hg2⟩
      have hl2 := Lib.hid (hr1.grows (Nat.le_refl _) hg2)
      have hrow := Lib.hid hrow2
      have hi2 := Lib.hid (reads_row hrow2 (fun i hi => by rw [ownCell, if_pos hi]) HGL.out (by omega))
      have hgg := hg1.trans hg2
      have hz12 := hg2.size
      have hz3 : w1.heap.size + 1 ≤ w2.heap.size := hrow2.lt
      clear hr1 hrow2
      obtain ⟨bl, hbl⟩ : ∃ bl, bl = w1.heap.size := ⟨_, rfl⟩
      have HBL := Lib.hid hbl
      rw [← hbl] at hl2 hrow hi2 hz3 hz12 ⊢
      clear hbl
      go_wp2_with fail
      refine (gawake_any _).mono ?_
      rintro e w3 ⟨rfl, hg3⟩
      have hl3 := Lib.hid (hl2.out.grows hz12 hg3)
      have hi3 := Lib.hid (hi2.out.grows hz3 hg3)
      have hz3' := hg3.size
      go_wp2_with fail
      refine (right_any _ _ _ _ _ _ hi3.out (by simp only [maxLen]; omega)).mono ?_
      rintro e w' ⟨rfl, rfl⟩
      go_wp2_with fail
      refine (rright_any _ _ _ _ _ _ hl3.out (by omega)).mono ?_
      rintro e w' ⟨rfl, rfl⟩
      have t1 : (right G == right G) = true := by simp
      go_wp2_with fail
      refine (chain_any _ _ _ _ _ _ _ hi3.out (by omega) (by omega)).mono fun e w4 h => ?_
      obtain ⟨A4, c4, rfl, hr4, hg4⟩ := retL (chain G a) _ rfl rfl h
      clear h t1
      have hl4 := Lib.hid (hl3.out.grows (by omega) hg4)
      have hi4 := Lib.hid (hi3.out.grows (by omega) hg4)
      have hz4 := hg4.size
      go_wp2_with fail
      refine (rchain_any _ _ _ _ _ _ _ hl4.out (by omega) (by omega)).mono fun e w5 h => ?_
      obtain ⟨A5, c5, rfl, hr5, hg5⟩ := retL (chain G a) _ rfl rfl h
      clear h
      have hc5 := chain_len G a
      rw [HGL.out] at hc5
      go_wp2_with fail
      refine (plain_any _ _ _ _ _ _ _ _ (chain G a) (chain G a) _ (hr4.grows (Nat.le_refl _) hg5) hr5 (by omega)).mono ?_
      rintro e w6 ⟨rfl, m6, rfl⟩
      rw [eqL_self]
      have hg6 := hg4.trans (hg5.drewN m6)
      have hl6 := Lib.hid (hl3.out.grows (by omega) hg6)
      have hi6 := Lib.hid (hi3.out.grows (by omega) hg6)
      have hz6 := hg6.size
      obtain ⟨w6, hw6⟩ : ∃ w6, w6 = w5.drewN m6 := ⟨_, rfl⟩
      rw [← hw6] at hg6 hl6 hi6 hz6 ⊢
      clear hw6 hr4 hr5 hl4 hi4
      go_wp2_with fail
      refine (children_any _ _ _ _ _ _ _ hi6.out (by omega) (by omega)).mono fun e w7 h => ?_
      obtain ⟨A7, c7, rfl, hr7, hg7⟩ := retL (children G a) _ rfl rfl h
      clear h
      have hl7 := Lib.hid (hl6.out.grows (by omega) hg7)
      have hz7 := hg7.size
      go_wp2_with fail
      refine (rchildren_any _ _ _ _ _ _ _ hl7.out (by omega) (by omega)).mono fun e w8 h => ?_
      obtain ⟨A8, c8, rfl, hr8, hg8⟩ := retL (children G a) _ rfl rfl h
      clear h
      have hc8 := children_len G a
      rw [HGL.out] at hc8
      go_wp2_with fail
      refine (plain_any _ _ _ _ _ _ _ _ (children G a) (children G a) _ (hr7.grows (Nat.le_refl _) hg8) hr8 (by omega)).mono ?_
      rintro e w9 ⟨rfl, m9, rfl⟩
      rw [eqL_self]
      have hg9 := hg6.trans (hg7.trans (hg8.drewN m9))
      have hl9 := Lib.hid (hl3.out.grows (by omega) hg9)
      have hi9 := Lib.hid (hi3.out.grows (by omega) hg9)
      have hz9 := hg9.size
      obtain ⟨w9, hw9⟩ : ∃ w9, w9 = w8.drewN m9 := ⟨_, rfl⟩
      rw [← hw9] at hg9 hl9 hi9 hz9 ⊢
      clear hw9 hr7 hr8 hl7 hg8 hg7 hg6 hl6 hi6 hz6 hz7 hg4 hg5
      go_wp2_with fail
      refine (under_any _ _ _ _ _ _ _ hi9.out (by omega) (by omega)).mono fun e w10 h => ?_
      obtain ⟨A10, c10, rfl, hr10, hg10⟩ := retL (under G a) _ rfl rfl h
      clear h
      have hl10 := Lib.hid (hl9.out.grows (by omega) hg10)
      have hz10 := hg10.size
      go_wp2_with fail
      refine (runder_any _ _ _ _ _ _ _ hl10.out (by omega) (by omega)).mono fun e w11 h => ?_
      obtain ⟨A11, c11, rfl, hr11, hg11⟩ := retL (under G a) _ rfl rfl h
      clear h
      have hc11 : (under G a).length ≤ N := by rw [← HGL.out]; exact selTo_len _ _
      go_wp2_with fail
      refine (plain_any _ _ _ _ _ _ _ _ (under G a) (under G a) _ (hr10.grows (Nat.le_refl _) hg11) hr11 (by omega)).mono ?_
      rintro e w12 ⟨rfl, m12, rfl⟩
      rw [eqL_self]
      have hg12 := hg9.trans (hg10.trans (hg11.drewN m12))
      have hl12 := Lib.hid (hl3.out.grows (by omega) hg12)
      have hi12 := Lib.hid (hi3.out.grows (by omega) hg12)
      have hz12' := hg12.size
      obtain ⟨w12, hw12⟩ : ∃ w12, w12 = w11.drewN m12 := ⟨_, rfl⟩
      rw [← hw12] at hg12 hl12 hi12 hz12' ⊢
      clear hw12 hr10 hr11 hl10 hg11 hg10 hg9 hl9 hi9 hz9 hz10
      go_wp2_with fail
      refine (above_any _ _ _ _ _ _ _ _ hi12.out (by omega)).mono ?_
      rintro e w' ⟨rfl, rfl⟩
      go_wp2_with fail
      refine (rabove_any _ _ _ _ _ _ _ _ hl12.out (by omega) (by omega)).mono ?_
      rintro e w13 ⟨rfl, hg13⟩
      have t2 : (above G a b == above G a b) = true := by simp
      have hl13 := Lib.hid (hl12.out.grows (by omega) hg13)
      have hi13 := Lib.hid (hi12.out.grows (by omega) hg13)
      have hz13 := hg13.size
      go_wp2_with fail
      refine (base_any _ _ _ _ _ _ _ _ hi13.out (by omega)).mono ?_
      rintro e w' ⟨rfl, rfl⟩
      go_wp2_with fail
      refine (rbase_any _ _ _ _ _ _ _ _ hl13.out (by omega) (by omega)).mono ?_
      rintro e w14 ⟨rfl, hg14⟩
      have t3 : (base G a b == base G a b) = true := by simp
      have hgz := hg12.trans (hg13.trans hg14)
      have hl14 := Lib.hid (hl3.out.grows (by omega) hgz)
      have hrow14 := Lib.hid (row_grows (row_grows hrow.out hg3) hgz)
      go_wp2_with fail
      refine (kept_any _ _ _ _ _ _ _ _ hl14.out hrow14.out (by omega)).mono ?_
      rintro e w15 ⟨rfl, m15, rfl⟩
      have hfin := (hgg.trans hg3).trans (hgz.drewN m15)
      go_wp2_with fail
      go_ret
      exact ⟨rfl, hfin⟩

end Go.Proofs.Ytdhdlkbldngmoaa
