/- VisibleParents: the walk of the law. -/
import Derived.Test.YtdhdlkbldngmoaaVisTells
import Derived.Test.YtdhdlkbldngmoaaVisMore
namespace Go.Proofs.Ytdhdlkbldngmoaa
open Go.RowKit Go.Deep

set_option maxHeartbeats 8000000 in
set_option maxRecDepth 100000 in
theorem vparentsLaw_any (A A' A2 : Option Addr) (n c m c' p c2 : Nat) (xs olds keep : List Int) (news : Nat → List Int) (w : World) (h : Reads w w.heap.size 1 A n (ints xs)) (hn : n ≤ maxLen) (hm0 : MarksN w w.heap.size A' m olds news) (hm : m ≤ maxLen) (hk0 : Reads w w.heap.size 1 A2 p (ints keep)) (hp : p ≤ maxLen) :
    Calls Try.prog 9 #[.slice A n c, .slice A' m c', .slice A2 p c2] w fun e w' => e = .returned (.bool true) ∧ Grows w w' := by
  have H := Lib.hid h; clear h
  have HM := Lib.hid hm0; clear hm0
  have HK := Lib.hid hk0; clear hk0
  have hmc := hm
  have hpc := hp
  unfold maxLen at hmc hpc
  go_enter Try.func9, Try.ntmps9
  go_wp2_with fail
  refine (few_any _ _ _ _ olds _ HM.out.marks hm).mono ?_
  rintro e w' ⟨b, rfl, hbm, rfl⟩
  cases b
  · go_wp2_with fail
    refine (vawake_any _).mono ?_
    rintro e w3 ⟨rfl, hg3⟩
    go_wp2_with fail
    go_ret
    exact ⟨rfl, hg3⟩
  by_cases hpb : 20 < p
  · have hpb' : (20 : Int) < p := by omega
    go_wp2_with fail
    refine (vawake_any _).mono ?_
    rintro e w3 ⟨rfl, hg3⟩
    go_wp2_with fail
    go_ret
    exact ⟨rfl, hg3⟩
  · have hpb' : ¬ (20 : Int) < p := by omega
    have hm40 := hbm rfl
    clear hbm
    have hr := right_parents xs 40
    have hpl : (parents xs 40).length ≤ 40 := by rw [parents_len]; omega
    obtain ⟨G, hG⟩ : ∃ G, G = parents xs 40 := ⟨_, rfl⟩
    rw [← hG] at hr hpl
    have HR := Lib.hid hr
    have HG := Lib.hid hG
    obtain ⟨N, hN⟩ : ∃ N, N = G.length := ⟨_, rfl⟩
    rw [← hN] at hpl
    have HN := Lib.hid hN
    clear hr hG hN
    go_wp2_with fail
    refine (parents_any _ _ _ _ _ 40 _ H.out (Nat.le_refl _) hn (by omega)).mono fun e w1 h => ?_
    obtain ⟨A1, c1, rfl, hr1, hg1⟩ := retL G N HG.out.symm HN.out.symm h
    clear h
    have hl1 := Lib.hid hr1
    have hm1 := Lib.hid (HM.out.grows (Nat.le_refl _) hg1)
    have hz1 := hg1.size
    clear hr1
    go_wp2_with fail
    refine (markers_any _ _ _ _ N olds news _ hm1.out hz1 hm (by omega)).mono ?_
    rintro e w2 ⟨A3, q, c3, ks, rfl, hk2, hq, hg2⟩
    have hz2 := hg2.size
    have hl2 := Lib.hid (hl1.out.grows (Nat.le_refl _) hg2)
    have HK2 := Lib.hid hk2
    have hgg := hg1.trans hg2
    have hkk2 := Lib.hid (HK.out.grows (Nat.le_refl _) hgg)
    clear hk2 hm1 hl1
    go_wp2_with fail
    refine (vSeen_any _ _ _ _ _ _ _ _ _ _ _ _ _ ks keep _ hl2.out HK2.out hkk2.out (by omega) (Nat.le_refl _) (by omega) (by omega) (by simp only [maxLen]; omega) hp).mono fun e w3 h => ?_
    obtain ⟨QS, hQS⟩ : ∃ QS, QS = seenL G ks keep := ⟨_, rfl⟩
    obtain ⟨A4, c4, rfl, hr3, hg3⟩ := retL QS QS.length hQS.symm rfl h
    clear h
    have HQS := Lib.hid hQS
    have hh3 := Lib.hid hr3
    have hl3 := Lib.hid (hl2.out.grows (by omega) hg3)
    have HK3 := Lib.hid (HK2.out.grows (Nat.le_refl _) hg3)
    have hz3 := hg3.size
    have hqh : QS.length ≤ N := by rw [hQS, HN.out]; exact seenL_len _ _ _
    clear hr3 hQS
    go_wp2_with fail
    refine (vLive_any _ _ _ _ _ _ _ _ _ ks _ hl3.out HK3.out (by omega) (by omega) (by simp only [maxLen]; omega)).mono fun e w4 h => ?_
    obtain ⟨QL, hQL⟩ : ∃ QL, QL = liveL G ks := ⟨_, rfl⟩
    obtain ⟨A5, c5, rfl, hr4, hg4⟩ := retL QL QL.length hQL.symm rfl h
    clear h
    have HQL := Lib.hid hQL
    have hv4 := Lib.hid hr4
    have hl4 := Lib.hid (hl3.out.grows (by omega) hg4)
    have hh4 := Lib.hid (hh3.out.grows (Nat.le_refl _) hg4)
    have hm4 := Lib.hid (HK3.out.grows (by omega) hg4)
    have hg24 := hgg.trans (hg3.trans hg4)
    have hk4 := Lib.hid (HK.out.grows (Nat.le_refl _) hg24)
    have hz4 := hg4.size
    have hql : QL.length ≤ N := by rw [hQL, HN.out]; exact liveL_len _ _
    clear hr4 hQL hl2 hl3 hh3 HK2 HK3 hgg hkk2
    have e1 := Lib.hid (show ∀ i, i < QS.length → ∃ s : Nat, gi QS i = s ∧ s < N ∧ seenp G ks keep s = true ∧ (0 ≤ gi G s → inL QS (gi G s) = true) from fun i hi => by
      have := seen_at HR.out (i := i) (olds := ks) (keep := keep) (by rw [← HQS.out]; exact hi)
      rw [← HQS.out, ← HN.out] at this
      exact this)
    have e2 := Lib.hid (show ∀ i, i + 1 < QS.length → gi QS i < gi QS (i + 1) from fun i hi => by
      rw [HQS.out]
      exact seen_up HR.out (by rw [← HQS.out]; exact hi))
    have e3 := Lib.hid (show ∀ t : Nat, t < N → inL QL t = livep ks t from fun t ht => by rw [HQL.out]; exact inL_live HR.out (by rw [← HN.out]; exact ht))
    have e4 := Lib.hid (show ∀ t : Nat, t < N → inL QS t = seenp G ks keep t from fun t ht => by rw [HQS.out]; exact inL_seen HR.out (by rw [← HN.out]; exact ht))
    have e5 := Lib.hid (show ∀ t : Nat, t < N → shown ks keep t = true → seenp G ks keep t = true from fun t ht h => shown_seen HR.out (by rw [← HN.out]; exact ht) h)
    obtain ⟨P, hP⟩ : ∃ P, P = QS.length := ⟨_, rfl⟩
    obtain ⟨R, hR⟩ : ∃ R, R = QL.length := ⟨_, rfl⟩
    rw [← hP] at hh4 hqh e1 e2 ⊢
    rw [← hR] at hv4 hql ⊢
    clear hP hR HG H HM
    go_wp2_with fail
    go_loopg [11] P (fun gk q wr => ∃ i : Nat, q = .int .i64 i ∧ i ≤ P ∧ gk = P - i ∧ Grows w4 wr)
    case atStart => exact ⟨0, rfl, by omega, by omega, Grows.refl _⟩
    case round =>
      obtain ⟨i, rfl, hi, hgk, hgr⟩ := hrel
      have HGK := Lib.hid hgk; clear hgk
      have hsz := hgr.size
      have HL := Lib.hid (hl4.out.grows (by omega) hgr)
      have HH := Lib.hid (hh4.out.grows (by omega) hgr)
      by_cases hlt : i < P
      · obtain ⟨s, hs, hsN, hseen, hup⟩ := e1.out i hlt
        have HSEEN := Lib.hid hseen
        have HUP := Lib.hid hup
        obtain ⟨adS, rfl, _, hcS⟩ := HH.out.int hlt
        rw [hs] at hcS
        obtain ⟨adG, rfl, _, hcG⟩ := HL.out.int hsN
        have HS := Lib.hid hs
        clear hs hseen hup
        have hi0' : (0 : Int) ≤ i := by omega
        have hi1' : (i : Int) < P := by omega
        have hs0' : (0 : Int) ≤ s := by omega
        have hs1' : (s : Int) < N := by omega
        have hsneg : decide ((s : Int) < 0) = false := by simp
        have hsbig : decide (N ≤ s) = false := by simp; omega
        obtain ⟨pg, hpg⟩ : ∃ pg, pg = gi G s := ⟨_, rfl⟩
        rw [← hpg] at hcG HUP
        clear hpg
        have HT := Lib.hid (show anyTo (fun t => shown ks keep t && above G s t) N = true by rw [HN.out]; exact HSEEN.out)
        have hq0 : ∀ k : Nat, 0 ≤ pg → Calls Try.prog 17 #[.slice (some adS) P c4, .int .i64 pg] (wr.drewN k) fun e w' => e = .returned (.bool true) ∧ wr.drewN k = w' := fun k h0 => by
          rw [← HUP.out h0]
          exact in_any _ _ _ _ _ _ _ (HH.out.drewN k) (by omega)
        have hinq := Lib.hid hq0
        clear hq0
        by_cases h0 : 0 ≤ pg
        all_goals cases hi00 : decide (0 < i)
        case' pos.false =>
          (have hd0 : decide (0 ≤ pg) = true := by simpa using h0
           have hi00' : decide ((0 : Int) < i) = false := by simp at hi00 ⊢; omega
           go_wp2
           go_quiet ((go_at_call 17; exact quiet_left (hinq.out _ h0)))
           go_wp2_with fail)
        case' pos.true =>
          (have hd0 : decide (0 ≤ pg) = true := by simpa using h0
           have hi00' : decide ((0 : Int) < i) = true := by simp at hi00 ⊢; omega
           obtain ⟨i', hi'⟩ : ∃ i', i = i' + 1 := ⟨i - 1, by simp at hi00; omega⟩
           have hlt2 : i' + 1 < P := by omega
           obtain ⟨s', hs', hsN', _, _⟩ := e1.out i' (by omega)
           have hup2 := e2.out i' hlt2
           rw [← hi', HS.out, hs'] at hup2
           have hle : decide (s ≤ s') = false := by simp; omega
           have hle' : decide ((s : Int) ≤ s') = false := by simp; omega
           have hcS' := HH.out.intAt (k := i') (by omega)
           rw [hs'] at hcS'
           have hw1 : IntKind.i64.wrap ((i : Int) - 1) = (i' : Int) := by rw [hi', show (((i' + 1 : Nat) : Int) - 1) = (i' : Int) by omega]; rw [IntKind.wrap_i64]; omega
           have hi2' : (0 : Int) ≤ i' := by omega
           have hi3' : (i' : Int) < P := by omega
           have HI := Lib.hid hi'
           clear hi' hup2 hs'
           go_wp2
           go_quiet ((go_at_call 17; exact quiet_left (hinq.out _ h0)))
           go_wp2_with fail)
        case' neg.false =>
          (have hd0 : decide (0 ≤ pg) = false := by simpa using h0
           have hi00' : decide ((0 : Int) < i) = false := by simp at hi00 ⊢; omega
           go_wp2
           go_quiet (fail)
           go_wp2_with fail)
        case' neg.true =>
          (have hd0 : decide (0 ≤ pg) = false := by simpa using h0
           have hi00' : decide ((0 : Int) < i) = true := by simp at hi00 ⊢; omega
           obtain ⟨i', hi'⟩ : ∃ i', i = i' + 1 := ⟨i - 1, by simp at hi00; omega⟩
           have hlt2 : i' + 1 < P := by omega
           obtain ⟨s', hs', hsN', _, _⟩ := e1.out i' (by omega)
           have hup2 := e2.out i' hlt2
           rw [← hi', HS.out, hs'] at hup2
           have hle : decide (s ≤ s') = false := by simp; omega
           have hle' : decide ((s : Int) ≤ s') = false := by simp; omega
           have hcS' := HH.out.intAt (k := i') (by omega)
           rw [hs'] at hcS'
           have hw1 : IntKind.i64.wrap ((i : Int) - 1) = (i' : Int) := by rw [hi', show (((i' + 1 : Nat) : Int) - 1) = (i' : Int) by omega]; rw [IntKind.wrap_i64]; omega
           have hi2' : (0 : Int) ≤ i' := by omega
           have hi3' : (i' : Int) < P := by omega
           have HI := Lib.hid hi'
           clear hi' hup2 hs'
           go_wp2
           go_quiet (fail)
           go_wp2_with fail)
        all_goals
          obtain ⟨wo, hwo⟩ : ∃ wo, wo = wr.drewN nq := ⟨_, rfl⟩
          have hgo : Grows w4 wo := by rw [hwo]; exact hgr.drewN nq
          rw [← hwo]
          clear hwo
          go_loopg [13, 12] N (fun gk q v wx => ∃ k : Nat, q = .int .i64 k ∧ k ≤ N ∧ gk = N - k ∧ v = .bool (anyTo (fun t => shown ks keep t && above G s t) k) ∧ Grows wo wx)
          case atStart => exact ⟨0, rfl, by omega, by omega, rfl, Grows.refl _⟩
          case round =>
            obtain ⟨k, rfl, hk, hgk, hv, hgx⟩ := hrel
            have HGK2 := Lib.hid hgk; clear hgk
            have hgrx := hgo.trans hgx
            have hszx := hgrx.size
            by_cases hlk : k < N
            · have HNX := Lib.hid (anyTo_succ (q := fun t => shown ks keep t && above G s t) (n := k))
              cases hl : anyTo (fun t => shown ks keep t && above G s t) k with
              | true =>
                rw [hl] at hv
                subst hv
                have hnx := Lib.hid (show anyTo (fun t => shown ks keep t && above G s t) (k + 1) = true by rw [HNX.out, hl]; rfl)
                clear hl
                go_wp2
                go_roundg (N - (k + 1))
                case measure => rw [HGK2.out]; omega
                case rel => exact ⟨k + 1, by go_num, by omega, rfl, by rw [hnx.out], hgx⟩
              | false =>
                rw [hl] at hv
                subst hv
                have HLX := Lib.hid (hl4.out.grows (by omega) hgrx)
                have hcX := (hh4.out.grows (by omega) hgrx).intAt hlt
                rw [HS.out] at hcX
                have HVX := Lib.hid (hv4.out.grows (Nat.le_refl _) hgrx)
                have HKX := Lib.hid (hk4.out.grows (by omega) hgrx)
                have d3 := Lib.hid (e3.out k hlk)
                have d6 := Lib.hid (show livep ks k = !inL ks k from rfl)
                have hnx0 := Lib.hid (show anyTo (fun t => shown ks keep t && above G s t) (k + 1) = ((livep ks k || inL keep k) && above G s k) by rw [HNX.out, hl]; rfl)
                clear hl
                go_wp2_with fail
                refine (in_any _ _ _ _ _ _ _ HVX.out (by omega)).mono ?_
                rintro e w' ⟨rfl, rfl⟩
                rw [d3.out]
                cases hlv : livep ks k with
                | true =>
                  have hnx := Lib.hid (show anyTo (fun t => shown ks keep t && above G s t) (k + 1) = above G s k by rw [hnx0.out, hlv]; rfl)
                  clear hlv
                  go_wp2_with fail
                  refine (rabove_any _ _ _ _ _ _ _ _ HLX.out (by omega) (by omega)).mono ?_
                  rintro e w5 ⟨rfl, hg5⟩
                  rw [← hnx.out]
                  have hgx5 := hgx.trans hg5
                  go_wp2
                  go_roundg (N - (k + 1))
                  case measure => rw [HGK2.out]; omega
                  case rel => exact ⟨k + 1, by go_num, by omega, rfl, rfl, hgx5⟩
                | false =>
                  have hlv2 := Lib.hid hlv
                  clear hlv
                  go_wp2_with fail
                  refine (in_any _ _ _ _ _ _ _ HKX.out (by omega)).mono ?_
                  rintro e w' ⟨rfl, rfl⟩
                  cases hkp : inL keep k with
                  | true =>
                    have hnx := Lib.hid (show anyTo (fun t => shown ks keep t && above G s t) (k + 1) = above G s k by rw [hnx0.out, hlv2.out, hkp]; rfl)
                    clear hkp
                    go_wp2_with fail
                    refine (rabove_any _ _ _ _ _ _ _ _ HLX.out (by omega) (by omega)).mono ?_
                    rintro e w5 ⟨rfl, hg5⟩
                    rw [← hnx.out]
                    have hgx5 := hgx.trans hg5
                    go_wp2
                    go_roundg (N - (k + 1))
                    case measure => rw [HGK2.out]; omega
                    case rel => exact ⟨k + 1, by go_num, by omega, rfl, rfl, hgx5⟩
                  | false =>
                    have hnx := Lib.hid (show anyTo (fun t => shown ks keep t && above G s t) (k + 1) = false by rw [hnx0.out, hlv2.out, hkp]; rfl)
                    clear hkp
                    go_wp2
                    go_roundg (N - (k + 1))
                    case measure => rw [HGK2.out]; omega
                    case rel => exact ⟨k + 1, by go_num, by omega, rfl, by rw [hnx.out], hgx⟩
            · have hkP : k = N := by omega
              rw [hkP, HT.out] at hv
              subst hv
              go_wp2
              go_roundg (P - (i + 1))
              case measure => rw [HGK.out]; omega
              case rel => exact ⟨i + 1, by go_num, by omega, rfl, hgrx⟩
      · obtain ⟨wo, rfl⟩ : ∃ wo : World, wo = wr := ⟨_, rfl⟩
        go_wp2_with fail
        go_loopg [14] N (fun gk q wr => ∃ i : Nat, q = .int .i64 i ∧ i ≤ N ∧ gk = N - i ∧ Grows wo wr)
        case atStart => exact ⟨0, rfl, by omega, by omega, Grows.refl _⟩
        case round =>
          obtain ⟨j, rfl, hj, hgk, hgy⟩ := hrel
          have HGJ := Lib.hid hgk; clear hgk
          have hgry := hgr.trans hgy
          have hsy := hgry.size
          by_cases hlt : j < N
          · have HV2 := Lib.hid (hv4.out.grows (Nat.le_refl _) hgry)
            have HS2 := Lib.hid (hh4.out.grows (by omega) hgry)
            have HK2 := Lib.hid (hk4.out.grows (by omega) hgry)
            have HM2 := Lib.hid (hm4.out.grows (by omega) hgry)
            have d3 := Lib.hid (e3.out j hlt)
            have d4 := Lib.hid (e4.out j hlt)
            have d5 := Lib.hid (e5.out j hlt)
            go_wp2_with fail
            refine (in_any _ _ _ _ _ _ _ HV2.out (by omega)).mono ?_
            rintro e w' ⟨rfl, rfl⟩
            rw [d3.out]
            have d6 := Lib.hid (show livep ks j = !inL ks j from rfl)
            cases hlv : inL ks j with
            | true =>
              have hf := Lib.hid (show livep ks j = false by rw [d6.out, hlv]; rfl)
              have hi1 := Lib.hid hlv
              rw [hf.out]
              go_wp2_with fail
              refine (in_any _ _ _ _ _ _ _ HK2.out (by omega)).mono ?_
              rintro e w' ⟨rfl, rfl⟩
              cases hkp : inL keep j with
              | true =>
                have hsn := Lib.hid (d5.out (by unfold shown; rw [hkp, Bool.or_true]))
                go_wp2_with fail
                refine (in_any _ _ _ _ _ _ _ HS2.out (by omega)).mono ?_
                rintro e w' ⟨rfl, rfl⟩
                rw [d4.out, hsn.out]
                go_wp2_with fail
                refine (in_any _ _ _ _ _ _ _ HV2.out (by omega)).mono ?_
                rintro e w' ⟨rfl, rfl⟩
                rw [d3.out, hf.out]
                go_wp2_with fail
                refine (robs_any _ _ _ _ ks _ _ HM2.out (by simp only [maxLen]; omega)).mono ?_
                rintro e w' ⟨rfl, rfl⟩
                rw [hi1.out]
                go_wp2
                go_roundg (N - (j + 1))
                case measure => rw [HGJ.out]; omega
                case rel => exact ⟨j + 1, by go_num, by omega, rfl, hgy⟩
              | false =>
                go_wp2_with fail
                refine (in_any _ _ _ _ _ _ _ HV2.out (by omega)).mono ?_
                rintro e w' ⟨rfl, rfl⟩
                rw [d3.out, hf.out]
                go_wp2_with fail
                refine (robs_any _ _ _ _ ks _ _ HM2.out (by simp only [maxLen]; omega)).mono ?_
                rintro e w' ⟨rfl, rfl⟩
                rw [hi1.out]
                go_wp2
                go_roundg (N - (j + 1))
                case measure => rw [HGJ.out]; omega
                case rel => exact ⟨j + 1, by go_num, by omega, rfl, hgy⟩
            | false =>
              have hf := Lib.hid (show livep ks j = true by rw [d6.out, hlv]; rfl)
              have hi1 := Lib.hid hlv
              have hsn := Lib.hid (d5.out (by unfold shown; rw [hf.out]; rfl))
              rw [hf.out]
              go_wp2_with fail
              refine (in_any _ _ _ _ _ _ _ HS2.out (by omega)).mono ?_
              rintro e w' ⟨rfl, rfl⟩
              rw [d4.out, hsn.out]
              go_wp2_with fail
              refine (in_any _ _ _ _ _ _ _ HV2.out (by omega)).mono ?_
              rintro e w' ⟨rfl, rfl⟩
              rw [d3.out, hf.out]
              go_wp2_with fail
              refine (robs_any _ _ _ _ ks _ _ HM2.out (by simp only [maxLen]; omega)).mono ?_
              rintro e w' ⟨rfl, rfl⟩
              rw [hi1.out]
              go_wp2
              go_roundg (N - (j + 1))
              case measure => rw [HGJ.out]; omega
              case rel => exact ⟨j + 1, by go_num, by omega, rfl, hgy⟩
          · go_wp2_with fail
            refine (vawake_any _).mono ?_
            rintro e w6 ⟨rfl, hg6⟩
            have hfin := (hg24.trans hgry).trans hg6
            go_wp2_with fail
            go_ret
            exact ⟨rfl, hfin⟩

end Go.Proofs.Ytdhdlkbldngmoaa
