/- VisibleHeads: the walk of the law. -/
import Derived.Test.YtdhdlkbldngmoaaVisTells
import Derived.Test.YtdhdlkbldngmoaaVisMore
namespace Go.Proofs.Ytdhdlkbldngmoaa
open Go.RowKit Go.Deep

set_option maxHeartbeats 8000000 in
set_option maxRecDepth 100000 in
theorem vheadsLaw_any (A A' : Option Addr) (n c m c' : Nat) (xs olds : List Int) (news : Nat → List Int) (w : World) (h : Reads w w.heap.size 1 A n (ints xs)) (hn : n ≤ maxLen) (hm0 : MarksN w w.heap.size A' m olds news) (hm : m ≤ maxLen) :
    Calls Try.prog 10 #[.slice A n c, .slice A' m c'] w fun e w' => e = .returned (.bool true) ∧ Grows w w' := by
  have H := Lib.hid h; clear h
  have HM := Lib.hid hm0; clear hm0
  have hmc := hm
  unfold maxLen at hmc
  go_enter Try.func10, Try.ntmps10
  go_wp2_with fail
  refine (few_any _ _ _ _ olds _ HM.out.marks hm).mono ?_
  rintro e w' ⟨b, rfl, hbm, rfl⟩
  cases b
  · go_wp2_with fail
    refine (vawake_any _).mono ?_
    rintro e w3 ⟨rfl, hg3⟩
    go_wp2_with fail
    go_ret
    exact ⟨rfl, hg3⟩
  · have hm40 := hbm rfl
    clear hbm
    have hr := right_parents xs 30
    have hpl : (parents xs 30).length ≤ 30 := by rw [parents_len]; omega
    obtain ⟨G, hG⟩ : ∃ G, G = parents xs 30 := ⟨_, rfl⟩
    rw [← hG] at hr hpl
    have HR := Lib.hid hr
    have HG := Lib.hid hG
    obtain ⟨N, hN⟩ : ∃ N, N = G.length := ⟨_, rfl⟩
    rw [← hN] at hpl
    have HN := Lib.hid hN
    clear hr hG hN
    go_wp2_with fail
    refine (parents_any _ _ _ _ _ 30 _ H.out (Nat.le_refl _) hn (by omega)).mono fun e w1 h => ?_
    obtain ⟨A1, c1, rfl, hr1, hg1⟩ := retL G N HG.out.symm HN.out.symm h
    clear h
    have hl1 := Lib.hid hr1
    have hm1 := Lib.hid (HM.out.grows (Nat.le_refl _) hg1)
    have hz1 := hg1.size
    clear hr1
    go_wp2_with fail
    refine (markers_any _ _ _ _ N olds news _ hm1.out hz1 hm (by omega)).mono ?_
    rintro e w2 ⟨A2, q, c2, ks, rfl, hk2, hq, hg2⟩
    have hz2 := hg2.size
    have hl2 := Lib.hid (hl1.out.grows (Nat.le_refl _) hg2)
    have HK2 := Lib.hid hk2
    have hgg := hg1.trans hg2
    clear hk2 hm1 hl1
    go_wp2_with fail
    refine (vHeads_any _ _ _ _ _ _ _ _ _ ks _ hl2.out HK2.out (by omega) (Nat.le_refl _) (by omega) (by simp only [maxLen]; omega)).mono fun e w3 h => ?_
    obtain ⟨QH, hQH⟩ : ∃ QH, QH = headL G ks := ⟨_, rfl⟩
    obtain ⟨A3, c3, rfl, hr3, hg3⟩ := retL QH QH.length hQH.symm rfl h
    clear h
    have HQH := Lib.hid hQH
    have hh3 := Lib.hid hr3
    have hl3 := Lib.hid (hl2.out.grows (by omega) hg3)
    have HK3 := Lib.hid (HK2.out.grows (Nat.le_refl _) hg3)
    have hz3 := hg3.size
    have hqh : QH.length ≤ N := by rw [hQH, HN.out]; exact headL_len _ _
    clear hr3 hQH
    go_wp2_with fail
    refine (vLive_any _ _ _ _ _ _ _ _ _ ks _ hl3.out HK3.out (by omega) (by omega) (by simp only [maxLen]; omega)).mono fun e w4 h => ?_
    obtain ⟨QL, hQL⟩ : ∃ QL, QL = liveL G ks := ⟨_, rfl⟩
    obtain ⟨A4, c4, rfl, hr4, hg4⟩ := retL QL QL.length hQL.symm rfl h
    clear h
    have HQL := Lib.hid hQL
    have hv4 := Lib.hid hr4
    have hl4 := Lib.hid (hl3.out.grows (by omega) hg4)
    have hh4 := Lib.hid (hh3.out.grows (Nat.le_refl _) hg4)
    have hz4 := hg4.size
    have hg24 := hgg.trans (hg3.trans hg4)
    have hql : QL.length ≤ N := by rw [hQL, HN.out]; exact liveL_len _ _
    clear hr4 hQL hl2 hl3 hh3 HK2 HK3 hgg
    have e1 := Lib.hid (show ∀ i, i < QH.length → inL QL (gi QH i) = true from fun i hi => by
      rw [HQL.out, HQH.out]
      exact head_live HR.out (by rw [← HQH.out]; exact hi))
    have e2 := Lib.hid (show ∀ i k, i < QH.length → k < QH.length → k ≠ i → above G (gi QH i) (gi QH k) = false from fun i k hi hk hne => by
      rw [HQH.out]
      exact head_lone HR.out (by rw [← HQH.out]; exact hi) (by rw [← HQH.out]; exact hk) hne)
    have e3 := Lib.hid (show ∀ i, i < QL.length → anyTo (fun t => above G (gi QL i) (gi QH t)) QH.length = true from fun i hi => by
      rw [HQL.out, HQH.out]
      exact live_under HR.out (by rw [← HQL.out]; exact hi))
    obtain ⟨P, hP⟩ : ∃ P, P = QH.length := ⟨_, rfl⟩
    obtain ⟨R, hR⟩ : ∃ R, R = QL.length := ⟨_, rfl⟩
    rw [← hP] at hh4 hqh e1 e2 e3 ⊢
    rw [← hR] at hv4 hql e3 ⊢
    clear hP hR HG H HM
    go_wp2_with fail
    go_loopg [9] P (fun gk q wr => ∃ i : Nat, q = .int .i64 i ∧ i ≤ P ∧ gk = P - i ∧ Grows w4 wr)
    case atStart => exact ⟨0, rfl, by omega, by omega, Grows.refl _⟩
    case round =>
      obtain ⟨i, rfl, hi, hgk, hgr⟩ := hrel
      have HGK := Lib.hid hgk; clear hgk
      have hsz := hgr.size
      have HL := Lib.hid (hl4.out.grows (by omega) hgr)
      have HH := Lib.hid (hh4.out.grows (by omega) hgr)
      have HV := Lib.hid (hv4.out.grows (by omega) hgr)
      by_cases hlt : i < P
      · obtain ⟨ad, rfl, _, hc0⟩ := HH.out.int hlt
        have hin := Lib.hid (e1.out i hlt)
        obtain ⟨wo, rfl⟩ : ∃ wo : World, wo = wr := ⟨_, rfl⟩
        go_wp2_with fail
        refine (in_any _ _ _ _ _ _ _ HV.out (by omega)).mono ?_
        rintro e w' ⟨rfl, rfl⟩
        rw [hin.out]
        go_wp2_with fail
        go_loopg [10] P (fun gk q wx => ∃ k : Nat, q = .int .i64 k ∧ k ≤ P ∧ gk = P - k ∧ Grows wo wx)
        case atStart => exact ⟨0, rfl, by omega, by omega, Grows.refl _⟩
        case round =>
          obtain ⟨k, rfl, hk, hgk, hgx⟩ := hrel
          have HGK2 := Lib.hid hgk; clear hgk
          have hgrx := hgr.trans hgx
          have hszx := hgrx.size
          have HLX := Lib.hid (hl4.out.grows (by omega) hgrx)
          have HHX := Lib.hid (hh4.out.grows (by omega) hgrx)
          by_cases hlk : k < P
          · have hd0 := HHX.out.intAt hlt
            have hd1 := HHX.out.intAt hlk
            have hi0' : (0 : Int) ≤ i := by omega
            have hi1' : (i : Int) < P := by omega
            have hk0' : (0 : Int) ≤ k := by omega
            have hk1' : (k : Int) < P := by omega
            by_cases hki : k = i
            · subst hki
              have hkk : ((k : Int) != (k : Int)) = false := by simp
              go_wp2
              go_quiet (fail)
              go_wp2
              go_roundg (P - (k + 1))
              case measure => rw [HGK2.out]; omega
              case rel => exact ⟨k + 1, by go_num, by omega, rfl, hgx.drewN _⟩
            · have hkk : ((k : Int) != (i : Int)) = true := by simp; omega
              have hno := Lib.hid (e2.out i k hlt hlk hki)
              go_wp2
              go_still_tail 13, (by kernel_rfl)
              have ew : ({ heap := wr.heap, tape := wr.tape, drawn := wr.drawn + 1, os := wr.os, output := wr.output } : World) = wr.drew := rfl
              rw [ew]
              have hgd : Grows wo wr.drew := hgx.drew
              have HXD := Lib.hid (HLX.out.drew)
              have hzd : w2.heap.size ≤ wr.drew.heap.size := by
                have : wr.drew.heap.size = wr.heap.size := rfl
                omega
              clear ew
              go_wp2_with (go_at_call 26; refine (rabove_any _ _ _ _ _ _ _ _ HXD.out (by omega) (by omega)).mono ?_; rintro e w5 ⟨rfl, hg5⟩; rw [hno.out]; have hgx5 := hgd.trans hg5)
              go_roundg (P - (k + 1))
              case measure => rw [HGK2.out]; omega
              case rel => exact ⟨k + 1, by go_num, by omega, rfl, hgx5⟩
          · go_wp2
            go_roundg (P - (i + 1))
            case measure => rw [HGK.out]; omega
            case rel => exact ⟨i + 1, by go_num, by omega, rfl, hgrx⟩
      · obtain ⟨wo, rfl⟩ : ∃ wo : World, wo = wr := ⟨_, rfl⟩
        go_wp2_with fail
        go_loopg [11] R (fun gk q wr => ∃ i : Nat, q = .int .i64 i ∧ i ≤ R ∧ gk = R - i ∧ Grows wo wr)
        case atStart => exact ⟨0, rfl, by omega, by omega, Grows.refl _⟩
        case round =>
          obtain ⟨j, rfl, hj, hgk, hgy⟩ := hrel
          have HGJ := Lib.hid hgk; clear hgk
          have hgry := hgr.trans hgy
          have hsy := hgry.size
          by_cases hlt : j < R
          · have HT := Lib.hid (e3.out j hlt)
            have HV2 := Lib.hid (hv4.out.grows (Nat.le_refl _) hgry)
            obtain ⟨ad, rfl, _, _⟩ := HV2.out.int hlt
            obtain ⟨wy, rfl⟩ : ∃ wy : World, wy = wr := ⟨_, rfl⟩
            go_wp2_with fail
            go_loopg [13, 12] P (fun gk q v wx => ∃ k : Nat, q = .int .i64 k ∧ k ≤ P ∧ gk = P - k ∧ v = .bool (anyTo (fun t => above G (gi QL j) (gi QH t)) k) ∧ Grows wy wx)
            case atStart => exact ⟨0, rfl, by omega, by omega, rfl, Grows.refl _⟩
            case round =>
              obtain ⟨k, rfl, hk, hgk, hv, hgx⟩ := hrel
              have HGK2 := Lib.hid hgk; clear hgk
              have hgrx := hgry.trans hgx
              have hszx := hgrx.size
              have HLX := Lib.hid (hl4.out.grows (by omega) hgrx)
              have HHX := Lib.hid (hh4.out.grows (by omega) hgrx)
              have HVX := Lib.hid (hv4.out.grows (Nat.le_refl _) hgrx)
              by_cases hlk : k < P
              · obtain ⟨adh, rfl, _, hd1⟩ := HHX.out.int hlk
                have hd0 := HVX.out.intAt hlt
                have hj0' : (0 : Int) ≤ j := by omega
                have hj1' : (j : Int) < R := by omega
                have hk0' : (0 : Int) ≤ k := by omega
                have hk1' : (k : Int) < P := by omega
                have HNX := Lib.hid (anyTo_succ (q := fun t => above G (gi QL j) (gi QH t)) (n := k))
                cases hl : anyTo (fun t => above G (gi QL j) (gi QH t)) k with
                | true =>
                  rw [hl] at hv
                  subst hv
                  have hnx := Lib.hid (show anyTo (fun t => above G (gi QL j) (gi QH t)) (k + 1) = true by rw [HNX.out, hl]; rfl)
                  clear hl
                  go_wp2
                  go_quiet (fail)
                  go_wp2
                  go_roundg (P - (k + 1))
                  case measure => rw [HGK2.out]; omega
                  case rel => exact ⟨k + 1, by go_num, by omega, rfl, by rw [hnx.out], hgx.drewN _⟩
                | false =>
                  rw [hl] at hv
                  subst hv
                  have hnx := Lib.hid (show anyTo (fun t => above G (gi QL j) (gi QH t)) (k + 1) = above G (gi QL j) (gi QH k) by rw [HNX.out, hl]; rfl)
                  clear hl
                  go_wp2
                  go_still_tail 11, (by kernel_rfl)
                  have ew : ({ heap := wr.heap, tape := wr.tape, drawn := wr.drawn + 1, os := wr.os, output := wr.output } : World) = wr.drew := rfl
                  rw [ew]
                  have hgd : Grows wy wr.drew := hgx.drew
                  have HXD := Lib.hid (HLX.out.drew)
                  have hzd : w2.heap.size ≤ wr.drew.heap.size := by
                    have : wr.drew.heap.size = wr.heap.size := rfl
                    omega
                  clear ew
                  go_wp2_with (go_at_call 26; refine (rabove_any _ _ _ _ _ _ _ _ HXD.out (by omega) (by omega)).mono ?_; rintro e w5 ⟨rfl, hg5⟩; rw [← hnx.out]; have hgx5 := hgd.trans hg5)
                  go_roundg (P - (k + 1))
                  case measure => rw [HGK2.out]; omega
                  case rel => exact ⟨k + 1, by go_num, by omega, rfl, rfl, hgx5⟩
              · have hkP : k = P := by omega
                subst hkP
                rw [HT.out] at hv
                subst hv
                go_wp2
                go_roundg (R - (j + 1))
                case measure => rw [HGJ.out]; omega
                case rel => exact ⟨j + 1, by go_num, by omega, rfl, hgy.trans hgx⟩
          · go_wp2_with fail
            refine (vawake_any _).mono ?_
            rintro e w6 ⟨rfl, hg6⟩
            have hfin := (hg24.trans hgry).trans hg6
            go_wp2_with fail
            go_ret
            exact ⟨rfl, hfin⟩

end Go.Proofs.Ytdhdlkbldngmoaa
