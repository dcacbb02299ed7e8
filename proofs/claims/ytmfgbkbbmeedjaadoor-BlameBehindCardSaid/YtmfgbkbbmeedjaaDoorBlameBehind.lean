/- BlameBehind: the walk. -/
import Derived.Test.YtmfgbkbbmeedjaaDoorBlameStays
namespace Go.Proofs.YtmfgbkbbmeedjaaDoor
open Go.RowKit Go.Deep Go.MapKept

theorem blame_behind {l : List (List ByteArray)} {more : List ByteArray} {n : Nat} (hl : l.length = n) (h0 : 0 < n) : blameL (l ++ [gv l (n - 1) ++ more]) = blameL l ++ List.replicate more.length (n : Int) := by
  rw [blame_snoc hl h0, blame_more]
  rw [blameL_len, hl, if_neg (by omega)]

theorem gi_app {xs ys : List Int} {k : Nat} : gi (xs ++ ys) k = if k < xs.length then gi xs k else gi ys (k - xs.length) := by
  rw [gi, gi, gi, List.getD_eq_getElem?_getD, List.getD_eq_getElem?_getD, List.getD_eq_getElem?_getD]
  by_cases h : k < xs.length
  · rw [if_pos h, List.getElem?_append_left h]
  · rw [if_neg h, List.getElem?_append_right (by omega)]
set_option maxRecDepth 100000 in
set_option maxHeartbeats 2000000 in
theorem bbehind_any (A1 A2 : Option Addr) (n1 c1 n2 c2 : Nat) (l : List (List ByteArray)) (s : List ByteArray) (w : World) (hl : Vers w w.heap.size A1 n1 l) (hs : Reads w w.heap.size 1 A2 n2 (strs s)) (hm : MaxL w) :
    Calls Tryd.prog 13 #[.slice A1 n1 c1, .slice A2 n2 c2] w fun e w' => e = .returned (.bool true) ∧ Grows w w' := by
  have HLs := Lib.hid hs.strLen
  have HLl := Lib.hid hl.1
  have HV := Lib.hid hl
  have HR := Lib.hid hs
  clear hl hs
  by_cases g0 : n1 = 0
  · subst g0
    go_enter Tryd.func13, Tryd.ntmps13
    go_wp2_with fail
    refine (bawake_any w hm).mono ?_
    rintro e w1 ⟨rfl, hg⟩
    go_wp2_with fail
    go_ret
    exact ⟨rfl, hg⟩
  have k0 : ((n1 : Int) == 0) = false := by rw [beq_eq_false_iff_ne]; omega
  by_cases g1 : 8 < n1
  · have k1 : (n1 : Int) > 8 := by omega
    go_enter Tryd.func13, Tryd.ntmps13
    go_wp2_with fail
    refine (bawake_any w hm).mono ?_
    rintro e w1 ⟨rfl, hg⟩
    go_wp2_with fail
    go_ret
    exact ⟨rfl, hg⟩
  have k1 : ¬ ((n1 : Int) > 8) := by omega
  by_cases g2 : 20 < n2
  · have k2 : (n2 : Int) > 20 := by omega
    go_enter Tryd.func13, Tryd.ntmps13
    go_wp2_with fail
    refine (bawake_any w hm).mono ?_
    rintro e w1 ⟨rfl, hg⟩
    go_wp2_with fail
    go_ret
    exact ⟨rfl, hg⟩
  have k2 : ¬ ((n2 : Int) > 20) := by omega
  obtain ⟨l0, hl0, hl1, hl2, hl3⟩ := info_parts Tryd.infoSl
  go_enter Tryd.func13, Tryd.ntmps13
  go_wp2_with fail
  go_loopg [5] n1 (fun gk q wr => wr = w ∧ ∃ k : Nat, q = .int .i64 k ∧ k ≤ n1 ∧ gk = n1 - k ∧ ∀ i, i < k → (gv l i).length ≤ 30)
  case atStart => exact ⟨rfl, 0, rfl, by omega, rfl, fun i hi => absurd hi (Nat.not_lt_zero i)⟩
  case round =>
    obtain ⟨rfl, k, rfl, hk, hgk, hno⟩ := hrel
    have HG := Lib.hid hgk; clear hgk
    have HN := Lib.hid hno; clear hno
    by_cases hlt : k < n1
    · obtain ⟨ad, A', n', c', rfl, had, p0, r0, _, _, e0⟩ := HV.out.at_ hlt
      have q0 : (0 : Int) ≤ k := by omega
      have q1 : (k : Int) < n1 := by omega
      have hsu := Lib.hid (fun h : (gv l k).length ≤ 30 => (show ∀ i, i < k + 1 → (gv l i).length ≤ 30 from fun i hi => by
        rcases Nat.lt_succ_iff_lt_or_eq.1 hi with h1 | rfl
        · exact HN.out i h1
        · exact h))
      rw [e0] at hsu
      clear e0 r0
      by_cases g3 : 30 < n'
      · have q3 : (n' : Int) > 30 := by omega
        go_wp2_with fail
        refine (bawake_any wr hm).mono ?_
        rintro e w1 ⟨rfl, hg⟩
        go_wp2_with fail
        go_ret
        exact ⟨rfl, hg⟩
      · have q3 : ¬ ((n' : Int) > 30) := by omega
        go_wp2_with fail
        go_roundg (n1 - (k + 1))
        case measure => rw [HG.out]; omega
        case rel => exact ⟨rfl, k + 1, by go_num, by omega, rfl, hsu.out (by omega)⟩
    · have hkn : k = n1 := by omega
      subst hkn
      have q1 : ¬ ((k : Int) < k) := by omega
      obtain ⟨wz, rfl⟩ : ∃ wz, wz = wr := ⟨_, rfl⟩
      obtain ⟨m, rfl⟩ : ∃ m, k = m + 1 := ⟨k - 1, by omega⟩
      obtain ⟨ad, A', n', c', rfl, had, p0, r0, m0, mm0, e0⟩ := HV.out.at_ (i := m) (by omega)
      have q2 : (0 : Int) ≤ m := by omega
      have HN1 := Lib.hid (show ∀ i, i < m + 1 → (gv l i).length ≤ 1000 from fun i hi => Nat.le_trans (HN.out i hi) (by decide))
      go_wp2_with fail
      have hN5 : (blameL l).length = n' := by rw [blameL_len, HLl.out, if_neg (by omega)]; exact e0
      refine (blines_any _ _ (m + 1) c1 l wz HV.out (Nat.le_refl _) (by omega) HN1.out).mono ?_
      rintro e w1 ⟨v, rfl, ⟨A5, c5, rfl, hr5⟩, hg1⟩
      rw [hN5] at hr5 ⊢
      have HR5 := Lib.hid hr5
      have HG1 := Lib.hid hg1
      have hs1 := hg1.size
      obtain ⟨_, vs, hrv, hvv⟩ := HV.out.grows (Nat.le_refl _) hg1
      have HRV := Lib.hid hrv
      have HVV := Lib.hid hvv
      have hvl : vs.length = m + 1 := by have := hrv.1; omega
      clear hr5 hg1 hrv hvv p0
      have hone : ∀ u ∈ vs, u.oneCell' = true := by
        intro u hu
        obtain ⟨i, hi⟩ := List.getElem?_of_mem hu
        have hil : i < m + 1 := by have := (List.getElem?_eq_some_iff.1 hi).1; omega
        obtain ⟨_, _, _, e1, _⟩ := HVV.out i hil
        rw [e1] at hi
        cases hi
        rfl
      obtain ⟨s0, hs0, hs1', hs2', hs3'⟩ := info_parts Tryd.infoStr
      have hn30 : n' ≤ 30 := by rw [← e0]; exact HN.out m (by omega)
      go_wp2_with (first
        | (at_builtin; refine wpList_append_any _ rfl (.const (.slice none 0 0)) (.tmp 45) _ rfl w1.heap.size 22 l0 _ 1 24 Tryd.underlying37 hl0 hl1 hl2 hl3 rfl (by decide) _ _ _ rfl (World.ownsRow_nil w1 _ _ _) _ _ _ _ _ rfl HRV.out hone (by simp only [maxLen]; omega) (by omega) (Nat.le_refl _) ?_; intro v2 w2 hown2 hgb2 hor2; have hg2 : Grows w1 w2 := Below.grown (Grows.refl w1) hgb2 (Nat.le_refl _) (fun k hk => by cases hk); rw [List.nil_append, Nat.zero_add] at hown2; obtain ⟨A6, c6, rfl, hc6, hcM6⟩ := own_form hown2; have hs2 := hg2.size; have hrl := r0.grows (Nat.le_refl _) (HG1.out.trans hg2); clear hor2 hgb2)
        | (at_builtin; refine wpList_append_any _ rfl (.const (.slice none 0 0)) (.tmp 47) _ rfl w2.heap.size 9 s0 _ 1 16 Tryd.underlying22 hs0 hs1' hs2' hs3' rfl (by decide) _ _ _ rfl (World.ownsRow_nil w2 _ _ _) _ _ _ _ _ rfl hrl (strs_oneCell _) (by simp only [maxLen]; omega) (by omega) (Nat.le_refl _) ?_; intro v3 w3 hown3 hgb3 hor3; have hg3 : Grows w2 w3 := Below.grown (Grows.refl w2) hgb3 (Nat.le_refl _) (fun k hk => by cases hk); rw [List.nil_append, Nat.zero_add] at hown3; obtain ⟨A7, c7, rfl, hc7, hcM7⟩ := own_form hown3; have hs3 := hg3.size; have hown2a := own_grows hown2 hg3; have hrs := HR.out.grows (Nat.le_refl _) (HG1.out.trans (hg2.trans hg3)); clear hor3 hgb3)
        | (at_builtin; refine wpList_append_any _ rfl (.tmp 48) (.tmp 49) _ rfl w2.heap.size 9 s0 _ 1 16 Tryd.underlying22 hs0 hs1' hs2' hs3' rfl (by decide) _ _ _ rfl hown3 _ _ _ _ _ rfl hrs (strs_oneCell _) (by simp only [maxLen]; omega) (by omega) hs3 ?_; intro v4 w4 hown4 hgb4 hor4; have hg4 : Grows w2 w4 := Below.grown hg3 hgb4 hs3 (fun k hk => (hown3.lt k hk).1); have hown2b := World.ownsRow.kept hown2a hgb4 (own_own_ne hown2a hown3 (by decide)); obtain ⟨A8, c8, rfl, hc8, hcM8⟩ := own_form hown4; have hs4 := hg4.size; clear hor4 hgb4)
        | (at_builtin; refine wpList_pushG rfl (.tmp 46) (.tmp 51) _ rfl (w1.heap.size) 22 l0 _ 1 24 Tryd.underlying37 hl0 hl1 hl2 hl3 rfl (by decide) _ _ _ rfl ((hown2b).alloc _) ⟨(w4).heap.size, 0, none⟩ 1 1 [.slice A8 (n' + n2) c8] rfl rfl (cell_one_new _ _ _) (by intro u hu; simp at hu; subst hu; rfl) (by simp only [maxLen]; omega) (by omega) (by simp; omega) ?_; intro v5 w5 hown5 hb5 hgb5; have hown4b := World.ownsRow.kept (hown4.alloc (.cells #[.slice A8 (n' + n2) c8] 22)) hgb5 (own_own_ne (hown4.alloc (.cells #[.slice A8 (n' + n2) c8] 22)) (hown2b.alloc (.cells #[.slice A8 (n' + n2) c8] 22)) (by decide)); obtain ⟨A9, c9, rfl, hc9, hcM9⟩ := own_form hown5))
      have hg5 : Grows w1 w5 := Below.trans ((hg2.trans hg4).alloc _) hb5
      rw [← strs_append] at hown4b
      have hnr := Reads.of_own hown4b
      clear hgb5 hb5 hg2 hg3 hg4 hown2 hown2a hown2b hown3 hown4 hrl hrs hone
      have hs5 := hg5.size
      have HV3 := Lib.hid (vers_mk (ll := l ++ [gv l m ++ s]) hown5 (by rw [List.length_append, HLl.out]; rfl) (Nat.le_refl _) (fun i hi => by
        rw [gv_snoc HLl.out]
        by_cases h : i < m + 1
        · obtain ⟨B', b', d', e1, e2, e3, e4⟩ := HVV.out i h
          refine ⟨B', b', d', by rw [List.getElem?_append_left (by omega)]; exact e1, by rw [if_pos h]; exact (e2.grows hs1 hg5).more (by omega), e3, e4⟩
        · have hi2 : i = m + 1 := by omega
          refine ⟨A8, n' + n2, c8, by rw [List.getElem?_append_right (by omega), hvl, hi2, Nat.sub_self]; rfl, by rw [if_neg h, if_pos hi2]; exact hnr, hc8, hcM8⟩))
      have HN3 := Lib.hid (show ∀ i, i < m + 1 + 1 → (gv (l ++ [gv l m ++ s]) i).length ≤ 1000 from fun i hi => by
        rw [gv_snoc HLl.out]
        split
        · exact HN1.out i (by assumption)
        · split
          · rw [List.length_append, e0, HLs.out]; omega
          · exact Nat.zero_le _)
      have hst := Lib.hid (show blameL (l ++ [gv l m ++ s]) = blameL l ++ List.replicate n2 ((m + 1 : Nat) : Int) by
        have h := blame_behind (l := l) (more := s) (n := m + 1) HLl.out (Nat.succ_pos m)
        rw [HLs.out] at h
        exact h)
      have HR5' := Lib.hid (HR5.out.grows (Nat.le_refl _) hg5)
      have HG3 := Lib.hid (HG1.out.trans hg5)
      clear hown4b hown5 hg5 HR5 HG1 hnr
      refine (blines_any w5.heap.size A9 (m + 1 + 1) c9 (l ++ [gv l m ++ s]) w5 HV3.out (Nat.le_refl _) (by omega) HN3.out).mono ?_
      rw [hst.out]
      rintro e w6 ⟨v, rfl, ⟨A10, c10, rfl, hr8⟩, hg4⟩
      have hl8 : (blameL l ++ List.replicate n2 ((m + 1 : Nat) : Int)).length = n' + n2 := by rw [List.length_append, hN5, List.length_replicate]
      rw [hl8] at hr8 ⊢
      have HR8 := Lib.hid hr8
      have HR5 := Lib.hid (HR5'.out.grows hs5 hg4)
      have HG4 := Lib.hid (HG3.out.trans hg4)
      have hm4 := hm.grows HG4.out
      have hs6 := Nat.le_trans hs5 hg4.size
      clear hr8 hg4 HR5' HG3 HV3 HRV HVV
      clear hl8
      go_wp2_with fail
      refine (bawake_any w6 hm4).mono ?_
      rintro e w7 ⟨rfl, hg5⟩
      have HR8' := Lib.hid (HR8.out.grows (Nat.le_refl _) hg5)
      have HR5' := Lib.hid (HR5.out.grows hs6 hg5)
      have HG5 := Lib.hid (HG4.out.trans hg5)
      have hs7 := hg5.size
      have hs8 := Nat.le_trans hs6 hg5.size
      clear hg5 HR8 HR5 HG4 hm4
      go_wp2_with fail
      go_loopg [9] (n' + n2) (fun gk2 q wq => (Grows w7 wq) ∧ ∃ j : Nat, q = .int .i64 j ∧ j ≤ n' + n2 ∧ gk2 = n' + n2 - j)
      case atStart => exact ⟨Grows.refl _, 0, rfl, by omega, rfl⟩
      case round =>
        obtain ⟨hg8, j, rfl, hj, hgj⟩ := hrel
        have HGJ := Lib.hid hgj; clear hgj
        by_cases hlj : j < n' + n2
        · obtain ⟨a8, rfl, ha8, p8⟩ := (HR8'.out.grows hs7 hg8).int hlj
          have hgi := gi_app (xs := blameL l) (ys := List.replicate n2 ((m + 1 : Nat) : Int)) (k := j)
          rw [hN5] at hgi
          have j0 : (0 : Int) ≤ j := by omega
          have j1 : (j : Int) < (n' : Int) + n2 := by omega
          by_cases hjn : j < n'
          · obtain ⟨a5, rfl, ha5, p5⟩ := (HR5'.out.grows hs8 hg8).int hjn
            rw [hgi, if_pos hjn] at p8
            obtain ⟨z, hz⟩ : ∃ z, gi (blameL l) j = z := ⟨_, rfl⟩
            rw [hz] at p5 p8
            clear hz hgi
            have d1 : decide ((j : Int) < n') = true := by simp; omega
            have d2 : decide ((n' : Int) ≤ j) = false := by simp; omega
            have d3 : decide (n' ≤ j) = false := by simp; omega
            have d4 : decide (j < n') = true := by simp; omega
            have j2 : (j : Int) < n' := by omega
            go_wp2
            go_quiet (fail)
            go_wp2_with fail
            go_roundg (n' + n2 - (j + 1))
            case measure => rw [HGJ.out]; omega
            case rel => exact ⟨hg8.drewN nq, j + 1, by go_num, by omega, rfl⟩
          · rw [hgi, if_neg hjn] at p8
            have hone : gi (List.replicate n2 ((m + 1 : Nat) : Int)) (j - n') = (m : Int) + 1 := by
              rw [gi, List.getD_eq_getElem?_getD, List.getElem?_replicate, if_pos (by omega)]; rfl
            rw [hone] at p8
            clear hone hgi
            have d1 : decide ((j : Int) < n') = false := by simp; omega
            have d2 : decide ((n' : Int) ≤ j) = true := by simp; omega
            have d3 : decide (n' ≤ j) = true := by simp; omega
            have d4 : decide (j < n') = false := by simp; omega
            go_wp2
            go_quiet (fail)
            go_wp2_with fail
            go_roundg (n' + n2 - (j + 1))
            case measure => rw [HGJ.out]; omega
            case rel => exact ⟨hg8.drewN nq, j + 1, by go_num, by omega, rfl⟩
        · have hjn : j = n' + n2 := by omega
          subst hjn
          have j1 : ¬ (((n' + n2 : Nat) : Int) < (n' : Int) + n2) := by omega
          go_wp2_with fail
          go_ret
          exact ⟨rfl, HG5.out.trans hg8⟩
end Go.Proofs.YtmfgbkbbmeedjaaDoor
