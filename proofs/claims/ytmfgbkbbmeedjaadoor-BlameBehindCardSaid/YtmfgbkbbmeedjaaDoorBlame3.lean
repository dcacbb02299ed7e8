/- Where lines come from: the document's Blame. -/
import Derived.Test.YtmfgbkbbmeedjaaDoorBlame2
namespace Go.Proofs.YtmfgbkbbmeedjaaDoor
open Go.RowKit Go.Deep Go.MapKept

set_option maxRecDepth 100000 in
set_option maxHeartbeats 2000000 in
theorem rblame_any (B : Nat) (A : Option Addr) (n c : Nat) (l : List (List ByteArray)) (w : World) (h : Vers w B A n l) (hB : B ≤ w.heap.size) (hn : n ≤ 1000) (hl : ∀ i, i < n → (gv l i).length ≤ 1000) :
    Calls Tryd.prog 37 #[.slice A n c] w fun e w' => ∃ v, e = .returned v ∧ IntRow w' v (blameL l) ∧ Grows w w' := by
  have HL := Lib.hid h.1
  have HV := Lib.hid h
  have HS := Lib.hid hl
  clear h hl
  rcases Nat.eq_zero_or_pos n with h0 | h0
  · subst h0
    have hb := Lib.hid (show blameL l = [] by rw [blameL, if_pos HL.out])
    go_enter Tryd.func37, Tryd.ntmps37
    go_wp2_with fail
    go_ret
    exact ⟨_, rfl, by rw [hb.out]; exact ⟨none, 0, rfl, Reads.none_⟩, Grows.refl _⟩
  · have n0 : ((n : Int) == 0) = false := by rw [beq_eq_false_iff_ne]; omega
    have n1 : (0 : Int) < n := by omega
    have hb := Lib.hid (show blameL l = blameK l (n - 1) by rw [blameL, HL.out, if_neg (by omega)])
    obtain ⟨t0, hi0, hz0, hz1, hz2⟩ := info_parts Tryd.infoInt
    obtain ⟨ad, A', n', c', rfl, had, p0, r0, _, _, l0⟩ := HV.out.at_ (i := 0) h0
    have hn' : n' ≤ 1000 := by rw [← l0]; exact HS.out 0 h0
    rw [adr_z] at p0
    go_enter Tryd.func37, Tryd.ntmps37
    go_wp2_with (at_make; refine wpList_make_row _ rfl (.tmp 15) (.tmp 15) 39 rfl 3 t0 (.int .i64 0) Tryd.underlying39 hi0 hz0 hz1 rfl .i64 .i64 n' rfl rfl (by rw [hz2]; omega) (by omega) ?_)
    have hir := IntRow.zeros w n'
    have hg1 := (Grows.refl w).alloc (.cells (madeCells #[.int .i64 0] n') 3)
    have hb0 := Lib.hid (show blameK l 0 = List.replicate n' 0 by rw [blameK, l0])
    have HV1 := Lib.hid (HV.out.grows hB hg1)
    obtain ⟨w1, hw1⟩ : ∃ w1, w.alloc (.cells (madeCells #[.int .i64 0] n') 3) = w1 := ⟨_, rfl⟩
    rw [hw1] at hir hg1 HV1
    try rw [hw1]
    have hs1 := hg1.size
    clear hw1 p0 r0 l0 hn'
    go_wp2_with fail
    go_loopg [4, 3] n (fun gk q v wr => ∃ (k : Nat), q = .int .i64 ((k : Int) + 1) ∧ k + 1 ≤ n ∧ gk = n - k ∧ IntRow wr v (blameK l k) ∧ Grows w1 wr)
    case atStart => exact ⟨0, rfl, by omega, rfl, by rw [hb0.out]; exact hir, Grows.refl _⟩
    case round =>
      obtain ⟨k, rfl, hk, hgk, hrow, hgr⟩ := hrel
      have HG := Lib.hid hgk; clear hgk
      have hsz := hgr.size
      obtain ⟨Af, cf, rfl, hf⟩ := hrow
      have hfl := blameK_len l k
      by_cases hlt : k + 1 < n
      · obtain ⟨ad1, A1, n1', c1, e1, had1, p1, r1, m1, mm1, l1⟩ := (HV1.out.grows (by omega) hgr).at_ (i := k) (by omega)
        cases e1
        obtain ⟨ad2, A2, n2', c2, e2, had2, p2, r2, m2, mm2, l2⟩ := (HV1.out.grows (by omega) hgr).at_ (i := k + 1) hlt
        cases e2
        rw [show ad.add (k + 1) = ⟨ad.block, ad.off + (k + 1), none⟩ by simp [Addr.add]] at p2
        have z1 := HS.out k (by omega)
        have z2 := HS.out (k + 1) hlt
        have q0 : (0 : Int) ≤ (k : Int) + 1 := by omega
        have q1 : (k : Int) + 1 < n := by omega
        have q2 : (k : Int) + 1 - 1 = k := by omega
        have q3 : (k : Int) < n := by omega
        have q4 : (0 : Int) ≤ k := by omega
        have hlf : (blameK l k).length = n1' := hfl.trans l1
        have hn1 : n1' ≤ 1000 := by omega
        rw [hlf] at hf
        have HSC := Lib.hid (fun d => rscript_any B B A1 A2 n1' n2' c1 c2 (gv l k) (gv l (k + 1)) (wr.drewN d) (r1.drewN d) (r2.drewN d) (by show B ≤ wr.heap.size; omega) (by show B ≤ wr.heap.size; omega) (by omega) (by omega) m1 m2)
        have hside := script_old 400 (gv l k) (gv l (k + 1))
        have hkd := kinds_script 400 (gv l k) (gv l (k + 1))
        have hlen : (script 400 (gv l k) (gv l (k + 1))).length ≤ 2000 := by
          have h1 := script_len_le (gv l k) (gv l (k + 1))
          omega
        obtain ⟨es, hes⟩ : ∃ es, script 400 (gv l k) (gv l (k + 1)) = es := ⟨_, rfl⟩
        have hbk : blameK l (k + 1) = nextL (k + 1) (blameK l k) es := by rw [← hes]; rfl
        rw [hes] at HSC hside hkd hlen
        obtain ⟨N, hN⟩ : ∃ N, es.length = N := ⟨_, rfl⟩
        rw [hN] at HSC hlen
        obtain ⟨res, hres⟩ : ∃ res, blameK l (k + 1) = res := ⟨_, rfl⟩
        rw [hres] at hbk
        obtain ⟨fs, hfs⟩ : ∃ fs, blameK l k = fs := ⟨_, rfl⟩
        rw [hfs] at hbk hf hlf
        have HN := Lib.hid hN
        have HK := Lib.hid hkd
        have HFL := Lib.hid hlf
        have HRS := Lib.hid hres
        have hs0 := Lib.hid (show 0 + (side 2 (es.drop 0)).length = n1' by rw [List.drop_zero, hside, Nat.zero_add, l1])
        have h0' := Lib.hid (show [] ++ nextL (k + 1) (fs.drop 0) (es.drop 0) = res from hbk.symm)
        rw [← hfs] at hlf
        have HLF := Lib.hid hlf
        clear hes hN hres hkd hside hfs hbk r1 r2
        clear hlf hfl l1 l2
        go_wp2_with fail
        try rw [HLF.out]
        refine wp_region_quiet_tail 9 (by kernel_rfl) (by kernel_rfl) ?_
        simp only [List.take_succ_cons, List.take_zero, List.drop_succ_cons, List.drop_zero]
        repeat (go_big_quiet_step (fail))
        refine wpQuiet_nil ?_
        intro _ hw'
        obtain ⟨nq, hw''⟩ := hw'
        subst hw''
        go_wp2_with fail
        refine (HSC.out nq).mono ?_
        rintro e w2 ⟨v, rfl, hown, hg2⟩
        obtain ⟨A3, c3, rfl, _, _⟩ := own_form hown
        have HR := Lib.hid (Reads.of_own hown)
        have HF1 := Lib.hid ((hf.drewN nq).grows (Nat.le_refl _) hg2)
        have HG2 := Lib.hid ((hgr.drewN nq).trans hg2)
        have hs2 := hg2.size
        clear HSC hown hg2 p1 p2 hf
        go_wp2_with fail
        go_loopg [8, 6, 7] N (fun gk2 q v iv wq => ∃ (j i : Nat) (out : List Int), q = .int .i64 j ∧ iv = .int .i64 i ∧ j ≤ N ∧ i ≤ n1' ∧ gk2 = N - j ∧ out ++ nextL ((k : Int) + 1) (fs.drop i) (es.drop j) = res ∧ i + (side 2 (es.drop j)).length = n1' ∧ out.length ≤ j ∧ wq.ownsRow w2.heap.size 3 1 v out.length (ints out) ∧ Grows w2 wq)
        case atStart => exact ⟨0, 0, [], rfl, rfl, by omega, by omega, rfl, h0'.out, hs0.out, by simp, World.ownsRow_nil _ _ _ _, Grows.refl _⟩
        case round =>
          obtain ⟨j, i, out, rfl, rfl, hj, hi, hgj, hres, hside, hol, hown, hgr2⟩ := hrel
          have HGJ := Lib.hid hgj; clear hgj
          have HRES := Lib.hid hres; clear hres
          have HSI := Lib.hid hside; clear hside
          have hsz2 := hgr2.size
          by_cases hlj : j < N
          · obtain ⟨ad3, rfl, had3, hc0, hc1⟩ := ((HR.out).grows (Nat.le_refl _) hgr2).ed hlj
            have j0 : (0 : Int) ≤ j := by omega
            have j1 : (j : Int) < N := by omega
            rcases kind_at HK.out (by rw [HN.out]; exact hlj) with h1 | h1 | h1
            · obtain ⟨hin, e1, e2⟩ := next_keep HN.out HFL.out hlj HRES.out HSI.out h1
              have E1 := Lib.hid e1
              have E2 := Lib.hid e2
              clear e1 e2
              obtain ⟨af, rfl, haf, pf⟩ := (HF1.out.grows hs2 hgr2).int hin
              have i0 : (0 : Int) ≤ i := by omega
              have i1 : (i : Int) < n1' := by omega
              rw [h1] at hc0
              go_wp2_with (at_builtin; refine wpList_push rfl (.tmp 50) (.tmp 55) _ rfl (w2.heap.size) 3 t0 _ 1 8 Tryd.underlying39 hi0 hz0 hz1 hz2 rfl (by decide) _ _ _ rfl ((hown).alloc _) ⟨(wr).heap.size, 0, none⟩ 1 1 [.int .i64 (gi fs i)] rfl rfl (cell_one_new _ _ _) (by intro u hu; simp at hu; subst hu; rfl) (by simp only [maxLen]; omega) (by omega) (by simp; omega) ?_; intro v' w3 hown3 hb3; have hgr3 : Grows w2 w3 := Below.trans (hgr2.alloc _) hb3)
              go_roundg (N - (j + 1))
              case measure => rw [HGJ.out]; omega
              case rel => exact ⟨j + 1, i + 1, out ++ [gi fs i], by go_num, by go_num, by omega, by omega, rfl, E1.out, E2.out, by simp; omega, by rw [ints_app, List.length_append]; exact hown3, hgr3⟩
            · obtain ⟨hin, e1, e2⟩ := next_del HN.out HFL.out hlj HRES.out HSI.out h1
              have E1 := Lib.hid e1
              have E2 := Lib.hid e2
              clear e1 e2
              rw [h1] at hc0
              go_wp2_with fail
              go_roundg (N - (j + 1))
              case measure => rw [HGJ.out]; omega
              case rel => exact ⟨j + 1, i + 1, out, by go_num, by go_num, by omega, by omega, rfl, E1.out, E2.out, by omega, hown, hgr2⟩
            · obtain ⟨e1, e2⟩ := next_ins HN.out hlj HRES.out HSI.out h1
              have E1 := Lib.hid e1
              have E2 := Lib.hid e2
              clear e1 e2
              rw [h1] at hc0
              go_wp2_with (at_builtin; refine wpList_push rfl (.tmp 44) (.tmp 46) _ rfl (w2.heap.size) 3 t0 _ 1 8 Tryd.underlying39 hi0 hz0 hz1 hz2 rfl (by decide) _ _ _ rfl ((hown).alloc _) ⟨(wr).heap.size, 0, none⟩ 1 1 [.int .i64 ((k : Int) + 1)] rfl rfl (cell_one_new _ _ _) (by intro u hu; simp at hu; subst hu; rfl) (by simp only [maxLen]; omega) (by omega) (by simp; omega) ?_; intro v' w3 hown3 hb3; have hgr3 : Grows w2 w3 := Below.trans (hgr2.alloc _) hb3)
              go_roundg (N - (j + 1))
              case measure => rw [HGJ.out]; omega
              case rel => exact ⟨j + 1, i, out ++ [(k : Int) + 1], by go_num, rfl, by omega, hi, rfl, E1.out, E2.out, by simp; omega, by rw [ints_app, List.length_append]; exact hown3, hgr3⟩
          · have hjn : j = N := by omega
            subst hjn
            have hf := Lib.hid (show out = res by
              have h2 := HRES.out
              rw [List.drop_of_length_le (l := es) (by rw [HN.out]; exact Nat.le_refl _)] at h2
              rw [← h2]; simp [nextL])
            have j1 : ¬ ((j : Int) < j) := by omega
            obtain ⟨A4, c4, rfl, _, _⟩ := own_form hown
            have hr4 := Lib.hid (Reads.of_own hown)
            clear hown
            go_wp2_with fail
            go_roundg (n - (k + 1))
            case measure => rw [HG.out]; omega
            case rel => exact ⟨k + 1, by go_num, by omega, rfl, by rw [HRS.out, ← hf.out]; exact ⟨_, _, rfl, hr4.out⟩, HG2.out.trans hgr2⟩
      · have hkn : k = n - 1 := by omega
        subst hkn
        have q1 : ¬ ((((n - 1 : Nat) : Int) + 1) < n) := by omega
        clear hfl
        go_wp2_with fail
        go_ret
        exact ⟨_, rfl, by rw [hb.out]; exact ⟨_, _, rfl, hf⟩, hg1.trans hgr⟩
end Go.Proofs.YtmfgbkbbmeedjaaDoor
