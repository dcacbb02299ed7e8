/- BlameTells: the walk. -/
import Derived.Test.YtmfgbkbbmeedjaaDoorBlameAwake
namespace Go.Proofs.YtmfgbkbbmeedjaaDoor
open Go.RowKit Go.Deep Go.MapKept

theorem rowT_grows {w w' : World} {g : Nat} {t : TypeId} {n : Nat} {f : Nat → Value} (h : w.rowIs g t n f) (hg : Grows w w') : w'.rowIs g t n f := h.of_block (Below.block hg g h.lt)
theorem plainI_yes (B B' : Nat) (A A' : Option Addr) (n n' c c' : Nat) (xs ys : List Int) (w : World) (e : xs = ys) (hx : Reads w B 1 A n (ints xs)) (hy : Reads w B' 1 A' n' (ints ys)) (hn : n ≤ 1000000000000) :
    Calls Tryd.prog 35 #[.slice A n c, .slice A' n' c'] w fun e w' => e = .returned (.bool true) ∧ ∃ m, w' = w.drewN m := by
  subst e
  have := plain_any B B' A A' n n' c c' xs xs w hx hy hn
  rw [eqL_self] at this
  exact this
theorem blameL_len (l : List (List ByteArray)) : (blameL l).length = if l.length = 0 then 0 else (gv l (l.length - 1)).length := by
  unfold blameL
  split
  · rfl
  · exact blameK_len l _
theorem blameL_le {l : List (List ByteArray)} {n b : Nat} (hn : l.length = n) (h : ∀ i, i < n → (gv l i).length ≤ b) : (blameL l).length ≤ b := by
  rw [blameL_len]
  split
  · exact Nat.zero_le _
  · exact h _ (by omega)

set_option maxRecDepth 100000 in
set_option maxHeartbeats 2000000 in
theorem btells_any (A1 A2 : Option Addr) (n1 c1 n2 c2 : Nat) (l : List (List ByteArray)) (s : List ByteArray) (w : World) (hl : Vers w w.heap.size A1 n1 l) (hs : Reads w w.heap.size 1 A2 n2 (strs s)) (hm : MaxL w) :
    Calls Tryd.prog 11 #[.slice A1 n1 c1, .slice A2 n2 c2] w fun e w' => e = .returned (.bool true) ∧ Grows w w' := by
  have HLs := Lib.hid hs.strLen
  have HLl := Lib.hid hl.1
  have HV := Lib.hid hl
  have HR := Lib.hid hs
  clear hl hs
  by_cases g1 : 12 < n1
  · have k1 : (n1 : Int) > 12 := by omega
    go_enter Tryd.func11, Tryd.ntmps11
    go_wp2_with fail
    refine (bawake_any w hm).mono ?_
    rintro e w1 ⟨rfl, hg⟩
    go_wp2_with fail
    go_ret
    exact ⟨rfl, hg⟩
  have k1 : ¬ ((n1 : Int) > 12) := by omega
  by_cases g2 : 12 < n2
  · have k2 : (n2 : Int) > 12 := by omega
    go_enter Tryd.func11, Tryd.ntmps11
    go_wp2_with fail
    refine (bawake_any w hm).mono ?_
    rintro e w1 ⟨rfl, hg⟩
    go_wp2_with fail
    go_ret
    exact ⟨rfl, hg⟩
  have k2 : ¬ ((n2 : Int) > 12) := by omega
  obtain ⟨l0, hl0, hl1, hl2, hl3⟩ := info_parts Tryd.infoSl
  go_enter Tryd.func11, Tryd.ntmps11
  go_wp2_with fail
  go_loopg [5] n1 (fun gk q wr => wr = w ∧ ∃ k : Nat, q = .int .i64 k ∧ k ≤ n1 ∧ gk = n1 - k ∧ ∀ i, i < k → (gv l i).length ≤ 40)
  case atStart => exact ⟨rfl, 0, rfl, by omega, rfl, fun i hi => absurd hi (Nat.not_lt_zero i)⟩
  case round =>
    obtain ⟨rfl, k, rfl, hk, hgk, hno⟩ := hrel
    have HG := Lib.hid hgk; clear hgk
    have HN := Lib.hid hno; clear hno
    by_cases hlt : k < n1
    · obtain ⟨ad, A', n', c', rfl, had, p0, r0, _, _, e0⟩ := HV.out.at_ hlt
      have q0 : (0 : Int) ≤ k := by omega
      have q1 : (k : Int) < n1 := by omega
      have hsu := Lib.hid (fun h : (gv l k).length ≤ 40 => (show ∀ i, i < k + 1 → (gv l i).length ≤ 40 from fun i hi => by
        rcases Nat.lt_succ_iff_lt_or_eq.1 hi with h1 | rfl
        · exact HN.out i h1
        · exact h))
      rw [e0] at hsu
      clear e0 r0
      by_cases g3 : 40 < n'
      · have q3 : (n' : Int) > 40 := by omega
        go_wp2_with fail
        refine (bawake_any wr hm).mono ?_
        rintro e w1 ⟨rfl, hg⟩
        go_wp2_with fail
        go_ret
        exact ⟨rfl, hg⟩
      · have q3 : ¬ ((n' : Int) > 40) := by omega
        go_wp2_with fail
        go_roundg (n1 - (k + 1))
        case measure => rw [HG.out]; omega
        case rel => exact ⟨rfl, k + 1, by go_num, by omega, rfl, hsu.out (by omega)⟩
    · have hkn : k = n1 := by omega
      subst hkn
      have q1 : ¬ ((k : Int) < k) := by omega
      go_wp2_with fail
      obtain ⟨wz, rfl⟩ : ∃ wz, wz = wr := ⟨_, rfl⟩
      go_loopg [7, 6] n2 (fun gk2 q v wq => ∃ (j : Nat) (vs : List Value), q = .int .i64 j ∧ j ≤ n2 ∧ gk2 = n2 - j ∧ (∀ i, i < j → (gs s i).size ≤ 300) ∧ wq.ownsRow wz.heap.size 22 1 v j vs ∧ PartsL wq ((s.take j).map linesT) vs ∧ Grows wz wq)
      case atStart => exact ⟨0, [], rfl, by omega, rfl, fun i hi => absurd hi (Nat.not_lt_zero i), World.ownsRow_nil _ _ _ _, trivial, Grows.refl _⟩
      case round =>
        obtain ⟨j, vs, rfl, hj, hgj, hsz, hown, hp, hgr⟩ := hrel
        have HGJ := Lib.hid hgj; clear hgj
        have HP := Lib.hid hp; clear hp
        have HZ := Lib.hid hsz; clear hsz
        by_cases hlj : j < n2
        · obtain ⟨ad, rfl, had, p0⟩ := (HR.out.grows (Nat.le_refl _) hgr).str hlj
          have j0 : (0 : Int) ≤ j := by omega
          have j1 : (j : Int) < n2 := by omega
          have hms := Lib.hid (map_take_succ (xs := s) (k := j) (by rw [HLs.out]; exact hlj))
          have hsu := Lib.hid (fun h : (gs s j).size ≤ 300 => (show ∀ i, i < j + 1 → (gs s i).size ≤ 300 from fun i hi => by
            rcases Nat.lt_succ_iff_lt_or_eq.1 hi with h1 | rfl
            · exact HZ.out i h1
            · exact h))
          by_cases g4 : 300 < (gs s j).size
          · have q4 : ((gs s j).size : Int) > 300 := by omega
            go_wp2_with fail
            refine (bawake_any wr (hm.grows hgr)).mono ?_
            rintro e w1 ⟨rfl, hg⟩
            go_wp2_with fail
            go_ret
            exact ⟨rfl, hgr.trans hg⟩
          · have q4 : ¬ (((gs s j).size : Int) > 300) := by omega
            go_wp2_with fail
            refine (rsplit_any (gs s j) wr (by omega)).mono ?_
            rintro e w1 ⟨v1, rfl, how, hg1⟩
            have HO := Lib.hid (OwnS.of how)
            obtain ⟨E1, c1', rfl, _, _⟩ := own_form how
            have HP1 := Lib.hid (HP.out.mono (fun v ys h => OwnS.grows h hg1))
            have hown1 := own_grows hown hg1
            have hgr1 := hgr.trans hg1
            have hs1 := hgr1.size
            clear HP hown hgr hg1 how
            obtain ⟨L, hL⟩ : ∃ L, linesT (gs s j) = L := ⟨_, rfl⟩
            rw [hL] at hms HO ⊢
            clear hL
            go_wp2_with (at_builtin; refine wpList_pushG rfl (.tmp 44) (.tmp 50) _ rfl (wz.heap.size) 22 l0 _ 1 24 Tryd.underlying37 hl0 hl1 hl2 hl3 rfl (by decide) _ _ _ rfl ((hown1).alloc _) ⟨(w1).heap.size, 0, none⟩ 1 1 [.slice E1 L.length c1'] rfl rfl (cell_one_new _ _ _) (by intro u hu; simp at hu; subst hu; rfl) (by simp only [maxLen]; omega) (by omega) (by simp; omega) ?_; intro v' w2 hown2 hb2 hgb2; have hgr2 : Grows wz w2 := Below.trans (hgr1.alloc _) hb2)
            have HP2 := Lib.hid (show PartsL w2 ((s.take (j + 1)).map linesT) (vs ++ [.slice E1 L.length c1']) by
              rw [hms.out]
              exact PartsL.snoc ((HO.out.alloc _).beside (hown1.alloc _) (by decide) hgb2) (HP1.out.mono (fun v ys h => (OwnS.alloc h _).beside (hown1.alloc _) (by decide) hgb2)))
            go_roundg (n2 - (j + 1))
            case measure => rw [HGJ.out]; omega
            case rel => exact ⟨j + 1, _, by go_num, by omega, rfl, hsu.out (by omega), hown2, HP2.out, hgr2⟩
        · have hjn : j = n2 := by omega
          subst hjn
          have j1 : ¬ ((j : Int) < j) := by omega
          have HP1 := Lib.hid (show PartsL wr (s.map linesT) vs by have h := HP.out; rwa [List.take_of_length_le (by rw [HLs.out]; exact Nat.le_refl _)] at h)
          obtain ⟨A4, c4, rfl, _, _⟩ := own_form hown
          have HV4 := Lib.hid (vers_of hown HP1.out)
          have HN4 := Lib.hid (show ∀ i, i < j → (gv (s.map linesT) i).length ≤ 1000 from fun i hi => by
            rw [gv_lines (by rw [HLs.out]; exact hi)]
            have h1 := lines_len (gs s i)
            have h2 := HZ.out i hi
            omega)
          have HN1 := Lib.hid (show ∀ i, i < k → (gv l i).length ≤ 1000 from fun i hi => Nat.le_trans (HN.out i hi) (by decide))
          have hbl := blameL_le HLl.out HN1.out
          have hbs := blameL_le (l := s.map linesT) (n := j) (by rw [List.length_map, HLs.out]) HN4.out
          have HV1 := Lib.hid (HV.out.grows (Nat.le_refl _) hgr)
          have HR1 := Lib.hid (HR.out.grows (Nat.le_refl _) hgr)
          have hm1 := hm.grows hgr
          have hsz1 := hgr.size
          have HGR := Lib.hid hgr
          clear hown HP HV HR hgr
          go_wp2_with fail
          refine (ownS_any wz.heap.size A2 j c2 s { data := #[55, 49] } wr HR1.out hsz1 (by omega)).mono ?_
          rintro e w1 ⟨rfl, hrow, hg1⟩
          have hs1 := hg1.size
          have hlt := hrow.lt
          have HI := Lib.hid (reads_rowS hrow (fun i hi => by rw [ownCellS, if_pos hi]) HLs.out (by omega))
          have HRW := Lib.hid hrow
          have V1 := Lib.hid (HV1.out.grows hsz1 hg1)
          have R1 := Lib.hid (HR1.out.grows hsz1 hg1)
          have V4 := Lib.hid (HV4.out.grows (Nat.le_refl _) hg1)
          have HG1 := Lib.hid (HGR.out.trans hg1)
          have hm2 := hm1.grows hg1
          clear hrow hg1 HV1 HR1 HV4 hm1 HGR
          obtain ⟨p, hp⟩ : ∃ p, wr.heap.size = p := ⟨_, rfl⟩
          rw [hp] at HI HRW V4 hs1 hlt hsz1 ⊢
          clear hp
          go_wp2_with fail
          refine (bawake_any w1 hm2).mono ?_
          rintro e w2 ⟨rfl, hg2⟩
          clear hm2
          go_wp2_with fail
          refine (blines_any _ A1 k c1 l w2 (V1.out.grows (by omega) hg2) (by have := hg2.size; omega) (by omega) HN1.out).mono ?_
          rintro e w3 ⟨v, rfl, ⟨A5, c5, rfl, hr5⟩, hg3⟩
          have hg3' := hg2.trans hg3
          have HR5 := Lib.hid hr5
          clear hg2 hg3 hr5
          go_wp2_with fail
          refine (rblame_any _ A1 k c1 l w3 (V1.out.grows (by omega) hg3') (by have := hg3'.size; omega) (by omega) HN1.out).mono ?_
          rintro e w4 ⟨v, rfl, ⟨A6, c6, rfl, hr6⟩, hg4⟩
          have HR6 := Lib.hid hr6
          have HR5' := Lib.hid (HR5.out.grows (Nat.le_refl _) hg4)
          have hg4' := hg3'.trans hg4
          clear hg3' hg4 hr6 HR5
          go_wp2_with fail
          refine (plainI_yes _ _ _ _ _ _ _ _ _ _ _ rfl HR5'.out HR6.out (Nat.le_trans hbl (by decide))).mono ?_
          rintro e w' ⟨rfl, d5, rfl⟩
          have hg5 := hg4'.drewN d5
          clear hg4' HR5' HR6
          obtain ⟨w5, hw5⟩ : ∃ w5, w4.drewN d5 = w5 := ⟨_, rfl⟩
          rw [hw5] at hg5 ⊢
          clear hw5
          go_wp2_with fail
          refine (stack_any _ _ j (j + 3) s w5 (HI.out.grows (by omega) hg5) (by have := hg5.size; omega) (hm.grows (HG1.out.trans hg5)) (by omega) (fun i hi => Nat.le_trans (HZ.out i hi) (by decide))).mono ?_
          rintro e w6 ⟨v, rfl, ⟨A7, c7, rfl, hr7⟩, hg6⟩
          have hg6' := hg5.trans hg6
          have HR7 := Lib.hid hr7
          clear hg5 hg6 hr7
          go_wp2_with fail
          refine (rblame_any _ A4 j c4 (s.map linesT) w6 (V4.out.grows (by omega) hg6') (by have := hg6'.size; omega) (by omega) HN4.out).mono ?_
          rintro e w7 ⟨v, rfl, ⟨A8, c8, rfl, hr8⟩, hg7⟩
          have HR8 := Lib.hid hr8
          have HR7' := Lib.hid (HR7.out.grows (Nat.le_refl _) hg7)
          have hg7' := hg6'.trans hg7
          clear hg6' hg7 hr8 HR7
          go_wp2_with fail
          refine (plainI_yes _ _ _ _ _ _ _ _ _ _ _ rfl HR7'.out HR8.out (Nat.le_trans hbs (by decide))).mono ?_
          rintro e w' ⟨rfl, d8, rfl⟩
          have hg8 := hg7'.drewN d8
          clear hg7' HR7' HR8
          obtain ⟨w8, hw8⟩ : ∃ w8, w7.drewN d8 = w8 := ⟨_, rfl⟩
          rw [hw8] at hg8 ⊢
          clear hw8
          go_wp2_with fail
          refine (keptS_any _ A2 j c2 p s { data := #[55, 49] } w8 (R1.out.grows (by omega) hg8) (rowT_grows HRW.out hg8) (by omega)).mono ?_
          rintro e w' ⟨rfl, d9, rfl⟩
          have hg9 := hg8.drewN d9
          go_wp2_with fail
          go_ret
          exact ⟨rfl, HG1.out.trans hg9⟩
end Go.Proofs.YtmfgbkbbmeedjaaDoor
