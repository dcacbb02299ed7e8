/- BlameStays: the walk. -/
import Derived.Test.YtmfgbkbbmeedjaaDoorBlameTells
namespace Go.Proofs.YtmfgbkbbmeedjaaDoor
open Go.RowKit Go.Deep Go.MapKept

theorem vers_mk {w : World} {B Bx n c : Nat} {A : Option Addr} {ll : List (List ByteArray)} {vs : List Value} (hown : w.ownsRow B 22 1 (.slice A n c) n vs) (hll : ll.length = n) (hB : Bx ≤ w.heap.size)
    (hv : ∀ i, i < n → ∃ A' n' c', vs[i]? = some (.slice A' n' c') ∧ Reads w Bx 1 A' n' (strs (gv ll i)) ∧ n' ≤ c' ∧ c' ≤ maxLen) : Vers w w.heap.size A n ll :=
  ⟨hll, vs, Reads.of_own hown, fun i hi => by
    obtain ⟨A', n', c', e, h1, h2, h3⟩ := hv i hi
    exact ⟨A', n', c', e, h1.more hB, h2, h3⟩⟩
theorem gv_snoc {l : List (List ByteArray)} {x : List ByteArray} {i n : Nat} (hl : l.length = n) : gv (l ++ [x]) i = if i < n then gv l i else if i = n then x else [] := by
  subst hl
  rw [gv, gv, List.getD_eq_getElem?_getD, List.getD_eq_getElem?_getD]
  by_cases h : i < l.length
  · rw [if_pos h, List.getElem?_append_left h]
  · rw [if_neg h, List.getElem?_append_right (by omega)]
    by_cases h2 : i = l.length
    · rw [if_pos h2, h2, Nat.sub_self]; rfl
    · rw [if_neg h2, List.getElem?_eq_none (by simp; omega)]; rfl
/-- a version that is put behind -/
theorem blame_snoc {l : List (List ByteArray)} {x : List ByteArray} {n : Nat} (hl : l.length = n) (h0 : 0 < n) : blameL (l ++ [x]) = nextL (n : Nat) (blameL l) (script 400 (gv l (n - 1)) x) := by
  obtain ⟨m, rfl⟩ : ∃ m, n = m + 1 := ⟨n - 1, by omega⟩
  have e1 : blameL (l ++ [x]) = blameK (l ++ [x]) (m + 1) := by
    rw [blameL, List.length_append, hl, if_neg (by simp)]; rfl
  have e2 : blameL l = blameK l m := by rw [blameL, hl, if_neg (by omega)]; rfl
  rw [e1, e2, blameK, gv_snoc hl, gv_snoc hl, if_pos (by omega), if_neg (by omega), if_pos rfl]
  rw [blameK_congr (l := l ++ [x]) (m := l) (k := m) (fun j hj => by rw [gv_snoc hl, if_pos (by omega)])]
  rfl
theorem blame_stays {l : List (List ByteArray)} {n : Nat} (hl : l.length = n) (h0 : 0 < n) : blameL (l ++ [gv l (n - 1)]) = blameL l := by
  rw [blame_snoc hl h0, blame_same]
  rw [blameL_len, hl, if_neg (by omega)]
theorem blame_fresh (x : List ByteArray) : blameL [[], x] = List.replicate x.length 1 := by
  show nextL (((0 : Nat) : Int) + 1) [] (script 400 [] x) = _
  rw [blame_new _ _ _ rfl]; rfl
/-- each line of the last version has come from somewhere -/
theorem blame_from {l : List (List ByteArray)} {n i : Nat} (hl : l.length = n) (h0 : 0 < n) (hi : i < (gv l (n - 1)).length) : ∃ q : Nat, gi (blameL l) i = q ∧ q < n ∧ inS (gv l q) (gs (gv l (n - 1)) i) = true := by
  have hx : (gv l (n - 1))[i]? = some (gs (gv l (n - 1)) i) := gs_some hi
  obtain ⟨q, e1, e2, e3⟩ := blameK_from l (n - 1) i _ hx
  refine ⟨q, ?_, by omega, inS_iff.2 e3⟩
  rw [blameL, hl, if_neg (by omega), gi, List.getD_eq_getElem?_getD, e1]; rfl

set_option maxRecDepth 100000 in
set_option maxHeartbeats 2000000 in
theorem bstays_any (A1 A2 : Option Addr) (n1 c1 n2 c2 : Nat) (l : List (List ByteArray)) (s : List ByteArray) (w : World) (hl : Vers w w.heap.size A1 n1 l) (hs : Reads w w.heap.size 1 A2 n2 (strs s)) (hm : MaxL w) (hc2 : n2 ≤ c2) (hcM2 : c2 ≤ maxLen) :
    Calls Tryd.prog 12 #[.slice A1 n1 c1, .slice A2 n2 c2] w fun e w' => e = .returned (.bool true) ∧ Grows w w' := by
  have HLs := Lib.hid hs.strLen
  have HLl := Lib.hid hl.1
  have HV := Lib.hid hl
  have HR := Lib.hid hs
  clear hl hs
  by_cases g0 : n1 = 0
  · subst g0
    go_enter Tryd.func12, Tryd.ntmps12
    go_wp2_with fail
    refine (bawake_any w hm).mono ?_
    rintro e w1 ⟨rfl, hg⟩
    go_wp2_with fail
    go_ret
    exact ⟨rfl, hg⟩
  have k0 : ((n1 : Int) == 0) = false := by rw [beq_eq_false_iff_ne]; omega
  by_cases g1 : 12 < n1
  · have k1 : (n1 : Int) > 12 := by omega
    go_enter Tryd.func12, Tryd.ntmps12
    go_wp2_with fail
    refine (bawake_any w hm).mono ?_
    rintro e w1 ⟨rfl, hg⟩
    go_wp2_with fail
    go_ret
    exact ⟨rfl, hg⟩
  have k1 : ¬ ((n1 : Int) > 12) := by omega
  by_cases g2 : 40 < n2
  · have k2 : (n2 : Int) > 40 := by omega
    go_enter Tryd.func12, Tryd.ntmps12
    go_wp2_with fail
    refine (bawake_any w hm).mono ?_
    rintro e w1 ⟨rfl, hg⟩
    go_wp2_with fail
    go_ret
    exact ⟨rfl, hg⟩
  have k2 : ¬ ((n2 : Int) > 40) := by omega
  obtain ⟨l0, hl0, hl1, hl2, hl3⟩ := info_parts Tryd.infoSl
  go_enter Tryd.func12, Tryd.ntmps12
  go_wp2_with fail
  go_loopg [5] n1 (fun gk q wr => wr = w ∧ ∃ k : Nat, q = .int .i64 k ∧ k ≤ n1 ∧ gk = n1 - k ∧ ∀ i, i < k → (gv l i).length ≤ 40)
  case atStart => exact ⟨rfl, 0, rfl, by omega, rfl, fun i hi => absurd hi (Nat.not_lt_zero i)⟩
  case round =>
    obtain ⟨rfl, k, rfl, hk, hgk, hno⟩ := hrel
    have HG := Lib.hid hgk; clear hgk
    have HN := Lib.hid hno; clear hno
    by_cases hlt : k < n1
    · obtain ⟨ad, A', n', c', rfl, had, p0, r0, _, _, e0⟩ := HV.out.at_ hlt
      have q0 : (0 : Int) ≤ k := by omega
      have q1 : (k : Int) < n1 := by omega
      have hsu := Lib.hid (fun h : (gv l k).length ≤ 40 => (show ∀ i, i < k + 1 → (gv l i).length ≤ 40 from fun i hi => by
        rcases Nat.lt_succ_iff_lt_or_eq.1 hi with h1 | rfl
        · exact HN.out i h1
        · exact h))
      rw [e0] at hsu
      clear e0 r0
      by_cases g3 : 40 < n'
      · have q3 : (n' : Int) > 40 := by omega
        go_wp2_with fail
        refine (bawake_any wr hm).mono ?_
        rintro e w1 ⟨rfl, hg⟩
        go_wp2_with fail
        go_ret
        exact ⟨rfl, hg⟩
      · have q3 : ¬ ((n' : Int) > 40) := by omega
        go_wp2_with fail
        go_roundg (n1 - (k + 1))
        case measure => rw [HG.out]; omega
        case rel => exact ⟨rfl, k + 1, by go_num, by omega, rfl, hsu.out (by omega)⟩
    · have hkn : k = n1 := by omega
      subst hkn
      have q1 : ¬ ((k : Int) < k) := by omega
      obtain ⟨wz, rfl⟩ : ∃ wz, wz = wr := ⟨_, rfl⟩
      obtain ⟨m, rfl⟩ : ∃ m, k = m + 1 := ⟨k - 1, by omega⟩
      obtain ⟨ad, A', n', c', rfl, had, p0, r0, m0, mm0, e0⟩ := HV.out.at_ (i := m) (by omega)
      have q2 : (0 : Int) ≤ m := by omega
      have HN1 := Lib.hid (show ∀ i, i < m + 1 → (gv l i).length ≤ 1000 from fun i hi => Nat.le_trans (HN.out i hi) (by decide))
      go_wp2_with fail
      have hN5 : (blameL l).length = n' := by rw [blameL_len, HLl.out, if_neg (by omega)]; exact e0
      refine (blines_any _ _ (m + 1) c1 l wz HV.out (Nat.le_refl _) (by omega) HN1.out).mono ?_
      rintro e w1 ⟨v, rfl, ⟨A5, c5, rfl, hr5⟩, hg1⟩
      rw [hN5] at hr5 ⊢
      have HR5 := Lib.hid hr5
      have HG1 := Lib.hid hg1
      have hs1 := hg1.size
      obtain ⟨_, vs, hrv, hvv⟩ := HV.out.grows (Nat.le_refl _) hg1
      have HRV := Lib.hid hrv
      have HVV := Lib.hid hvv
      have hvl : vs.length = m + 1 := by have := hrv.1; omega
      clear hr5 hg1 hrv hvv p0
      have hone : ∀ u ∈ vs, u.oneCell' = true := by
        intro u hu
        obtain ⟨i, hi⟩ := List.getElem?_of_mem hu
        have hil : i < m + 1 := by have := (List.getElem?_eq_some_iff.1 hi).1; omega
        obtain ⟨_, _, _, e1, _⟩ := HVV.out i hil
        rw [e1] at hi
        cases hi
        rfl
      go_wp2_with (first
        | (at_builtin; refine wpList_append_any _ rfl (.const (.slice none 0 0)) (.tmp 47) _ rfl w1.heap.size 22 l0 _ 1 24 Tryd.underlying37 hl0 hl1 hl2 hl3 rfl (by decide) _ _ _ rfl (World.ownsRow_nil w1 _ _ _) _ _ _ _ _ rfl HRV.out hone (by simp only [maxLen]; omega) (by omega) (Nat.le_refl _) ?_; intro v2 w2 hown2 hgb2 hor2; have hg2 : Grows w1 w2 := Below.grown (Grows.refl w1) hgb2 (Nat.le_refl _) (fun k hk => by cases hk); rw [List.nil_append, Nat.zero_add] at hown2; obtain ⟨A6, c6, rfl, hc6, hcM6⟩ := own_form hown2; have hs2 := hg2.size; clear hor2 hgb2)
        | (at_builtin; refine wpList_pushG rfl (.tmp 48) (.tmp 50) _ rfl (w1.heap.size) 22 l0 _ 1 24 Tryd.underlying37 hl0 hl1 hl2 hl3 rfl (by decide) _ _ _ rfl ((hown2).alloc _) ⟨(w2).heap.size, 0, none⟩ 1 1 [.slice A' n' c'] rfl rfl (cell_one_new _ _ _) (by intro u hu; simp at hu; subst hu; rfl) (by simp only [maxLen]; omega) (by omega) (by simp; omega) ?_; intro v3 w3 hown3 hb3 hgb3; obtain ⟨A7, c7, rfl, hc7, hcM7⟩ := own_form hown3))
      have hg3 : Grows w1 w3 := Below.trans (hg2.alloc _) hb3
      clear hgb3 hb3 hg2 hown2 hone
      have hs3 := hg3.size
      have HV3 := Lib.hid (vers_mk (ll := l ++ [gv l m]) hown3 (by rw [List.length_append, HLl.out]; rfl) (Nat.le_trans hs1 hs3) (fun i hi => by
        rw [gv_snoc HLl.out]
        by_cases h : i < m + 1
        · obtain ⟨B', b', d', e1, e2, e3, e4⟩ := HVV.out i h
          refine ⟨B', b', d', by rw [List.getElem?_append_left (by omega)]; exact e1, by rw [if_pos h]; exact e2.grows hs1 hg3, e3, e4⟩
        · have hi2 : i = m + 1 := by omega
          refine ⟨A', n', c', by rw [List.getElem?_append_right (by omega), hvl, hi2, Nat.sub_self]; rfl, by rw [if_neg h, if_pos hi2]; exact r0.grows (Nat.le_refl _) (HG1.out.trans hg3), m0, mm0⟩))
      have HN3 := Lib.hid (show ∀ i, i < m + 1 + 1 → (gv (l ++ [gv l m]) i).length ≤ 1000 from fun i hi => by
        rw [gv_snoc HLl.out]
        split
        · exact HN1.out i (by assumption)
        · split
          · exact HN1.out m (by omega)
          · exact Nat.zero_le _)
      have hst := Lib.hid (show blameL (l ++ [gv l m]) = blameL l from blame_stays HLl.out (Nat.succ_pos m))
      have HR5' := Lib.hid (HR5.out.grows (Nat.le_refl _) hg3)
      have HG3 := Lib.hid (HG1.out.trans hg3)
      clear hown3 hg3 HR5 HG1
      refine (blines_any w3.heap.size A7 (m + 1 + 1) c7 (l ++ [gv l m]) w3 HV3.out (Nat.le_refl _) (by omega) HN3.out).mono ?_
      rw [hst.out]
      rintro e w4 ⟨v, rfl, ⟨A8, c8, rfl, hr8⟩, hg4⟩
      rw [hN5] at hr8 ⊢
      have HR8 := Lib.hid hr8
      have HR5 := Lib.hid (HR5'.out.grows hs3 hg4)
      have HG4 := Lib.hid (HG3.out.trans hg4)
      have hm4 := hm.grows HG4.out
      have hs4 := Nat.le_trans hs3 hg4.size
      clear hr8 hg4 HR5' HG3 HV3 HRV HVV
      go_wp2_with fail
      refine (bawake_any w4 hm4).mono ?_
      rintro e w5 ⟨rfl, hg5⟩
      have HR8' := Lib.hid (HR8.out.grows (Nat.le_refl _) hg5)
      have HR5' := Lib.hid (HR5.out.grows hs4 hg5)
      have HG5 := Lib.hid (HG4.out.trans hg5)
      have hs5 := hg5.size
      clear hg5 HR8 HR5 HG4 hm4
      go_wp2_with fail
      have hn40 : n' ≤ 40 := by rw [← e0]; exact HN.out m (by omega)
      refine (plainI_yes _ _ _ _ _ _ _ _ _ _ _ rfl HR5'.out HR8'.out (by omega)).mono ?_
      rintro e w' ⟨rfl, d5, rfl⟩
      have HG6 := Lib.hid (HG5.out.drewN d5)
      have HR6 := Lib.hid (HR5'.out.drewN d5)
      have hs6 : w1.heap.size ≤ (w5.drewN d5).heap.size := Nat.le_trans hs4 hs5
      clear HR8' HR5' HG5
      obtain ⟨w6, hw6⟩ : ∃ w6, w5.drewN d5 = w6 := ⟨_, rfl⟩
      rw [hw6] at HG6 HR6 hs6 ⊢
      clear hw6
      go_wp2_with fail
      go_loopg [9] n' (fun gk2 q wq => Grows w6 wq ∧ ∃ j : Nat, q = .int .i64 j ∧ j ≤ n' ∧ gk2 = n' - j)
      case atStart => exact ⟨Grows.refl _, 0, rfl, by omega, rfl⟩
      case round =>
        obtain ⟨hg7, j, rfl, hj, hgj⟩ := hrel
        have HGJ := Lib.hid hgj; clear hgj
        by_cases hlj : j < n'
        · obtain ⟨q, eq, hq, hin⟩ := blame_from (l := l) (n := m + 1) (i := j) HLl.out (Nat.succ_pos m) (by rw [Nat.add_sub_cancel, e0]; exact hlj)
          rw [Nat.add_sub_cancel] at hin
          have HIN := Lib.hid hin
          obtain ⟨a5, hA5, ha5, p5⟩ := (HR6.out.grows hs6 hg7).int hlj
          cases hA5
          rw [eq] at p5
          have HG7 := HG6.out.trans hg7
          obtain ⟨ad2, Aq, nq', cq, e2, had2, p6, r6, _, _, l6⟩ := (HV.out.grows (Nat.le_refl _) HG7).at_ hq
          cases e2
          obtain ⟨ad3, hA3, had3, p7⟩ := (r0.grows (Nat.le_refl _) HG7).str (k := j) hlj
          cases hA3
          have nq40 : nq' ≤ 40 := by rw [← l6]; exact HN.out q (by omega)
          have j0 : (0 : Int) ≤ j := by omega
          have j1 : (j : Int) < n' := by omega
          have q4 : (0 : Int) ≤ q := by omega
          have q5 : (q : Int) < (m : Int) + 1 := by omega
          have q3 : decide ((q : Int) < 0) = false := by simp
          have q6 : decide ((m : Int) + 1 ≤ q) = false := by simp; omega
          have q7 : decide (m + 1 ≤ q) = false := by simp; omega
          have hq0 : ∀ d : Nat, Calls Tryd.prog 39 #[.slice Aq nq' cq, .string (gs (gv l m) j)] (wr.drewN d) fun e w' => e = .returned (.bool true) ∧ wr.drewN d = w' := fun d => by
            rw [← HIN.out]
            exact inS_any _ _ _ _ _ _ _ (r6.drewN d) (by omega)
          have hinq := Lib.hid hq0
          clear eq hq hin l6 hq0 r6
          go_wp2
          go_quiet ((go_at_call 39; exact quiet_left (hinq.out _)))
          go_wp2_with fail
          go_roundg (n' - (j + 1))
          case measure => rw [HGJ.out]; omega
          case rel => exact ⟨hg7.drewN nq, j + 1, by go_num, by omega, rfl⟩
        · have hjn : j = n' := by omega
          subst hjn
          have j1 : ¬ ((j : Int) < j) := by omega
          have HG7 := Lib.hid (HG6.out.trans hg7)
          obtain ⟨w7, rfl⟩ : ∃ w7, w7 = wr := ⟨_, rfl⟩
          go_wp2_with fail
          have HR7 := Lib.hid ((HR.out.grows (Nat.le_refl _) HG7.out).alloc HG7.out.size (.cells #[.slice none 0 0, .slice A2 n2 c2] 22 (0, 0)))
          have HG8 := Lib.hid (HG7.out.alloc (.cells #[.slice none 0 0, .slice A2 n2 c2] 22 (0, 0)))
          have hvv := vers_mk (ll := [[], s]) (Bx := wz.heap.size) (World.ownsRow_lit (e := 22) (size := 1) w7 #[.slice none 0 0, .slice A2 n2 c2] 2 (Nat.zero_le _) (by decide) rfl) rfl HG8.out.size (fun i hi => by
            rcases (by omega : i = 0 ∨ i = 1) with rfl | rfl
            · exact ⟨none, 0, 0, rfl, Reads.none_, Nat.le_refl _, Nat.zero_le _⟩
            · exact ⟨A2, n2, c2, rfl, HR7.out, hc2, hcM2⟩)
          have hbf := Lib.hid (show blameL [[], s] = List.replicate n2 1 by rw [blame_fresh, HLs.out])
          refine (blines_any _ _ 2 2 [[], s] _ hvv (Nat.le_refl _) (by decide) (fun i hi => by
            rcases (by omega : i = 0 ∨ i = 1) with rfl | rfl
            · exact Nat.zero_le _
            · show s.length ≤ 1000
              rw [HLs.out]; omega)).mono ?_
          rw [hbf.out]
          rintro e w9 ⟨v, rfl, ⟨A9, c9, rfl, hr9⟩, hg9⟩
          rw [List.length_replicate] at hr9 ⊢
          have HR9 := Lib.hid hr9
          have HG9 := Lib.hid (HG8.out.trans hg9)
          clear hvv hr9 hg9 HG8 HR7 hg7
          go_wp2_with fail
          go_loopg [11] n2 (fun gk3 q wq => wq = w9 ∧ ∃ i : Nat, q = .int .i64 i ∧ i ≤ n2 ∧ gk3 = n2 - i)
          case atStart => exact ⟨rfl, 0, rfl, by omega, rfl⟩
          case round =>
            obtain ⟨rfl, i, rfl, hi, hgi⟩ := hrel
            have HGI := Lib.hid hgi; clear hgi
            by_cases hli : i < n2
            · obtain ⟨a9, rfl, ha9, p9⟩ := HR9.out.int hli
              have hone : gi (List.replicate n2 1) i = 1 := by simp [gi, hli]
              rw [hone] at p9
              have i0 : (0 : Int) ≤ i := by omega
              have i1 : (i : Int) < n2 := by omega
              clear hone
              go_wp2_with fail
              go_roundg (n2 - (i + 1))
              case measure => rw [HGI.out]; omega
              case rel => exact ⟨rfl, i + 1, by go_num, by omega, rfl⟩
            · have hin : i = n2 := by omega
              subst hin
              have i1 : ¬ ((i : Int) < i) := by omega
              go_wp2_with fail
              refine (blines_any 0 none 0 0 [] _ ⟨rfl, [], Reads.none_, fun i hi => absurd hi (Nat.not_lt_zero i)⟩ (Nat.zero_le _) (by decide) (fun i hi => absurd hi (Nat.not_lt_zero i))).mono ?_
              rintro e w10 ⟨v, rfl, ⟨A10, c10, rfl, _⟩, hg10⟩
              have hz0 : (blameL ([] : List (List ByteArray))).length = 0 := rfl
              rw [hz0]
              clear hz0
              go_wp2_with fail
              go_ret
              exact ⟨rfl, HG9.out.trans hg10⟩
end Go.Proofs.YtmfgbkbbmeedjaaDoor
