/- DiffFirst: what both begin with is kept first. -/
import Derived.Test.YtlimfndipapfdaaDiffBoth
import Derived.Test.YtlimfndipapfdaaMix
namespace Go.Proofs.Ytlimfndipapfdaa
open Go.RowKit Go.Deep Go.MapKept

theorem first_facts {l a b : List ByteArray} (hl : l.length ≤ 30) (ha : a.length ≤ 30) (hb : b.length ≤ 30) : script 400 (l ++ a) (l ++ b) = mono 1 l ++ script 400 a b ∧ lcs (l ++ a) (l ++ b) = l.length + lcs a b := by
  refine ⟨?_, lcs_front l a b⟩
  rw [script_short (by simp; omega) (by simp; omega), script_short (by omega) (by omega), scr_front]
  rfl
theorem gek_front {l : List ByteArray} {s : List (Int × ByteArray)} {k : Nat} (h : k < l.length) : gek (mono 1 l ++ s) k = 1 ∧ gel (mono 1 l ++ s) k = gs l k := by
  have e : (mono 1 l ++ s)[k]? = some (1, gs l k) := by
    rw [List.getElem?_append_left (by rw [mono_len]; exact h)]
    simp [mono, gs, h]
  simp [gek, gel, List.getD_eq_getElem?_getD, e]
theorem Reads.dropE {w : World} {B n k c : Nat} {A : Option Addr} {l m : List (Int × ByteArray)} (h : Reads w B 2 A n (edCells (l ++ m))) (hl : l.length = k) (hk : k ≤ n) (hc : n ≤ c) : Reads w B 2 (if c = k then A else A.map (·.add (k * 2))) (n - k) (edCells m) := by
  have := h.cut (k := k) (cap := c) hk hc
  have e : (edCells (l ++ m)).drop (k * 2) = edCells m := by
    rw [edCells_append, List.drop_append_of_le_length (by rw [edCells_len]; omega), List.drop_eq_nil_of_le (by rw [edCells_len]; omega)]
    rfl
  rw [e] at this
  exact this

theorem plainE_same (B B' : Nat) (A A' : Option Addr) (n n' c c' : Nat) (xs : List (Int × ByteArray)) (w : World) (hx : Reads w B 2 A n (edCells xs)) (hy : Reads w B' 2 A' n' (edCells xs)) (hB : B ≤ w.heap.size) (hB' : B' ≤ w.heap.size) (hn : n ≤ 1000000000000) :
    Calls Try.prog 17 #[.slice A n c, .slice A' n' c'] w fun e w' => e = .returned (.bool true) ∧ Grows w w' := by
  have := plainE_any B B' A A' n n' c c' xs xs w hx hy hB hB' hn
  rw [eqE_self'] at this
  exact this

set_option maxHeartbeats 2000000 in
set_option maxRecDepth 100000 in
theorem dfirst_any (A0 A1 A2 : Option Addr) (n0 c0 n1 c1 n2 c2 : Nat) (x0 x1 x2 : List ByteArray) (w : World) (hr0 : Reads w w.heap.size 1 A0 n0 (strs x0)) (_ : n0 ≤ c0) (_ : c0 ≤ maxLen) (hr1 : Reads w w.heap.size 1 A1 n1 (strs x1)) (hn1 : n1 ≤ c1) (hc1 : c1 ≤ maxLen) (hr2 : Reads w w.heap.size 1 A2 n2 (strs x2)) (hn2 : n2 ≤ c2) (hc2 : c2 ≤ maxLen) :
    Calls Try.prog 3 #[.slice A0 n0 c0, .slice A1 n1 c1, .slice A2 n2 c2] w fun e w' => e = .returned (.bool true) ∧ Grows w w' := by
  obtain ⟨s0, hs0, hs1, hs2, hs3⟩ := info_parts Try.infoStr
  have L0 := Lib.hid hr0.strLen
  have L1 := Lib.hid hr1.strLen
  have L2 := Lib.hid hr2.strLen
  have H0 := Lib.hid hr0
  have H1 := Lib.hid hr1
  have H2 := Lib.hid hr2
  clear hr0 hr1 hr2
  go_enter Try.func3, Try.ntmps3
  by_cases hbig : 30 < n0 ∨ 30 < n1 ∨ 30 < n2
  · have hsp : (30 : Int) < n0 ∨ ¬ ((30 : Int) < n0) ∧ (30 : Int) < n1 ∨ ¬ ((30 : Int) < n0) ∧ ¬ ((30 : Int) < n1) ∧ (30 : Int) < n2 := by omega
    clear hbig
    have HSP := Lib.hid hsp
    clear hsp
    rcases HSP.out with g0 | ⟨g0, g1⟩ | ⟨g0, g1, g2⟩
    all_goals
      go_wp2_with fail
      refine (dawake_any w).mono ?_
      rintro e w1 ⟨rfl, hg⟩
      go_wp2_with fail
      go_ret
      exact ⟨rfl, hg⟩
  · have g0 : n0 ≤ 30 := by omega
    have g1 : n1 ≤ 30 := by omega
    have g2 : n2 ≤ 30 := by omega
    clear hbig
    have hF := first_facts (l := x0) (a := x1) (b := x2) (by rw [L0.out]; exact g0) (by rw [L1.out]; exact g1) (by rw [L2.out]; exact g2)
    have E1 := Lib.hid hF.1
    have E2 := Lib.hid hF.2
    clear hF
    have k0 : (n0 : Int) ≤ 30 := by omega
    have k1 : (n1 : Int) ≤ 30 := by omega
    have k2 : (n2 : Int) ≤ 30 := by omega
    have hnil := World.ownsRow_nil w w.heap.size 9 1
    go_wp2_with (first
      | (at_builtin; refine wpList_append_any _ rfl (.const (.slice none 0 0)) (.tmp 25) _ rfl w.heap.size 9 s0 _ 1 16 Try.underlying22 hs0 hs1 hs2 hs3 rfl (by decide) _ _ _ rfl hnil w.heap.size _ _ _ _ rfl H0.out (strs_oneCell _) (by simp only [maxLen]; omega) (by omega) (Nat.le_refl _) ?_; intro v1 w1 hown1 hgb1 hor1; have hgr1 : Grows w w1 := Below.grown (Grows.refl w) hgb1 (Nat.le_refl _) (fun k hk => (hnil.lt k hk).1))
      | (at_builtin; refine wpList_append_any _ rfl (.tmp 26) (.tmp 27) _ rfl w.heap.size 9 s0 _ 1 16 Try.underlying22 hs0 hs1 hs2 hs3 rfl (by decide) _ _ _ rfl hown1 w.heap.size _ _ _ _ rfl (H1.out.grows (Nat.le_refl _) hgr1) (strs_oneCell _) (by simp only [maxLen]; omega) (by omega) hgr1.size ?_; intro v2 w2 hown2 hgb2 hor2; have hgr2 : Grows w w2 := Below.grown hgr1 hgb2 hgr1.size (fun k hk => (hown1.lt k hk).1); have hnil2 := World.ownsRow_nil w2 w2.heap.size 9 1)
      | (at_builtin; refine wpList_append_any _ rfl (.const (.slice none 0 0)) (.tmp 29) _ rfl w2.heap.size 9 s0 _ 1 16 Try.underlying22 hs0 hs1 hs2 hs3 rfl (by decide) _ _ _ rfl hnil2 w.heap.size _ _ _ _ rfl (H0.out.grows (Nat.le_refl _) hgr2) (strs_oneCell _) (by simp only [maxLen]; omega) (by omega) (Nat.le_refl _) ?_; intro v3 w3 hown3 hgb3 hor3; have hgr3 : Grows w2 w3 := Below.grown (Grows.refl w2) hgb3 (Nat.le_refl _) (fun k hk => (hnil2.lt k hk).1))
      | (at_builtin; refine wpList_append_any _ rfl (.tmp 30) (.tmp 31) _ rfl w2.heap.size 9 s0 _ 1 16 Try.underlying22 hs0 hs1 hs2 hs3 rfl (by decide) _ _ _ rfl hown3 w.heap.size _ _ _ _ rfl (H2.out.grows (Nat.le_refl _) (hgr2.trans hgr3)) (strs_oneCell _) (by simp only [maxLen]; omega) (by omega) hgr3.size ?_; intro v4 w4 hown4 hgb4 hor4; have hgr4 : Grows w2 w4 := Below.grown hgr3 hgb4 hgr3.size (fun k hk => (hown3.lt k hk).1)))
    clear hgb1 hgb2 hgb3 hgb4 hor1 hor2 hor3 hor4 hnil hnil2 hs0 hs1 hs2 hs3
    have hX : w2.ownsRow w.heap.size 9 1 v2 (n0 + n1) (strs (x0 ++ x1)) := by
      have h := hown2
      rw [Nat.zero_add, List.nil_append, ← strs_append] at h
      exact h
    have hY : w4.ownsRow w2.heap.size 9 1 v4 (n0 + n2) (strs (x0 ++ x2)) := by
      have h := hown4
      rw [Nat.zero_add, List.nil_append, ← strs_append] at h
      exact h
    clear hown1 hown2 hown3 hown4 hgr1 hgr3
    have hX4 := own_grows hX hgr4
    clear hX
    obtain ⟨B1, d1, rfl, hd1, hd1M⟩ := own_form hX4
    obtain ⟨B2, d2, rfl, hd2, hd2M⟩ := own_form hY
    have HX := Lib.hid (Reads.of_own hX4)
    have HY := Lib.hid (Reads.of_own hY)
    have hgw := hgr2.trans hgr4
    clear hX4 hY hgr2 hgr4
    obtain ⟨s, hs⟩ : ∃ s, script 400 x1 x2 = s := ⟨_, rfl⟩
    obtain ⟨M, hM⟩ : ∃ M, s.length = M := ⟨_, rfl⟩
    obtain ⟨C, hC⟩ : ∃ C, lcs x1 x2 = C := ⟨_, rfl⟩
    have hCl := lcs_le_left x1 x2
    rw [hC, L1.out] at hCl
    have hMl := script_len_le x1 x2
    rw [hs, hM, L1.out, L2.out] at hMl
    have e1 := E1.out
    rw [hs] at e1
    have e2 := E2.out
    rw [hC, L0.out] at e2
    have F1 := Lib.hid e1
    have F2 := Lib.hid e2
    have F3 := Lib.hid hs
    have F4 := Lib.hid hM
    have F5 := Lib.hid hC
    have F6 := Lib.hid (show (mono 1 x0 ++ s).length = n0 + M by rw [List.length_append, mono_len, L0.out, hM])
    clear e1 e2 hs hM hC E1 E2
    refine (script_r (mono 1 x0 ++ s) (n0 + M) w4.heap.size w4.heap.size B1 B2 (n0 + n1) (n0 + n2) d1 d2 (x0 ++ x1) (x0 ++ x2) w4 F1.out F6.out HX.out HY.out (Nat.le_refl _) (Nat.le_refl _) (by omega) (by omega) hd1 hd2 hd1M hd2M).mono ?_
    rintro e w5 ⟨As, bs, rfl, ⟨hbs, hbsM⟩, hrs, hg5⟩
    have HS := Lib.hid hrs
    have HX5 := Lib.hid (HX.out.grows (Nat.le_refl _) hg5)
    have HY5 := Lib.hid (HY.out.grows (Nat.le_refl _) hg5)
    have hs5 := hg5.size
    replace hgw := hgw.trans hg5
    have H05 := Lib.hid (H0.out.grows (Nat.le_refl _) hgw)
    have H15 := Lib.hid (H1.out.grows (Nat.le_refl _) hgw)
    have H25 := Lib.hid (H2.out.grows (Nat.le_refl _) hgw)
    have hw5 := hgw.size
    clear hrs hg5 HX HY H0 H1 H2
    have kM : ¬ ((n0 + M : Nat) : Int) < n0 := by omega
    go_wp2_with fail
    go_loopg [10] n0 (fun gk q wr => ∃ (k d : Nat), q = .int .i64 k ∧ k ≤ n0 ∧ gk = n0 - k ∧ wr = w5.drewN d)
    case atStart => exact ⟨0, 0, rfl, by omega, rfl, rfl⟩
    case round =>
      obtain ⟨k, d, rfl, hk, hgk, rfl⟩ := hrel
      have HG := Lib.hid hgk; clear hgk
      by_cases hlt : k < n0
      · obtain ⟨ad, rfl, had, hc⟩ := H05.out.str hlt
        obtain ⟨al, rfl, hal, hl0, hl1⟩ := HS.out.ed (k := k) (by omega)
        have hE := gek_front (s := s) (l := x0) (k := k) (by rw [L0.out]; exact hlt)
        rw [hE.1] at hl0
        rw [hE.2] at hl1
        have i0 : (0 : Int) ≤ k := by omega
        have i1 : (k : Int) < n0 := by omega
        have i2 : (k : Int) < (n0 + M : Nat) := by omega
        clear hE
        go_wp2_with fail
        go_quiet (fail)
        go_wp2_with fail
        go_roundg (n0 - (k + 1))
        case measure => rw [HG.out]; omega
        case rel => exact ⟨k + 1, _, by go_num, by omega, rfl, rfl⟩
      · have i1 : ¬ ((k : Int) < n0) := by omega
        go_wp2_with fail
        have H16 := Lib.hid (H15.out.drewN d)
        have H26 := Lib.hid (H25.out.drewN d)
        have HX6 := Lib.hid (HX5.out.drewN d)
        have HY6 := Lib.hid (HY5.out.drewN d)
        have HS6 := Lib.hid (size_drewN hs5 d)
        have HW6 := Lib.hid (size_drewN hw5 d)
        have HGW := Lib.hid (hgw.drewN d)
        have hsj := (HS.out.dropE (k := n0) (by rw [mono_len, L0.out]) (Nat.le_add_right _ _) hbs).drewN d
        rw [Nat.add_sub_cancel_left] at hsj
        have HSI := Lib.hid (show Reads (w5.drewN d) (w5.drewN d).heap.size 2 _ M (edCells s) from hsj)
        clear hsj HS HX5 HY5 hs5 hgw H05 H15 H25 hw5 HG
        generalize w5.drewN d = w6 at H16 H26 HX6 HY6 HS6 HW6 HGW HSI ⊢
        refine wp_region_segs [([], [0]), ([1, 2, 3, 4, 5, 6, 7], [8, 9]), ([10, 11, 12, 13, 15, 16, 17, 18], [14, 19]), ([20, 21, 22, 23], [])] (by kernel_rfl) (fun _ _ _ _ _ h => h) (by kernel_rfl) ?_
        simp only [pickL, List.map_cons, List.map_nil, List.filterMap_cons, List.filterMap_nil, List.getElem?_cons_zero, List.getElem?_cons_succ]
        have ew : ({ heap := w6.heap, tape := w6.tape, drawn := w6.drawn + 1, os := w6.os, output := w6.output } : World) = w6.drew := rfl
        rw [ew]
        refine wpSegs_consK fun K2 hK2 K hK => wpQuiet_nil (hK _ ?_)
        clear hK K
        show wpList _ _ _ [_] _ _
        go_wp2_with fail
        refine (dawake_any w6.drew).mono ?_
        rintro e wa ⟨rfl, hga⟩
        go_wp2_with fail
        refine hK2.out _ _ ?_
        clear hK2 K2
        refine wpSegs_consK fun K2 hK2 K hK => ?_
        repeat (show wpQuiet _ _ _ _ (_ :: _) _; go_big_quiet_step (fail))
        refine wpQuiet_nil (hK _ ?_)
        clear hK K
        show wpList _ _ _ [_, _] _ _
        generalize (if bs = n0 then As else Option.map (fun x => x.add (n0 * 2)) As) = A7 at HSI ⊢
        go_wp2_with fail
        refine (script_r s M w.heap.size w.heap.size A1 A2 n1 n2 c1 c2 x1 x2 wa F3.out F4.out (H16.out.drew.grows HW6.out hga) (H26.out.drew.grows HW6.out hga) (Nat.le_trans HW6.out hga.size) (Nat.le_trans HW6.out hga.size) (by omega) (by omega) hn1 hn2 hc1 hc2).mono ?_
        rintro e wb ⟨Ab, bb, rfl, hbb, hrb, hgb⟩
        have hgab := hga.trans hgb
        go_wp2_with fail
        refine (plainE_same w6.heap.size wb.heap.size A7 Ab M M (bs - n0) bb s wb (HSI.out.drew.grows (Nat.le_refl _) hgab) hrb hgab.size (Nat.le_refl _) (by omega)).mono ?_
        rintro e wc ⟨rfl, hgc⟩
        have hgac := hgab.trans hgc
        clear hga hgb hgab hrb hbb
        go_wp2_with fail
        refine hK2.out _ _ ?_
        clear hK2 K2
        refine wpSegs_consK fun K2 hK2 K hK => ?_
        repeat (show wpQuiet _ _ _ _ (_ :: _) _; go_big_quiet_step (fail))
        refine wpQuiet_nil (hK _ ?_)
        clear hK K
        show wpList _ _ _ [_, _] _ _
        go_wp2_with fail
        refine (common_v (n0 + C) w4.heap.size w4.heap.size B1 B2 (n0 + n1) (n0 + n2) d1 d2 (x0 ++ x1) (x0 ++ x2) wc F2.out (HX6.out.drew.grows HS6.out hgac) (HY6.out.drew.grows HS6.out hgac) (Nat.le_trans HS6.out hgac.size) (Nat.le_trans HS6.out hgac.size) (by omega) (by omega) hd1 hd2 hd1M hd2M).mono ?_
        rintro e wd ⟨rfl, hgd⟩
        have hgad := hgac.trans hgd
        go_wp2_with fail
        refine (common_v C w.heap.size w.heap.size A1 A2 n1 n2 c1 c2 x1 x2 wd F5.out (H16.out.drew.grows HW6.out hgad) (H26.out.drew.grows HW6.out hgad) (Nat.le_trans HW6.out hgad.size) (Nat.le_trans HW6.out hgad.size) (by omega) (by omega) hn1 hn2 hc1 hc2).mono ?_
        rintro e we ⟨rfl, hge⟩
        have hgae := hgad.trans hge
        go_wp2_with fail
        refine hK2.out _ _ ?_
        clear hK2 K2
        refine wpSegs_consK fun K2 hK2 K hK => ?_
        repeat (show wpQuiet _ _ _ _ (_ :: _) _; go_big_quiet_step (fail))
        refine wpQuiet_nil (hK _ ?_)
        clear hK K
        show wpList _ _ _ [] _ _
        go_wp2_with fail
        refine hK2.out _ _ ?_
        clear hK2 K2
        refine wpSegs_nil ?_
        go_wp2_with fail
        go_ret
        exact ⟨rfl, HGW.out.drew.trans hgae⟩

end Go.Proofs.Ytlimfndipapfdaa
