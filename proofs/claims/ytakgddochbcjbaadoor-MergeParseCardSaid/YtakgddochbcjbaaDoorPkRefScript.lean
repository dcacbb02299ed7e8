/- The document's script of two lists. -/
import Derived.Test.YtakgddochbcjbaaDoorPkTable
import Derived.Test.YtakgddochbcjbaaDoorPkDist
import Derived.Deep.DeepCutAuto
import Derived.Deep.CutBlock
namespace Go.Proofs.YtakgddochbcjbaaDoor
open Go.RowKit Go.Deep Go.MapKept

theorem RowsFrom.beside {w w' : World} {X Y : List ByteArray} {T n m M k : Nat} {R : Nat → Nat} {base e size q : Nat} {v : Value} {zs : List Value} {o : Obj} (h : RowsFrom w X Y T n m M k R) (hown : w.ownsRow base e size v q zs) (hg : (w.alloc o).grownBy w' v.ownBlock) (h1 : e ≠ 27) (h2 : e ≠ 3) : RowsFrom w' X Y T n m M k R :=
  ⟨row_beside h.1 hown hg h1, fun i hi hn => by
    obtain ⟨hne, F, hr, hF⟩ := h.2 i hi hn
    exact ⟨hne, F, row_beside hr hown hg h2, hF⟩⟩
theorem scrAt_nilR {xs ys : List ByteArray} {i j : Nat} (hi : i < xs.length) (hj : ys.length ≤ j) : scrAt xs ys i j = (2, gs xs i) :: scrAt xs ys (i + 1) j := by
  unfold scrAt
  rw [gs_drop hi, List.drop_eq_nil_of_le hj, scr_nil', scr_nil']
  rfl
theorem scrAt_nilL {xs ys : List ByteArray} {i j : Nat} (hi : xs.length ≤ i) (hj : j < ys.length) : scrAt xs ys i j = (3, gs ys j) :: scrAt xs ys i (j + 1) := by
  unfold scrAt
  rw [gs_drop hj, List.drop_eq_nil_of_le hi, scr_nil, scr_nil]
  rfl
theorem scrAt_done {xs ys : List ByteArray} {i j : Nat} (hi : xs.length ≤ i) (hj : ys.length ≤ j) : scrAt xs ys i j = [] := by
  unfold scrAt
  rw [List.drop_eq_nil_of_le hi, List.drop_eq_nil_of_le hj, scr_nil]
  rfl

set_option maxRecDepth 100000 in
set_option maxHeartbeats 4000000 in
set_option maxRecDepth 100000 in
theorem rscript_any (B B' : Nat) (A A' : Option Addr) (n m c c' : Nat) (xs ys : List ByteArray) (w : World) (hx : Reads w B 1 A n (strs xs)) (hy : Reads w B' 1 A' m (strs ys)) (hB : B ≤ w.heap.size) (hB' : B' ≤ w.heap.size) (hn : n ≤ 1000000) (hm : m ≤ 1000000) (hc : n ≤ c) (hc' : m ≤ c') :
    Calls Tryd.prog 93 #[.slice A n c, .slice A' m c'] w fun e w' => ∃ v, e = .returned v ∧ w'.ownsRow w.heap.size 138 2 v (script 400 xs ys).length (edCells (script 400 xs ys)) ∧ Grows w w' := by
  have HLx := Lib.hid hx.strLen
  have HLy := Lib.hid hy.strLen
  have HX := Lib.hid hx; clear hx
  have HY := Lib.hid hy; clear hy
  obtain ⟨t1, hj0, hy0, hy1, hy2⟩ := info_parts Tryd.infoEdit
  have HSL := Lib.hid (script_len_le xs ys)
  have HB0 := Lib.hid (beg_le xs ys)
  obtain ⟨K, hK⟩ : ∃ K, K = beg xs ys := ⟨_, rfl⟩
  have HLO := Lib.hid (fun h => script_long (a := xs) (b := ys) hK h)
  have HFI := Lib.hid (fun h => script_fits (a := xs) (b := ys) hK h)
  rw [← hK] at HB0
  have HK := Lib.hid hK
  clear hK
  go_enter Tryd.func93, Tryd.ntmps93
  go_upto_block 0 with fail
  go_cut [5, 6] (fun s5 s6 wx => s6 = .int .i64 K ∧ wx.ownsRow w.heap.size 138 2 s5 K (edCells (mono 1 (xs.take K))) ∧ Grows w wx)
  case first =>
    go_wp2_with fail
    go_loopg [5, 6] n (fun gk s q wr => ∃ k : Nat, q = .int .i64 k ∧ k ≤ n ∧ k ≤ m ∧ gk = n - k ∧ xs.take k = ys.take k ∧ wr.ownsRow w.heap.size 138 2 s k (edCells (mono 1 (xs.take k))) ∧ Grows w wr)
    case atStart => exact ⟨0, rfl, by omega, by omega, rfl, rfl, World.ownsRow_nil _ _ _ _, Grows.refl _⟩
    case round =>
      obtain ⟨k, rfl, hk, hk2, hgk, hno, hown, hgr⟩ := hrel
      have HG := Lib.hid hgk; clear hgk
      have HN := Lib.hid hno; clear hno
      have hsz := hgr.size
      have k0 : (0 : Int) ≤ k := by omega
      cases h1 : decide (k < n) with
      | false =>
        have hf := Lib.hid (HK.out.trans (beg_end HN.out (.inl (by simp at h1; rw [HLx.out]; omega)) (by rw [HLx.out]; omega) (by rw [HLy.out]; omega)))
        have h1' : decide ((k : Int) < n) = false := by simp at h1 ⊢; omega
        go_wp2
        go_quiet (fail)
        go_wp2
        go_meet
        exact ⟨by rw [hf.out], by rw [hf.out]; exact hown, hgr.drewN _⟩
      | true =>
        have hlt : k < n := by simpa using h1
        have h1' : decide ((k : Int) < n) = true := by simp; omega
        obtain ⟨ad, rfl, had, hc⟩ := (HX.out.grows hB hgr).str hlt
        cases h2 : decide (k < m) with
        | false =>
          have hf := Lib.hid (HK.out.trans (beg_end HN.out (.inr (by simp at h2; rw [HLy.out]; omega)) (by rw [HLx.out]; omega) (by rw [HLy.out]; omega)))
          have h2' : decide ((k : Int) < m) = false := by simp at h2 ⊢; omega
          go_wp2
          go_quiet (fail)
          go_wp2
          go_meet
          exact ⟨by rw [hf.out], by rw [hf.out]; exact hown, hgr.drewN _⟩
        | true =>
          have hlt2 : k < m := by simpa using h2
          have h2' : decide ((k : Int) < m) = true := by simp; omega
          have k1 : (k : Int) < n := by omega
          have k2 : (k : Int) < m := by omega
          obtain ⟨ad', rfl, had', hc'⟩ := (HY.out.grows hB' hgr).str hlt2
          cases he : ((gs xs k).toList == (gs ys k).toList) with
          | true =>
            have hf := Lib.hid (takeS_succ HLx.out HLy.out hlt hlt2 HN.out he)
            have HT := Lib.hid (mono_take (k := 1) (xs := xs) (i := k) (by rw [HLx.out]; exact hlt))
            go_wp2
            go_quiet (fail)
            have hownq := own_drewN hown nq
            have hgrq := hgr.drewN nq
            have hszq := size_drewN hsz nq
            have hcq := cell_drewN hc nq
            clear hown hgr hsz hc hc'
            generalize wr.drewN nq = wq at hownq hgrq hszq hcq ⊢
            go_wp2_with (at_builtin; refine wpList_pushG rfl (.tmp 33) (.tmp 39) _ rfl (w.heap.size) 138 t1 _ 2 24 Tryd.underlying135 hj0 hy0 hy1 hy2 rfl (by decide) _ _ _ rfl ((hownq).alloc _) ⟨(wq).heap.size, 0, none⟩ 1 1 [.int .i64 (1), .string (gs xs k)] rfl rfl (cell_two_newE _ _ _ _) (by intro u hu; simp at hu; rcases hu with rfl | rfl <;> rfl) (by simp only [maxLen]; omega) (by omega) (by simp; omega) ?_; intro v' w1 hown1 hb1 hbg; have hgr1 : Grows w w1 := Below.trans (hgrq.alloc _) hb1)
            go_roundg (n - (k + 1))
            case measure => rw [HG.out]; omega
            case rel => exact ⟨k + 1, by go_num, by omega, by omega, rfl, hf.out, by rw [HT.out, edCells_append, edCells_one]; exact hown1, hgr1⟩
          | false =>
            have hf := Lib.hid (HK.out.trans (begS_stop HLx.out HLy.out hlt hlt2 HN.out he))
            go_wp2
            go_quiet (fail)
            go_wp2
            go_meet
            exact ⟨by rw [hf.out], by rw [hf.out]; exact hown, hgr.drewN _⟩
  case rest =>
    obtain ⟨rfl, hown0, hgr0⟩ := hcut
    have hk1 : K ≤ n := by have := HB0.out; rw [HLx.out] at this; exact this.1
    have hk2 : K ≤ m := by have := HB0.out; rw [HLy.out] at this; exact this.2
    have k0 : (0 : Int) ≤ K := by omega
    have k1 : (K : Int) ≤ n := by omega
    have k2 : (K : Int) ≤ m := by omega
    have k3 : (n : Int) ≤ c := by omega
    have k4 : (m : Int) ≤ c' := by omega
    go_wp2_with fail
    go_quiet (fail)
    have HXW := Lib.hid (HX.out.dropS hk1 hc)
    have HYW := Lib.hid (HY.out.dropS hk2 hc')
    clear HX HY
    generalize (if c = K then A else Option.map (fun x => x.add K) A) = A1 at HXW ⊢
    generalize (if c' = K then A' else Option.map (fun x => x.add K) A') = A1' at HYW ⊢
    obtain ⟨n1, hn1⟩ : ∃ n1, n1 = n - K := ⟨_, rfl⟩
    obtain ⟨m1, hm1⟩ : ∃ m1, m1 = m - K := ⟨_, rfl⟩
    rw [← hn1] at HXW ⊢
    rw [← hm1] at HYW ⊢
    generalize c - K = c1
    generalize c' - K = c1'
    have hn1M : n1 ≤ 1000000 := by omega
    have hm1M : m1 ≤ 1000000 := by omega
    have hkS : K ≤ 1000000 := by omega
    clear hn1 hm1 k1 k2 k3 k4 hc hc'
    have HL1 := Lib.hid HXW.out.strLen
    have HL1' := Lib.hid HYW.out.strLen
    have HTK := Lib.hid (show (xs.take K).length = K by rw [List.length_take, HLx.out]; omega)
    generalize xs.take K = xs0 at HLO HFI hown0 HTK
    generalize xs.drop K = xs1 at HXW HL1 HLO HFI
    generalize ys.drop K = ys1 at HYW HL1' HLO HFI
    have hown2 := own_drewN hown0 nq
    have hgr2 := hgr0.drewN nq
    clear hown0 hgr0
    generalize wc.drewN nq = w3 at hown2 hgr2 ⊢
    obtain ⟨long, hlong⟩ : ∃ long : Bool, long = decide (400 < n1 ∨ 400 < m1) := ⟨_, rfl⟩
    go_upto_region 7 with fail
    go_cut [56] (fun s56 wx => s56 = .bool long ∧ wx = w3)
    case first =>
      have hsp : (400 : Int) < n1 ∨ ¬ ((400 : Int) < n1) ∧ (400 : Int) < m1 ∨ ¬ ((400 : Int) < n1) ∧ ¬ ((400 : Int) < m1) := by omega
      have HSP := Lib.hid hsp
      have HLG := Lib.hid hlong
      clear hsp hlong
      rcases HSP.out with g0 | ⟨g0, g1⟩ | ⟨g0, g1⟩
      · have hl : long = true := HLG.out.trans (decide_eq_true (by omega))
        subst hl
        go_wp2_with fail
        go_meet
        exact ⟨rfl, rfl⟩
      · have hl : long = true := HLG.out.trans (decide_eq_true (by omega))
        subst hl
        go_wp2_with fail
        go_meet
        exact ⟨rfl, rfl⟩
      · have hl : long = false := HLG.out.trans (decide_eq_false (by omega))
        subst hl
        go_wp2_with fail
        go_meet
        exact ⟨rfl, rfl⟩
    case rest =>
      obtain ⟨rfl, rfl⟩ := hcut
      have HLG := Lib.hid hlong
      clear hlong
      cases long with
      | true =>
        have hl := of_decide_eq_true HLG.out.symm
        have HE := Lib.hid (HLO.out (by rw [HL1.out, HL1'.out]; exact hl))
        clear hl HLG HFI HLO
        go_wp2_with fail
        go_loopg [5, 7] n1 (fun gk s q wr => ∃ k : Nat, q = .int .i64 k ∧ k ≤ n1 ∧ gk = n1 - k ∧ wr.ownsRow w.heap.size 138 2 s (K + k) (edCells (mono 1 xs0 ++ mono 2 (xs1.take k))) ∧ Grows w wr)
        case atStart => exact ⟨0, rfl, by omega, rfl, by simpa [mono] using hown2, hgr2⟩
        case round =>
          clear hown2 hgr2
          obtain ⟨k, rfl, hk, hgk, hown, hgr⟩ := hrel
          have HG := Lib.hid hgk; clear hgk
          have hsz := hgr.size
          by_cases hlt : k < n1
          · obtain ⟨ad, rfl, had, hc⟩ := (HXW.out.grows hB hgr).str hlt
            have HT := Lib.hid (mono_take (k := 2) (xs := xs1) (i := k) (by rw [HL1.out]; exact hlt))
            have i0 : (0 : Int) ≤ k := by omega
            have i1 : (k : Int) < n1 := by omega
            go_wp2_with (at_builtin; refine wpList_pushG rfl (.tmp 63) (.tmp 69) _ rfl (w.heap.size) 138 t1 _ 2 24 Tryd.underlying135 hj0 hy0 hy1 hy2 rfl (by decide) _ _ _ rfl ((hown).alloc _) ⟨(wr).heap.size, 0, none⟩ 1 1 [.int .i64 (2), .string (gs xs1 k)] rfl rfl (cell_two_newE _ _ _ _) (by intro u hu; simp at hu; rcases hu with rfl | rfl <;> rfl) (by simp only [maxLen]; omega) (by omega) (by simp; omega) ?_; intro v' w1 hown1 hb1 hbg; have hgr1 : Grows w w1 := Below.trans (hgr.alloc _) hb1)
            go_roundg (n1 - (k + 1))
            case measure => rw [HG.out]; omega
            case rel => exact ⟨k + 1, by go_num, by omega, rfl, by rw [HT.out, ← List.append_assoc, edCells_append, edCells_one]; exact hown1, hgr1⟩
          · have hkn := Lib.hid (show k = n1 by omega)
            have hf := Lib.hid (show xs1.take k = xs1 from List.take_of_length_le (by rw [HL1.out]; omega))
            rw [hf.out, hkn.out] at hown
            have i1 : ¬ ((k : Int) < n1) := by omega
            go_wp2_with fail
            go_loopg [5, 8] m1 (fun gk s q wx => ∃ j : Nat, q = .int .i64 j ∧ j ≤ m1 ∧ gk = m1 - j ∧ wx.ownsRow w.heap.size 138 2 s (K + n1 + j) (edCells (mono 1 xs0 ++ mono 2 xs1 ++ mono 3 (ys1.take j))) ∧ Grows w wx)
            case atStart => exact ⟨0, rfl, by omega, rfl, by simpa [mono] using hown, hgr⟩
            case round =>
              clear hown hgr hsz
              obtain ⟨j, rfl, hj, hgj, hown, hgr⟩ := hrel
              have HG2 := Lib.hid hgj; clear hgj
              have hsz := hgr.size
              by_cases hlt2 : j < m1
              · obtain ⟨ad', rfl, had', hc'⟩ := (HYW.out.grows hB' hgr).str hlt2
                have HT := Lib.hid (mono_take (k := 3) (xs := ys1) (i := j) (by rw [HL1'.out]; exact hlt2))
                have i0 : (0 : Int) ≤ j := by omega
                have i2 : (j : Int) < m1 := by omega
                go_wp2_with (at_builtin; refine wpList_pushG rfl (.tmp 77) (.tmp 83) _ rfl (w.heap.size) 138 t1 _ 2 24 Tryd.underlying135 hj0 hy0 hy1 hy2 rfl (by decide) _ _ _ rfl ((hown).alloc _) ⟨(wr).heap.size, 0, none⟩ 1 1 [.int .i64 (3), .string (gs ys1 j)] rfl rfl (cell_two_newE _ _ _ _) (by intro u hu; simp at hu; rcases hu with rfl | rfl <;> rfl) (by simp only [maxLen]; omega) (by omega) (by simp; omega) ?_; intro v' w1 hown1 hb1 hbg; have hgr1 : Grows w w1 := Below.trans (hgr.alloc _) hb1)
                go_roundg (m1 - (j + 1))
                case measure => rw [HG2.out]; omega
                case rel => exact ⟨j + 1, by go_num, by omega, rfl, by rw [HT.out, ← List.append_assoc, edCells_append, edCells_one]; exact hown1, hgr1⟩
              · have hjm := Lib.hid (show j = m1 by omega)
                have hf2 := Lib.hid (show ys1.take j = ys1 from List.take_of_length_le (by rw [HL1'.out]; omega))
                rw [hf2.out, hjm.out] at hown
                have i2 : ¬ ((j : Int) < m1) := by omega
                go_wp2_with fail
                go_ret
                have e1 : (mono 1 xs0 ++ mono 2 xs1 ++ mono 3 ys1).length = K + n1 + m1 := by simp only [List.length_append, mono_len, HTK.out, HL1.out, HL1'.out]
                exact ⟨_, rfl, by rw [HE.out, e1]; exact hown, hgr⟩
      | false =>
        have hl := of_decide_eq_false HLG.out.symm
        have HE := Lib.hid (HFI.out (by rw [HL1.out, HL1'.out]; exact hl))
        have hn4 : n1 ≤ 400 := by omega
        have hm4 : m1 ≤ 400 := by omega
        clear hl HLG HFI HLO
        have hg2 := hgr2.size
        go_wp2_with fail
        refine (table_any B B' A1 A1' n1 m1 c1 c1' xs1 ys1 wc (HXW.out.grows hB hgr2) (HYW.out.grows hB' hgr2) (Nat.le_trans hB hg2) (Nat.le_trans hB' hg2) (by omega) (by omega)).mono ?_
        rintro e w4 ⟨T, R, rfl, htb4, hgr4⟩
        have hown4 := own_grows hown2 hgr4
        have hgr5 := hgr2.trans hgr4
        clear hown2 hgr2 hgr4 hg2
        go_wp2_with fail
        go_loopg [5, 10, 11] (n1 + m1) (fun gk s q q' wr => ∃ (i j : Nat) (l : List (Int × ByteArray)), q = .int .i64 i ∧ q' = .int .i64 j ∧ i ≤ n1 ∧ j ≤ m1 ∧ gk = (n1 - i) + (m1 - j) ∧ l ++ scrAt xs1 ys1 i j = script 400 xs ys ∧ wr.ownsRow w.heap.size 138 2 s l.length (edCells l) ∧ RowsFrom wr xs1 ys1 T n1 m1 (m1 + 1) 0 R ∧ Grows w wr)
        case atStart =>
          refine ⟨0, 0, mono 1 xs0, rfl, rfl, by omega, by omega, by omega, HE.out.symm, ?_, htb4, hgr5⟩
          rw [mono_len, HTK.out]; exact hown4
        case round =>
          clear hown4 htb4 hgr5
          obtain ⟨i, j, l, rfl, rfl, hi, hj, hgk, hl, hown, htb, hgr⟩ := hrel
          have HG := Lib.hid hgk; clear hgk
          have HL := Lib.hid hl; clear hl
          have hlen : l.length ≤ 2000000 := by
            have h1 := HSL.out
            rw [← HL.out, List.length_append, HLx.out, HLy.out] at h1
            omega
          have hsz := hgr.size
          have i0 : (0 : Int) ≤ i := by omega
          have j0 : (0 : Int) ≤ j := by omega
          by_cases hi1 : i < n1
          · obtain ⟨ad, rfl, had, hc⟩ := (HXW.out.grows hB hgr).str hi1
            have hi5 := Lib.hid (show i < xs1.length by rw [HL1.out]; exact hi1)
            have i1 : (i : Int) < n1 := by omega
            have i2 : decide ((i : Int) < n1) = true := by simp; omega
            by_cases hj1 : j < m1
            · obtain ⟨ad', rfl, had', hc'⟩ := (HYW.out.grows hB' hgr).str hj1
              have hj5 := Lib.hid (show j < ys1.length by rw [HL1'.out]; exact hj1)
              have j1 : (j : Int) < m1 := by omega
              have j2 : decide ((j : Int) < m1) = true := by simp; omega
              cases he : ((gs xs1 i).toList == (gs ys1 j).toList) with
              | true =>
                have HS1 := Lib.hid (scrAt_eq hi5.out hj5.out he)
                have HF1 := Lib.hid (show l ++ ([((1 : Int), gs xs1 i)] ++ scrAt xs1 ys1 (i + 1) (j + 1)) = script 400 xs ys by rw [← HL.out, HS1.out]; rfl)
                go_wp2
                go_quiet (fail)
                have hownq := own_drewN hown nq
                have htbq := RowsFrom.drewN htb nq
                have hcq := cell_drewN hc nq
                have hcq' := cell_drewN hc' nq
                have hgrq := Grows.drewN hgr nq
                have hszq := size_drewN hsz nq
                clear hown htb hc hc' hgr hsz
                generalize wr.drewN nq = wq at hownq htbq hcq hcq' hgrq hszq ⊢
                go_wp2_with (at_builtin; refine wpList_pushG rfl (.tmp 131) (.tmp 137) _ rfl (w.heap.size) 138 t1 _ 2 24 Tryd.underlying135 hj0 hy0 hy1 hy2 rfl (by decide) _ _ _ rfl ((hownq).alloc _) ⟨(wq).heap.size, 0, none⟩ 1 1 [.int .i64 (1), .string (gs xs1 i)] rfl rfl (cell_two_newE _ _ _ _) (by intro u hu; simp at hu; rcases hu with rfl | rfl <;> rfl) (by simp only [maxLen]; omega) (by omega) (by simp; omega) ?_; intro v' w1 hown1 hb1 hbg; have hgr1 : Grows w w1 := Below.trans (hgrq.alloc _) hb1; have htb1 := htbq.beside hownq hbg (by decide) (by decide))
                go_roundg ((n1 - (i + 1)) + (m1 - (j + 1)))
                case measure => rw [HG.out]; omega
                case rel => exact ⟨(i + 1), (j + 1), l ++ [(1, gs xs1 i)], by go_num, by go_num, by omega, by omega, rfl, by rw [List.append_assoc]; exact HF1.out, by rw [List.length_append, edCells_append, edCells_one]; exact hown1, htb1, hgr1⟩
              | false =>
                have HD := Lib.hid (fun h => scrAt_del hi5.out hj5.out he h)
                have HI := Lib.hid (fun h => scrAt_ins hi5.out hj5.out he h)
                go_wp2
                go_quiet (fail)
                have hownq := own_drewN hown nq
                have htbq := RowsFrom.drewN htb nq
                have hcq := cell_drewN hc nq
                have hcq' := cell_drewN hc' nq
                have hgrq := Grows.drewN hgr nq
                have hszq := size_drewN hsz nq
                clear hown htb hc hc' hgr hsz
                generalize wr.drewN nq = wq at hownq htbq hcq hcq' hgrq hszq ⊢
                have hT0 := htbq.cellT (i := i) (Nat.zero_le _) (by omega)
                have hT1 := htbq.cellT (i := i + 1) (Nat.zero_le _) (by omega)
                have hR1 := htbq.cellR (i := i + 1) (j := j) (Nat.zero_le _) (by omega) (by omega) rfl
                have hR0 := htbq.cellR (i := i) (j := j + 1) (Nat.zero_le _) (by omega) (by omega) rfl
                obtain ⟨v1, hv1⟩ : ∃ v1 : Nat, v1 = lcsAt xs1 ys1 (i + 1) j := ⟨_, rfl⟩
                obtain ⟨v2, hv2⟩ : ∃ v2 : Nat, v2 = lcsAt xs1 ys1 i (j + 1) := ⟨_, rfl⟩
                rw [← hv1, ← hv2] at HD HI
                rw [← hv1] at hR1
                rw [← hv2] at hR0
                clear hv1 hv2
                have j3 : ((j : Int) == (m1 : Int)) = false := by simp; omega
                have j4 : (j : Int) < (m1 : Int) + 1 := by omega
                have j5 : (j : Int) + 1 < (m1 : Int) + 1 := by omega
                have i4 : (i : Int) < (n1 : Int) + 1 := by omega
                have i5 : (i : Int) + 1 < (n1 : Int) + 1 := by omega
                by_cases hle : v2 ≤ v1
                · have hle' : (v2 : Int) ≤ (v1 : Int) := by omega
                  have HF3 := Lib.hid (show l ++ ([((2 : Int), gs xs1 i)] ++ scrAt xs1 ys1 (i + 1) j) = script 400 xs ys by rw [← HL.out, HD.out hle]; rfl)
                  clear hle
                  go_wp2
                  go_quiet (fail)
                  clear hT0 hT1 hR1 hR0
                  have howna := own_drewN hownq nq
                  have htba := RowsFrom.drewN htbq nq
                  have hca := cell_drewN hcq nq
                  have hca' := cell_drewN hcq' nq
                  have hgra := Grows.drewN hgrq nq
                  have hsza := size_drewN hszq nq
                  clear hownq htbq hcq hcq' hgrq hszq
                  generalize wq.drewN nq = wa at howna htba hca hca' hgra hsza ⊢
                  go_wp2_with (at_builtin; refine wpList_pushG rfl (.tmp 173) (.tmp 179) _ rfl (w.heap.size) 138 t1 _ 2 24 Tryd.underlying135 hj0 hy0 hy1 hy2 rfl (by decide) _ _ _ rfl ((howna).alloc _) ⟨(wa).heap.size, 0, none⟩ 1 1 [.int .i64 (2), .string (gs xs1 i)] rfl rfl (cell_two_newE _ _ _ _) (by intro u hu; simp at hu; rcases hu with rfl | rfl <;> rfl) (by simp only [maxLen]; omega) (by omega) (by simp; omega) ?_; intro v' w1 hown1 hb1 hbg; have hgr1 : Grows w w1 := Below.trans (hgra.alloc _) hb1; have htb1 := htba.beside howna hbg (by decide) (by decide))
                  go_roundg ((n1 - (i + 1)) + (m1 - j))
                  case measure => rw [HG.out]; omega
                  case rel => exact ⟨(i + 1), j, l ++ [(2, gs xs1 i)], by go_num, by go_num, by omega, by omega, rfl, by rw [List.append_assoc]; exact HF3.out, by rw [List.length_append, edCells_append, edCells_one]; exact hown1, htb1, hgr1⟩
                · have hle' : ¬ ((v2 : Int) ≤ (v1 : Int)) := by omega
                  have HF3 := Lib.hid (show l ++ ([((3 : Int), gs ys1 j)] ++ scrAt xs1 ys1 i (j + 1)) = script 400 xs ys by rw [← HL.out, HI.out hle]; rfl)
                  clear hle
                  go_wp2
                  go_quiet (fail)
                  clear hT0 hT1 hR1 hR0
                  have howna := own_drewN hownq nq
                  have htba := RowsFrom.drewN htbq nq
                  have hca := cell_drewN hcq nq
                  have hca' := cell_drewN hcq' nq
                  have hgra := Grows.drewN hgrq nq
                  have hsza := size_drewN hszq nq
                  clear hownq htbq hcq hcq' hgrq hszq
                  generalize wq.drewN nq = wa at howna htba hca hca' hgra hsza ⊢
                  go_wp2_with (at_builtin; refine wpList_pushG rfl (.tmp 99) (.tmp 105) _ rfl (w.heap.size) 138 t1 _ 2 24 Tryd.underlying135 hj0 hy0 hy1 hy2 rfl (by decide) _ _ _ rfl ((howna).alloc _) ⟨(wa).heap.size, 0, none⟩ 1 1 [.int .i64 (3), .string (gs ys1 j)] rfl rfl (cell_two_newE _ _ _ _) (by intro u hu; simp at hu; rcases hu with rfl | rfl <;> rfl) (by simp only [maxLen]; omega) (by omega) (by simp; omega) ?_; intro v' w1 hown1 hb1 hbg; have hgr1 : Grows w w1 := Below.trans (hgra.alloc _) hb1; have htb1 := htba.beside howna hbg (by decide) (by decide))
                  go_roundg ((n1 - i) + (m1 - (j + 1)))
                  case measure => rw [HG.out]; omega
                  case rel => exact ⟨i, (j + 1), l ++ [(3, gs ys1 j)], by go_num, by go_num, by omega, by omega, rfl, by rw [List.append_assoc]; exact HF3.out, by rw [List.length_append, edCells_append, edCells_one]; exact hown1, htb1, hgr1⟩
            · have hjm : j = m1 := by omega
              have j2 : decide ((j : Int) < m1) = false := by simp; omega
              have j3 : ((j : Int) == (m1 : Int)) = true := by simp; omega
              have HS1 := Lib.hid (scrAt_nilR (ys := ys1) (j := j) hi5.out (by rw [HL1'.out]; omega))
              have HF1 := Lib.hid (show l ++ ([((2 : Int), gs xs1 i)] ++ scrAt xs1 ys1 (i + 1) j) = script 400 xs ys by rw [← HL.out, HS1.out]; rfl)
              clear hjm
              go_wp2
              go_quiet (fail)
              have hownq := own_drewN hown nq
              have htbq := RowsFrom.drewN htb nq
              have hcq := cell_drewN hc nq
              have hgrq := Grows.drewN hgr nq
              have hszq := size_drewN hsz nq
              clear hown htb hc hgr hsz
              generalize wr.drewN nq = wq at hownq htbq hcq hgrq hszq ⊢
              go_wp2
              go_quiet (fail)
              have howna := own_drewN hownq nq
              have htba := RowsFrom.drewN htbq nq
              have hca := cell_drewN hcq nq
              have hgra := Grows.drewN hgrq nq
              have hsza := size_drewN hszq nq
              clear hownq htbq hcq hgrq hszq
              generalize wq.drewN nq = wa at howna htba hca hgra hsza ⊢
              go_wp2_with (at_builtin; refine wpList_pushG rfl (.tmp 173) (.tmp 179) _ rfl (w.heap.size) 138 t1 _ 2 24 Tryd.underlying135 hj0 hy0 hy1 hy2 rfl (by decide) _ _ _ rfl ((howna).alloc _) ⟨(wa).heap.size, 0, none⟩ 1 1 [.int .i64 (2), .string (gs xs1 i)] rfl rfl (cell_two_newE _ _ _ _) (by intro u hu; simp at hu; rcases hu with rfl | rfl <;> rfl) (by simp only [maxLen]; omega) (by omega) (by simp; omega) ?_; intro v' w1 hown1 hb1 hbg; have hgr1 : Grows w w1 := Below.trans (hgra.alloc _) hb1; have htb1 := htba.beside howna hbg (by decide) (by decide))
              go_roundg ((n1 - (i + 1)) + (m1 - j))
              case measure => rw [HG.out]; omega
              case rel => exact ⟨(i + 1), j, l ++ [(2, gs xs1 i)], by go_num, by go_num, by omega, by omega, rfl, by rw [List.append_assoc]; exact HF1.out, by rw [List.length_append, edCells_append, edCells_one]; exact hown1, htb1, hgr1⟩
          · have i2 : decide ((i : Int) < n1) = false := by simp; omega
            have hin : ¬ ((i : Int) < n1) := by omega
            by_cases hj1 : j < m1
            · obtain ⟨ad', rfl, had', hc'⟩ := (HYW.out.grows hB' hgr).str hj1
              have hj5 := Lib.hid (show j < ys1.length by rw [HL1'.out]; exact hj1)
              have j1 : (j : Int) < m1 := by omega
              have j2 : decide ((j : Int) < m1) = true := by simp; omega
              have j3 : ((j : Int) == (m1 : Int)) = false := by simp; omega
              have HS1 := Lib.hid (scrAt_nilL (xs := xs1) (i := i) (by rw [HL1.out]; omega) hj5.out)
              have HF1 := Lib.hid (show l ++ ([((3 : Int), gs ys1 j)] ++ scrAt xs1 ys1 i (j + 1)) = script 400 xs ys by rw [← HL.out, HS1.out]; rfl)
              go_wp2
              go_quiet (fail)
              have hownq := own_drewN hown nq
              have htbq := RowsFrom.drewN htb nq
              have hcq' := cell_drewN hc' nq
              have hgrq := Grows.drewN hgr nq
              have hszq := size_drewN hsz nq
              clear hown htb hc' hgr hsz
              generalize wr.drewN nq = wq at hownq htbq hcq' hgrq hszq ⊢
              go_wp2
              go_quiet (fail)
              have howna := own_drewN hownq nq
              have htba := RowsFrom.drewN htbq nq
              have hca' := cell_drewN hcq' nq
              have hgra := Grows.drewN hgrq nq
              have hsza := size_drewN hszq nq
              clear hownq htbq hcq' hgrq hszq
              generalize wq.drewN nq = wa at howna htba hca' hgra hsza ⊢
              go_wp2_with (at_builtin; refine wpList_pushG rfl (.tmp 99) (.tmp 105) _ rfl (w.heap.size) 138 t1 _ 2 24 Tryd.underlying135 hj0 hy0 hy1 hy2 rfl (by decide) _ _ _ rfl ((howna).alloc _) ⟨(wa).heap.size, 0, none⟩ 1 1 [.int .i64 (3), .string (gs ys1 j)] rfl rfl (cell_two_newE _ _ _ _) (by intro u hu; simp at hu; rcases hu with rfl | rfl <;> rfl) (by simp only [maxLen]; omega) (by omega) (by simp; omega) ?_; intro v' w1 hown1 hb1 hbg; have hgr1 : Grows w w1 := Below.trans (hgra.alloc _) hb1; have htb1 := htba.beside howna hbg (by decide) (by decide))
              go_roundg ((n1 - i) + (m1 - (j + 1)))
              case measure => rw [HG.out]; omega
              case rel => exact ⟨i, (j + 1), l ++ [(3, gs ys1 j)], by go_num, by go_num, by omega, by omega, rfl, by rw [List.append_assoc]; exact HF1.out, by rw [List.length_append, edCells_append, edCells_one]; exact hown1, htb1, hgr1⟩
            · have j1 : ¬ ((j : Int) < m1) := by omega
              have HS1 := Lib.hid (scrAt_done (xs := xs1) (ys := ys1) (i := i) (j := j) (by rw [HL1.out]; omega) (by rw [HL1'.out]; omega))
              have HF1 := Lib.hid (show l = script 400 xs ys by rw [← HL.out, HS1.out, List.append_nil])
              go_wp2_with fail
              go_ret
              exact ⟨_, rfl, by rw [← HF1.out]; exact hown, hgr⟩

end Go.Proofs.YtakgddochbcjbaaDoor
