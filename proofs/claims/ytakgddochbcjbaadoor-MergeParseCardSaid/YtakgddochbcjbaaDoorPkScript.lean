/- The script of two lists: package diff's answer. -/
import Derived.Test.YtakgddochbcjbaaDoorPkMarks
import Derived.Deep.RegionWith
namespace Go.Proofs.YtakgddochbcjbaaDoor
open Go.RowKit Go.Deep Go.MapKept

theorem distN_le (l : List (Int × ByteArray)) : distN l ≤ l.length := List.length_filter_le _ _
/-- what a script of two lists goes on to from two places -/
def scrAt (xs ys : List ByteArray) (i j : Nat) : List (Int × ByteArray) := scr (xs.drop i) (ys.drop j)
theorem scrAt_eq {xs ys : List ByteArray} {i j : Nat} (hi : i < xs.length) (hj : j < ys.length) (he : ((gs xs i).toList == (gs ys j).toList) = true) : scrAt xs ys i j = (1, gs xs i) :: scrAt xs ys (i + 1) (j + 1) := by
  rw [← beq_toListBytes, bytes_beq] at he
  unfold scrAt
  rw [gs_drop hi, gs_drop hj, he, scr_eq]
theorem scrAt_del {xs ys : List ByteArray} {i j : Nat} (hi : i < xs.length) (hj : j < ys.length) (he : ((gs xs i).toList == (gs ys j).toList) = false) (hl : lcsAt xs ys i (j + 1) ≤ lcsAt xs ys (i + 1) j) : scrAt xs ys i j = (2, gs xs i) :: scrAt xs ys (i + 1) j := by
  have hne : gs xs i ≠ gs ys j := fun h => by rw [h] at he; simp at he
  unfold scrAt lcsAt at *
  rw [gs_drop hi] at hl ⊢
  rw [gs_drop hj] at hl ⊢
  exact scr_del hne hl
theorem scrAt_ins {xs ys : List ByteArray} {i j : Nat} (hi : i < xs.length) (hj : j < ys.length) (he : ((gs xs i).toList == (gs ys j).toList) = false) (hl : ¬ lcsAt xs ys i (j + 1) ≤ lcsAt xs ys (i + 1) j) : scrAt xs ys i j = (3, gs ys j) :: scrAt xs ys i (j + 1) := by
  have hne : gs xs i ≠ gs ys j := fun h => by rw [h] at he; simp at he
  unfold scrAt lcsAt at *
  rw [gs_drop hi] at hl ⊢
  rw [gs_drop hj] at hl ⊢
  exact scr_ins hne hl
theorem scrAt_end {xs ys : List ByteArray} {i j : Nat} (h : xs.length ≤ i ∨ ys.length ≤ j) : scrAt xs ys i j = mono 2 (xs.drop i) ++ mono 3 (ys.drop j) := by
  unfold scrAt mono
  rcases h with h | h
  · rw [List.drop_eq_nil_of_le h, scr_nil]; rfl
  · rw [List.drop_eq_nil_of_le h, scr_nil']; simp
theorem scr_len_le (a b : List ByteArray) : (scr a b).length ≤ a.length + b.length := by have := scr_len a b; omega
theorem script_len_le (a b : List ByteArray) : (script 400 a b).length ≤ a.length + b.length := by
  have h1 := beg_le a b
  unfold script
  split
  · simp only [List.length_append, List.length_map, List.length_take, List.length_drop]; omega
  · have := scr_len_le (a.drop (beg a b)) (b.drop (beg a b))
    simp only [List.length_append, List.length_map, List.length_take, List.length_drop] at this ⊢; omega
theorem script_long {a b : List ByteArray} {k : Nat} (hk : k = beg a b) (h : 400 < (a.drop k).length ∨ 400 < (b.drop k).length) : script 400 a b = mono 1 (a.take k) ++ mono 2 (a.drop k) ++ mono 3 (b.drop k) := by
  subst hk
  unfold script mono
  rw [if_pos h, List.append_assoc]
theorem script_fits {a b : List ByteArray} {k : Nat} (hk : k = beg a b) (h : ¬ (400 < (a.drop k).length ∨ 400 < (b.drop k).length)) : script 400 a b = mono 1 (a.take k) ++ scrAt (a.drop k) (b.drop k) 0 0 := by
  subst hk
  unfold script mono scrAt
  rw [if_neg h]; rfl

theorem own_drewN {w : World} {base e size n : Nat} {v : Value} {xs : List Value} (h : w.ownsRow base e size v n xs) (d : Nat) : (w.drewN d).ownsRow base e size v n xs := h
theorem cell_drewN {w : World} {a : Addr} {u : Value} (h : w.cell? a = some u) (d : Nat) : (w.drewN d).cell? a = some u := h
theorem size_drewN {w : World} {k : Nat} (h : k ≤ w.heap.size) (d : Nat) : k ≤ (w.drewN d).heap.size := h

set_option maxRecDepth 100000 in
set_option maxHeartbeats 4000000 in
set_option maxRecDepth 100000 in
theorem script_any (B B' : Nat) (A A' : Option Addr) (n m c c' : Nat) (xs ys : List ByteArray) (w : World) (hx : Reads w B 1 A n (strs xs)) (hy : Reads w B' 1 A' m (strs ys)) (hB : B ≤ w.heap.size) (hB' : B' ≤ w.heap.size) (hn : n ≤ 1000000) (hm : m ≤ 1000000) (hc : n ≤ c) (hc' : m ≤ c') (hcM : c ≤ maxLen) (hcM' : c' ≤ maxLen) :
    Calls Tryd.prog 109 #[.slice A n c, .slice A' m c'] w fun e w' => ∃ v, e = .returned v ∧ w'.ownsRow w.heap.size 138 2 v (script 400 xs ys).length (edCells (script 400 xs ys)) ∧ Grows w w' := by
  have hML : n ≤ maxLen := by unfold maxLen; omega
  have hML' : m ≤ maxLen := by unfold maxLen; omega
  have HLx := Lib.hid hx.strLen
  have HLy := Lib.hid hy.strLen
  have HX := Lib.hid hx; clear hx
  have HY := Lib.hid hy; clear hy
  obtain ⟨t1, hj0, hy0, hy1, hy2⟩ := info_parts Tryd.infoEdit
  have HSL := Lib.hid (script_len_le xs ys)
  go_enter Tryd.func109, Tryd.ntmps109
  go_wp2_with fail
  have HB0 := Lib.hid (beg_le xs ys)
  have HBE := Lib.hid (begin_any B B' A A' n m c c' xs ys w HX.out HY.out hML hML')
  obtain ⟨k, hk⟩ : ∃ k, k = beg xs ys := ⟨_, rfl⟩
  have HLO := Lib.hid (fun h => script_long (a := xs) (b := ys) hk h)
  have HFI := Lib.hid (fun h => script_fits (a := xs) (b := ys) hk h)
  rw [← hk] at HB0 HBE
  clear hk
  refine HBE.out.mono ?_
  rintro e w1 ⟨rfl, d1, rfl⟩
  have hk1 : k ≤ n := by have := HB0.out; rw [HLx.out] at this; exact this.1
  have hk2 : k ≤ m := by have := HB0.out; rw [HLy.out] at this; exact this.2
  clear HBE HB0
  have k0 : (0 : Int) ≤ k := by omega
  have k1 : (k : Int) ≤ n := by omega
  have k2 : (k : Int) ≤ m := by omega
  have k3 : (n : Int) ≤ c := by omega
  have k4 : (m : Int) ≤ c' := by omega
  have k5 : (k : Int) ≤ c := by omega
  go_wp2_with fail
  refine (edits_any B A k c (xs.take k) 1 (w.drewN d1) (HX.out.takeS hk1) hB (by omega)).mono ?_
  rintro e w2 ⟨v0, rfl, hown, hgr⟩
  have hgr0 : Grows w w2 := Grows.trans ((Grows.refl w).drewN d1) hgr
  have hown0 : w2.ownsRow w.heap.size 138 2 v0 k (edCells (mono 1 (xs.take k))) := hown
  clear hown hgr
  go_wp2_with fail
  go_quiet (fail)
  have HXW := Lib.hid (HX.out.dropS hk1 hc)
  have HYW := Lib.hid (HY.out.dropS hk2 hc')
  have HX1 := Lib.hid (HXW.out.grows hB hgr0)
  have HY1 := Lib.hid (HYW.out.grows hB' hgr0)
  clear HX HY
  generalize (if c = k then A else Option.map (fun x => x.add k) A) = A1 at HX1 HXW ⊢
  generalize (if c' = k then A' else Option.map (fun x => x.add k) A') = A1' at HY1 HYW ⊢
  obtain ⟨n1, hn1⟩ : ∃ n1, n1 = n - k := ⟨_, rfl⟩
  obtain ⟨m1, hm1⟩ : ∃ m1, m1 = m - k := ⟨_, rfl⟩
  rw [← hn1] at HX1 HXW ⊢
  rw [← hm1] at HY1 HYW ⊢
  obtain ⟨c1, hc1⟩ : ∃ c1, c1 = c - k := ⟨_, rfl⟩
  obtain ⟨c1', hc1'⟩ : ∃ c1', c1' = c' - k := ⟨_, rfl⟩
  rw [← hc1, ← hc1']
  have hnc1 : n1 ≤ c1 := by omega
  have hmc1 : m1 ≤ c1' := by omega
  have hn1M : n1 ≤ 1000000 := by omega
  have hm1M : m1 ≤ 1000000 := by omega
  have hc1M : c1 ≤ maxLen := by omega
  have hc1M' : c1' ≤ maxLen := by omega
  have hML1 : n1 ≤ maxLen := by omega
  have hML1' : m1 ≤ maxLen := by omega
  have hkS : k ≤ 1000000 := by omega
  clear hn1 hm1 hc1 hc1' k1 k2 k3 k4 k5 hc hc' hcM hcM' hML hML'
  have HL1 := Lib.hid HX1.out.strLen
  have HL1' := Lib.hid HY1.out.strLen
  have HTK := Lib.hid (show (xs.take k).length = k by rw [List.length_take, HLx.out]; omega)
  generalize xs.take k = xs0 at HLO HFI hown0 HTK
  generalize xs.drop k = xs1 at HX1 HXW HL1 HLO HFI
  generalize ys.drop k = ys1 at HY1 HYW HL1' HLO HFI
  have hgr2 : Grows w (w2.drewN nq) := hgr0.drewN nq
  have hown2 : (w2.drewN nq).ownsRow w.heap.size 138 2 v0 k (edCells (mono 1 xs0)) := hown0
  have HX2 := Lib.hid (HX1.out.drewN nq)
  have HY2 := Lib.hid (HY1.out.drewN nq)
  have hB2 : B ≤ (w2.drewN nq).heap.size := Nat.le_trans hB hgr0.size
  have hB2' : B' ≤ (w2.drewN nq).heap.size := Nat.le_trans hB' hgr0.size
  clear hgr0 hown0 HX1 HY1
  generalize w2.drewN nq = w3 at hgr2 hown2 HX2 HY2 hB2 hB2' ⊢
  cases hlong : decide (400 < n1 ∨ 400 < m1) with
  | true =>
    have hl := of_decide_eq_true hlong
    have HE := Lib.hid (HLO.out (by rw [HL1.out, HL1'.out]; exact hl))
    obtain ⟨A0, c0, rfl, hc0, hc0M⟩ := own_form hown2
    have HR0 := Lib.hid (Reads.of_own hown2)
    go_wp2_with fail
    all_goals
      refine (edits_any B A1 n1 c1 xs1 2 w3 HX2.out hB2 (by omega)).mono ?_
      rintro e w4 ⟨v1, rfl, hown4, hgr4⟩
      go_wp2_with fail
      have hs4 := hgr4.size
      refine (edits_any B' A1' m1 c1' ys1 3 w4 (HY2.out.grows hB2' hgr4) (Nat.le_trans hB2' hs4) (by omega)).mono ?_
      rintro e w5 ⟨v2, rfl, hown5, hgr5⟩
      have hs5 := hgr5.size
      have HR1 := Lib.hid (own_grows hown4 hgr5)
      have HR2 := Lib.hid hown5
      clear hown4 hown5
      obtain ⟨A2, c2, rfl, hc2, hc2M⟩ := own_form HR1.out
      obtain ⟨A3, c3, rfl, hc3, hc3M⟩ := own_form HR2.out
      have r0 := Lib.hid ((HR0.out.grows (Nat.le_refl _) (hgr4.trans hgr5)).more (Nat.le_trans hs4 hs5))
      have r1 := Lib.hid (Reads.of_own HR1.out)
      have r2 := Lib.hid (Reads.of_own HR2.out)
      go_wp2_with fail
      have hb : Blk (w5.alloc (.cells #[.slice A0 k c0, .slice A2 n1 c2, .slice A3 m1 c3] 135)) w5.heap.size 135 #[.slice A0 k c0, .slice A2 n1 c2, .slice A3 m1 c3] := Blk.new _ _ _
      refine (concat3_any w5.heap.size w5.heap.size 3 A0 A2 A3 k n1 m1 c0 c2 c3 _ _ _ _ (hb.cell 0) (hb.cell 1) (hb.cell 2) (r0.out.alloc (Nat.le_refl _) _) (r1.out.alloc (Nat.le_refl _) _) (r2.out.alloc (Nat.le_refl _) _) (by simp) (by simp) (by omega)).mono ?_
      rintro e w6 ⟨v, rfl, hown6, hgr6⟩
      go_wp2_with fail
      go_ret
      refine ⟨_, rfl, ?_, ?_⟩
      · have e1 : (mono 1 xs0 ++ mono 2 xs1 ++ mono 3 ys1).length = k + n1 + m1 := by simp only [List.length_append, mono_len, HTK.out, HL1.out, HL1'.out]
        rw [HE.out, e1]
        have hsz := hgr2.size
        exact own_mono hown6 (by simp only [World.size_alloc]; omega)
      · exact hgr2.trans (hgr4.trans (hgr5.trans (((Grows.refl _).alloc _).trans hgr6)))
  | false =>
    have hl := of_decide_eq_false hlong
    have HE := Lib.hid (HFI.out (by rw [HL1.out, HL1'.out]; exact hl))
    have hn4 : n1 ≤ 400 := by omega
    have hm4 : m1 ≤ 400 := by omega
    clear hlong hl HFI HLO
    go_wp2_with fail
    refine (made_any B B' A1 A1' n1 m1 c1 c1' xs1 ys1 w3 HX2.out HY2.out hB2 hB2' hn4 hm4).mono ?_
    rintro e w4 ⟨p, g, F, rfl, hblk, hrow, hF, hp, hg, hgr4⟩
    have HF := Lib.hid hF; clear hF
    have hS0 : (n1 + 1) * (m1 + 1) ≤ 401 * 401 := Nat.mul_le_mul (by omega) (by omega)
    obtain ⟨S, hS⟩ : ∃ S : Nat, S = (n1 + 1) * (m1 + 1) := ⟨_, rfl⟩
    obtain ⟨W, hW⟩ : ∃ W : Nat, W = m1 + 1 := ⟨_, rfl⟩
    rw [← hS] at hblk hrow hS0
    rw [← hW] at hblk HF
    have HW := Lib.hid hW
    have HS := Lib.hid hS
    clear hS hW
    have hown4 := own_grows hown2 hgr4
    have hgr5 := hgr2.trans hgr4
    clear hown2 hgr2 hgr4 HX2 HY2 hp hg
    go_wp2_with fail
    go_loopg [6, 8, 9] (n1 + m1) (fun gk s q q' wr => ∃ (i j : Nat) (l : List (Int × ByteArray)), q = .int .i64 i ∧ q' = .int .i64 j ∧ i ≤ n1 ∧ j ≤ m1 ∧ gk = (n1 - i) + (m1 - j) ∧ l ++ scrAt xs1 ys1 i j = script 400 xs ys ∧ wr.ownsRow w.heap.size 138 2 s l.length (edCells l) ∧ Blk wr p 187 #[.slice (some ⟨g, 0, none⟩) S S, .int .i64 (W : Int)] ∧ wr.rowIs g 21 S (fun i => .int .i32 (F i)) ∧ Grows w wr)
    case atStart =>
      refine ⟨0, 0, mono 1 xs0, rfl, rfl, by omega, by omega, by omega, HE.out.symm, ?_, hblk, hrow, hgr5⟩
      rw [mono_len, HTK.out]; exact hown4
    case round =>
      clear hown4 hblk hrow hgr5
      obtain ⟨i, j, l, rfl, rfl, hi, hj, hgk, hl, hown, hblk, hrow, hgr⟩ := hrel
      have HG := Lib.hid hgk; clear hgk
      have HL := Lib.hid hl; clear hl
      have hlen : l.length ≤ 2000000 := by
        have h1 := HSL.out
        rw [← HL.out, List.length_append, HLx.out, HLy.out] at h1
        omega
      have hsz := hgr.size
      by_cases hlt : i < n1 ∧ j < m1
      · obtain ⟨hi1, hj1⟩ := hlt
        obtain ⟨ad, rfl, had, hc⟩ := (HXW.out.grows hB hgr).str hi1
        obtain ⟨ad', rfl, had', hc'⟩ := (HYW.out.grows hB' hgr).str hj1
        have i0 : (0 : Int) ≤ i := by omega
        have i1 : (i : Int) < n1 := by omega
        have j0 : (0 : Int) ≤ j := by omega
        have j1 : (j : Int) < m1 := by omega
        have hi5 := Lib.hid (show i < xs1.length by rw [HL1.out]; exact hi1)
        have hj5 := Lib.hid (show j < ys1.length by rw [HL1'.out]; exact hj1)
        cases he : ((gs xs1 i).toList == (gs ys1 j).toList) with
        | true =>
          have HS1 := Lib.hid (scrAt_eq hi5.out hj5.out he)
          have HF1 := Lib.hid (show l ++ ([((1 : Int), gs xs1 i)] ++ scrAt xs1 ys1 (i + 1) (j + 1)) = script 400 xs ys by rw [← HL.out, HS1.out]; rfl)
          go_wp2
          go_quiet (fail)
          have hownq := own_drewN hown nq
          have hblkq := Blk.drewN hblk nq
          have hrowq := row_drewN hrow nq
          have hcq := cell_drewN hc nq
          have hcq' := cell_drewN hc' nq
          have hgrq := Grows.drewN hgr nq
          have hszq := size_drewN hsz nq
          clear hown hblk hrow hc hc' hgr hsz
          generalize wr.drewN nq = wq at hownq hblkq hrowq hcq hcq' hgrq hszq ⊢
          go_wp2_with (at_builtin; refine wpList_pushG rfl (.tmp 71) (.tmp 77) _ rfl (w.heap.size) 138 t1 _ 2 24 Tryd.underlying135 hj0 hy0 hy1 hy2 rfl (by decide) _ _ _ rfl ((hownq).alloc _) ⟨(wq).heap.size, 0, none⟩ 1 1 [.int .i64 (1), .string (gs xs1 i)] rfl rfl (cell_two_newE _ _ _ _) (by intro u hu; simp at hu; rcases hu with rfl | rfl <;> rfl) (by simp only [maxLen]; omega) (by omega) (by simp; omega) ?_; intro v' w1 hown1 hb1 hbg; have hgr1 : Grows w w1 := Below.trans (hgrq.alloc _) hb1; have hblk1 := Blk.beside hblkq hownq hbg (by decide); have hrow1 := row_beside hrowq hownq hbg (by decide))
          go_roundg ((n1 - (i + 1)) + (m1 - (j + 1)))
          case measure => rw [HG.out]; omega
          case rel => exact ⟨(i + 1), (j + 1), l ++ [(1, gs xs1 i)], by go_num, by go_num, by omega, by omega, rfl, by rw [List.append_assoc]; exact HF1.out, by rw [List.length_append, edCells_append, edCells_one]; exact hown1, hblk1, hrow1, hgr1⟩
        | false =>
          have hF1 := Lib.hid (show F ((i + 1) * W + j) = (lcsAt xs1 ys1 (i + 1) j : Nat) from HF.out _ _ (by omega) (by omega))
          have hF2 := Lib.hid (show F (i * W + (j + 1)) = (lcsAt xs1 ys1 i (j + 1) : Nat) from HF.out _ _ (by omega) (by omega))
          have T1 := Lib.hid (show (i + 1) * W + j < S by rw [HW.out, HS.out]; exact idx_lt (by omega) (by omega))
          have T2 := Lib.hid (show i * W + (j + 1) < S by rw [HW.out, HS.out]; exact idx_lt (by omega) (by omega))
          have HD := Lib.hid (fun h => scrAt_del hi5.out hj5.out he h)
          have HI := Lib.hid (fun h => scrAt_ins hi5.out hj5.out he h)
          obtain ⟨v1, hv1⟩ : ∃ v1 : Nat, v1 = lcsAt xs1 ys1 (i + 1) j := ⟨_, rfl⟩
          obtain ⟨v2, hv2⟩ : ∃ v2 : Nat, v2 = lcsAt xs1 ys1 i (j + 1) := ⟨_, rfl⟩
          rw [← hv1, ← hv2] at HD HI
          rw [← hv1] at hF1
          rw [← hv2] at hF2
          clear hv1 hv2
          go_wp2
          go_quiet (fail)
          have hownq := own_drewN hown nq
          have hblkq := Blk.drewN hblk nq
          have hrowq := row_drewN hrow nq
          have hcq := cell_drewN hc nq
          have hcq' := cell_drewN hc' nq
          have hgrq := Grows.drewN hgr nq
          have hszq := size_drewN hsz nq
          clear hown hblk hrow hc hc' hgr hsz
          generalize wr.drewN nq = wq at hownq hblkq hrowq hcq hcq' hgrq hszq ⊢
          go_wp2_with fail
          refine (at_int p g S W (i + 1) j _ _ F wq hblkq hrowq T1.out (by omega) (by omega) rfl _ hF1.out).mono ?_
          rintro e w5 ⟨rfl, d1, rfl⟩
          have howna := own_drewN hownq d1
          have hblka := Blk.drewN hblkq d1
          have hrowa := row_drewN hrowq d1
          have hca := cell_drewN hcq d1
          have hca' := cell_drewN hcq' d1
          have hgra := Grows.drewN hgrq d1
          have hsza := size_drewN hszq d1
          clear hownq hblkq hrowq hcq hcq' hgrq hszq
          generalize wq.drewN d1 = wa at howna hblka hrowa hca hca' hgra hsza ⊢
          go_wp2_with fail
          refine (at_int p g S W i (j + 1) _ _ F wa hblka hrowa T2.out (by omega) rfl (by omega) _ hF2.out).mono ?_
          rintro e w5 ⟨rfl, d2, rfl⟩
          have hownb := own_drewN howna d2
          have hblkb := Blk.drewN hblka d2
          have hrowb := row_drewN hrowa d2
          have hcb := cell_drewN hca d2
          have hcb' := cell_drewN hca' d2
          have hgrb := Grows.drewN hgra d2
          have hszb := size_drewN hsza d2
          clear howna hblka hrowa hca hca' hgra hsza
          generalize wa.drewN d2 = wb at hownb hblkb hrowb hcb hcb' hgrb hszb ⊢
          by_cases hle : v2 ≤ v1
          · have hle' : (v2 : Int) ≤ (v1 : Int) := by omega
            have HF3 := Lib.hid (show l ++ ([((2 : Int), gs xs1 i)] ++ scrAt xs1 ys1 (i + 1) j) = script 400 xs ys by rw [← HL.out, HD.out hle]; rfl)
            clear hle
            go_wp2_with (at_builtin; refine wpList_pushG rfl (.tmp 95) (.tmp 101) _ rfl (w.heap.size) 138 t1 _ 2 24 Tryd.underlying135 hj0 hy0 hy1 hy2 rfl (by decide) _ _ _ rfl ((hownb).alloc _) ⟨(wb).heap.size, 0, none⟩ 1 1 [.int .i64 (2), .string (gs xs1 i)] rfl rfl (cell_two_newE _ _ _ _) (by intro u hu; simp at hu; rcases hu with rfl | rfl <;> rfl) (by simp only [maxLen]; omega) (by omega) (by simp; omega) ?_; intro v' w1 hown1 hb1 hbg; have hgr1 : Grows w w1 := Below.trans (hgrb.alloc _) hb1; have hblk1 := Blk.beside hblkb hownb hbg (by decide); have hrow1 := row_beside hrowb hownb hbg (by decide))
            go_roundg ((n1 - (i + 1)) + (m1 - j))
            case measure => rw [HG.out]; omega
            case rel => exact ⟨(i + 1), j, l ++ [(2, gs xs1 i)], by go_num, by go_num, by omega, by omega, rfl, by rw [List.append_assoc]; exact HF3.out, by rw [List.length_append, edCells_append, edCells_one]; exact hown1, hblk1, hrow1, hgr1⟩
          · have hle' : ¬ ((v2 : Int) ≤ (v1 : Int)) := by omega
            have HF3 := Lib.hid (show l ++ ([((3 : Int), gs ys1 j)] ++ scrAt xs1 ys1 i (j + 1)) = script 400 xs ys by rw [← HL.out, HI.out hle]; rfl)
            clear hle
            go_wp2_with (at_builtin; refine wpList_pushG rfl (.tmp 51) (.tmp 57) _ rfl (w.heap.size) 138 t1 _ 2 24 Tryd.underlying135 hj0 hy0 hy1 hy2 rfl (by decide) _ _ _ rfl ((hownb).alloc _) ⟨(wb).heap.size, 0, none⟩ 1 1 [.int .i64 (3), .string (gs ys1 j)] rfl rfl (cell_two_newE _ _ _ _) (by intro u hu; simp at hu; rcases hu with rfl | rfl <;> rfl) (by simp only [maxLen]; omega) (by omega) (by simp; omega) ?_; intro v' w1 hown1 hb1 hbg; have hgr1 : Grows w w1 := Below.trans (hgrb.alloc _) hb1; have hblk1 := Blk.beside hblkb hownb hbg (by decide); have hrow1 := row_beside hrowb hownb hbg (by decide))
            go_roundg ((n1 - i) + (m1 - (j + 1)))
            case measure => rw [HG.out]; omega
            case rel => exact ⟨i, (j + 1), l ++ [(3, gs ys1 j)], by go_num, by go_num, by omega, by omega, rfl, by rw [List.append_assoc]; exact HF3.out, by rw [List.length_append, edCells_append, edCells_one]; exact hown1, hblk1, hrow1, hgr1⟩
      · have hend := Lib.hid (scrAt_end (xs := xs1) (ys := ys1) (i := i) (j := j) (by rw [HL1.out, HL1'.out]; omega))
        have HXI := Lib.hid ((HXW.out.grows hB hgr).dropS hi hnc1)
        have HYI := Lib.hid ((HYW.out.grows hB' hgr).dropS hj hmc1)
        obtain ⟨A0, c0, rfl, hc0, hc0M⟩ := own_form hown
        have hr0 := Lib.hid (Reads.of_own hown)
        have HHB := Lib.hid (Nat.le_trans hB hsz)
        have HHB' := Lib.hid (Nat.le_trans hB' hsz)
        have HGR := Lib.hid hgr
        have HS3 := Lib.hid (show l ++ mono 2 (xs1.drop i) ++ mono 3 (ys1.drop j) = script 400 xs ys by rw [← HL.out, hend.out, List.append_assoc])
        have HXL := Lib.hid (show (xs1.drop i).length = n1 - i by rw [List.length_drop, HL1.out])
        have HYL := Lib.hid (show (ys1.drop j).length = m1 - j by rw [List.length_drop, HL1'.out])
        clear hown hblk hrow hgr hsz HG HL HF
        have i0 : (0 : Int) ≤ i := by omega
        have i1 : (i : Int) ≤ n1 := by omega
        have i2 : (n1 : Int) ≤ c1 := by omega
        have j0 : (0 : Int) ≤ j := by omega
        have j1 : (j : Int) ≤ m1 := by omega
        have j2 : (m1 : Int) ≤ c1' := by omega
        have htest : ((i : Int) < n1 ∧ ¬ ((j : Int) < m1)) ∨ ¬ ((i : Int) < n1) := by omega
        clear hlt
        have HTE := Lib.hid htest
        clear htest
        have HDONE := Lib.hid (fun (v : Value) (a b : Nat) (wa wb wc : World) (o : Obj) (u : Value) (hu : u = v) (h1 : a = n1 - i) (h2 : b = m1 - j) (ga : Grows wr.drew wa) (gb : Grows wa wb) (gc : Grows (wb.alloc o) wc) (ho : wc.ownsRow (wb.alloc o).heap.size 138 2 v (l.length + a + b) (edCells (l ++ mono 2 (xs1.drop i) ++ mono 3 (ys1.drop j)))) => show ∃ v, Ending.returned u = .returned v ∧ wc.ownsRow w.heap.size 138 2 v (script 400 xs ys).length (edCells (script 400 xs ys)) ∧ Grows w wc from by
          subst hu h1 h2
          have e1 : (l ++ mono 2 (xs1.drop i) ++ mono 3 (ys1.drop j)).length = l.length + (n1 - i) + (m1 - j) := by simp only [List.length_append, mono_len, HXL.out, HYL.out]
          have gall : Grows w (wb.alloc o) := (HGR.out.drew.trans (ga.trans gb)).alloc _
          rw [HS3.out] at e1 ho
          exact ⟨u, rfl, by rw [e1]; exact own_mono ho gall.size, gall.trans gc⟩)
        by_cases hci : c1 = i
        ·
          subst hci
          have HXJ := HXI.out
          rw [if_pos rfl] at HXJ
          have e0HXJ : n1 - c1 = 0 := by omega
          rw [e0HXJ] at HXJ
          have HNX := Lib.hid e0HXJ.symm
          clear e0HXJ
          replace HXJ := Lib.hid HXJ
          clear HXI
          by_cases hcj : c1' = j
          ·
            subst hcj
            have HYJ := HYI.out
            rw [if_pos rfl] at HYJ
            have e0HYJ : m1 - c1' = 0 := by omega
            rw [e0HYJ] at HYJ
            have HNY := Lib.hid e0HYJ.symm
            clear e0HYJ
            replace HYJ := Lib.hid HYJ
            clear HYI
            rcases HTE.out with ⟨ht1, ht2⟩ | ht1
            · exact absurd ht1 (by omega)
            ·
              go_wp2_with fail
              go_region_with (first
                | (go_at_call_of 134 (Value.int .i64 2); refine (edits_any B _ _ _ (xs1.drop c1) 2 wr.drew HXJ.out.drew HHB.out (by omega)).mono ?_; rintro e wa ⟨va, rfl, howna, hgra⟩)
                | (go_at_call_of 134 (Value.int .i64 3); refine (edits_any B' _ _ _ (ys1.drop c1') 3 wa (HYJ.out.drew.grows HHB'.out hgra) (Nat.le_trans HHB'.out hgra.size) (by omega)).mono ?_; rintro e wb ⟨vb, rfl, hownb, hgrb⟩; have hownA := own_grows howna hgrb; obtain ⟨A2, c2, rfl, hc2, hc2M⟩ := own_form hownA; obtain ⟨A3, c3, rfl, hc3, hc3M⟩ := own_form hownb)
                | (go_at_call 135; have hb : Blk (wb.alloc (.cells #[.slice A0 l.length c0, .slice A2 0 c2, .slice A3 0 c3] 135)) wb.heap.size 135 #[.slice A0 l.length c0, .slice A2 0 c2, .slice A3 0 c3] := Blk.new _ _ _; refine (concat3_any wb.heap.size wb.heap.size 3 A0 A2 A3 l.length 0 0 c0 c2 c3 l (mono 2 (xs1.drop c1)) (mono 3 (ys1.drop c1')) (wb.alloc (.cells #[.slice A0 l.length c0, .slice A2 0 c2, .slice A3 0 c3] 135)) (hb.cell 0) (hb.cell 1) (hb.cell 2) (((hr0.out.drew.grows (Nat.le_refl _) (hgra.trans hgrb)).more (hgra.trans hgrb).size).alloc (Nat.le_refl _) _) ((Reads.of_own hownA).alloc (Nat.le_refl _) _) ((Reads.of_own hownb).alloc (Nat.le_refl _) _) (by simp) (by simp) (by omega)).mono ?_; rintro e wc ⟨v, rfl, hownc, hgrc⟩))
              go_wp2_with fail
              go_ret
              exact HDONE.out _ 0 0 wa wb wc _ _ rfl (by first | rfl | exact HNX.out) (by first | rfl | exact HNY.out) hgra hgrb hgrc hownc
          ·
            have HYJ := HYI.out
            rw [if_neg hcj] at HYJ
            replace HYJ := Lib.hid HYJ
            have HNY := Lib.hid (show m1 - j = m1 - j from rfl)
            clear HYI
            rcases HTE.out with ⟨ht1, ht2⟩ | ht1
            · exact absurd ht1 (by omega)
            ·
              go_wp2_with fail
              go_region_with (first
                | (go_at_call_of 134 (Value.int .i64 2); refine (edits_any B _ _ _ (xs1.drop c1) 2 wr.drew HXJ.out.drew HHB.out (by omega)).mono ?_; rintro e wa ⟨va, rfl, howna, hgra⟩)
                | (go_at_call_of 134 (Value.int .i64 3); refine (edits_any B' _ _ _ (ys1.drop j) 3 wa (HYJ.out.drew.grows HHB'.out hgra) (Nat.le_trans HHB'.out hgra.size) (by omega)).mono ?_; rintro e wb ⟨vb, rfl, hownb, hgrb⟩; have hownA := own_grows howna hgrb; obtain ⟨A2, c2, rfl, hc2, hc2M⟩ := own_form hownA; obtain ⟨A3, c3, rfl, hc3, hc3M⟩ := own_form hownb)
                | (go_at_call 135; have hb : Blk (wb.alloc (.cells #[.slice A0 l.length c0, .slice A2 0 c2, .slice A3 (m1 - j) c3] 135)) wb.heap.size 135 #[.slice A0 l.length c0, .slice A2 0 c2, .slice A3 (m1 - j) c3] := Blk.new _ _ _; refine (concat3_any wb.heap.size wb.heap.size 3 A0 A2 A3 l.length 0 (m1 - j) c0 c2 c3 l (mono 2 (xs1.drop c1)) (mono 3 (ys1.drop j)) (wb.alloc (.cells #[.slice A0 l.length c0, .slice A2 0 c2, .slice A3 (m1 - j) c3] 135)) (hb.cell 0) (hb.cell 1) (hb.cell 2) (((hr0.out.drew.grows (Nat.le_refl _) (hgra.trans hgrb)).more (hgra.trans hgrb).size).alloc (Nat.le_refl _) _) ((Reads.of_own hownA).alloc (Nat.le_refl _) _) ((Reads.of_own hownb).alloc (Nat.le_refl _) _) (by simp) (by simp) (by omega)).mono ?_; rintro e wc ⟨v, rfl, hownc, hgrc⟩))
              go_wp2_with fail
              go_ret
              exact HDONE.out _ 0 (m1 - j) wa wb wc _ _ rfl (by first | rfl | exact HNX.out) (by first | rfl | exact HNY.out) hgra hgrb hgrc hownc
        ·
          have HXJ := HXI.out
          rw [if_neg hci] at HXJ
          replace HXJ := Lib.hid HXJ
          have HNX := Lib.hid (show n1 - i = n1 - i from rfl)
          clear HXI
          by_cases hcj : c1' = j
          ·
            subst hcj
            have HYJ := HYI.out
            rw [if_pos rfl] at HYJ
            have e0HYJ : m1 - c1' = 0 := by omega
            rw [e0HYJ] at HYJ
            have HNY := Lib.hid e0HYJ.symm
            clear e0HYJ
            replace HYJ := Lib.hid HYJ
            clear HYI
            rcases HTE.out with ⟨ht1, ht2⟩ | ht1
            ·
              go_wp2_with fail
              go_region_with (first
                | (go_at_call_of 134 (Value.int .i64 2); refine (edits_any B _ _ _ (xs1.drop i) 2 wr.drew HXJ.out.drew HHB.out (by omega)).mono ?_; rintro e wa ⟨va, rfl, howna, hgra⟩)
                | (go_at_call_of 134 (Value.int .i64 3); refine (edits_any B' _ _ _ (ys1.drop c1') 3 wa (HYJ.out.drew.grows HHB'.out hgra) (Nat.le_trans HHB'.out hgra.size) (by omega)).mono ?_; rintro e wb ⟨vb, rfl, hownb, hgrb⟩; have hownA := own_grows howna hgrb; obtain ⟨A2, c2, rfl, hc2, hc2M⟩ := own_form hownA; obtain ⟨A3, c3, rfl, hc3, hc3M⟩ := own_form hownb)
                | (go_at_call 135; have hb : Blk (wb.alloc (.cells #[.slice A0 l.length c0, .slice A2 (n1 - i) c2, .slice A3 0 c3] 135)) wb.heap.size 135 #[.slice A0 l.length c0, .slice A2 (n1 - i) c2, .slice A3 0 c3] := Blk.new _ _ _; refine (concat3_any wb.heap.size wb.heap.size 3 A0 A2 A3 l.length (n1 - i) 0 c0 c2 c3 l (mono 2 (xs1.drop i)) (mono 3 (ys1.drop c1')) (wb.alloc (.cells #[.slice A0 l.length c0, .slice A2 (n1 - i) c2, .slice A3 0 c3] 135)) (hb.cell 0) (hb.cell 1) (hb.cell 2) (((hr0.out.drew.grows (Nat.le_refl _) (hgra.trans hgrb)).more (hgra.trans hgrb).size).alloc (Nat.le_refl _) _) ((Reads.of_own hownA).alloc (Nat.le_refl _) _) ((Reads.of_own hownb).alloc (Nat.le_refl _) _) (by simp) (by simp) (by omega)).mono ?_; rintro e wc ⟨v, rfl, hownc, hgrc⟩))
              go_wp2_with fail
              go_ret
              exact HDONE.out _ (n1 - i) 0 wa wb wc _ _ rfl (by first | rfl | exact HNX.out) (by first | rfl | exact HNY.out) hgra hgrb hgrc hownc
            ·
              go_wp2_with fail
              go_region_with (first
                | (go_at_call_of 134 (Value.int .i64 2); refine (edits_any B _ _ _ (xs1.drop i) 2 wr.drew HXJ.out.drew HHB.out (by omega)).mono ?_; rintro e wa ⟨va, rfl, howna, hgra⟩)
                | (go_at_call_of 134 (Value.int .i64 3); refine (edits_any B' _ _ _ (ys1.drop c1') 3 wa (HYJ.out.drew.grows HHB'.out hgra) (Nat.le_trans HHB'.out hgra.size) (by omega)).mono ?_; rintro e wb ⟨vb, rfl, hownb, hgrb⟩; have hownA := own_grows howna hgrb; obtain ⟨A2, c2, rfl, hc2, hc2M⟩ := own_form hownA; obtain ⟨A3, c3, rfl, hc3, hc3M⟩ := own_form hownb)
                | (go_at_call 135; have hb : Blk (wb.alloc (.cells #[.slice A0 l.length c0, .slice A2 (n1 - i) c2, .slice A3 0 c3] 135)) wb.heap.size 135 #[.slice A0 l.length c0, .slice A2 (n1 - i) c2, .slice A3 0 c3] := Blk.new _ _ _; refine (concat3_any wb.heap.size wb.heap.size 3 A0 A2 A3 l.length (n1 - i) 0 c0 c2 c3 l (mono 2 (xs1.drop i)) (mono 3 (ys1.drop c1')) (wb.alloc (.cells #[.slice A0 l.length c0, .slice A2 (n1 - i) c2, .slice A3 0 c3] 135)) (hb.cell 0) (hb.cell 1) (hb.cell 2) (((hr0.out.drew.grows (Nat.le_refl _) (hgra.trans hgrb)).more (hgra.trans hgrb).size).alloc (Nat.le_refl _) _) ((Reads.of_own hownA).alloc (Nat.le_refl _) _) ((Reads.of_own hownb).alloc (Nat.le_refl _) _) (by simp) (by simp) (by omega)).mono ?_; rintro e wc ⟨v, rfl, hownc, hgrc⟩))
              go_wp2_with fail
              go_ret
              exact HDONE.out _ (n1 - i) 0 wa wb wc _ _ rfl (by first | rfl | exact HNX.out) (by first | rfl | exact HNY.out) hgra hgrb hgrc hownc
          ·
            have HYJ := HYI.out
            rw [if_neg hcj] at HYJ
            replace HYJ := Lib.hid HYJ
            have HNY := Lib.hid (show m1 - j = m1 - j from rfl)
            clear HYI
            rcases HTE.out with ⟨ht1, ht2⟩ | ht1
            ·
              go_wp2_with fail
              go_region_with (first
                | (go_at_call_of 134 (Value.int .i64 2); refine (edits_any B _ _ _ (xs1.drop i) 2 wr.drew HXJ.out.drew HHB.out (by omega)).mono ?_; rintro e wa ⟨va, rfl, howna, hgra⟩)
                | (go_at_call_of 134 (Value.int .i64 3); refine (edits_any B' _ _ _ (ys1.drop j) 3 wa (HYJ.out.drew.grows HHB'.out hgra) (Nat.le_trans HHB'.out hgra.size) (by omega)).mono ?_; rintro e wb ⟨vb, rfl, hownb, hgrb⟩; have hownA := own_grows howna hgrb; obtain ⟨A2, c2, rfl, hc2, hc2M⟩ := own_form hownA; obtain ⟨A3, c3, rfl, hc3, hc3M⟩ := own_form hownb)
                | (go_at_call 135; have hb : Blk (wb.alloc (.cells #[.slice A0 l.length c0, .slice A2 (n1 - i) c2, .slice A3 (m1 - j) c3] 135)) wb.heap.size 135 #[.slice A0 l.length c0, .slice A2 (n1 - i) c2, .slice A3 (m1 - j) c3] := Blk.new _ _ _; refine (concat3_any wb.heap.size wb.heap.size 3 A0 A2 A3 l.length (n1 - i) (m1 - j) c0 c2 c3 l (mono 2 (xs1.drop i)) (mono 3 (ys1.drop j)) (wb.alloc (.cells #[.slice A0 l.length c0, .slice A2 (n1 - i) c2, .slice A3 (m1 - j) c3] 135)) (hb.cell 0) (hb.cell 1) (hb.cell 2) (((hr0.out.drew.grows (Nat.le_refl _) (hgra.trans hgrb)).more (hgra.trans hgrb).size).alloc (Nat.le_refl _) _) ((Reads.of_own hownA).alloc (Nat.le_refl _) _) ((Reads.of_own hownb).alloc (Nat.le_refl _) _) (by simp) (by simp) (by omega)).mono ?_; rintro e wc ⟨v, rfl, hownc, hgrc⟩))
              go_wp2_with fail
              go_ret
              exact HDONE.out _ (n1 - i) (m1 - j) wa wb wc _ _ rfl (by first | rfl | exact HNX.out) (by first | rfl | exact HNY.out) hgra hgrb hgrc hownc
            ·
              go_wp2_with fail
              go_region_with (first
                | (go_at_call_of 134 (Value.int .i64 2); refine (edits_any B _ _ _ (xs1.drop i) 2 wr.drew HXJ.out.drew HHB.out (by omega)).mono ?_; rintro e wa ⟨va, rfl, howna, hgra⟩)
                | (go_at_call_of 134 (Value.int .i64 3); refine (edits_any B' _ _ _ (ys1.drop j) 3 wa (HYJ.out.drew.grows HHB'.out hgra) (Nat.le_trans HHB'.out hgra.size) (by omega)).mono ?_; rintro e wb ⟨vb, rfl, hownb, hgrb⟩; have hownA := own_grows howna hgrb; obtain ⟨A2, c2, rfl, hc2, hc2M⟩ := own_form hownA; obtain ⟨A3, c3, rfl, hc3, hc3M⟩ := own_form hownb)
                | (go_at_call 135; have hb : Blk (wb.alloc (.cells #[.slice A0 l.length c0, .slice A2 (n1 - i) c2, .slice A3 (m1 - j) c3] 135)) wb.heap.size 135 #[.slice A0 l.length c0, .slice A2 (n1 - i) c2, .slice A3 (m1 - j) c3] := Blk.new _ _ _; refine (concat3_any wb.heap.size wb.heap.size 3 A0 A2 A3 l.length (n1 - i) (m1 - j) c0 c2 c3 l (mono 2 (xs1.drop i)) (mono 3 (ys1.drop j)) (wb.alloc (.cells #[.slice A0 l.length c0, .slice A2 (n1 - i) c2, .slice A3 (m1 - j) c3] 135)) (hb.cell 0) (hb.cell 1) (hb.cell 2) (((hr0.out.drew.grows (Nat.le_refl _) (hgra.trans hgrb)).more (hgra.trans hgrb).size).alloc (Nat.le_refl _) _) ((Reads.of_own hownA).alloc (Nat.le_refl _) _) ((Reads.of_own hownb).alloc (Nat.le_refl _) _) (by simp) (by simp) (by omega)).mono ?_; rintro e wc ⟨v, rfl, hownc, hgrc⟩))
              go_wp2_with fail
              go_ret
              exact HDONE.out _ (n1 - i) (m1 - j) wa wb wc _ _ rfl (by first | rfl | exact HNX.out) (by first | rfl | exact HNY.out) hgra hgrb hgrc hownc

end Go.Proofs.YtakgddochbcjbaaDoor
