/- similar's best, walked: the pair that is most alike. -/
import Derived.Test.YtakgddochbcjbaaDoorSimSameW
namespace Go.Proofs.YtakgddochbcjbaaDoor
open Go.RowKit Go.Deep Go.MapKept Go.Shelf

def stepJ (f : Int × Int → Option Int) (i : Int) (b : (Int × Int) × Int) (j : Int) : (Int × Int) × Int := if b.2 < (f (i, j)).getD 0 then ((i, j), (f (i, j)).getD 0) else b
def rowTo (f : Int × Int → Option Int) (i : Int) (T : List Int) (b : (Int × Int) × Int) : Nat → (Int × Int) × Int
  | 0 => b
  | k + 1 => stepJ f i (rowTo f i T b k) (gi T k)
def bestTo (f : Int × Int → Option Int) (F T : List Int) : Nat → (Int × Int) × Int
  | 0 => ((0, 0), 49)
  | k + 1 => rowTo f (gi F k) T (bestTo f F T k) T.length
def bestOf (f : Int × Int → Option Int) (F T : List Int) : (Int × Int) × Int := bestTo f F T F.length

theorem set_two {w w0 : World} {g : Nat} {t : TypeId} {a0 a1 : Value} (hb : Blk w g t #[a0, a1]) (hg : Grows w0 w) (hge : w0.heap.size ≤ g) (u0 u1 : Value) :
    Blk ((w.setCell ⟨g, 0, none⟩ u0).setCell ⟨g, 1, none⟩ u1) g t #[u0, u1] ∧ Grows w0 ((w.setCell ⟨g, 0, none⟩ u0).setCell ⟨g, 1, none⟩ u1) := by
  obtain ⟨a, b⟩ := set_one (i := 0) hb hg hge u0
  obtain ⟨a', b'⟩ := set_one (i := 1) a b hge u1
  exact ⟨a', b'⟩
set_option maxRecDepth 100000 in
set_option maxHeartbeats 2000000 in
theorem best_any (w0 w : World) (ps mb : Nat) (va vb vf vt vo : Value) (F T : List Int) (O : List (Int × Int)) (f : Int × Int → Option Int) (q : Nat) (h : St w0 w ps mb va vb vf vt vo F T O f q) (hF : ∀ x ∈ F, ok64 x) (hT : ∀ x ∈ T, ok64 x) (hFl : F.length ≤ 1000) (hTl : T.length ≤ 1000) :
    Calls Tryd.prog 101 #[.pointer (some ⟨ps, 0, none⟩)] w fun e w' => e = .returned (.tuple #[.agg #[.int .i64 (bestOf f F T).1.1, .int .i64 (bestOf f F T).1.2], .bool (decide (50 ≤ (bestOf f F T).2))]) ∧ Grows w w' := by
  obtain ⟨br, hbr⟩ : ∃ br, br = w.heap.size := ⟨_, rfl⟩
  obtain ⟨bb, hbb⟩ : ∃ bb, bb = w.heap.size + 1 := ⟨_, rfl⟩
  obtain ⟨w1, hw1⟩ : ∃ w1, w1 = (w.alloc (.cells #[.int .i64 0, .int .i64 0] 103)).alloc (.cells #[.int .i64 0, .int .i64 0] 103) := ⟨_, rfl⟩
  have hg1 : Grows w w1 := by rw [hw1]; exact ((Grows.refl w).alloc _).alloc _
  have hR1 : Blk w1 br 103 #[.int .i64 0, .int .i64 0] := by rw [hw1, hbr]; exact (Blk.new _ _ _).alloc _
  have hB1 : Blk w1 bb 103 #[.int .i64 0, .int .i64 0] := by
    have := Blk.new (w.alloc (.cells #[.int .i64 0, .int .i64 0] 103)) 103 #[.int .i64 0, .int .i64 0]
    rw [hw1, hbb]
    simpa using this
  have hge1 : w.heap.size ≤ br := by omega
  have hge2 : w.heap.size ≤ bb := by omega
  have hnb : br ≠ bb := by omega
  have HW1 := Lib.hid hw1
  have HBR := Lib.hid hbr
  have HBB := Lib.hid hbb
  have hpL := ((h.blk.alloc (.cells #[.int .i64 0, .int .i64 0] 103)).alloc (.cells #[.int .i64 0, .int .i64 0] 103)).cell 2
  obtain ⟨AF, cF, rfl, _, _⟩ := own_form h.oF
  obtain ⟨AT, cT, rfl, _, _⟩ := own_form h.oT
  simp only [List.getElem?_toArray, List.getElem?_cons_succ, List.getElem?_cons_zero] at hpL
  have HS := Lib.hid h
  clear hw1 hbr hbb h
  go_enter Tryd.func101, Tryd.ntmps101
  go_wp2_with fail
  rw [← HW1.out, ← HBB.out, ← HBR.out]
  clear HW1 HBB HBR hpL
  go_loopg [17, 5] F.length (fun gk q' mv wr => ∃ k : Nat, q' = .int .i64 k ∧ k ≤ F.length ∧ gk = F.length - k ∧ ∃ b, b = bestTo f F T k ∧ mv = .int .i64 b.2 ∧ Grows w wr ∧ Blk wr bb 103 #[.int .i64 b.1.1, .int .i64 b.1.2] ∧ Blk wr br 103 #[.int .i64 0, .int .i64 0])
  case atStart => exact ⟨0, rfl, by omega, rfl, _, rfl, rfl, hg1, hB1, hR1⟩
  case round =>
    obtain ⟨k, rfl, hk, hgk, b0, hb0, rfl, hgr, hbB, hbR⟩ := hrel
    have HG := Lib.hid hgk
    have HB0 := Lib.hid hb0
    clear hgk hb0 hg1 hB1 hR1
    by_cases hlt : k < F.length
    · have hst := HS.out.grows hgr
      obtain ⟨gF, cF', e, _, _⟩ := hst.oF.form (by omega)
      cases e
      have hcf := own_cell hst.oF hlt
      have hiF := hF _ (gi_mem hlt)
      have HNX := Lib.hid (show bestTo f F T (k + 1) = rowTo f (gi F k) T b0 T.length by rw [bestTo, HB0.out])
      generalize gi F k = i at hcf hiF HNX
      have hp3 := hst.blk.cell 3
      simp only [List.getElem?_toArray, List.getElem?_cons_succ, List.getElem?_cons_zero] at hp3
      have k0 : (0 : Int) ≤ k := by omega
      have k1 : (k : Int) < F.length := by omega
      clear hst
      go_wp2_with fail
      clear hcf hp3
      go_loopg [26, 5] T.length (fun gj q' mv wx => ∃ j : Nat, q' = .int .i64 j ∧ j ≤ T.length ∧ gj = T.length - j ∧ ∃ b, b = rowTo f i T b0 j ∧ mv = .int .i64 b.2 ∧ Grows w wx ∧ Blk wx bb 103 #[.int .i64 b.1.1, .int .i64 b.1.2] ∧ Blk wx br 103 #[.int .i64 0, .int .i64 0])
      case atStart => exact ⟨0, rfl, by omega, rfl, _, rfl, rfl, hgr, hbB, hbR⟩
      case round =>
        obtain ⟨j, rfl, hj, hgj, b, hb, rfl, hgx, hxB, hxR⟩ := hrel
        have HJ := Lib.hid hgj
        have HB := Lib.hid hb
        clear hgj hb hgr hbB hbR
        by_cases hjl : j < T.length
        · have hst := HS.out.grows hgx
          obtain ⟨gT, cT', e, _, _⟩ := hst.oT.form (by omega)
          cases e
          have hct := own_cell hst.oT hjl
          have hjT := hT _ (gi_mem hjl)
          have HNJ := Lib.hid (show rowTo f i T b0 (j + 1) = stepJ f i b (gi T j) by rw [rowTo, HB.out])
          generalize gi T j = x at hct hjT HNJ
          have hp4 := hst.blk.cell 4
          simp only [List.getElem?_toArray, List.getElem?_cons_succ, List.getElem?_cons_zero] at hp4
          have hmap := hst.map
          have j0 : (0 : Int) ≤ j := by omega
          have j1 : (j : Int) < T.length := by omega
          clear hst
          obtain ⟨v, hv⟩ : ∃ v, (f (i, x)).getD 0 = v := ⟨_, rfl⟩
          by_cases hgt : b.2 < v
          · have HN2 := Lib.hid (show rowTo f i T b0 (j + 1) = ((i, x), v) by rw [HNJ.out, stepJ, hv, if_pos hgt])
            have HV := Lib.hid hv
            clear hv
            have hf0 := hxB.frozen 0
            have hf1 := hxB.frozen 1
            have hc0 := hxB.cell 0
            have hc1 := hxB.cell 1
            simp only [List.getElem?_toArray, List.getElem?_cons_succ, List.getElem?_cons_zero] at hc0 hc1
            go_wp2_with (at_lookup; refine wpList_lookR rfl _ _ rfl mb q f rfl hmap i x rfl hiF hjT v HV.out ?_)
            obtain ⟨p1, p2⟩ := set_two hxB hgx hge2 (.int .i64 i) (.int .i64 x)
            have p3 := (hxR.far (p := ⟨bb, 0, none⟩) hnb (.int .i64 i)).far (p := ⟨bb, 1, none⟩) hnb (.int .i64 x)
            go_roundg (T.length - (j + 1))
            case measure => rw [HJ.out]; omega
            case rel => exact ⟨j + 1, by go_num, by omega, rfl, _, rfl, by rw [HN2.out], p2, by rw [HN2.out]; exact p1, p3⟩
          · have HN2 := Lib.hid (show rowTo f i T b0 (j + 1) = b by rw [HNJ.out, stepJ, hv, if_neg hgt])
            have HV := Lib.hid hv
            clear hv
            go_wp2_with (at_lookup; refine wpList_lookR rfl _ _ rfl mb q f rfl hmap i x rfl hiF hjT v HV.out ?_)
            go_roundg (T.length - (j + 1))
            case measure => rw [HJ.out]; omega
            case rel => exact ⟨j + 1, by go_num, by omega, rfl, _, rfl, by rw [HN2.out], hgx, by rw [HN2.out]; exact hxB, hxR⟩
        · have hjn : j = T.length := by omega
          have j1 : ¬ ((j : Int) < T.length) := by omega
          have HN3 := Lib.hid (show bestTo f F T (k + 1) = b by rw [HNX.out, HB.out, hjn])
          clear hjn
          go_wp2_with fail
          go_roundg (F.length - (k + 1))
          case measure => rw [HG.out]; omega
          case rel => exact ⟨k + 1, by go_num, by omega, rfl, _, rfl, by rw [HN3.out], hgx, by rw [HN3.out]; exact hxB, hxR⟩
    · have hkn : k = F.length := by omega
      have k1 : ¬ ((k : Int) < F.length) := by omega
      have HE := Lib.hid (show bestOf f F T = b0 by rw [bestOf, HB0.out, hkn])
      clear hkn
      have hc0 := hbB.cell 0
      have hc1 := hbB.cell 1
      have hd0 := hbR.cell 0
      have hd1 := hbR.cell 1
      have hf0 := hbR.frozen 0
      have hf1 := hbR.frozen 1
      simp only [List.getElem?_toArray, List.getElem?_cons_succ, List.getElem?_cons_zero] at hc0 hc1 hd0 hd1
      go_wp2_with fail
      obtain ⟨p1, p2⟩ := set_two hbR hgr hge1 (.int .i64 b0.1.1) (.int .i64 b0.1.2)
      clear hc0 hc1 hd0 hd1 hf0 hf1 hbB hbR
      generalize (wr.setCell ⟨br, 0, none⟩ (.int .i64 b0.1.1)).setCell ⟨br, 1, none⟩ (.int .i64 b0.1.2) = wf at p1 p2 ⊢
      have z0 := p1.cell 0
      have z1 := p1.cell 1
      simp only [List.getElem?_toArray, List.getElem?_cons_succ, List.getElem?_cons_zero] at z0 z1
      (try simp only [Exit.inBlock, Exit.then])
      refine bodyPost_ret (v := .tuple #[.agg #[.int .i64 b0.1.1, .int .i64 b0.1.2], .bool (decide (50 ≤ b0.2))]) ?_ rfl ⟨by rw [HE.out], p2⟩
      rw [results_cell_tmp rfl]
      go_simp
end Go.Proofs.YtakgddochbcjbaaDoor
