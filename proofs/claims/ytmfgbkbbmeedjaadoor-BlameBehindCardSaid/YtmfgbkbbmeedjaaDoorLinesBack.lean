/- LinesBack: the walk. -/
import Derived.Test.YtmfgbkbbmeedjaaDoorLinesAwake
namespace Go.Proofs.YtmfgbkbbmeedjaaDoor
open Go.RowKit Go.Deep Go.MapKept

theorem flat_lines (s : ByteArray) : (bl (linesT s)).flatten.length = s.size := by rw [bl_lines, lnL_join]; exact Array.length_toList
theorem gs_flat {l : List ByteArray} {i : Nat} (h : i < l.length) : (gs l i).size ≤ (bl l).flatten.length := by
  have h1 : (gs l i).data.toList ∈ bl l := by
    rw [bl, List.mem_map]
    refine ⟨gs l i, ?_, rfl⟩
    rw [gs_def, List.getD_eq_getElem?_getD, List.getElem?_eq_getElem h]
    exact List.getElem_mem h
  have h2 := (List.sublist_flatten_of_mem h1).length_le
  rwa [show (gs l i).data.toList.length = (gs l i).size from Array.length_toList] at h2
theorem lines_len (s : ByteArray) : (linesT s).length ≤ s.size + 1 := by
  rw [linesT, List.length_map, lnL]
  refine Nat.le_trans (List.Sublist.length_le (l₂ := sp 10 1 s.data.toList) ?_) ?_
  · unfold dropE; split
    · exact List.dropLast_sublist _
    · exact List.Sublist.refl _
  · rw [sp_len]
    have := count_size 10 s
    omega
def nl : ByteArray := { data := #[10] }
theorem lines_app (s t : ByteArray) : linesT (s ++ nl ++ t) = linesT (s ++ nl) ++ linesT t := by
  have h1 : (s ++ nl ++ t).data.toList = s.data.toList ++ 10 :: t.data.toList := by
    rw [ByteArray.data_append, ByteArray.data_append, Array.toList_append, Array.toList_append, List.append_assoc]; rfl
  have h2 : (s ++ nl).data.toList = s.data.toList ++ [10] := by
    rw [ByteArray.data_append, Array.toList_append]; rfl
  rw [linesT, linesT, linesT, h1, h2, lnL_app, List.map_append]

set_option maxRecDepth 100000 in
set_option maxHeartbeats 2000000 in
theorem lback_any (s t : ByteArray) (w : World) (hm : MaxL w) : Calls Tryd.prog 9 #[.string s, .string t] w fun e w' => e = .returned (.bool true) ∧ Grows w w' := by
  by_cases ha : 3000 < s.size
  · have k1 : (s.size : Int) > 3000 := by omega
    go_enter Tryd.func9, Tryd.ntmps9
    go_wp2_with fail
    refine (lawake_any w hm).mono ?_
    rintro e w1 ⟨rfl, hg⟩
    go_wp2_with fail
    go_ret
    exact ⟨rfl, hg⟩
  have k1 : ¬ ((s.size : Int) > 3000) := by omega
  by_cases hb : 3000 < t.size
  · have k2 : (t.size : Int) > 3000 := by omega
    go_enter Tryd.func9, Tryd.ntmps9
    go_wp2_with fail
    refine (lawake_any w hm).mono ?_
    rintro e w1 ⟨rfl, hg⟩
    go_wp2_with fail
    go_ret
    exact ⟨rfl, hg⟩
  have k2 : ¬ ((t.size : Int) > 3000) := by omega
  have hnl : nl.size = 1 := rfl
  obtain ⟨bt, hbt⟩ : ∃ bt, s ++ nl ++ t = bt := ⟨_, rfl⟩
  obtain ⟨sn, hsn⟩ : ∃ sn, s ++ nl = sn := ⟨_, rfl⟩
  have zbt : bt.size ≤ 6001 := by rw [← hbt, ByteArray.size_append, ByteArray.size_append]; omega
  have zsn : sn.size ≤ 3001 := by rw [← hsn, ByteArray.size_append]; omega
  have hlen := Lib.hid (show (linesT bt).length = (linesT sn).length + (linesT t).length by rw [← hbt, lines_app, List.length_append, hsn])
  have hflS := Lib.hid (flat_lines s)
  have hflB := Lib.hid (flat_lines bt)
  have hnS := Lib.hid (lines_len s)
  have hnB := Lib.hid (lines_len bt)
  have hnT := Lib.hid (lines_len t)
  have hnN := Lib.hid (lines_len sn)
  have hjS := Lib.hid (join_lines s)
  have hjB := Lib.hid (join_lines bt)
  have hgS := Lib.hid (good_lines s)
  have HSN := Lib.hid hsn
  have HBT := Lib.hid hbt
  go_enter Tryd.func9, Tryd.ntmps9
  go_wp2_with fail
  refine (split_any s w hm (by omega)).mono ?_
  rintro e w1 ⟨v, rfl, g1, c1, rfl, hc1, _, hr1, hg1⟩
  have hm1 := hm.grows hg1
  have HR1 := Lib.hid hr1
  have HG1 := Lib.hid hg1
  have hc1' := Lib.hid hc1
  clear hr1 hg1 hm hc1
  obtain ⟨ls, hls⟩ : ∃ ls, linesT s = ls := ⟨_, rfl⟩
  rw [hls] at HR1 hc1' hnS hflS hjS hgS
  have HLS := Lib.hid hls
  go_wp2_with fail
  rw [show (s ++ { data := #[10] } ++ t : ByteArray) = bt from hbt]
  try rw [hls]
  clear hls hbt hsn
  refine (split_any bt w1 hm1 (by omega)).mono ?_
  rintro e w2 ⟨v, rfl, g2, c2, rfl, hc2, _, hr2, hg2⟩
  have hm2 := hm1.grows hg2
  have HR2 := Lib.hid hr2
  have HR1' := Lib.hid (HR1.out.grows (Nat.le_refl _) hg2)
  have HG2 := Lib.hid (HG1.out.trans hg2)
  have hc2' := Lib.hid hc2
  have hsz2 := Lib.hid hg2.size
  clear hr2 hg2 hm1 hc2 HG1 HR1
  obtain ⟨lb, hlb⟩ : ∃ lb, linesT bt = lb := ⟨_, rfl⟩
  rw [hlb] at HR2 hc2' hnB hflB hjB hlen
  try rw [hlb]
  have HLB := Lib.hid hlb
  clear hlb
  go_wp2_with fail
  refine (lawake_any w2 hm2).mono ?_
  rintro e w3 ⟨rfl, hg3⟩
  have hm3 := hm2.grows hg3
  have HR1 := Lib.hid (HR1'.out.grows hsz2.out hg3)
  have HR3 := Lib.hid (HR2.out.grows (Nat.le_refl _) hg3)
  have HG3 := Lib.hid (HG2.out.trans hg3)
  have hsz3 := Lib.hid (Nat.le_trans hsz2.out hg3.size)
  have hsz4 := Lib.hid hg3.size
  clear HG2 HR2 HR1' hm2 hg3 hsz2
  go_wp2_with fail
  refine (join_any _ _ ls.length c1 ls w3 (by rintro ad ⟨⟩; rfl) HR1.out hsz3.out (by have := hnS.out; omega) hc1'.out (by rw [hflS.out]; omega)).mono ?_
  rw [hjS.out]
  rintro e w4 ⟨rfl, hg4⟩
  have hm4 := hm3.grows hg4
  have HR1' := Lib.hid (HR1.out.grows hsz3.out hg4)
  have HR3' := Lib.hid (HR3.out.grows hsz4.out hg4)
  have HG4 := Lib.hid (HG3.out.trans hg4)
  have hsz3' := Lib.hid (Nat.le_trans hsz3.out hg4.size)
  have hsz4' := Lib.hid (Nat.le_trans hsz4.out hg4.size)
  clear HG3 HR1 HR3 hm3 hg4 hsz3 hsz4
  go_wp2_with fail
  refine (whole_any _ _ ls.length c1 ls w4 HR1'.out (by have := hnS.out; omega) (fun i hi => by have := gs_flat hi; rw [hflS.out] at this; omega)).mono ?_
  rw [hgS.out]
  rintro e w' ⟨rfl, rfl⟩
  go_wp2_with fail
  refine (join_any _ _ ls.length c1 ls w4 (by rintro ad ⟨⟩; rfl) HR1'.out hsz3'.out (by have := hnS.out; omega) hc1'.out (by rw [hflS.out]; omega)).mono ?_
  rw [hjS.out]
  rintro e w5 ⟨rfl, hg5⟩
  have hm5 := hm4.grows hg5
  have HR1 := Lib.hid (HR1'.out.grows hsz3'.out hg5)
  have HR3 := Lib.hid (HR3'.out.grows hsz4'.out hg5)
  have HG5 := Lib.hid (HG4.out.trans hg5)
  have hsz3 := Lib.hid (Nat.le_trans hsz3'.out hg5.size)
  have hsz4 := Lib.hid (Nat.le_trans hsz4'.out hg5.size)
  clear HG4 HR1' HR3' hm4 hg5 hsz3' hsz4'
  go_wp2_with fail
  refine (split_any s w5 hm5 (by omega)).mono ?_
  rw [HLS.out]
  rintro e w6 ⟨v, rfl, g6, c6, rfl, _, _, hr6, hg6⟩
  have hm6 := hm5.grows hg6
  have HR6 := Lib.hid hr6
  have HR1' := Lib.hid (HR1.out.grows hsz3.out hg6)
  have HR3' := Lib.hid (HR3.out.grows hsz4.out hg6)
  have HG6 := Lib.hid (HG5.out.trans hg6)
  have hsz3' := Lib.hid (Nat.le_trans hsz3.out hg6.size)
  have hsz4' := Lib.hid (Nat.le_trans hsz4.out hg6.size)
  clear HG5 HR1 HR3 hm5 hg6 hr6 hsz3 hsz4
  go_wp2_with fail
  refine (plainS_yes' _ _ _ _ _ _ _ _ _ _ _ rfl HR6.out HR1'.out (by have := hnS.out; omega)).mono ?_
  rintro e w7 ⟨rfl, d, rfl⟩
  obtain ⟨w7, hw7⟩ : ∃ w7, w6.drewN d = w7 := ⟨_, rfl⟩
  have hm7 : MaxL w7 := by rw [← hw7]; exact hm6.drewN d
  have HR3 := Lib.hid (show Reads w7 w2.heap.size 1 (some { block := g2, off := 0 }) lb.length (strs lb) by rw [← hw7]; exact HR3'.out.drewN d)
  have HG7 := Lib.hid (show Grows w w7 by rw [← hw7]; exact HG6.out.drewN d)
  have hsz4 := Lib.hid (show w2.heap.size ≤ w7.heap.size by rw [← hw7]; exact hsz4'.out)
  rw [hw7]
  clear hw7 HG6 HR6 HR1' HR3' hm6 hsz3' hsz4'
  go_wp2_with fail
  refine (join_any _ _ lb.length c2 lb w7 (by rintro ad ⟨⟩; rfl) HR3.out hsz4.out (by have := hnB.out; omega) hc2'.out (by rw [hflB.out]; omega)).mono ?_
  rw [hjB.out]
  rintro e w8 ⟨rfl, hg8⟩
  have hm8 := hm7.grows hg8
  have HG8 := Lib.hid (HG7.out.trans hg8)
  clear HG7 HR3 hm7 hg8 hsz4
  have hbb : (bt.toList == (s ++ { data := #[10] } ++ t : ByteArray).toList) = true := by
    rw [beq_iff_eq, show (s ++ { data := #[10] } ++ t : ByteArray) = bt from HBT.out]
  go_wp2_with fail
  rw [show (s ++ { data := #[10] } : ByteArray) = sn from HSN.out]
  clear hbb
  refine (split_any sn w8 hm8 (by omega)).mono ?_
  rintro e w9 ⟨v, rfl, g9, c9, rfl, _, _, hr9, hg9⟩
  have hm9 := hm8.grows hg9
  have HG9 := Lib.hid (HG8.out.trans hg9)
  clear HG8 hm8 hg9 hr9
  have hn1 := hnN.out
  obtain ⟨n1, e1⟩ : ∃ n1, (linesT sn).length = n1 := ⟨_, rfl⟩
  rw [e1] at hn1 hlen ⊢
  clear e1 hnN
  go_wp2_with fail
  refine (split_any t w9 hm9 (by omega)).mono ?_
  rintro e w10 ⟨v, rfl, g10, c10, rfl, _, _, hr10, hg10⟩
  have HG10 := Lib.hid (HG9.out.trans hg10)
  clear HG9 hm9 hg10 hr10
  have hn2 := hnT.out
  obtain ⟨n2, e2⟩ : ∃ n2, (linesT t).length = n2 := ⟨_, rfl⟩
  rw [e2] at hn2 hlen ⊢
  clear e2 hnT
  obtain ⟨n0, e0⟩ : ∃ n0, lb.length = n0 := ⟨_, rfl⟩
  have hl0 := hlen.out
  rw [e0] at hl0 ⊢
  clear e0 hlen
  have h12 : (n0 : Int) = (n1 : Int) + n2 := by omega
  have hb12 : ((n0 : Int) == (n1 : Int) + n2) = true := by rw [beq_iff_eq]; exact h12
  clear h12
  go_wp2_with fail
  go_ret
  exact ⟨ret_bool (by first | rfl | exact hb12), HG10.out⟩
end Go.Proofs.YtmfgbkbbmeedjaaDoor
