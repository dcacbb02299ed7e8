/- Lines: how long they are. Three texts in one: Merge, where nothing clashes. -/
import Derived.Test.YtakgddochbcjbaaDoorPkPath
import Derived.Test.YtakgddochbcjbaaDoorPkChunkV
namespace Go.Proofs.YtakgddochbcjbaaDoor
open Go.RowKit Go.Deep Go.MapKept

theorem flat_lines (s : ByteArray) : (bl (linesT s)).flatten.length = s.size := by rw [bl_lines, lnL_join]; exact Array.length_toList
theorem gs_flat {l : List ByteArray} {i : Nat} (h : i < l.length) : (gs l i).size ≤ (bl l).flatten.length := by
  have h1 : (gs l i).data.toList ∈ bl l := by
    rw [bl, List.mem_map]
    refine ⟨gs l i, ?_, rfl⟩
    rw [gs_def, List.getD_eq_getElem?_getD, List.getElem?_eq_getElem h]
    exact List.getElem_mem h
  have h2 := (List.sublist_flatten_of_mem h1).length_le
  rwa [show (gs l i).data.toList.length = (gs l i).size from Array.length_toList] at h2
theorem lines_len (s : ByteArray) : (linesT s).length ≤ s.size + 1 := by
  rw [linesT, List.length_map, lnL]
  refine Nat.le_trans (List.Sublist.length_le (l₂ := sp 10 1 s.data.toList) ?_) ?_
  · unfold dropE; split
    · exact List.dropLast_sublist _
    · exact List.Sublist.refl _
  · rw [sp_len]
    have := count_size 10 s
    omega
def nl : ByteArray := { data := #[10] }
theorem lines_app (s t : ByteArray) : linesT (s ++ nl ++ t) = linesT (s ++ nl) ++ linesT t := by
  have h1 : (s ++ nl ++ t).data.toList = s.data.toList ++ 10 :: t.data.toList := by
    rw [ByteArray.data_append, ByteArray.data_append, Array.toList_append, Array.toList_append, List.append_assoc]; rfl
  have h2 : (s ++ nl).data.toList = s.data.toList ++ [10] := by
    rw [ByteArray.data_append, Array.toList_append]; rfl
  rw [linesT, linesT, linesT, h1, h2, lnL_app, List.map_append]

end Go.Proofs.YtakgddochbcjbaaDoor
namespace Go.Proofs.YtakgddochbcjbaaDoor
open Go.RowKit Go.Deep Go.MapKept

/-- is something behind the last end? -/
def restN' (L : List UInt8) : Nat := if L = [] then 0 else if L.getLast? = some 10 then 0 else 1
theorem lnL_len' : ∀ L : List UInt8, (lnL L).length = L.count 10 + restN' L :=
  sp_ind (c := 10) (M := fun L => (lnL L).length = L.count 10 + restN' L) (fun L h => by
    rw [lnL_no h, List.count_eq_zero.2 h, restN']
    by_cases h0 : L = []
    · rw [if_pos h0, if_pos h0]; rfl
    · have h1 : L.getLast? ≠ some 10 := fun e => h (List.mem_of_getLast? e)
      rw [if_neg h0, if_neg h0, if_neg h1]; rfl) (fun u v h ih => by
    rw [lnL_at h, List.length_cons, ih, List.count_append, List.count_cons_self, List.count_eq_zero.2 h]
    have e : restN' (u ++ 10 :: v) = restN' v := by
      unfold restN'
      rw [if_neg (by simp)]
      have e1 : (u ++ 10 :: v).getLast? = some (v.getLast?.getD 10) := by
        rw [List.getLast?_append, List.getLast?_cons]; rfl
      rw [e1]
      by_cases hv : v = []
      · subst hv; rfl
      · rw [if_neg hv]
        match hq : v.getLast? with
        | none => exact absurd (List.getLast?_eq_none_iff.1 hq) hv
        | some b => rfl
    rw [e]; omega)
/-- lines are no more than bytes -/
theorem restN_le (L : List UInt8) : L.count 10 + restN' L ≤ L.length := by
  unfold restN'
  by_cases h : L = []
  · rw [if_pos h, h]; simp
  · rw [if_neg h]
    obtain ⟨u, b, rfl⟩ := split_end h
    rw [List.getLast?_concat, List.count_append, List.length_append, List.length_singleton]
    have := List.count_le_length (a := (10 : UInt8)) (l := u)
    by_cases hb : b = 10
    · subst hb
      rw [if_pos rfl]
      have h1 : List.count (10 : UInt8) [10] = 1 := rfl
      omega
    · rw [if_neg (fun h => hb (Option.some.inj h))]
      have h1 : List.count 10 [b] = 0 := List.count_eq_zero.2 (fun h => hb (List.mem_singleton.1 h).symm)
      omega
theorem lines_le (s : ByteArray) : (linesT s).length ≤ s.size := by
  rw [linesT, List.length_map, lnL_len']
  have := restN_le s.data.toList
  rwa [show s.data.toList.length = s.size from Array.length_toList] at this
theorem own_addr {w : World} {B e size n c n' : Nat} {A : Option Addr} {xs : List Value} (h : w.ownsRow B e size (.slice A n' c) n xs) : ∀ ad, A = some ad → ad = ⟨ad.block, 0, none⟩ := by
  rintro ad rfl
  rcases h.2 with ⟨h, _⟩ | ⟨g, cap, cur, h, _⟩
  · cases h
  · injection h with h
    injection h with h
    rw [h]
set_option maxRecDepth 100000 in
set_option maxHeartbeats 2000000 in
theorem merge_clean (l : List ChkB) (b o t r : ByteArray) (w : World) (hm : MaxL w) (hb : b.size ≤ 400) (ho : o.size ≤ 400) (ht : t.size ≤ 400) (hr : r.size ≤ 400) (hl : chunks (linesT b) (linesT o) (linesT t) = l) (hcl : cleanC l = true) (hmg : mergeC l = linesT r) :
    Calls Tryd.prog 14 #[.string b, .string o, .string t] w fun e w' => e = .returned (.tuple #[.string r, .bool true]) ∧ Grows w w' := by
  have hj := Lib.hid (join_lines r)
  have hfl := Lib.hid (flat_lines r)
  have hnr := Lib.hid (lines_le r)
  have hnb := Lib.hid (lines_le b)
  have hno := Lib.hid (lines_le o)
  have hnt := Lib.hid (lines_le t)
  have HCL := Lib.hid hcl
  have HMG := Lib.hid hmg
  have HMK := Lib.hid (fun k => Nat.le_trans (hl ▸ merge_chunks (linesT b) (linesT o) (linesT t) k) (show (linesT o).length + (linesT t).length ≤ 1000000000 by have := hno.out; have := hnt.out; omega))
  have hlen := chunks_len (linesT b) (linesT o) (linesT t)
  rw [hl] at hlen
  have HL := Lib.hid hl
  clear hl hcl hmg
  go_enter Tryd.func14, Tryd.ntmps14
  go_wp2_with fail
  refine (split_any b w hm (by omega)).mono ?_
  rintro e w1 ⟨v, rfl, g1, c1, rfl, hc1, ⟨hM1, _⟩, hr1, hg1⟩
  have HR1 := Lib.hid hr1
  have hm1 := hm.grows hg1
  clear hr1
  obtain ⟨L1, hL1⟩ : ∃ L, linesT b = L := ⟨_, rfl⟩
  rw [hL1] at HR1 hc1 hnb HL hlen
  try rw [hL1]
  clear hL1
  go_wp2_with fail
  refine (split_any o w1 hm1 (by omega)).mono ?_
  rintro e w2 ⟨v, rfl, g2, c2, rfl, hc2, ⟨hM2, _⟩, hr2, hg2⟩
  have HR2 := Lib.hid hr2
  have HR1' := Lib.hid (HR1.out.grows (Nat.le_refl _) hg2)
  have hg2' := hg1.trans hg2
  have hm2 := hm1.grows hg2
  have z2 := hg2.size
  clear hr2 hg2 HR1
  obtain ⟨L2, hL2⟩ : ∃ L, linesT o = L := ⟨_, rfl⟩
  rw [hL2] at HR2 hc2 hno HL
  try rw [hL2]
  clear hL2
  go_wp2_with fail
  refine (split_any t w2 hm2 (by omega)).mono ?_
  rintro e w3 ⟨v, rfl, g3, c3, rfl, hc3, ⟨hM3, _⟩, hr3, hg3⟩
  have HR3 := Lib.hid hr3
  have HR2' := Lib.hid (HR2.out.grows (Nat.le_refl _) hg3)
  have HR1 := Lib.hid (HR1'.out.grows z2 hg3)
  have hg3' := hg2'.trans hg3
  have z3 := hg3.size
  have z23 := Nat.le_trans z2 z3
  clear hr3 hg3 hg2' HR2 HR1'
  obtain ⟨L3, hL3⟩ : ∃ L, linesT t = L := ⟨_, rfl⟩
  rw [hL3] at HR3 hc3 hnt HL
  try rw [hL3]
  clear hL3
  have u1 := hnb.out
  have u2 := hno.out
  have u3 := hnt.out
  go_wp2_with fail
  refine (of_v l _ _ _ _ _ _ c1 c2 c3 _ _ _ L1 L2 L3 w3 HL.out HR1.out HR2'.out HR3.out z23 z3 (Nat.le_refl _) (by omega) (by omega) (by omega) hc1 hc2 hc3 (by simp only [maxLen]; omega) (by simp only [maxLen]; omega) (by simp only [maxLen]; omega)).mono ?_
  rintro e w4 ⟨A4, n4, q4, rfl, hC4, hg4, hq4, hqM4⟩
  have HC4 := Lib.hid hC4
  have k4 := hC4.len
  have hg4' := hg3'.trans hg4
  clear hC4 hg4 hg3' HR1 HR2' HR3
  go_wp2_with fail
  refine (clean_v true _ A4 n4 q4 l w4 HCL.out HC4.out (Nat.le_refl _) (Nat.le_trans hq4 hqM4)).mono ?_
  rintro e w5 ⟨rfl, hg5⟩
  have HC5 := Lib.hid (HC4.out.grows (Nat.le_refl _) hg5)
  have hg5' := hg4'.trans hg5
  have z5 := hg5.size
  clear HC4 hg4' hg5
  go_wp2_with fail
  refine (merged_any _ A4 n4 q4 l w5 HC5.out z5 (by omega) (fun k _ => HMK.out k)).mono ?_
  rw [HMG.out]
  rintro e w6 ⟨v, rfl, hown, hg6⟩
  obtain ⟨A6, c6, rfl, hc6, _⟩ := own_form hown
  have HR6 := Lib.hid (Reads.of_own hown)
  have HAD := Lib.hid (own_addr hown)
  have hg6' := hg5'.trans hg6
  clear hown hg6 hg5' HC5
  go_wp2_with fail
  refine (join_any _ A6 _ c6 (linesT r) w6 HAD.out HR6.out (Nat.le_refl _) (by have := hnr.out; omega) hc6 (by rw [hfl.out]; omega)).mono ?_
  rw [hj.out]
  rintro e w7 ⟨rfl, hg7⟩
  go_wp2_with fail
  go_ret2
  exact ⟨rfl, hg6'.trans hg7⟩
end Go.Proofs.YtakgddochbcjbaaDoor
