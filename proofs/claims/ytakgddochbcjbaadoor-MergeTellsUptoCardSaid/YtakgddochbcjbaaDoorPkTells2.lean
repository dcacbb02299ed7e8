/- Both merges, whatever clashes. -/
import Derived.Test.YtakgddochbcjbaaDoorPkTells
import Derived.Test.YtakgddochbcjbaaDoorPkMixS
namespace Go.Proofs.YtakgddochbcjbaaDoor
open Go.RowKit Go.Deep Go.MapKept

/-- what chunks come to, as a text -/
def mergedT (l : List ChkB) : ByteArray := if cleanC l = true then joinT (mergeC l) else tx (outTo l l.length)
theorem flat_app (x y : List ByteArray) : flatS (x ++ y) = flatS x ++ flatS y := by simp [flatS, bl]
theorem merge_flat_le : ∀ l : List ChkB, (flatS (mergeC l)).length ≤ (flatS (l.flatMap (·.2.2.1))).length + (flatS (l.flatMap (·.2.2.2))).length
  | [] => by simp [mergeC, flatS, bl]
  | c :: l => by
    have ih := merge_flat_le l
    have e : mergeC (c :: l) = (if c.1 = 3 then c.2.2.2 else c.2.2.1) ++ mergeC l := by simp [mergeC]
    rw [e, flat_app, List.flatMap_cons, List.flatMap_cons, flat_app, flat_app, List.length_append, List.length_append, List.length_append]
    split <;> omega
theorem part_leT {l : List ChkB} {c : ChkB} (h : c ∈ l) (f : ChkB → List ByteArray) : (f c).length ≤ (l.flatMap f).length ∧ (flatS (f c)).length ≤ (flatS (l.flatMap f)).length := by
  obtain ⟨l1, l2, rfl⟩ := List.append_of_mem h
  constructor
  · simp only [List.flatMap_append, List.flatMap_cons, List.length_append]
    omega
  · simp only [flatS, bl, List.flatMap_append, List.flatMap_cons, List.map_append, List.flatten_append, List.length_append]
    omega
theorem gch_mem {l : List ChkB} {k : Nat} (hk : k < l.length) : gch l k ∈ l := by
  rw [gch, List.getD_eq_getElem?_getD, List.getElem?_eq_getElem hk]
  exact List.getElem_mem hk
theorem chunks_smallT {b o t : ByteArray} (hb : b.size ≤ 1000) (ho : o.size ≤ 1000) (ht : t.size ≤ 1000) : ∀ k, k < (chunks (linesT b) (linesT o) (linesT t)).length → SmallC (gch (chunks (linesT b) (linesT o) (linesT t)) k) := by
  intro k hk
  have hm := gch_mem hk
  obtain ⟨w1, w2, w3⟩ := chunks_whole (linesT b) (linesT o) (linesT t)
  have p1 := part_leT hm (·.2.1)
  have p2 := part_leT hm (·.2.2.1)
  have p3 := part_leT hm (·.2.2.2)
  rw [w1] at p1
  rw [w2] at p2
  rw [w3] at p3
  have e1 : (flatS (linesT b)).length = b.size := flat_lines b
  have e2 : (flatS (linesT o)).length = o.size := flat_lines o
  have e3 : (flatS (linesT t)).length = t.size := flat_lines t
  have g1 := lines_le b
  have g2 := lines_le o
  have g3 := lines_le t
  exact ⟨⟨by omega, by omega, by omega⟩, by omega, by omega, by omega⟩
theorem merge_flat {b o t : ByteArray} : (flatS (mergeC (chunks (linesT b) (linesT o) (linesT t)))).length ≤ o.size + t.size := by
  have h := merge_flat_le (chunks (linesT b) (linesT o) (linesT t))
  obtain ⟨_, w2, w3⟩ := chunks_whole (linesT b) (linesT o) (linesT t)
  have e2 : (flatS (linesT o)).length = o.size := flat_lines o
  have e3 : (flatS (linesT t)).length = t.size := flat_lines t
  rw [w2, w3] at h
  omega
set_option maxRecDepth 100000 in
set_option maxHeartbeats 2000000 in
theorem merge_yes (l : List ChkB) (b o t : ByteArray) (w : World) (hm : MaxL w) (hb : b.size ≤ 100000) (ho : o.size ≤ 100000) (ht : t.size ≤ 100000) (hbl : (linesT b).length ≤ 400) (hol0 : (linesT o).length ≤ 400) (htl : (linesT t).length ≤ 400) (hl : chunks (linesT b) (linesT o) (linesT t) = l) (hcl : cleanC l = true) :
    Calls Tryd.prog 14 #[.string b, .string o, .string t] w fun e w' => e = .returned (.tuple #[.string (joinT (mergeC l)), .bool true]) ∧ Grows w w' := by
  have hnb := Lib.hid (lines_le b)
  have hno := Lib.hid (lines_le o)
  have hnt := Lib.hid (lines_le t)
  have hfm := Lib.hid (show (bl (mergeC l)).flatten.length ≤ 200000 by have h := merge_flat (b := b) (o := o) (t := t); rw [hl] at h; have : (bl (mergeC l)).flatten.length = (flatS (mergeC l)).length := rfl; omega)
  have HLb := Lib.hid hbl
  have HLo := Lib.hid hol0
  have HLt := Lib.hid htl
  have HCL := Lib.hid hcl
  have HMK := Lib.hid (fun k => Nat.le_trans (hl ▸ merge_chunks (linesT b) (linesT o) (linesT t) k) (show (linesT o).length + (linesT t).length ≤ 1000000000 by have := hno.out; have := hnt.out; omega))
  have HML := Lib.hid (show (mergeC l).length ≤ 1000000000 by have := HMK.out l.length; rwa [List.take_length] at this)
  have hlen := chunks_len (linesT b) (linesT o) (linesT t)
  rw [hl] at hlen
  have HL := Lib.hid hl
  clear hl hcl hbl hol0 htl
  go_enter Tryd.func14, Tryd.ntmps14
  go_wp2_with fail
  refine (split_any b w hm (by omega)).mono ?_
  rintro e w1 ⟨v, rfl, g1, c1, rfl, hc1, ⟨hM1, _⟩, hr1, hg1⟩
  have HR1 := Lib.hid hr1
  have hm1 := hm.grows hg1
  clear hr1
  obtain ⟨L1, hL1⟩ : ∃ L, linesT b = L := ⟨_, rfl⟩
  rw [hL1] at HR1 hc1 hnb HL hlen HLb
  try rw [hL1]
  clear hL1
  go_wp2_with fail
  refine (split_any o w1 hm1 (by omega)).mono ?_
  rintro e w2 ⟨v, rfl, g2, c2, rfl, hc2, ⟨hM2, _⟩, hr2, hg2⟩
  have HR2 := Lib.hid hr2
  have HR1' := Lib.hid (HR1.out.grows (Nat.le_refl _) hg2)
  have hg2' := hg1.trans hg2
  have hm2 := hm1.grows hg2
  have z2 := hg2.size
  clear hr2 hg2 HR1
  obtain ⟨L2, hL2⟩ : ∃ L, linesT o = L := ⟨_, rfl⟩
  rw [hL2] at HR2 hc2 hno HL HLo
  try rw [hL2]
  clear hL2
  go_wp2_with fail
  refine (split_any t w2 hm2 (by omega)).mono ?_
  rintro e w3 ⟨v, rfl, g3, c3, rfl, hc3, ⟨hM3, _⟩, hr3, hg3⟩
  have HR3 := Lib.hid hr3
  have HR2' := Lib.hid (HR2.out.grows (Nat.le_refl _) hg3)
  have HR1 := Lib.hid (HR1'.out.grows z2 hg3)
  have hg3' := hg2'.trans hg3
  have z3 := hg3.size
  have z23 := Nat.le_trans z2 z3
  clear hr3 hg3 hg2' HR2 HR1'
  obtain ⟨L3, hL3⟩ : ∃ L, linesT t = L := ⟨_, rfl⟩
  rw [hL3] at HR3 hc3 hnt HL HLt
  try rw [hL3]
  clear hL3
  have u1 := HLb.out
  have u2 := HLo.out
  have u3 := HLt.out
  go_wp2_with fail
  refine (of_v l _ _ _ _ _ _ c1 c2 c3 _ _ _ L1 L2 L3 w3 HL.out HR1.out HR2'.out HR3.out z23 z3 (Nat.le_refl _) (by omega) (by omega) (by omega) hc1 hc2 hc3 (by simp only [maxLen]; omega) (by simp only [maxLen]; omega) (by simp only [maxLen]; omega)).mono ?_
  rintro e w4 ⟨A4, n4, q4, rfl, hC4, hg4, hq4, hqM4⟩
  have HC4 := Lib.hid hC4
  have k4 := hC4.len
  have hg4' := hg3'.trans hg4
  clear hC4 hg4 hg3' HR1 HR2' HR3
  go_wp2_with fail
  refine (clean_v true _ A4 n4 q4 l w4 HCL.out HC4.out (Nat.le_refl _) (Nat.le_trans hq4 hqM4)).mono ?_
  rintro e w5 ⟨rfl, hg5⟩
  have HC5 := Lib.hid (HC4.out.grows (Nat.le_refl _) hg5)
  have hg5' := hg4'.trans hg5
  have z5 := hg5.size
  clear HC4 hg4' hg5
  go_wp2_with fail
  refine (merged_any _ A4 n4 q4 l w5 HC5.out z5 (by omega) (fun k _ => HMK.out k)).mono ?_
  rintro e w6 ⟨v, rfl, hown, hg6⟩
  obtain ⟨A6, c6, rfl, hc6, _⟩ := own_form hown
  have HR6 := Lib.hid (Reads.of_own hown)
  have hg6' := hg5'.trans hg6
  clear hown hg6 hg5' HC5
  go_wp2_with fail
  refine (join_all _ A6 _ c6 (mergeC l) w6 HR6.out (Nat.le_refl _) (by have := HML.out; omega) hc6 (by have := hfm.out; omega)).mono ?_
  rintro e w7 ⟨rfl, hg7⟩
  go_wp2_with fail
  go_ret2
  exact ⟨rfl, hg6'.trans hg7⟩
theorem merge_all (b o t : ByteArray) (w : World) (hm : MaxL w) (hb : b.size ≤ 1000) (ho : o.size ≤ 1000) (ht : t.size ≤ 1000) (hbl : (linesT b).length ≤ 400) (hol0 : (linesT o).length ≤ 400) (htl : (linesT t).length ≤ 400) :
    Calls Tryd.prog 14 #[.string b, .string o, .string t] w fun e w' => e = .returned (.tuple #[.string (mergedT (chunks (linesT b) (linesT o) (linesT t))), .bool (cleanC (chunks (linesT b) (linesT o) (linesT t)))]) ∧ Grows w w' := by
  cases hc : cleanC (chunks (linesT b) (linesT o) (linesT t)) with
  | true =>
    have := merge_yes _ b o t w hm (by omega) (by omega) (by omega) hbl hol0 htl rfl hc
    rw [mergedT, if_pos hc]
    exact this
  | false =>
    have := merge_other _ b o t w hm (by omega) (by omega) (by omega) hbl hol0 htl rfl hc (chunks_smallT hb ho ht)
    rw [mergedT, if_neg (by rw [hc]; simp)]
    exact this
end Go.Proofs.YtakgddochbcjbaaDoor
