/- Lines: how long they are. Three texts in one: Merge, where nothing clashes. What a text with marks is read as: the walk of merge3.Parse. -/
import Derived.Test.YtakgddochbcjbaaDoorPkPath
import Derived.Test.YtakgddochbcjbaaDoorPkChunkV
import Derived.Test.YtakgddochbcjbaaDoorPkPut
import Derived.Test.YtakgddochbcjbaaDoorPkMarks
namespace Go.Proofs.YtakgddochbcjbaaDoor
open Go.RowKit Go.Deep Go.MapKept

theorem flat_lines (s : ByteArray) : (bl (linesT s)).flatten.length = s.size := by rw [bl_lines, lnL_join]; exact Array.length_toList
theorem gs_flat {l : List ByteArray} {i : Nat} (h : i < l.length) : (gs l i).size ≤ (bl l).flatten.length := by
  have h1 : (gs l i).data.toList ∈ bl l := by
    rw [bl, List.mem_map]
    refine ⟨gs l i, ?_, rfl⟩
    rw [gs_def, List.getD_eq_getElem?_getD, List.getElem?_eq_getElem h]
    exact List.getElem_mem h
  have h2 := (List.sublist_flatten_of_mem h1).length_le
  rwa [show (gs l i).data.toList.length = (gs l i).size from Array.length_toList] at h2
theorem lines_len (s : ByteArray) : (linesT s).length ≤ s.size + 1 := by
  rw [linesT, List.length_map, lnL]
  refine Nat.le_trans (List.Sublist.length_le (l₂ := sp 10 1 s.data.toList) ?_) ?_
  · unfold dropE; split
    · exact List.dropLast_sublist _
    · exact List.Sublist.refl _
  · rw [sp_len]
    have := count_size 10 s
    omega
def nl : ByteArray := { data := #[10] }
theorem lines_app (s t : ByteArray) : linesT (s ++ nl ++ t) = linesT (s ++ nl) ++ linesT t := by
  have h1 : (s ++ nl ++ t).data.toList = s.data.toList ++ 10 :: t.data.toList := by
    rw [ByteArray.data_append, ByteArray.data_append, Array.toList_append, Array.toList_append, List.append_assoc]; rfl
  have h2 : (s ++ nl).data.toList = s.data.toList ++ [10] := by
    rw [ByteArray.data_append, Array.toList_append]; rfl
  rw [linesT, linesT, linesT, h1, h2, lnL_app, List.map_append]

end Go.Proofs.YtakgddochbcjbaaDoor
namespace Go.Proofs.YtakgddochbcjbaaDoor
open Go.RowKit Go.Deep Go.MapKept

/-- is something behind the last end? -/
def restN' (L : List UInt8) : Nat := if L = [] then 0 else if L.getLast? = some 10 then 0 else 1
theorem lnL_len' : ∀ L : List UInt8, (lnL L).length = L.count 10 + restN' L :=
  sp_ind (c := 10) (M := fun L => (lnL L).length = L.count 10 + restN' L) (fun L h => by
    rw [lnL_no h, List.count_eq_zero.2 h, restN']
    by_cases h0 : L = []
    · rw [if_pos h0, if_pos h0]; rfl
    · have h1 : L.getLast? ≠ some 10 := fun e => h (List.mem_of_getLast? e)
      rw [if_neg h0, if_neg h0, if_neg h1]; rfl) (fun u v h ih => by
    rw [lnL_at h, List.length_cons, ih, List.count_append, List.count_cons_self, List.count_eq_zero.2 h]
    have e : restN' (u ++ 10 :: v) = restN' v := by
      unfold restN'
      rw [if_neg (by simp)]
      have e1 : (u ++ 10 :: v).getLast? = some (v.getLast?.getD 10) := by
        rw [List.getLast?_append, List.getLast?_cons]; rfl
      rw [e1]
      by_cases hv : v = []
      · subst hv; rfl
      · rw [if_neg hv]
        match hq : v.getLast? with
        | none => exact absurd (List.getLast?_eq_none_iff.1 hq) hv
        | some b => rfl
    rw [e]; omega)
/-- lines are no more than bytes -/
theorem restN_le (L : List UInt8) : L.count 10 + restN' L ≤ L.length := by
  unfold restN'
  by_cases h : L = []
  · rw [if_pos h, h]; simp
  · rw [if_neg h]
    obtain ⟨u, b, rfl⟩ := split_end h
    rw [List.getLast?_concat, List.count_append, List.length_append, List.length_singleton]
    have := List.count_le_length (a := (10 : UInt8)) (l := u)
    by_cases hb : b = 10
    · subst hb
      rw [if_pos rfl]
      have h1 : List.count (10 : UInt8) [10] = 1 := rfl
      omega
    · rw [if_neg (fun h => hb (Option.some.inj h))]
      have h1 : List.count 10 [b] = 0 := List.count_eq_zero.2 (fun h => hb (List.mem_singleton.1 h).symm)
      omega
theorem lines_le (s : ByteArray) : (linesT s).length ≤ s.size := by
  rw [linesT, List.length_map, lnL_len']
  have := restN_le s.data.toList
  rwa [show s.data.toList.length = s.size from Array.length_toList] at this
theorem own_addr {w : World} {B e size n c n' : Nat} {A : Option Addr} {xs : List Value} (h : w.ownsRow B e size (.slice A n' c) n xs) : ∀ ad, A = some ad → ad = ⟨ad.block, 0, none⟩ := by
  rintro ad rfl
  rcases h.2 with ⟨h, _⟩ | ⟨g, cap, cur, h, _⟩
  · cases h
  · injection h with h
    injection h with h
    rw [h]
set_option maxRecDepth 100000 in
set_option maxHeartbeats 2000000 in
theorem merge_clean (l : List ChkB) (b o t r : ByteArray) (w : World) (hm : MaxL w) (hb : b.size ≤ 400) (ho : o.size ≤ 400) (ht : t.size ≤ 400) (hr : r.size ≤ 400) (hl : chunks (linesT b) (linesT o) (linesT t) = l) (hcl : cleanC l = true) (hmg : mergeC l = linesT r) :
    Calls Tryd.prog 14 #[.string b, .string o, .string t] w fun e w' => e = .returned (.tuple #[.string r, .bool true]) ∧ Grows w w' := by
  have hj := Lib.hid (join_lines r)
  have hfl := Lib.hid (flat_lines r)
  have hnr := Lib.hid (lines_le r)
  have hnb := Lib.hid (lines_le b)
  have hno := Lib.hid (lines_le o)
  have hnt := Lib.hid (lines_le t)
  have HCL := Lib.hid hcl
  have HMG := Lib.hid hmg
  have HMK := Lib.hid (fun k => Nat.le_trans (hl ▸ merge_chunks (linesT b) (linesT o) (linesT t) k) (show (linesT o).length + (linesT t).length ≤ 1000000000 by have := hno.out; have := hnt.out; omega))
  have hlen := chunks_len (linesT b) (linesT o) (linesT t)
  rw [hl] at hlen
  have HL := Lib.hid hl
  clear hl hcl hmg
  go_enter Tryd.func14, Tryd.ntmps14
  go_wp2_with fail
  refine (split_any b w hm (by omega)).mono ?_
  rintro e w1 ⟨v, rfl, g1, c1, rfl, hc1, ⟨hM1, _⟩, hr1, hg1⟩
  have HR1 := Lib.hid hr1
  have hm1 := hm.grows hg1
  clear hr1
  obtain ⟨L1, hL1⟩ : ∃ L, linesT b = L := ⟨_, rfl⟩
  rw [hL1] at HR1 hc1 hnb HL hlen
  try rw [hL1]
  clear hL1
  go_wp2_with fail
  refine (split_any o w1 hm1 (by omega)).mono ?_
  rintro e w2 ⟨v, rfl, g2, c2, rfl, hc2, ⟨hM2, _⟩, hr2, hg2⟩
  have HR2 := Lib.hid hr2
  have HR1' := Lib.hid (HR1.out.grows (Nat.le_refl _) hg2)
  have hg2' := hg1.trans hg2
  have hm2 := hm1.grows hg2
  have z2 := hg2.size
  clear hr2 hg2 HR1
  obtain ⟨L2, hL2⟩ : ∃ L, linesT o = L := ⟨_, rfl⟩
  rw [hL2] at HR2 hc2 hno HL
  try rw [hL2]
  clear hL2
  go_wp2_with fail
  refine (split_any t w2 hm2 (by omega)).mono ?_
  rintro e w3 ⟨v, rfl, g3, c3, rfl, hc3, ⟨hM3, _⟩, hr3, hg3⟩
  have HR3 := Lib.hid hr3
  have HR2' := Lib.hid (HR2.out.grows (Nat.le_refl _) hg3)
  have HR1 := Lib.hid (HR1'.out.grows z2 hg3)
  have hg3' := hg2'.trans hg3
  have z3 := hg3.size
  have z23 := Nat.le_trans z2 z3
  clear hr3 hg3 hg2' HR2 HR1'
  obtain ⟨L3, hL3⟩ : ∃ L, linesT t = L := ⟨_, rfl⟩
  rw [hL3] at HR3 hc3 hnt HL
  try rw [hL3]
  clear hL3
  have u1 := hnb.out
  have u2 := hno.out
  have u3 := hnt.out
  go_wp2_with fail
  refine (of_v l _ _ _ _ _ _ c1 c2 c3 _ _ _ L1 L2 L3 w3 HL.out HR1.out HR2'.out HR3.out z23 z3 (Nat.le_refl _) (by omega) (by omega) (by omega) hc1 hc2 hc3 (by simp only [maxLen]; omega) (by simp only [maxLen]; omega) (by simp only [maxLen]; omega)).mono ?_
  rintro e w4 ⟨A4, n4, q4, rfl, hC4, hg4, hq4, hqM4⟩
  have HC4 := Lib.hid hC4
  have k4 := hC4.len
  have hg4' := hg3'.trans hg4
  clear hC4 hg4 hg3' HR1 HR2' HR3
  go_wp2_with fail
  refine (clean_v true _ A4 n4 q4 l w4 HCL.out HC4.out (Nat.le_refl _) (Nat.le_trans hq4 hqM4)).mono ?_
  rintro e w5 ⟨rfl, hg5⟩
  have HC5 := Lib.hid (HC4.out.grows (Nat.le_refl _) hg5)
  have hg5' := hg4'.trans hg5
  have z5 := hg5.size
  clear HC4 hg4' hg5
  go_wp2_with fail
  refine (merged_any _ A4 n4 q4 l w5 HC5.out z5 (by omega) (fun k _ => HMK.out k)).mono ?_
  rw [HMG.out]
  rintro e w6 ⟨v, rfl, hown, hg6⟩
  obtain ⟨A6, c6, rfl, hc6, _⟩ := own_form hown
  have HR6 := Lib.hid (Reads.of_own hown)
  have HAD := Lib.hid (own_addr hown)
  have hg6' := hg5'.trans hg6
  clear hown hg6 hg5' HC5
  go_wp2_with fail
  refine (join_any _ A6 _ c6 (linesT r) w6 HAD.out HR6.out (Nat.le_refl _) (by have := hnr.out; omega) hc6 (by rw [hfl.out]; omega)).mono ?_
  rw [hj.out]
  rintro e w7 ⟨rfl, hg7⟩
  go_wp2_with fail
  go_ret2
  exact ⟨rfl, hg6'.trans hg7⟩
end Go.Proofs.YtakgddochbcjbaaDoor
namespace Go.Proofs.YtakgddochbcjbaaDoor
open Go.RowKit Go.Deep Go.MapKept Go.Maps

theorem cput_any (B : Nat) (v : Value) (l : List ChkB) (i : Int) (s : ByteArray) (k : Nat) (w : World) (h : PS w B v l) (hpi : PI i l k) (hk : k ≤ 10000000) (hB : B ≤ w.heap.size) :
    Calls Tryd.prog 49 #[v, .int .i64 i, .string s] w fun e w' => ∃ v', e = .returned v' ∧ PS w' B v' (putC l i s) ∧ Below B w w' := by
  have hlen := hpi.len
  have hrng := hpi.rng
  rcases h with ⟨rfl, rfl⟩ | ⟨init, c, N, g, cap, xs, vb, vo, vt, rfl, hL⟩
  · have hi : i = 0 := by
      refine Classical.byContradiction fun h0 => ?_
      exact hpi.some_ h0 rfl
    subst hi
    rw [putC_new s (by rw [newC_nil]; rfl)]
    exact put_out_nil B 0 none [] [] s w (World.ownsRow_nil _ _ _ _) rfl hB (Nat.zero_le _) rfl
  · have hrow := hpi.rows c (by simp)
    have hil : init.length + 1 = (init ++ [c]).length := by simp
    cases hn : newC (init ++ [c]) i with
    | true =>
      rw [newC_snoc] at hn
      simp only [Bool.and_eq_true, decide_eq_true_eq, bne_iff_ne] at hn
      obtain ⟨rfl, hc1⟩ := hn
      rw [putC_new s (by rw [newC_snoc]; simp [hc1])]
      obtain ⟨ho, hp⟩ := hL.all
      have hf := hL.form
      rw [hil] at hf
      rw [hf] at ho
      rw [hf]
      exact put_out_new B g cap init.length c.1 (init ++ [c]) _ s w ho hp hB (by omega) hil.symm hL.cell0 hc1
    | false =>
      rw [putC_old s hn]
      rw [newC_snoc] at hn
      rcases (by omega : i = 0 ∨ i = 1 ∨ i = 2 ∨ i = 3) with rfl | rfl | rfl | rfl
      · have hc1 : c.1 = 1 := by simpa using hn
        exact put_out_old B N g cap v init c xs vb vo vt s w hL (by omega) (by omega) (by omega) (by omega) hc1
      · exact put_ours B N g cap v init c xs vb vo vt s w hL (by omega) (by omega)
      · exact put_base B N g cap v init c xs vb vo vt s w hL (by omega) (by omega)
      · exact put_theirs B N g cap v init c xs vb vo vt s w hL (by omega) (by omega)

theorem PS.mono {w : World} {B B' : Nat} {v : Value} {l : List ChkB} (h : PS w B v l) (hB : B' ≤ B) : PS w B' v l := by
  rcases h with h | ⟨init, c, N, g, cap, xs, vb, vo, vt, e, hL⟩
  · exact .inl h
  · exact .inr ⟨init, c, N, g, cap, xs, vb, vo, vt, e, ⟨hL.form, own_mono hL.own hB, hL.parts, hL.old, Nat.le_trans hB hL.le, hL.size, hL.rb, hL.ro, hL.rt, hL.bo, hL.bt, hL.ot⟩⟩
theorem PS.drewN {w : World} {B : Nat} {v : Value} {l : List ChkB} (h : PS w B v l) (d : Nat) : PS (w.drewN d) B v l := by
  rcases h with h | ⟨init, c, N, g, cap, xs, vb, vo, vt, e, hL⟩
  · exact .inl h
  · exact .inr ⟨init, c, N, g, cap, xs, vb, vo, vt, e, hL.grows ((Grows.refl w).drewN d)⟩
/-- a chunk more of a kind, with nothing in it yet -/
theorem PS.snoc {w w1 w' : World} {B : Nat} {v v' : Value} {l : List ChkB} {xs : List Value} {kd : Int} (hw1 : Grows w w1) (hown : w.ownsRow B 36 4 v l.length xs) (hp : Parts w l xs) (hB : B ≤ w'.heap.size) (hg : w1.grownBy w' v.ownBlock)
    (hown' : w'.ownsRow B 36 4 v' (l.length + 1) (xs ++ [.int .i64 kd, .slice none 0 0, .slice none 0 0, .slice none 0 0])) : PS w' B v' (l ++ [(kd, [], [], [])]) := by
  obtain ⟨g, cap, h⟩ := Last.snoc (own_grows hown hw1) (Parts.mono (fun _ _ ho => OwnS.grows ho hw1) hp) hB hg rfl hown'
  exact .inr ⟨_, _, _, _, _, _, _, _, _, rfl, h⟩
theorem PS.all {w : World} {B : Nat} {v : Value} {l : List ChkB} (h : PS w B v l) : ∃ xs, w.ownsRow B 36 4 v l.length xs ∧ Parts w l xs := by
  rcases h with ⟨rfl, rfl⟩ | ⟨init, c, N, g, cap, xs, vb, vo, vt, rfl, hL⟩
  · exact ⟨[], World.ownsRow_nil _ _ _ _, rfl⟩
  · exact ⟨_, hL.all⟩
theorem drop_gs {l : List ByteArray} {k : Nat} (h : k < l.length) : l.drop k = gs l k :: l.drop (k + 1) := by
  rw [List.drop_eq_getElem_cons h, gs_def, List.getD_eq_getElem?_getD, List.getElem?_eq_getElem h]; rfl
theorem markF_rng {x : ByteArray} {b : Int} (h : markF x = some b) : 0 ≤ b ∧ b ≤ 3 := by
  unfold markF putF at h
  split at h
  · cases h; decide
  · split at h
    · cases h; decide
    · split at h
      · cases h; decide
      · split at h
        · cases h; decide
        · cases h
theorem adr0' (g i : Nat) : Addr.add ⟨g, 0, none⟩ i = ⟨g, i, none⟩ := by unfold Addr.add; split <;> simp_all
/-- what Parse answers -/
def ParsedAs (w : World) (B : Nat) (e : Ending) (r : Option (List ChkB)) : Prop := match r with
  | some l => ∃ v, e = .returned (.tuple #[v, .int .i64 0]) ∧ PS w B v l
  | none => e = .returned (.tuple #[.slice none 0 0, .int .i64 5])

set_option maxRecDepth 100000 in
set_option maxHeartbeats 2000000 in
theorem parse_any (s : ByteArray) (w : World) (hm : MaxL w) (hs : s.size ≤ 5000000) :
    Calls Tryd.prog 15 #[.string s] w fun e w' => ParsedAs w' w.heap.size e (parseT s) ∧ Grows w w' := by
  obtain ⟨t1, hj0, hy0, hy1, hy2⟩ := info_parts Tryd.infoChunkM
  have hnS := Lib.hid (lines_le s)
  have hfl := Lib.hid (flat_lines s)
  have hT := Lib.hid (show parseT s = match parseC (linesT s) 0 [] with | some (i, l) => if i = 0 then some l else none | none => none from rfl)
  go_enter Tryd.func15, Tryd.ntmps15
  go_wp2_with fail
  refine (marks_any w).mono ?_
  rintro e w1 ⟨b, rfl, hmap, hg1, hb⟩
  have hm1 := hm.grows hg1
  go_wp2_with fail
  refine (split_any s w1 hm1 (by omega)).mono ?_
  rintro e w2 ⟨v, rfl, g2, c2, rfl, hc2, _, hr2, hg2⟩
  obtain ⟨ls, hls⟩ : ∃ ls, linesT s = ls := ⟨_, rfl⟩
  rw [hls] at hr2 hc2 hnS hfl hT
  try rw [hls]
  clear hls
  obtain ⟨N, hN⟩ : ∃ N, ls.length = N := ⟨_, rfl⟩
  rw [hN] at hr2 hc2 hnS
  try rw [hN]
  have HN := Lib.hid hN
  have HR := Lib.hid hr2
  have HMP := Lib.hid (hmap.grows hg2)
  have hg2' := hg1.trans hg2
  have hz := hg2.size
  have hbl := hmap.lt
  clear hN hr2 hmap
  go_wp2_with fail
  obtain ⟨R, hR⟩ : ∃ R, parseC ls 0 [] = R := ⟨_, rfl⟩
  rw [hR] at hT
  have HR0 := Lib.hid (show parseC (ls.drop 0) 0 [] = R from hR)
  clear hR
  go_loopg [15, 4, 6] N (fun gk q v iv wr => ∃ (k : Nat) (i : Int) (l : List ChkB), q = .int .i64 k ∧ iv = .int .i64 i ∧ k ≤ N ∧ gk = N - k ∧ PI i l k ∧ parseC (ls.drop k) i l = R ∧ PS wr w2.heap.size v l ∧ Grows w2 wr)
  case atStart => exact ⟨0, 0, [], rfl, rfl, by omega, rfl, PI.start, HR0.out, .inl ⟨rfl, rfl⟩, Grows.refl _⟩
  case round =>
    obtain ⟨k, i, l, rfl, rfl, hk, hgk, hpi, hres, hps, hgr⟩ := hrel
    have HG := Lib.hid hgk; clear hgk
    have HPI := Lib.hid hpi; clear hpi
    have HPS := Lib.hid hps; clear hps
    have hsz := hgr.size
    by_cases hlt : k < N
    · obtain ⟨ad, hA, had, p0⟩ := (HR.out.grows (Nat.le_refl _) hgr).str hlt
      cases hA
      have k0 : (0 : Int) ≤ k := by omega
      have k1 : (k : Int) < N := by omega
      have hxs := gs_flat (l := ls) (i := k) (by rw [HN.out]; exact hlt)
      rw [hfl.out] at hxs
      rw [drop_gs (by rw [HN.out]; exact hlt)] at hres
      obtain ⟨x, hx⟩ : ∃ x, gs ls k = x := ⟨_, rfl⟩
      rw [hx, adr0'] at p0
      rw [hx] at hxs hres
      clear hx
      have HM2 := Lib.hid (HMP.out.grows hgr)
      have hxl : x.size ≤ maxLen := by simp only [maxLen]; omega
      cases hmk : markF x with
      | none =>
        rw [parseC_none hmk] at hres
        have HRES := Lib.hid hres
        have HPUT := Lib.hid (HPI.out.put x)
        have HMK := Lib.hid hmk
        clear hres hmk
        go_wp2_with (refine wpList_lookS rfl (.tmp 20) (.tmp 21) rfl b 4 markF rfl HM2.out x hxl rfl 0 false (by rw [HMK.out]; rfl) (by rw [HMK.out]; rfl) ?_)
        refine (cput_any _ _ l i x k _ HPS.out HPI.out (by have := hnS.out; omega) hsz).mono ?_
        rintro e w3 ⟨v', rfl, hps3, hbl3⟩
        have HPS3 := Lib.hid hps3
        have hgr3 : Grows w2 w3 := Below.trans hgr hbl3
        clear hps3 hbl3
        go_wp2_with fail
        go_roundg (N - (k + 1))
        case measure => rw [HG.out]; omega
        case rel => exact ⟨k + 1, i, putC l i x, by go_num, rfl, by omega, rfl, HPUT.out, HRES.out, HPS3.out, hgr3⟩
      | some bb =>
        have hrg := markF_rng hmk
        have hrng := HPI.out.rng
        obtain ⟨hi0, hi3⟩ := hrng
        obtain ⟨r, hr⟩ : ∃ r, (i + 1) % 4 = r := ⟨_, rfl⟩
        have hrem : (i + 1).tmod 4 = r := by rw [Int.tmod_eq_emod_of_nonneg (by omega)]; exact hr
        have HMK := Lib.hid hmk
        have HRR := Lib.hid hr
        by_cases hbr : bb = r
        · have hmark := HPI.out.mark (b := bb) (hbr.trans hr.symm)
          rw [parseC_mark hmk (hbr.trans hr.symm)] at hres
          have hne : (bb != r) = false := by simp [hbr]
          have HEQ := Lib.hid hbr
          by_cases hb1 : bb = 1
          · rw [if_pos hb1] at hmark hres
            have HMARK := Lib.hid hmark
            have HRES := Lib.hid hres
            have HB1 := Lib.hid hb1
            have hb2 : (bb == 1) = true := by rw [hb1]; rfl
            obtain ⟨xs, hown, hp⟩ := HPS.out.all
            obtain ⟨A4, c4, rfl, _, _⟩ := own_form hown
            have HO := Lib.hid hown
            have HP := Lib.hid hp
            have hlen := HPI.out.len
            have hnn := hnS.out
            clear hres hmk hmark hbr hb1 hr hown hp
            go_wp2_with (first
              | (refine wpList_lookS rfl (.tmp 20) (.tmp 21) rfl b 4 markF rfl HM2.out x hxl rfl bb true (by rw [HMK.out]; rfl) (by rw [HMK.out]; rfl) ?_)
              | (at_builtin; refine wpList_append_any _ rfl (.tmp 41) (.tmp 43) _ rfl w2.heap.size 36 t1 _ 4 80 Tryd.underlying30 hj0 hy0 hy1 hy2 rfl (by decide) _ _ _ rfl (World.ownsRow.alloc HO.out (.cells #[.int .i64 5, .slice none 0 0, .slice none 0 0, .slice none 0 0] 36)) _ _ _ _ _ rfl (reads_chunk wr 5) (chunk_one 5) (le_maxLen (by omega)) (by omega) (alloc_le hsz _) ?_; intro v3 w3 hown3 hgb3 hor3))
            have hg3 : Grows w2 w3 := Below.grown (hgr.alloc _) hgb3 (alloc_le hsz _) (fun kk hkk => (World.ownsRow.lt HO.out kk hkk).1)
            have hps3 := PS.snoc (kd := 5) ((Grows.refl wr).alloc (.cells #[.int .i64 5, .slice none 0 0, .slice none 0 0, .slice none 0 0] 36)) HO.out HP.out (Nat.le_trans (alloc_le hsz _) hgb3.size) hgb3 hown3
            go_roundg (N - (k + 1))
            case measure => rw [HG.out]; omega
            case rel => exact ⟨k + 1, bb, _, by go_num, rfl, by omega, rfl, HMARK.out, HRES.out, hps3, hg3⟩
          · rw [if_neg hb1] at hmark hres
            have HMARK := Lib.hid hmark
            have HRES := Lib.hid hres
            have hb2 : (bb == 1) = false := by simp [hb1]
            clear hres hmk hmark hbr hb1 hr
            go_wp2_with (refine wpList_lookS rfl (.tmp 20) (.tmp 21) rfl b 4 markF rfl HM2.out x hxl rfl bb true (by rw [HMK.out]; rfl) (by rw [HMK.out]; rfl) ?_)
            go_roundg (N - (k + 1))
            case measure => rw [HG.out]; omega
            case rel => exact ⟨k + 1, bb, l, by go_num, rfl, by omega, rfl, HMARK.out, HRES.out, HPS.out, hgr⟩
        · rw [parseC_bad hmk (fun h => hbr (h.trans hr))] at hres
          have hne : (bb != r) = true := by simp [hbr]
          have hTN := Lib.hid (show parseT s = none by rw [hT.out, ← hres])
          clear hres hmk hbr hr
          go_wp2_with (refine wpList_lookS rfl (.tmp 20) (.tmp 21) rfl b 4 markF rfl HM2.out x hxl rfl bb true (by rw [HMK.out]; rfl) (by rw [HMK.out]; rfl) ?_)
          go_ret2
          exact ⟨by rw [hTN.out]; rfl, hg2'.trans hgr⟩
    · have hkn : k = N := by omega
      subst hkn
      have k1 : ¬ ((k : Int) < k) := by omega
      have hr1 : R = some (i, l) := by
        rw [← hres, List.drop_of_length_le (by rw [HN.out]; exact Nat.le_refl _)]; rfl
      by_cases hi : i = 0
      · subst hi
        have hTS := Lib.hid (show parseT s = some l by rw [hT.out, hr1]; rfl)
        clear hres hr1
        go_wp2_with fail
        go_ret2
        exact ⟨by rw [hTS.out]; exact ⟨_, rfl, HPS.out.mono (Nat.le_trans hg2'.size (Nat.le_refl _))⟩, hg2'.trans hgr⟩
      · have hi2 : (i != 0) = true := by simp [hi]
        have hTS := Lib.hid (show parseT s = none by rw [hT.out, hr1]; exact if_neg hi)
        clear hres hr1
        go_wp2_with fail
        go_ret2
        exact ⟨by rw [hTS.out]; rfl, hg2'.trans hgr⟩
end Go.Proofs.YtakgddochbcjbaaDoor
