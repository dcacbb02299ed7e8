/- The document's merge: ended, Plain, Pick, Merge. -/
import Derived.Test.YtakgddochbcjbaaDoorPkMergeAll
import Derived.Test.YtakgddochbcjbaaDoorPkRefMarks
import Derived.Test.YtakgddochbcjbaaDoorPkRefLines
import Derived.Test.YtakgddochbcjbaaDoorPkRefOf
namespace Go.Proofs.YtakgddochbcjbaaDoor
open Go.RowKit Go.Deep Go.MapKept

/-- a text that ends with its last line -/
def endT (s : ByteArray) : ByteArray := tx (endL s.data.toList)
theorem tx_appT (l m : List UInt8) : tx (l ++ m) = tx l ++ tx m := by
  apply ByteArray.ext
  rw [ByteArray.data_append]
  simp [tx]
theorem byte_getT {p : ByteArray} {k : Nat} (h : k < p.size) : p.data.toList[k]? = some p[k] := by
  rw [Array.getElem?_toList]
  exact Array.getElem?_eq_getElem h
theorem endL_last {l : List UInt8} {b : UInt8} {k : Nat} (hl : l.length = k + 1) (hb : l[k]? = some b) : endL l = if b = 10 then l else l ++ [10] := by
  have h0 : l ≠ [] := by rintro rfl; cases hl
  have hd : l = l.dropLast ++ [b] := by
    conv => lhs; rw [← List.dropLast_concat_getLast h0]
    congr 2
    rw [List.getLast_eq_getElem]
    have : l[l.length - 1]? = some b := by rw [hl]; exact hb
    rw [List.getElem?_eq_getElem (by omega)] at this
    exact Option.some.inj this
  rw [endL, if_neg h0]
  by_cases h : b = 10
  · subst h
    rw [if_pos rfl, if_pos]
    rw [hd]
    simp [Lib.hasSuffix]
  · rw [if_neg h, if_neg]
    intro hs
    rw [Lib.hasSuffix, List.isSuffixOf_iff_suffix] at hs
    obtain ⟨u, hu⟩ := hs
    rw [hd] at hu
    have := (List.append_inj' hu rfl).2
    simp at this
    exact h this.symm
set_option maxRecDepth 100000 in
set_option maxHeartbeats 1000000 in
theorem rended_any (s : ByteArray) (w : World) (hs : s.size ≤ 1000000000000) :
    Calls Tryd.prog 54 #[.string s] w fun e w' => e = .returned (.string (endT s)) ∧ w = w' := by
  by_cases h0 : s.size = 0
  · have h0' : ¬ (((s.size : Nat) : Int) > 0) := by omega
    have he : endT s = s := by
      have h1 : s.data.toList = [] := List.eq_nil_of_length_eq_zero (by rw [Array.length_toList]; exact h0)
      have h2 : endT s = tx s.data.toList := by rw [endT, h1]; rfl
      rw [h2, tx_data]
    have HE := Lib.hid he
    clear he
    go_enter Tryd.func54, Tryd.ntmps54
    go_wp2_with fail
    go_ret
    exact ⟨by rw [HE.out]; rfl, rfl⟩
  · have h0' : ((s.size : Nat) : Int) > 0 := by omega
    obtain ⟨k, hk⟩ : ∃ k, s.size = k + 1 := ⟨s.size - 1, by omega⟩
    have hlt : k < s.size := by omega
    have hget := byte_getT hlt
    have hel := Lib.hid (endL_last (l := s.data.toList) (by rw [Array.length_toList]; exact hk) hget)
    have e1 : ((s.size : Nat) : Int) - 1 = k := by omega
    have k0 : (0 : Int) ≤ k := by omega
    have k1 : (k : Int) < s.size := by omega
    cases he : (((s[k]).toNat : Int) == 10) with
    | true =>
      have hf := Lib.hid (show endT s = s by
        rw [endT, hel.out, if_pos, tx_data]
        have h1 : (s[k]).toNat = 10 := by have := beq_iff_eq.1 he; omega
        exact UInt8.toNat_inj.1 h1)
      clear hel hk
      go_enter Tryd.func54, Tryd.ntmps54
      go_wp2_with fail
      go_ret
      exact ⟨by rw [hf.out]; rfl, rfl⟩
    | false =>
      have hf := Lib.hid (show endT s = s ++ { data := #[10] } by
        rw [endT, hel.out, if_neg]
        · rw [tx_appT, tx_data]; rfl
        · intro h1
          rw [h1] at he
          simp at he)
      clear hel hk
      go_enter Tryd.func54, Tryd.ntmps54
      go_wp2_with fail
      go_ret
      exact ⟨by rw [hf.out]; rfl, rfl⟩

/-- which mark an ended line is: none -/
theorem rmark_neg (x : ByteArray) : (rmarkI x < 0 ↔ markF x = none) ∧ (markF x = none ∨ 0 ≤ rmarkI x) := by
  rw [markF_rmark]
  have h : rmarkI x = -1 ∨ 0 ≤ rmarkI x := by
    unfold rmarkI
    split
    · right; decide
    · split
      · right; decide
      · split
        · right; decide
        · split
          · right; decide
          · left; rfl
  rcases h with h | h
  · rw [if_pos h]; exact ⟨⟨fun _ => rfl, fun _ => by omega⟩, .inl rfl⟩
  · rw [if_neg (by omega)]; exact ⟨⟨fun h2 => by omega, fun h2 => by cases h2⟩, .inr h⟩
/-- a line of a text, ended: as the code ends it, and as the document does -/
theorem ended_line {x : ByteArray} {m : Bool} (h : okLine m x.data.toList = true) : endedL x = endT x := by
  have h0 : x.data.toList ≠ [] := by
    rintro h0
    rw [h0] at h
    simp [okLine] at h
  obtain ⟨u, b, hu⟩ := split_end h0
  rw [endedL, endT, hu, endL_last (b := b) (k := u.length) (by simp) (by simp)]
  by_cases hb : b = 10
  · subst hb
    rw [if_pos rfl]
    have : Lib.trimSuffix (u ++ [10]) [10] = u := by simp [Lib.trimSuffix, Lib.hasSuffix]
    rw [this, tx_appT]
    rfl
  · rw [if_neg hb]
    have hs : Lib.hasSuffix (u ++ [b]) [10] = false := by
      cases hq : Lib.hasSuffix (u ++ [b]) [10] with
      | false => rfl
      | true =>
        rw [Lib.hasSuffix, List.isSuffixOf_iff_suffix] at hq
        obtain ⟨v, hv⟩ := hq
        have := (List.append_inj' hv rfl).2
        simp at this
        exact absurd this.symm hb
    have : Lib.trimSuffix (u ++ [b]) [10] = u ++ [b] := by simp [Lib.trimSuffix, hs]
    rw [this, tx_appT (u ++ [b])]
    rfl
theorem good_each : ∀ {l : List (List UInt8)}, good l = true → ∀ x ∈ l, ∃ m, okLine m x = true
  | [x], h, y, hy => by rw [List.mem_singleton.1 hy]; exact ⟨false, h⟩
  | x :: z :: l, h, y, hy => by
    rw [good, Bool.and_eq_true] at h
    rcases List.mem_cons.1 hy with rfl | hy
    · exact ⟨true, h.1⟩
    · exact good_each h.2 y hy
theorem line_mark {s : ByteArray} {k : Nat} (h : k < (linesT s).length) : isMark (gs (linesT s) k) = (markF (endT (gs (linesT s) k))).isSome := by
  have hm : gs (linesT s) k ∈ linesT s := by
    rw [gs_def, List.getD_eq_getElem?_getD, List.getElem?_eq_getElem h]
    exact List.getElem_mem h
  obtain ⟨m, hok⟩ := good_each (show good (bl (linesT s)) = true from good_lines s) _ (List.mem_map.2 ⟨_, hm, rfl⟩)
  rw [isMark, ended_line hok]
set_option maxRecDepth 100000 in
set_option maxHeartbeats 1000000 in
theorem rplain_any (s : ByteArray) (w : World) (hs : s.size ≤ 10000) :
    Calls Tryd.prog 23 #[.string s] w fun e w' => e = .returned (.bool (plainT s)) ∧ Grows w w' := by
  have hnS := Lib.hid (lines_le s)
  have hfl := Lib.hid (flat_lines s)
  go_enter Tryd.func23, Tryd.ntmps23
  go_wp2_with fail
  refine (rsplit_any s w (by omega)).mono ?_
  rintro e w1 ⟨v, rfl, hown, hg1⟩
  obtain ⟨A, c, rfl, hc, _⟩ := own_form hown
  have HR := Lib.hid (Reads.of_own hown)
  have HLM := Lib.hid (fun k (h : k < (linesT s).length) => line_mark (s := s) h)
  have HG1 := Lib.hid hg1
  clear hown hg1
  obtain ⟨ls, hls⟩ : ∃ ls, linesT s = ls := ⟨_, rfl⟩
  have hpt := Lib.hid (show plainT s = !ls.any isMark by rw [← hls]; rfl)
  rw [hls] at HR hnS hfl HLM hc
  try rw [hls]
  clear hls
  have hnn := hnS.out
  go_wp2_with fail
  go_loopg [4] ls.length (fun gk q wr => Grows w1 wr ∧ ∃ k : Nat, q = .int .i64 k ∧ k ≤ ls.length ∧ gk = ls.length - k ∧ (ls.take k).any isMark = false)
  case atStart => exact ⟨Grows.refl _, 0, rfl, by omega, rfl, rfl⟩
  case round =>
    obtain ⟨hgr, k, rfl, hk, hgk, hno⟩ := hrel
    have HG := Lib.hid hgk
    have HN := Lib.hid hno
    have HGR := Lib.hid hgr
    clear hgk hno hgr
    by_cases hlt : k < ls.length
    · have k0 : (0 : Int) ≤ k := by omega
      have k1 : (k : Int) < ls.length := by omega
      obtain ⟨ad, rfl, had, p0⟩ := (HR.out.grows (Nat.le_refl _) HGR.out).str hlt
      have hxz : (gs ls k).size ≤ 10000 := by have h1 := gs_flat hlt; rw [hfl.out] at h1; omega
      have hct := Lib.hid (any_snoc (xs := ls) (k := k) hlt)
      have hah := Lib.hid (any_hit (xs := ls) (k := k) hlt)
      have hlm := Lib.hid (HLM.out k hlt)
      have hrn := rmark_neg (endT (gs ls k))
      obtain ⟨x, hx⟩ : ∃ x, gs ls k = x := ⟨_, rfl⟩
      rw [hx] at p0 hct hah hxz hlm hrn
      clear hx
      go_wp2_with fail
      refine (rended_any x wr (by omega)).mono ?_
      rintro e w2 ⟨rfl, hw2⟩
      subst hw2
      go_wp2_with fail
      refine (rmark_any (endT x) wr).mono ?_
      rintro e w3 ⟨rfl, hg3⟩
      obtain ⟨r, hr⟩ : ∃ r, r = rmarkI (endT x) := ⟨_, rfl⟩
      rw [← hr] at hrn ⊢
      cases hmk : markF (endT x) with
      | none =>
        have hneg : ¬ (0 ≤ r) := by have := hrn.1.2 hmk; omega
        have hf := Lib.hid (show (ls.take (k + 1)).any isMark = false by rw [hct.out, HN.out, hlm.out, hmk]; rfl)
        clear hrn hmk hr
        go_wp2_with fail
        go_roundg (ls.length - (k + 1))
        case measure => rw [HG.out]; omega
        case rel => exact ⟨HGR.out.trans hg3, k + 1, by go_num, by omega, rfl, hf.out⟩
      | some b =>
        have hpos : 0 ≤ r := by
          rcases hrn.2 with h | h
          · rw [h] at hmk; cases hmk
          · exact h
        have hf := Lib.hid (show ls.any isMark = true from hah.out (by rw [hlm.out, hmk]; rfl))
        clear hrn hmk hr
        go_wp2_with fail
        go_ret
        exact ⟨ret_bool (by rw [hpt.out, hf.out]; rfl), HG1.out.trans (HGR.out.trans hg3)⟩
    · have hkn : k = ls.length := by omega
      have k1 : ¬ ((k : Int) < ls.length) := by omega
      have hf := Lib.hid (show ls.any isMark = false by
        have := HN.out
        rw [List.take_of_length_le (by omega)] at this
        exact this)
      go_wp2_with fail
      go_ret
      exact ⟨ret_bool (by rw [hpt.out, hf.out]; rfl), HG1.out.trans HGR.out⟩

/-- one side of chunks -/
def sideC (ours : Bool) (c : ChkB) : List ByteArray := if ours = true then c.2.2.1 else c.2.2.2
def pickTo (l : List ChkB) (ours : Bool) (k : Nat) : List UInt8 := (l.take k).flatMap fun c => flatS (sideC ours c)
theorem pickTo_succ {l : List ChkB} {ours : Bool} {k : Nat} (h : k < l.length) : pickTo l ours (k + 1) = pickTo l ours k ++ flatS (sideC ours (gch l k)) := by
  rw [pickTo, List.take_succ_eq_append_getElem h, List.flatMap_append, pickTo]
  congr 1
  simp [gch, List.getElem?_eq_getElem h]
theorem pickTo_le {l : List ChkB} {ours : Bool} (k : Nat) : (pickTo l ours k).length ≤ (pickTo l ours l.length).length := by
  rw [pickTo, pickTo, List.take_length]
  conv => rhs; rw [← List.take_append_drop k l, List.flatMap_append, List.length_append]
  omega
theorem part_len {l : List ChkB} {k : Nat} (h : k < l.length) (ours : Bool) : (flatS (sideC ours (gch l k))).length ≤ (pickTo l ours l.length).length := by
  have h1 := pickTo_succ (l := l) (ours := ours) h
  have h2 := pickTo_le (l := l) (ours := ours) (k + 1)
  rw [h1, List.length_append] at h2
  omega
/-- how many lines any chunk has, on either side -/
def LinesOK (l : List ChkB) : Prop := ∀ k, k < l.length → (gch l k).2.2.1.length ≤ 1000000000 ∧ (gch l k).2.2.2.length ≤ 1000000000
set_option maxRecDepth 100000 in
set_option maxHeartbeats 1000000 in
theorem rpick_any (B : Nat) (A : Option Addr) (n c : Nat) (l : List ChkB) (ours : Bool) (w : World) (hx : ChunksN w B A n l) (hn : n ≤ 1000000000) (hz : LinesOK l) (hlen : (pickTo l ours l.length).length ≤ 1000000000) :
    Calls Tryd.prog 25 #[.slice A n c, .bool ours] w fun e w' => e = .returned (.string (tx (pickTo l ours l.length))) ∧ w = w' := by
  have HL := Lib.hid hx.1
  have HX := Lib.hid hx
  have HZ := Lib.hid hz
  have HP := Lib.hid (fun k => Nat.le_trans (pickTo_le (l := l) (ours := ours) k) hlen)
  have HQ := Lib.hid (fun k (h : k < l.length) => Nat.le_trans (part_len h ours) hlen)
  have h00 := Lib.hid (show tx (pickTo l ours 0) = { data := #[] } from rfl)
  clear hx hz hlen
  go_enter Tryd.func25, Tryd.ntmps25
  go_wp2_with fail
  go_loopg [5, 6] n (fun gk o q wr => w = wr ∧ ∃ k : Nat, q = .int .i64 k ∧ k ≤ n ∧ gk = n - k ∧ o = .string (tx (pickTo l ours k)))
  case atStart => exact ⟨rfl, 0, rfl, by omega, rfl, by rw [h00.out]⟩
  case round =>
    obtain ⟨rfl, k, rfl, hk, hgk, rfl⟩ := hrel
    have HG := Lib.hid hgk
    clear hgk
    by_cases hlt : k < n
    · have k0 : (0 : Int) ≤ k := by omega
      have k1 : (k : Int) < n := by omega
      have hkl : k < l.length := by rw [HL.out]; exact hlt
      obtain ⟨ad, rfl, had, p0, ⟨A1, n1, e1, p1, r1, y1⟩, ⟨A2, n2, e2, p2, r2, y2⟩, ⟨A3, n3, e3, p3, r3, y3⟩⟩ := HX.out.at_ hlt
      have hst := pickTo_succ (l := l) (ours := ours) hkl
      have hq := HQ.out k hkl
      have hp := HP.out k
      have hpz : (tx (pickTo l ours k)).size ≤ 1000000000 := by rw [tx_size]; exact hp
      obtain ⟨z1, z2⟩ := HZ.out k hkl
      have l2 := r2.strLen
      have l3 := r3.strLen
      cases ours with
      | true =>
        rw [show sideC true (gch l k) = (gch l k).2.2.1 from rfl] at hst hq
        generalize (gch l k).2.2.1 = x at r2 hst hq l2 z1
        have HS := Lib.hid (show tx (pickTo l true (k + 1)) = tx (pickTo l true k) ++ joinT x by rw [hst, tx_appT]; rfl)
        have hjz : (joinT x).size ≤ 1000000000 := by rw [joinT_size]; exact hq
        have HJ := Lib.hid (rjoin_any B A2 n2 e2 x w r2 (by omega) (by have : (bl x).flatten.length ≤ 1000000000 := hq; omega))
        clear hst r1 r2 r3 hq
        generalize tx (pickTo l true k) = tk at hpz HS ⊢
        go_wp2_with fail
        refine HJ.out.mono ?_
        rintro e w2 ⟨rfl, hw2⟩
        subst hw2
        go_wp2_with fail
        go_roundg (n - (k + 1))
        case measure => rw [HG.out]; omega
        case rel => exact ⟨rfl, k + 1, by go_num, by omega, rfl, by rw [HS.out]⟩
      | false =>
        rw [show sideC false (gch l k) = (gch l k).2.2.2 from rfl] at hst hq
        generalize (gch l k).2.2.2 = x at r3 hst hq l3 z2
        have HS := Lib.hid (show tx (pickTo l false (k + 1)) = tx (pickTo l false k) ++ joinT x by rw [hst, tx_appT]; rfl)
        have hjz : (joinT x).size ≤ 1000000000 := by rw [joinT_size]; exact hq
        have HJ := Lib.hid (rjoin_any B A3 n3 e3 x w r3 (by omega) (by have : (bl x).flatten.length ≤ 1000000000 := hq; omega))
        clear hst r1 r2 r3 hq
        generalize tx (pickTo l false k) = tk at hpz HS ⊢
        go_wp2_with fail
        refine HJ.out.mono ?_
        rintro e w2 ⟨rfl, hw2⟩
        subst hw2
        go_wp2_with fail
        go_roundg (n - (k + 1))
        case measure => rw [HG.out]; omega
        case rel => exact ⟨rfl, k + 1, by go_num, by omega, rfl, by rw [HS.out]⟩
    · have hkn : k = n := by omega
      have k1 : ¬ ((k : Int) < n) := by omega
      have hf := Lib.hid (show tx (pickTo l ours k) = tx (pickTo l ours l.length) by rw [hkn, HL.out])
      generalize tx (pickTo l ours k) = tk at hf ⊢
      go_wp2_with fail
      go_ret
      exact ⟨by rw [← hf.out]; rfl, rfl⟩
set_option maxRecDepth 100000 in
set_option maxHeartbeats 1000000 in
theorem pick_any (B : Nat) (A : Option Addr) (n c : Nat) (l : List ChkB) (ours : Bool) (w : World) (hx : ChunksN w B A n l) (hB : B ≤ w.heap.size) (hn : n ≤ 1000000000) (hz : LinesOK l) (hlen : (pickTo l ours l.length).length ≤ 1000000000) :
    Calls Tryd.prog 24 #[.slice A n c, .bool ours] w fun e w' => e = .returned (.string (tx (pickTo l ours l.length))) ∧ Grows w w' := by
  have HL := Lib.hid hx.1
  have HX := Lib.hid hx
  have HZ := Lib.hid hz
  have HP := Lib.hid (fun k => Nat.le_trans (pickTo_le (l := l) (ours := ours) k) hlen)
  have HQ := Lib.hid (fun k (h : k < l.length) => Nat.le_trans (part_len h ours) hlen)
  clear hx hz hlen
  have htb := TextB.fresh w
  have hgn := (Grows.refl w).alloc (.cells #[.pointer none, .slice none 0 0] TXT)
  go_enter Tryd.func24, Tryd.ntmps24
  go_wp2_with fail
  generalize w.alloc (.cells #[.pointer none, .slice none 0 0] TXT) = w6 at htb hgn ⊢
  go_loopg [10] n (fun gk q wr => Grows w wr ∧ ∃ k : Nat, q = .int .i64 k ∧ k ≤ n ∧ gk = n - k ∧ TextB w.heap.size w.heap.size (pickTo l ours k) wr)
  case atStart => exact ⟨hgn, 0, rfl, by omega, rfl, htb⟩
  case round =>
    obtain ⟨hgr, k, rfl, hk, hgk, htx⟩ := hrel
    have HG := Lib.hid hgk
    have HT := Lib.hid htx
    have HGR := Lib.hid hgr
    clear hgk htx hgr htb hgn
    have hzr := HGR.out.size
    by_cases hlt : k < n
    · have k0 : (0 : Int) ≤ k := by omega
      have k1 : (k : Int) < n := by omega
      have hkl : k < l.length := by rw [HL.out]; exact hlt
      obtain ⟨ad, rfl, had, p0, ⟨A1, n1, e1, p1, r1, y1⟩, ⟨A2, n2, e2, p2, r2, y2⟩, ⟨A3, n3, e3, p3, r3, y3⟩⟩ := (HX.out.grows hB HGR.out).at_ hlt
      have hst := pickTo_succ (l := l) (ours := ours) hkl
      have hq := HQ.out k hkl
      have hp := HP.out k
      obtain ⟨z1, z2⟩ := HZ.out k hkl
      have l2 := r2.strLen
      have l3 := r3.strLen
      generalize (gch l k).1 = kd at p0
      have hga := (Grows.refl wr).alloc (.cells #[.int .i64 kd, .slice A1 n1 e1, .slice A2 n2 e2, .slice A3 n3 e3] 36)
      have hba := Blk.new wr 36 #[.int .i64 kd, .slice A1 n1 e1, .slice A2 n2 e2, .slice A3 n3 e3]
      have HTA := Lib.hid (HT.out.grows hga)
      have hzB : B ≤ wr.heap.size := Nat.le_trans hB hzr
      have r2a := r2.grows hzB hga
      have r3a := r3.grows hzB hga
      cases ours with
      | true =>
        rw [show sideC true (gch l k) = (gch l k).2.2.1 from rfl] at hst hq
        generalize (gch l k).2.2.1 = x at r2a r2 hst hq l2 z1
        have HS := Lib.hid hst
        have R2 := Lib.hid r2a
        clear hst r1 r2 r3 r2a r3a HT
        go_wp2_with fail
        refine (tput_any w.heap.size w.heap.size B A2 n2 e2 (pickTo l true k) x _ HTA.out (Nat.le_trans hzr hga.size) R2.out (Nat.le_trans hzB hga.size) (by omega) y2.1 (by have : (bl x).flatten.length ≤ 1000000000 := hq; omega)).mono ?_
        rintro e wd ⟨rfl, htd, hbd⟩
        have HTD := Lib.hid htd
        have HBD := Lib.hid (show Grows w wd from Below.trans (HGR.out.trans hga) hbd.1)
        clear htd hbd
        go_wp2_with fail
        go_roundg (n - (k + 1))
        case measure => rw [HG.out]; omega
        case rel => exact ⟨HBD.out, k + 1, by go_num, by omega, rfl, by rw [HS.out]; exact HTD.out⟩
      | false =>
        rw [show sideC false (gch l k) = (gch l k).2.2.2 from rfl] at hst hq
        generalize (gch l k).2.2.2 = x at r3a r3 hst hq l3 z2
        have HS := Lib.hid hst
        have R3 := Lib.hid r3a
        clear hst r1 r2 r3 r2a r3a HT
        go_wp2_with fail
        refine (tput_any w.heap.size w.heap.size B A3 n3 e3 (pickTo l false k) x _ HTA.out (Nat.le_trans hzr hga.size) R3.out (Nat.le_trans hzB hga.size) (by omega) y3.1 (by have : (bl x).flatten.length ≤ 1000000000 := hq; omega)).mono ?_
        rintro e wd ⟨rfl, htd, hbd⟩
        have HTD := Lib.hid htd
        have HBD := Lib.hid (show Grows w wd from Below.trans (HGR.out.trans hga) hbd.1)
        clear htd hbd
        go_wp2_with fail
        go_roundg (n - (k + 1))
        case measure => rw [HG.out]; omega
        case rel => exact ⟨HBD.out, k + 1, by go_num, by omega, rfl, by rw [HS.out]; exact HTD.out⟩
    · have hkn : k = n := by omega
      have k1 : ¬ ((k : Int) < n) := by omega
      have hf := Lib.hid (show pickTo l ours k = pickTo l ours l.length by rw [hkn, HL.out])
      rw [hf.out] at HT
      go_wp2_with fail
      refine (bstr_any _ _ _ wr HT.out hzr).mono ?_
      rintro e w8 ⟨rfl, -, hb8⟩
      go_wp2_with fail
      go_ret
      exact ⟨rfl, Below.trans HGR.out hb8.1⟩
end Go.Proofs.YtakgddochbcjbaaDoor
