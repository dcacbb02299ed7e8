/- The document's Split, Join, Whole of lines. -/
import Derived.Test.YtakgddochbcjbaaDoorPkRefMarks
import Derived.Test.YtakgddochbcjbaaDoorPkRefPath
namespace Go.Proofs.YtakgddochbcjbaaDoor
open Go.RowKit Go.Deep Go.MapKept

theorem lines_last {L : List UInt8} {fr : Nat} {ys : List ByteArray} (h : CutT 10 1 L L.length fr ys) : (lnL L).map tx = if fr < L.length then ys ++ [tx (L.drop fr)] else ys := by
  have h1 := h.last
  have h2 : sp 10 1 L = bl ys ++ [L.drop fr] := by
    have := congrArg bl h1
    rw [bl_tx] at this
    rw [this, bl, List.map_append, List.map_cons, List.map_nil, data_tx]
    rfl
  rw [lnL, h2, dropE, List.getLast?_concat, List.dropLast_concat]
  by_cases hfr : fr < L.length
  · have h0 : L.drop fr ≠ [] := by
      intro e
      have := congrArg List.length e
      simp only [List.length_drop, List.length_nil] at this
      omega
    rw [if_neg (by simpa using h0), if_pos hfr, List.map_append, tx_bl]
    rfl
  · have h0 : L.drop fr = [] := List.drop_eq_nil_of_le (by omega)
    rw [if_pos (by rw [h0]), if_neg hfr, tx_bl]

set_option maxRecDepth 100000 in
set_option maxHeartbeats 1000000 in
theorem rsplit_any (p : ByteArray) (w : World) (hs : p.size ≤ 1000000000) :
    Calls Tryd.prog 27 #[.string p] w fun e w' => ∃ v, e = .returned v ∧ w'.ownsRow w.heap.size 9 1 v (linesT p).length (strs (linesT p)) ∧ Grows w w' := by
  have hL := Lib.hid (show p.data.toList.length = p.size from Array.length_toList)
  obtain ⟨s0, hs0, hs1, hs2, hs3⟩ := info_parts Tryd.infoStr
  go_enter Tryd.func27, Tryd.ntmps27
  go_wp2
  go_loopg [5, 4, 3] p.size (fun gk q f v wr => ∃ (k fr : Nat) (ys : List ByteArray), q = .int .i64 k ∧ f = .int .i64 fr ∧ k ≤ p.size ∧ fr ≤ k ∧ gk = p.size - k ∧ CutT 10 1 p.data.toList k fr ys ∧ ys.length ≤ p.size ∧ wr.ownsRow w.heap.size 9 1 v ys.length (strs ys) ∧ Grows w wr)
  case atStart => exact ⟨0, 0, [], rfl, rfl, by omega, by omega, rfl, CutT.start _ _ _, by simp, World.ownsRow_nil _ _ _ _, Grows.refl _⟩
  case round =>
    obtain ⟨k, fr, ys, rfl, rfl, hk, hfk, hgk, hcut, hyl, hown, hgr⟩ := hrel
    have HG := Lib.hid hgk; clear hgk
    have HC := Lib.hid hcut; clear hcut
    have hsz := hgr.size
    by_cases hlt : k < p.size
    · have k0 : (0 : Int) ≤ k := by omega
      have k1 : (k : Int) < p.size := by omega
      have hget := Lib.hid (byte_get hlt)
      cases hb : ((p[k].toNat : Int) == 10) with
      | true =>
        have hget2 := Lib.hid (show p.data.toList[k]? = some 10 by rw [hget.out]; exact congrArg some ((byte_is (n := 10) (by decide)).1 hb))
        have hcut2 := Lib.hid (HC.out.cut1 hget2.out)
        have hex := Lib.hid (tx_ext p fr (k + 1))
        go_wp2_with (at_builtin; refine wpList_push rfl (.tmp 16) (.tmp 22) _ rfl (w.heap.size) 9 s0 _ 1 16 Tryd.underlying28 hs0 hs1 hs2 hs3 rfl (by decide) _ _ _ rfl ((hown).alloc _) ⟨(wr).heap.size, 0, none⟩ 1 1 [.string (p.extract fr (k + 1))] rfl rfl (cell_one_new _ _ _) (by intro u hu; simp at hu; subst hu; rfl) (by simp only [maxLen]; omega) (by omega) (by simp; omega) ?_; intro v' w1 hown1 hb1; have hgr1 : Grows w w1 := Below.trans (hgr.alloc _) hb1)
        go_roundg (p.size - (k + 1))
        case measure => rw [HG.out]; omega
        case rel => exact ⟨k + 1, k + 1, ys ++ [p.extract fr (k + 1)], by go_num, by go_num, by omega, by omega, rfl, by rw [hex.out]; exact hcut2.out, by have := hcut2.out.len; rw [hL.out] at this; simpa using this, by rw [strs_append, strs_one, List.length_append]; exact hown1, hgr1⟩
      | false =>
        have hne := Lib.hid (show p[k] ≠ 10 from fun h => Bool.noConfusion (((byte_is (n := 10) (by decide)).2 h).symm.trans hb))
        have hcut2 := Lib.hid (HC.out.pass hget.out hne.out)
        go_wp2
        go_roundg (p.size - (k + 1))
        case measure => rw [HG.out]; omega
        case rel => exact ⟨k + 1, fr, ys, by go_num, rfl, by omega, by omega, rfl, hcut2.out, hyl, hown, hgr⟩
    · have hkp : k = p.size := by omega
      subst hkp
      have hlast := Lib.hid (show linesT p = if fr < p.size then ys ++ [p.extract fr p.size] else ys by
        have h1 := HC.out
        rw [← hL.out] at h1
        rw [tx_ext, linesT, lines_last h1, ← hL.out, List.take_length])
      have k1 : ¬ ((p.size : Int) < p.size) := by omega
      by_cases hfr : fr < p.size
      · have k2 : (fr : Int) < p.size := by omega
        have hl2 := Lib.hid (show linesT p = ys ++ [p.extract fr p.size] by rw [hlast.out, if_pos hfr])
        go_wp2_with (at_builtin; refine wpList_push rfl (.tmp 30) (.tmp 34) _ rfl (w.heap.size) 9 s0 _ 1 16 Tryd.underlying28 hs0 hs1 hs2 hs3 rfl (by decide) _ _ _ rfl ((hown).alloc _) ⟨(wr).heap.size, 0, none⟩ 1 1 [.string (p.extract fr p.size)] rfl rfl (cell_one_new _ _ _) (by intro u hu; simp at hu; subst hu; rfl) (by simp only [maxLen]; omega) (by omega) (by simp; omega) ?_; intro v' w1 hown1 hb1; have hgr1 : Grows w w1 := Below.trans (hgr.alloc _) hb1)
        go_ret
        exact ⟨_, rfl, by rw [hl2.out, strs_append, strs_one, List.length_append]; exact hown1, hgr1⟩
      · have k2 : ¬ ((fr : Int) < p.size) := by omega
        have hl2 := Lib.hid (show linesT p = ys by rw [hlast.out, if_neg hfr])
        go_wp2_with fail
        go_ret
        exact ⟨_, rfl, by rw [hl2.out]; exact hown, hgr⟩

/-- a list's beginning, joined -/
def joinK (l : List ByteArray) (k : Nat) : ByteArray := joinT (l.take k)
theorem joinK_succ {l : List ByteArray} {k : Nat} (h : k < l.length) : joinK l (k + 1) = joinK l k ++ gs l k := by
  rw [joinK, joinK, joinT, joinT, bl, bl, List.take_succ_eq_append_getElem h, List.map_append, List.flatten_append]
  have e : gs l k = l[k] := by rw [gs_def, List.getD_eq_getElem?_getD, List.getElem?_eq_getElem h]; rfl
  rw [e]
  apply ByteArray.ext
  rw [ByteArray.data_append]
  simp [tx]
theorem joinK_all {l : List ByteArray} {n : Nat} (h : l.length = n) : joinK l n = joinT l := by rw [joinK, List.take_of_length_le (by omega)]
theorem joinK_size (l : List ByteArray) (k : Nat) : (joinK l k).size ≤ (bl l).flatten.length := by
  rw [joinK, joinT, tx_size]
  have h1 := congrArg (fun z : List (List UInt8) => z.flatten.length) (List.take_append_drop k (bl l))
  simp only [List.flatten_append, List.length_append] at h1
  rw [bl, List.map_take]
  change ((bl l).take k).flatten.length ≤ _
  omega
set_option maxRecDepth 100000 in
set_option maxHeartbeats 1000000 in
theorem rjoin_any (B : Nat) (A : Option Addr) (n c : Nat) (l : List ByteArray) (w : World) (h : Reads w B 1 A n (strs l)) (hn : n ≤ 1000000000000) (hlen : (bl l).flatten.length ≤ 140737488355328) :
    Calls Tryd.prog 28 #[.slice A n c] w fun e w' => e = .returned (.string (joinT l)) ∧ w = w' := by
  have HL := Lib.hid h.strLen
  have HR := Lib.hid h
  clear h
  have hall := Lib.hid (joinK_all HL.out)
  go_enter Tryd.func28, Tryd.ntmps28
  go_wp2
  go_loopg [4, 3] n (fun gk q v wr => w = wr ∧ ∃ (k : Nat), q = .int .i64 k ∧ k ≤ n ∧ gk = n - k ∧ v = .string (joinK l k))
  case atStart => exact ⟨rfl, 0, rfl, by omega, rfl, rfl⟩
  case round =>
    obtain ⟨rfl, k, rfl, hk, hgk, rfl⟩ := hrel
    have HG := Lib.hid hgk; clear hgk
    by_cases hlt : k < n
    · obtain ⟨ad, rfl, had, p0⟩ := HR.out.str hlt
      have k0 : (0 : Int) ≤ k := by omega
      have k1 : (k : Int) < n := by omega
      have hsu := Lib.hid (joinK_succ (l := l) (k := k) (by rw [HL.out]; exact hlt))
      have hz1 := joinK_size l (k + 1)
      have hz2 : (joinK l k).size + (gs l k).size ≤ 140737488355328 := by
        rw [← ByteArray.size_append, ← hsu.out]; omega
      clear hz1
      go_wp2_with fail
      go_roundg (n - (k + 1))
      case measure => rw [HG.out]; omega
      case rel => exact ⟨rfl, k + 1, by go_num, by omega, rfl, by rw [hsu.out]⟩
    · have hkn : k = n := by omega
      subst hkn
      have k1 : ¬ ((k : Int) < k) := by omega
      go_wp2_with fail
      go_ret
      exact ⟨by rw [hall.out]; rfl, rfl⟩

end Go.Proofs.YtakgddochbcjbaaDoor
