/- The first walks of package diff: begin, end, edits, lines. -/
import Derived.Test.YtakgddochbcjbaaDoorPkLcs
namespace Go.Proofs.YtakgddochbcjbaaDoor
open Go.RowKit Go.Deep Go.MapKept

theorem takeS_succ {xs ys : List ByteArray} {k n m : Nat} (hx : xs.length = n) (hy : ys.length = m) (hk : k < n) (hk' : k < m) (h : xs.take k = ys.take k) (he : ((gs xs k).toList == (gs ys k).toList) = true) : xs.take (k + 1) = ys.take (k + 1) := by
  rw [← beq_toListBytes, bytes_beq] at he
  rw [List.take_succ_eq_append_getElem (by omega), List.take_succ_eq_append_getElem (by omega), h]
  have e1 : gs xs k = xs[k] := by simp [gs, List.getElem?_eq_getElem (show k < xs.length by omega)]
  have e2 : gs ys k = ys[k] := by simp [gs, List.getElem?_eq_getElem (show k < ys.length by omega)]
  rw [e1, e2] at he
  rw [he]
theorem begS_stop {xs ys : List ByteArray} {k n m : Nat} (hx : xs.length = n) (hy : ys.length = m) (hk : k < n) (hk' : k < m) (h : xs.take k = ys.take k) (he : ((gs xs k).toList == (gs ys k).toList) = false) : beg xs ys = k := by
  have e1 : xs[k]? = some (gs xs k) := by simp [gs, List.getElem?_eq_getElem (show k < xs.length by omega)]
  have e2 : ys[k]? = some (gs ys k) := by simp [gs, List.getElem?_eq_getElem (show k < ys.length by omega)]
  refine beg_stop e1 e2 h fun hh => ?_
  rw [hh] at he
  simp at he

set_option maxRecDepth 100000 in
set_option maxHeartbeats 1000000 in
theorem begin_any (B B' : Nat) (A A' : Option Addr) (n m c c' : Nat) (xs ys : List ByteArray) (w : World) (hx : Reads w B 1 A n (strs xs)) (hy : Reads w B' 1 A' m (strs ys)) (hn : n ≤ maxLen) (hm : m ≤ maxLen) :
    Calls Tryd.prog 94 #[.slice A n c, .slice A' m c'] w fun e w' => e = .returned (.int .i64 (beg xs ys : Nat)) ∧ ∃ m, w' = w.drewN m := by
  unfold maxLen at hn hm
  have HLx := Lib.hid hx.strLen
  have HLy := Lib.hid hy.strLen
  have HX := Lib.hid hx; clear hx
  have HY := Lib.hid hy; clear hy
  go_enter Tryd.func94, Tryd.ntmps94
  go_wp2
  go_loopg [5] n (fun gk q wr => (∃ m, wr = w.drewN m) ∧ ∃ k : Nat, q = .int .i64 k ∧ k ≤ n ∧ k ≤ m ∧ gk = n - k ∧ xs.take k = ys.take k)
  case atStart => exact ⟨⟨0, rfl⟩, 0, rfl, by omega, by omega, rfl, rfl⟩
  case round =>
    obtain ⟨⟨d, rfl⟩, k, rfl, hk, hk2, hgk, hno⟩ := hrel
    have HG := Lib.hid hgk; clear hgk
    have HN := Lib.hid hno; clear hno
    have k0 : (0 : Int) ≤ k := by omega
    cases h1 : decide (k < n) with
    | false =>
      have hf := Lib.hid (show beg xs ys = k from beg_end HN.out (.inl (by simp at h1; rw [HLx.out]; omega)) (by rw [HLx.out]; omega) (by rw [HLy.out]; omega))
      have h1' : decide ((k : Int) < n) = false := by simp at h1 ⊢; omega
      go_wp2
      go_quiet (fail)
      go_wp2
      go_ret
      exact ⟨by rw [hf.out]; rfl, d + nq, by rw [World.drewN_drewN]⟩
    | true =>
      have hlt : k < n := by simpa using h1
      have h1' : decide ((k : Int) < n) = true := by simp; omega
      obtain ⟨ad, rfl, had, hc⟩ := HX.out.str hlt
      cases h2 : decide (k < m) with
      | false =>
        have hf := Lib.hid (show beg xs ys = k from beg_end HN.out (.inr (by simp at h2; rw [HLy.out]; omega)) (by rw [HLx.out]; omega) (by rw [HLy.out]; omega))
        have h2' : decide ((k : Int) < m) = false := by simp at h2 ⊢; omega
        go_wp2
        go_quiet (fail)
        go_wp2
        go_ret
        exact ⟨by rw [hf.out]; rfl, d + nq, by rw [World.drewN_drewN]⟩
      | true =>
        have hlt2 : k < m := by simpa using h2
        have h2' : decide ((k : Int) < m) = true := by simp; omega
        have k1 : (k : Int) < n := by omega
        have k2 : (k : Int) < m := by omega
        obtain ⟨ad', rfl, had', hc'⟩ := HY.out.str hlt2
        cases he : ((gs xs k).toList == (gs ys k).toList) with
        | true =>
          have hf := Lib.hid (takeS_succ HLx.out HLy.out hlt hlt2 HN.out he)
          go_wp2
          go_quiet (fail)
          go_wp2
          go_roundg (n - (k + 1))
          case measure => rw [HG.out]; omega
          case rel => exact ⟨⟨_, rfl⟩, k + 1, by go_num, by omega, by omega, rfl, hf.out⟩
        | false =>
          have hf := Lib.hid (begS_stop HLx.out HLy.out hlt hlt2 HN.out he)
          go_wp2
          go_quiet (fail)
          go_wp2
          go_ret
          exact ⟨by rw [hf.out]; rfl, d + nq, by rw [World.drewN_drewN]⟩

theorem dropS_more {xs ys : List ByteArray} {i j : Nat} (hi : i < xs.length) (hj : j < ys.length) (h : xs.drop (i + 1) = ys.drop (j + 1)) (he : ((gs xs i).toList == (gs ys j).toList) = true) : xs.drop i = ys.drop j := by
  rw [← beq_toListBytes, bytes_beq] at he
  rw [List.drop_eq_getElem_cons hi, List.drop_eq_getElem_cons hj, h]
  have e1 : gs xs i = xs[i] := by simp [gs, List.getElem?_eq_getElem hi]
  have e2 : gs ys j = ys[j] := by simp [gs, List.getElem?_eq_getElem hj]
  rw [e1, e2] at he
  rw [he]
theorem wrap_small {x : Int} (h0 : 0 ≤ x) (h1 : x ≤ 9223372036854775807) : IntKind.i64.wrap x = x := by rw [IntKind.wrap_i64]; omega

set_option maxRecDepth 100000 in
set_option maxHeartbeats 1000000 in
theorem end_any (B B' : Nat) (A A' : Option Addr) (n m c c' : Nat) (xs ys : List ByteArray) (w : World) (hx : Reads w B 1 A n (strs xs)) (hy : Reads w B' 1 A' m (strs ys)) (hn : n ≤ maxLen) (hm : m ≤ maxLen) :
    Calls Tryd.prog 95 #[.slice A n c, .slice A' m c'] w fun e w' => ∃ k : Nat, e = .returned (.int .i64 k) ∧ (k ≤ n ∧ k ≤ m ∧ xs.drop (n - k) = ys.drop (m - k)) ∧ ∃ d, w' = w.drewN d := by
  unfold maxLen at hn hm
  have HLx := Lib.hid hx.strLen
  have HLy := Lib.hid hy.strLen
  have HX := Lib.hid hx; clear hx
  have HY := Lib.hid hy; clear hy
  go_enter Tryd.func95, Tryd.ntmps95
  go_wp2
  go_loopg [5] n (fun gk q wr => (∃ d, wr = w.drewN d) ∧ ∃ k : Nat, q = .int .i64 k ∧ k ≤ n ∧ k ≤ m ∧ gk = n - k ∧ xs.drop (n - k) = ys.drop (m - k))
  case atStart => exact ⟨⟨0, rfl⟩, 0, rfl, by omega, by omega, rfl, by rw [List.drop_eq_nil_of_le (by rw [HLx.out]; omega), List.drop_eq_nil_of_le (by rw [HLy.out]; omega)]⟩
  case round =>
    obtain ⟨⟨d, rfl⟩, k, rfl, hk, hk2, hgk, hno⟩ := hrel
    have HG := Lib.hid hgk; clear hgk
    have HN := Lib.hid hno; clear hno
    have k0 : (0 : Int) ≤ k := by omega
    cases h1 : decide (k < n) with
    | false =>
      have h1' : decide ((k : Int) < n) = false := by simp at h1 ⊢; omega
      go_wp2
      go_quiet (fail)
      go_wp2
      go_ret
      exact ⟨k, rfl, ⟨hk, hk2, HN.out⟩, d + nq, by rw [World.drewN_drewN]⟩
    | true =>
      have hlt : k < n := by simpa using h1
      have h1' : decide ((k : Int) < n) = true := by simp; omega
      cases h2 : decide (k < m) with
      | false =>
        have h2' : decide ((k : Int) < m) = false := by simp at h2 ⊢; omega
        go_wp2
        go_quiet (fail)
        go_wp2
        go_ret
        exact ⟨k, rfl, ⟨hk, hk2, HN.out⟩, d + nq, by rw [World.drewN_drewN]⟩
      | true =>
        have hlt2 : k < m := by simpa using h2
        have h2' : decide ((k : Int) < m) = true := by simp; omega
        obtain ⟨n1, hn1⟩ : ∃ n1, n = n1 + 1 := ⟨n - 1, by omega⟩
        obtain ⟨m1, hm1⟩ : ∃ m1, m = m1 + 1 := ⟨m - 1, by omega⟩
        obtain ⟨i, hi⟩ : ∃ i, i = n1 - k := ⟨_, rfl⟩
        obtain ⟨j, hj⟩ : ∃ j, j = m1 - k := ⟨_, rfl⟩
        have a1 : IntKind.i64.wrap ((n : Int) - 1) = (n1 : Int) := by rw [wrap_small (by omega) (by omega)]; omega
        have a2 : IntKind.i64.wrap ((n1 : Int) - (k : Int)) = (i : Int) := by rw [wrap_small (by omega) (by omega)]; omega
        have a3 : IntKind.i64.wrap ((m : Int) - 1) = (m1 : Int) := by rw [wrap_small (by omega) (by omega)]; omega
        have a4 : IntKind.i64.wrap ((m1 : Int) - (k : Int)) = (j : Int) := by rw [wrap_small (by omega) (by omega)]; omega
        have b1 : (0 : Int) ≤ i := by omega
        have b2 : (i : Int) < n := by omega
        have b3 : (0 : Int) ≤ j := by omega
        have b4 : (j : Int) < m := by omega
        obtain ⟨ad, rfl, had, hc⟩ := HX.out.str (k := i) (by omega)
        obtain ⟨ad', rfl, had', hc'⟩ := HY.out.str (k := j) (by omega)
        have c1 := Lib.hid (show n - k = i + 1 by omega)
        have c2 := Lib.hid (show m - k = j + 1 by omega)
        have c3 := Lib.hid (show n - (k + 1) = i by omega)
        have c4 := Lib.hid (show m - (k + 1) = j by omega)
        have c5 := Lib.hid (show i < xs.length by rw [HLx.out]; omega)
        have c6 := Lib.hid (show j < ys.length by rw [HLy.out]; omega)
        clear hn1 hm1 hi hj
        cases he : ((gs xs i).toList == (gs ys j).toList) with
        | true =>
          have hno := HN.out
          rw [c1.out, c2.out] at hno
          have hf := Lib.hid (show xs.drop (n - (k + 1)) = ys.drop (m - (k + 1)) by
            rw [c3.out, c4.out]
            exact dropS_more c5.out c6.out hno he)
          clear hno
          go_wp2
          go_quiet (fail)
          go_wp2
          go_roundg (n - (k + 1))
          case measure => rw [HG.out]; omega
          case rel => exact ⟨⟨_, rfl⟩, k + 1, by go_num, by omega, by omega, rfl, hf.out⟩
        | false =>
          go_wp2
          go_quiet (fail)
          go_wp2
          go_ret
          exact ⟨k, rfl, ⟨hk, hk2, HN.out⟩, d + nq, by rw [World.drewN_drewN]⟩

/-- edits of one kind -/
def mono (k : Int) (xs : List ByteArray) : List (Int × ByteArray) := xs.map fun s => (k, s)
theorem mono_len (k : Int) (xs : List ByteArray) : (mono k xs).length = xs.length := by simp [mono]
theorem mono_take {k : Int} {xs : List ByteArray} {i : Nat} (h : i < xs.length) : mono k (xs.take (i + 1)) = mono k (xs.take i) ++ [(k, gs xs i)] := by
  have e : xs[i] = gs xs i := by simp [gs, List.getElem?_eq_getElem h]
  rw [List.take_succ_eq_append_getElem h, mono, List.map_append, e]
  rfl

set_option maxRecDepth 100000 in
set_option maxHeartbeats 1000000 in
theorem edits_any (B : Nat) (A : Option Addr) (n c : Nat) (xs : List ByteArray) (kd : Int) (w : World) (hx : Reads w B 1 A n (strs xs)) (hB : B ≤ w.heap.size) (hn : n ≤ 1000000000000) :
    Calls Tryd.prog 134 #[.int .i64 kd, .slice A n c] w fun e w' => ∃ v, e = .returned v ∧ w'.ownsRow w.heap.size 138 2 v n (edCells (mono kd xs)) ∧ Grows w w' := by
  have HL := Lib.hid hx.strLen
  have HX := Lib.hid hx; clear hx
  obtain ⟨t1, hj0, hy0, hy1, hy2⟩ := info_parts Tryd.infoEdit
  go_enter Tryd.func134, Tryd.ntmps134
  go_wp2
  go_loopg [10, 5] n (fun gk q v wr => ∃ k : Nat, q = .int .i64 k ∧ k ≤ n ∧ gk = n - k ∧ wr.ownsRow w.heap.size 138 2 v k (edCells (mono kd (xs.take k))) ∧ Grows w wr)
  case atStart => exact ⟨0, rfl, by omega, rfl, World.ownsRow_nil _ _ _ _, Grows.refl _⟩
  case round =>
    obtain ⟨k, rfl, hk, hgk, hown, hgr⟩ := hrel
    have HG := Lib.hid hgk; clear hgk
    have hsz := hgr.size
    by_cases hlt : k < n
    · obtain ⟨ad, rfl, had, hc⟩ := ((HX.out).grows hB hgr).str hlt
      have HT := Lib.hid (mono_take (k := kd) (xs := xs) (i := k) (by rw [HL.out]; exact hlt))
      go_wp2_with (at_builtin; refine wpList_push rfl (.tmp 14) (.tmp 18) _ rfl (w.heap.size) 138 t1 _ 2 24 Tryd.underlying135 hj0 hy0 hy1 hy2 rfl (by decide) _ _ _ rfl ((hown).alloc _) ⟨(wr).heap.size, 0, none⟩ 1 1 [.int .i64 (kd), .string (gs xs k)] rfl rfl (cell_two_newE _ _ _ _) (by intro u hu; simp at hu; rcases hu with rfl | rfl <;> rfl) (by simp only [maxLen]; omega) (by omega) (by simp; omega) ?_; intro v' w1 hown1 hb1; have hgr1 : Grows w w1 := Below.trans (hgr.alloc _) hb1)
      go_roundg (n - (k + 1))
      case measure => rw [HG.out]; omega
      case rel => exact ⟨k + 1, by go_num, by omega, rfl, by rw [HT.out, edCells_append, edCells_one]; exact hown1, hgr1⟩
    · have hf := Lib.hid (show xs.take k = xs from List.take_of_length_le (by rw [HL.out]; omega))
      have hf2 := Lib.hid (show k = n by omega)
      go_wp2
      go_ret
      refine ⟨_, rfl, ?_, hgr⟩
      rw [hf.out, hf2.out] at hown
      exact hown

theorem side_take {k : Int} {l : List (Int × ByteArray)} {i : Nat} (h : i < l.length) : side k (l.take (i + 1)) = side k (l.take i) ++ (if (gek l i == 1 || gek l i == k) then [gel l i] else []) := by
  rw [List.take_succ_eq_append_getElem h, side_append]
  have e : l[i] = (gek l i, gel l i) := by simp [gek, gel, List.getElem?_eq_getElem h]
  rw [e]
  congr 1
  cases hh : (gek l i == 1 || gek l i == k) with
  | true => rw [side_cons_yes (e := (gek l i, gel l i)) hh]; rfl
  | false => rw [side_cons_no (e := (gek l i, gel l i)) hh]; rfl

end Go.Proofs.YtakgddochbcjbaaDoor
