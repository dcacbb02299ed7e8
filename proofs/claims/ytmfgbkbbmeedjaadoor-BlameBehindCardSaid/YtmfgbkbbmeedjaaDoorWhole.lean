/- Lines: Same, Whole of the program. -/
import Derived.Test.YtmfgbkbbmeedjaaDoorLines
import Derived.Test.YtmfgbkbbmeedjaaDoorEqualS
namespace Go.Proofs.YtmfgbkbbmeedjaaDoor
open Go.RowKit Go.Deep Go.MapKept

theorem lsame_any (B B' : Nat) (A A' : Option Addr) (n n' c c' : Nat) (xs ys : List ByteArray) (w : World) (hx : Reads w B 1 A n (strs xs)) (hy : Reads w B' 1 A' n' (strs ys)) (hn : n ≤ 1000000000000) :
    Calls Tryd.prog 30 #[.slice A n c, .slice A' n' c'] w fun e w' => e = .returned (.bool (eqS xs ys)) ∧ ∃ m, w' = w.drewN m := by
  have HX := Lib.hid hx; clear hx
  have HY := Lib.hid hy; clear hy
  go_enter Tryd.func30, Tryd.ntmps30
  go_wp2_with fail
  refine (equal_any B B' A A' n n' c c' xs ys w HX.out HY.out hn).mono ?_
  rintro e w' ⟨rfl, m, rfl⟩
  go_wp2_with fail
  go_ret
  exact ⟨rfl, m, rfl⟩

theorem indexByte_no {c : UInt8} : ∀ {l : List UInt8}, c ∉ l → Lib.indexByte l c = -1
  | [], _ => rfl
  | b :: l, h => by
    simp only [List.mem_cons, not_or] at h
    have h1 : (b == c) = false := by
      rw [beq_eq_false_iff_ne]
      exact fun e => h.1 e.symm
    rw [Lib.indexByte, h1, indexByte_no h.2]
    rfl
theorem indexByte_at {c : UInt8} {v : List UInt8} : ∀ {u : List UInt8}, c ∉ u → Lib.indexByte (u ++ c :: v) c = u.length
  | [], _ => by simp [Lib.indexByte]
  | b :: u, h => by
    simp only [List.mem_cons, not_or] at h
    have h1 : (b == c) = false := by
      rw [beq_eq_false_iff_ne]
      exact fun e => h.1 e.symm
    have h2 : ((u.length : Int) == -1) = false := by
      rw [beq_eq_false_iff_ne]
      omega
    rw [List.cons_append, Lib.indexByte, h1, indexByte_at h.2]
    simp only [h2]
    simp
theorem good_all : ∀ (l : List (List UInt8)), good l = true ↔ ∀ i x, l[i]? = some x → okLine (decide (i + 1 < l.length)) x = true
  | [] => by simp [good]
  | [x] => by
    rw [good]
    constructor
    · intro h i y hy
      cases i with
      | zero => cases hy; exact h
      | succ i => simp at hy
    · intro h
      exact h 0 x rfl
  | x :: y :: l => by
    rw [good, Bool.and_eq_true, good_all (y :: l)]
    constructor
    · rintro ⟨h1, h2⟩ i z hz
      cases i with
      | zero => cases hz; simpa using h1
      | succ i =>
        have := h2 i z (by simpa using hz)
        rw [← this]
        congr 1
        simp
    · intro h
      refine ⟨by simpa using h 0 x rfl, fun i z hz => ?_⟩
      rw [← h (i + 1) z (by simpa using hz)]
      congr 1
      simp
/-- may element i stand? -/
def okAt (l : List ByteArray) (n i : Nat) : Bool := okLine (decide (i + 1 < n)) (gs l i).data.toList
theorem goodT_all {l : List ByteArray} {n : Nat} (hl : l.length = n) : goodT l = true ↔ ∀ i, i < n → okAt l n i = true := by
  have e : (bl l).length = n := by rw [bl, List.length_map, hl]
  have hg : ∀ i, i < n → (bl l)[i]? = some (gs l i).data.toList := by
    intro i hi
    rw [bl, List.getElem?_map, gs_some (by omega)]
    rfl
  rw [goodT, good_all, e]
  constructor
  · intro h i hi
    exact h i _ (hg i hi)
  · intro h i x hx
    have hi : i < n := by rw [← e]; exact (List.getElem?_eq_some_iff.1 hx).1
    rw [hg i hi] at hx
    cases hx
    exact h i hi
theorem okLine_no {x : List UInt8} (h : (10 : UInt8) ∉ x) (m : Bool) : okLine m x = (!x.isEmpty && !m) := by
  cases hx : x.isEmpty with
  | true => rw [okLine, hx]; rfl
  | false =>
    have h1 : x.dropLast.contains 10 = false := by
      rw [← Bool.not_eq_true, List.contains_iff_mem]
      exact fun hm => h ((List.dropLast_sublist x).subset hm)
    have h2 : (x.getLast? == some 10) = false := by
      rw [beq_eq_false_iff_ne]
      exact fun e => h (List.mem_of_getLast? e)
    rw [okLine, hx, h1, h2]
    cases m <;> rfl
theorem okLine_mid {u v : List UInt8} (hv : v ≠ []) (m : Bool) : okLine m (u ++ 10 :: v) = false := by
  have h1 : (u ++ 10 :: v).dropLast.contains 10 = true := by
    rw [List.contains_iff_mem]
    obtain ⟨v', b, rfl⟩ := split_end hv
    rw [show u ++ 10 :: (v' ++ [b]) = (u ++ 10 :: v') ++ [b] by simp, List.dropLast_concat]
    simp
  rw [okLine, h1]
  simp

set_option maxHeartbeats 2000000 in
theorem whole_any (B : Nat) (A : Option Addr) (n c : Nat) (l : List ByteArray) (w : World) (hx : Reads w B 1 A n (strs l)) (hn : n ≤ 1000000000000) (hz : ∀ i, i < n → (gs l i).size ≤ 140737488355328) :
    Calls Tryd.prog 31 #[.slice A n c] w fun e w' => e = .returned (.bool (goodT l)) ∧ w = w' := by
  have HL := Lib.hid hx.strLen
  have HX := Lib.hid hx; clear hx
  have HA := Lib.hid (goodT_all HL.out)
  have HZ := Lib.hid hz; clear hz
  go_enter Tryd.func31, Tryd.ntmps31
  go_wp2_with fail
  go_loopg [8] n (fun gk q wr => w = wr ∧ ∃ k : Nat, q = .int .i64 k ∧ k ≤ n ∧ gk = n - k ∧ ∀ i, i < k → okAt l n i = true)
  case atStart => exact ⟨rfl, 0, rfl, by omega, rfl, fun i hi => absurd hi (Nat.not_lt_zero i)⟩
  case round =>
    obtain ⟨rfl, k, rfl, hk, hgk, hno⟩ := hrel
    have HG := Lib.hid hgk; clear hgk
    have HN := Lib.hid hno; clear hno
    by_cases hlt : k < n
    · obtain ⟨ad, rfl, had, p0⟩ := HX.out.str hlt
      have hs := Lib.hid (gs_some (xs := l) (k := k) (by rw [HL.out]; exact hlt))
      have q0 : (0 : Int) ≤ k := by omega
      have q1 : (k : Int) < n := by omega
      have hsucc := Lib.hid (fun (h : okAt l n k = true) => (show ∀ i, i < k + 1 → okAt l n i = true from fun i hi => by
        rcases Nat.lt_succ_iff_lt_or_eq.1 hi with h1 | rfl
        · exact HN.out i h1
        · exact h))
      have hbad := Lib.hid (fun (h : okAt l n k = false) => (show goodT l = false by
        rw [← Bool.not_eq_true, HA.out]
        intro h2
        rw [h2 k hlt] at h
        cases h))
      have hxz := HZ.out k hlt
      obtain ⟨x, hx⟩ : ∃ x, gs l k = x := ⟨_, rfl⟩
      have hok := Lib.hid (show okAt l n k = okLine (decide (k + 1 < n)) x.data.toList by rw [okAt, hx])
      rw [hx] at p0 hxz
      clear hx hs
      by_cases hc : (10 : UInt8) ∈ x.data.toList
      · obtain ⟨u, v, hd, hu⟩ := first_of hc
        have hat := Lib.hid (show Lib.indexByte x.data.toList ((10 : Int).toNat.toUInt8) = (u.length : Int) by rw [hd]; exact indexByte_at hu)
        have hsz : x.size = u.length + 1 + v.length := by
          have h1 : x.data.toList.length = x.size := Array.length_toList
          rw [hd] at h1
          simp only [List.length_append, List.length_cons] at h1
          omega
        rw [hd] at hok
        clear hc
        by_cases hv : v = []
        · subst hv
          have hf := Lib.hid (hsucc.out (by rw [hok.out]; exact ok_end hu _))
          have hsz2 : x.size = u.length + 1 := hsz
          have q2 : ¬ ((u.length : Int) < x.size - 1) := by omega
          clear hd hsz hsucc hbad hok hu
          go_wp2_with fail
          refine (Tryd.strings_IndexByte x 10 w).mono ?_
          rw [hat.out]
          rintro e w' ⟨rfl, rfl⟩
          go_wp2_with fail
          go_roundg (n - (k + 1))
          case measure => rw [HG.out]; omega
          case rel => exact ⟨rfl, k + 1, by go_num, by omega, rfl, hf.out⟩
        · have hf := Lib.hid (hbad.out (by rw [hok.out]; exact okLine_mid hv _))
          have hvl : 0 < v.length := List.length_pos_iff.2 hv
          have q2 : (u.length : Int) < x.size - 1 := by omega
          clear hd hsucc hbad hok hu hv
          go_wp2_with fail
          refine (Tryd.strings_IndexByte x 10 w).mono ?_
          rw [hat.out]
          rintro e w' ⟨rfl, rfl⟩
          go_wp2_with fail
          go_ret
          exact ⟨ret_bool hf.out.symm, rfl⟩
      · have hat := Lib.hid (show Lib.indexByte x.data.toList ((10 : Int).toNat.toUInt8) = (-1 : Int) from indexByte_no hc)
        have hol := Lib.hid (okLine_no hc (decide (k + 1 < n)))
        clear hc
        by_cases hm : k + 1 < n
        · have hf := Lib.hid (hbad.out (by rw [hok.out, hol.out, decide_eq_true hm]; simp))
          have q2 : (k : Int) < n - 1 := by omega
          clear hsucc hbad hok hol
          go_wp2_with fail
          refine (Tryd.strings_IndexByte x 10 w).mono ?_
          rw [hat.out]
          rintro e w' ⟨rfl, rfl⟩
          go_wp2_with fail
          go_ret
          exact ⟨ret_bool hf.out.symm, rfl⟩
        · have q2 : ¬ ((k : Int) < n - 1) := by omega
          have hem : x.data.toList.isEmpty = x.toList.isEmpty := by rw [ByteArray.toList_eq]
          cases he : x.toList.isEmpty with
          | true =>
            have hf := Lib.hid (hbad.out (by rw [hok.out, hol.out, hem, he]; rfl))
            clear hsucc hbad hok hol hem
            go_wp2_with fail
            refine (Tryd.strings_IndexByte x 10 w).mono ?_
            rw [hat.out]
            rintro e w' ⟨rfl, rfl⟩
            go_wp2_with fail
            go_ret
            exact ⟨ret_bool hf.out.symm, rfl⟩
          | false =>
            have hf := Lib.hid (hsucc.out (by rw [hok.out, hol.out, hem, he, decide_eq_false hm]; rfl))
            clear hsucc hbad hok hol hem
            go_wp2_with fail
            refine (Tryd.strings_IndexByte x 10 w).mono ?_
            rw [hat.out]
            rintro e w' ⟨rfl, rfl⟩
            go_wp2_with fail
            go_roundg (n - (k + 1))
            case measure => rw [HG.out]; omega
            case rel => exact ⟨rfl, k + 1, by go_num, by omega, rfl, hf.out⟩
    · have hkn : k = n := by omega
      subst hkn
      have hf := Lib.hid (show goodT l = true from HA.out.2 HN.out)
      go_wp2_with fail
      go_ret
      exact ⟨ret_bool hf.out.symm, rfl⟩
end Go.Proofs.YtmfgbkbbmeedjaaDoor
