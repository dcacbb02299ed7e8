/- The walks of package rickhelp at ints: In, Same, Plain, Own, Kept; and rickplay.Parents. -/
import Derived.Test.YtmfgbkbbmeedjaaDoorBase
import Derived.Deep.OwnRows
namespace Go.Proofs.YtmfgbkbbmeedjaaDoor
open Go.RowKit Go.Deep

/-- is x among xs: behind a name that the walk does not open -/
def inL (xs : List Int) (x : Int) : Bool := xs.contains x
theorem inL_iff {xs : List Int} {x : Int} : inL xs x = true ↔ x ∈ xs := by simp [inL]
theorem contains_take {xs : List Int} {x : Int} {k : Nat} (hk : k < xs.length) : (xs.take (k + 1)).contains x = ((xs.take k).contains x || gi xs k == x) := by
  rw [List.take_succ_eq_append_getElem hk, List.contains_append, gi_def, List.getD_eq_getElem?_getD, List.getElem?_eq_getElem hk]
  congr 1
  rw [Bool.eq_iff_iff]
  simp only [Option.getD_some, List.contains_cons, List.contains_nil, Bool.or_false, beq_iff_eq]
  exact eq_comm

theorem eqf_any (a b : Int) (w : World) :
    Calls Tryd.prog 53 #[.int .i64 a, .int .i64 b] w fun e w' => e = .returned (.bool (a == b)) ∧ w = w' := by
  go_enter Tryd.func53, Tryd.ntmps53
  go_wp2
  go_ret
  exact ⟨rfl, rfl⟩

/-- are two lists one: behind a name that the walk does not open -/
def eqL (xs ys : List Int) : Bool := decide (xs = ys)
theorem eqL_self (xs : List Int) : eqL xs xs = true := by simp [eqL]
theorem eqL_iff {xs ys : List Int} : eqL xs ys = true ↔ xs = ys := by simp [eqL]
theorem take_eq_succ {xs ys : List Int} {k n : Nat} (hx : xs.length = n) (hy : ys.length = n) (hk : k < n) : (xs.take (k + 1) = ys.take (k + 1)) ↔ (xs.take k = ys.take k ∧ gi xs k = gi ys k) := by
  rw [List.take_succ_eq_append_getElem (by omega), List.take_succ_eq_append_getElem (by omega)]
  constructor
  · intro h
    have h1 := List.append_inj' h (by simp)
    refine ⟨h1.1, ?_⟩
    have h2 : xs[k] = ys[k] := by simpa using h1.2
    simpa [gi, List.getElem?_eq_getElem (show k < xs.length by omega), List.getElem?_eq_getElem (show k < ys.length by omega)] using h2
  · rintro ⟨h1, h2⟩
    have h2 : xs[k] = ys[k] := by simpa [gi, List.getElem?_eq_getElem (show k < xs.length by omega), List.getElem?_eq_getElem (show k < ys.length by omega)] using h2
    rw [h1, h2]

set_option maxHeartbeats 400000 in
theorem same_any (B B' : Nat) (A A' : Option Addr) (n n' c c' : Nat) (xs ys : List Int) (w : World) (hx : Reads w B 1 A n (ints xs)) (hy : Reads w B' 1 A' n' (ints ys)) (hn : n ≤ 1000000000000) :
    Calls Tryd.prog 52 #[.slice A n c, .slice A' n' c', .func (.func 53) #[] #[]] w fun e w' => e = .returned (.bool (eqL xs ys)) ∧ ∃ m, w' = w.drewN m := by
  have HLx := Lib.hid hx.intLen
  have HLy := Lib.hid hy.intLen
  have HX := Lib.hid hx; clear hx
  have HY := Lib.hid hy; clear hy
  by_cases hnn : n = n'
  · subst hnn
    go_enter Tryd.func52, Tryd.ntmps52
    go_wp2
    go_loopg [7] n (fun gk q wr => (∃ m, wr = w.drewN m) ∧ ∃ k : Nat, q = .int .i64 k ∧ k ≤ n ∧ gk = n - k ∧ xs.take k = ys.take k)
    case atStart => exact ⟨⟨0, rfl⟩, 0, rfl, by omega, rfl, rfl⟩
    case round =>
      obtain ⟨⟨m, rfl⟩, k, rfl, hk, hgk, hno⟩ := hrel
      have HG := Lib.hid hgk; clear hgk
      have HN := Lib.hid hno; clear hno
      by_cases hlt : k < n
      · obtain ⟨ad, rfl, had, hc⟩ := HX.out.int hlt
        obtain ⟨ad', rfl, had', hc'⟩ := HY.out.int hlt
        have hct := Lib.hid (take_eq_succ HLx.out HLy.out hlt)
        have k0 : (0 : Int) ≤ k := by omega
        have k1 : (k : Int) < n := by omega
        cases he : (gi xs k == gi ys k) with
        | true =>
          have hf := Lib.hid (show xs.take (k + 1) = ys.take (k + 1) from hct.out.2 ⟨HN.out, by simpa using he⟩)
          go_wp2
          go_quiet ((go_at_call 53; exact quiet_add_left (eqf_any _ _ _)))
          go_wp2
          go_roundg (n - (k + 1))
          case measure => rw [HG.out]; omega
          case rel => exact ⟨⟨_, rfl⟩, k + 1, by go_num, by omega, rfl, hf.out⟩
        | false =>
          have hf := Lib.hid (show eqL xs ys = false by
            rw [eqL, decide_eq_false_iff_not]
            rintro rfl
            simp at he)
          go_wp2
          go_quiet ((go_at_call 53; exact quiet_add_left (eqf_any _ _ _)))
          go_wp2
          go_ret
          exact ⟨ret_bool hf.out.symm, m + nq, by rw [World.drewN_drewN]⟩
      · have hf := Lib.hid (show xs = ys by
          have := HN.out
          rw [List.take_of_length_le (by rw [HLx.out]; omega), List.take_of_length_le (by rw [HLy.out]; omega)] at this
          exact this)
        go_wp2
        go_ret
        exact ⟨ret_bool (by rw [hf.out, eqL_self]), m, rfl⟩
  · have hf := Lib.hid (show eqL xs ys = false by
      rw [eqL, decide_eq_false_iff_not]
      rintro rfl
      exact hnn (HLx.out.symm.trans HLy.out))
    have hne : ((n : Int) != (n' : Int)) = true := by simp; omega
    go_enter Tryd.func52, Tryd.ntmps52
    go_wp2
    go_ret
    exact ⟨ret_bool hf.out.symm, 0, rfl⟩

set_option maxHeartbeats 400000 in
theorem plain_any (B B' : Nat) (A A' : Option Addr) (n n' c c' : Nat) (xs ys : List Int) (w : World) (hx : Reads w B 1 A n (ints xs)) (hy : Reads w B' 1 A' n' (ints ys)) (hn : n ≤ 1000000000000) :
    Calls Tryd.prog 35 #[.slice A n c, .slice A' n' c'] w fun e w' => e = .returned (.bool (eqL xs ys)) ∧ ∃ m, w' = w.drewN m := by
  have HX := Lib.hid hx; clear hx
  have HY := Lib.hid hy; clear hy
  go_enter Tryd.func35, Tryd.ntmps35
  go_wp2_with (go_at_call 52; refine (same_any B B' _ _ _ _ _ _ xs ys _ HX.out HY.out hn).mono ?_; rintro e w' ⟨rfl, m, rfl⟩)
  go_ret
  exact ⟨rfl, m, rfl⟩

/-- what Own lays: the numbers, and three fills behind -/
def ownCell (xs : List Int) (n : Nat) (fill : Int) (i : Nat) : Value := .int .i64 (if i < n then gi xs i else fill)

theorem row_of_own {w : World} {B g n cap : Nat} {xs : List Int} (h : w.ownsRow B 3 1 (.slice (some ⟨g, 0, none⟩) n cap) n (ints xs)) :
    ∃ f : Nat → Value, w.rowIs g 3 cap f ∧ ∀ i, i < n → f i = .int .i64 (gi xs i) := by
  have hl : xs.length = n := by have := h.1; simpa [ints] using this
  rcases h.2 with ⟨h2, _⟩ | ⟨g', cap', cur, hv, _, hh, hn, _, hs, ht⟩
  · cases h2
  · simp only [Value.slice.injEq, Option.some.injEq, Addr.mk.injEq, and_true, true_and] at hv
    obtain ⟨rfl, rfl⟩ := hv
    refine ⟨fun i => cur.getD i undef, ⟨cur, hh, by simpa using hs, fun i hi => ?_⟩, fun i hi => ?_⟩
    · have hi' : i < cur.size := by omega
      simp [Array.getD, hi']
    · have hi' : i < cur.size := by omega
      have h1 : (cur.toList.take n)[i]? = (ints xs)[i]? := by rw [← ht]; simp
      rw [ints_get (by omega), List.getElem?_take, if_pos hi] at h1
      have h2 : cur[i]? = some (Value.int .i64 (gi xs i)) := by simpa using h1
      rw [Array.getElem?_eq_getElem hi'] at h2
      injection h2 with h2
      simp [Array.getD, hi', h2]

/-- the row of Own, as a slice that reads -/
theorem reads_row {w : World} {g n cap : Nat} {f : Nat → Value} {xs : List Int} (h : w.rowIs g 3 cap f) (hf : ∀ i, i < n → f i = .int .i64 (gi xs i)) (hl : xs.length = n) (hn : n ≤ cap) : Reads w (g + 1) 1 (some ⟨g, 0, none⟩) n (ints xs) := by
  refine ⟨by simp [ints, hl], fun _ => ⟨_, rfl, by simp, fun j u hu => ?_⟩⟩
  have hj : j < n := by
    have := (List.getElem?_eq_some_iff.1 hu).1
    rw [ints_len, hl] at this
    exact this
  rw [ints_get (by omega)] at hu
  cases hu
  have had : Addr.add ⟨g, 0, none⟩ j = ⟨g, j, none⟩ := by unfold Addr.add; split <;> simp_all
  rw [had, h.cell (by omega), hf j hj]

end Go.Proofs.YtmfgbkbbmeedjaaDoor
