/- The walks of package rickhelp at ints: In, Same, Plain, Own, Kept; and rickplay.Parents. -/
import Derived.Test.YtdhdlkbldngmoaaBase
import Derived.Deep.OwnRows
namespace Go.Proofs.Ytdhdlkbldngmoaa
open Go.RowKit Go.Deep

/-- is x among xs: behind a name that the walk does not open -/
def inL (xs : List Int) (x : Int) : Bool := xs.contains x
theorem inL_iff {xs : List Int} {x : Int} : inL xs x = true ↔ x ∈ xs := by simp [inL]
theorem contains_take {xs : List Int} {x : Int} {k : Nat} (hk : k < xs.length) : (xs.take (k + 1)).contains x = ((xs.take k).contains x || gi xs k == x) := by
  rw [List.take_succ_eq_append_getElem hk, List.contains_append, gi_def, List.getD_eq_getElem?_getD, List.getElem?_eq_getElem hk]
  congr 1
  rw [Bool.eq_iff_iff]
  simp only [Option.getD_some, List.contains_cons, List.contains_nil, Bool.or_false, beq_iff_eq]
  exact eq_comm

set_option maxHeartbeats 400000 in
theorem in_any (B : Nat) (A : Option Addr) (n c : Nat) (xs : List Int) (x : Int) (w : World) (h : Reads w B 1 A n (ints xs)) (hn : n ≤ 1000000000000) :
    Calls Try.prog 17 #[.slice A n c, .int .i64 x] w fun e w' => e = .returned (.bool (inL xs x)) ∧ w = w' := by
  have HL := Lib.hid h.intLen
  have H := Lib.hid h; clear h
  go_enter Try.func17, Try.ntmps17
  go_wp2
  go_loopg [5] n (fun gk q wr => wr = w ∧ ∃ k : Nat, q = .int .i64 k ∧ k ≤ n ∧ gk = n - k ∧ (xs.take k).contains x = false)
  case atStart => exact ⟨rfl, 0, rfl, by omega, rfl, rfl⟩
  case round =>
    obtain ⟨rfl, k, rfl, hk, hgk, hno⟩ := hrel
    have HG := Lib.hid hgk; clear hgk
    have HN := Lib.hid hno; clear hno
    by_cases hlt : k < n
    · obtain ⟨ad, rfl, had, hc⟩ := H.out.int hlt
      have hct := Lib.hid (contains_take (x := x) (show k < xs.length by rw [HL.out]; exact hlt))
      cases he : (gi xs k == x) with
      | true =>
        have hf0 : inL xs x = true := by
          rw [inL]
          have h1 : (xs.take (k + 1)).contains x = true := by rw [hct.out, he]; simp
          rw [List.contains_iff_mem] at h1 ⊢
          exact List.mem_of_mem_take h1
        have hf := Lib.hid hf0; clear hf0
        go_wp2
        go_ret
        exact ⟨ret_bool hf.out.symm, rfl⟩
      | false =>
        have hf := Lib.hid (show (xs.take (k + 1)).contains x = false by rw [hct.out, he, HN.out]; rfl)
        go_wp2
        go_roundg (n - (k + 1))
        case measure => rw [HG.out]; omega
        case rel => exact ⟨rfl, k + 1, by go_num, by omega, rfl, hf.out⟩
    · have hf := Lib.hid (show inL xs x = false by rw [inL, ← HN.out, List.take_of_length_le (by rw [HL.out]; omega)])
      go_wp2
      go_ret
      exact ⟨ret_bool hf.out.symm, rfl⟩

theorem eqf_any (a b : Int) (w : World) :
    Calls Try.prog 44 #[.int .i64 a, .int .i64 b] w fun e w' => e = .returned (.bool (a == b)) ∧ w = w' := by
  go_enter Try.func44, Try.ntmps44
  go_wp2
  go_ret
  exact ⟨rfl, rfl⟩

/-- are two lists one: behind a name that the walk does not open -/
def eqL (xs ys : List Int) : Bool := decide (xs = ys)
theorem eqL_self (xs : List Int) : eqL xs xs = true := by simp [eqL]
theorem eqL_iff {xs ys : List Int} : eqL xs ys = true ↔ xs = ys := by simp [eqL]
theorem take_eq_succ {xs ys : List Int} {k n : Nat} (hx : xs.length = n) (hy : ys.length = n) (hk : k < n) : (xs.take (k + 1) = ys.take (k + 1)) ↔ (xs.take k = ys.take k ∧ gi xs k = gi ys k) := by
  rw [List.take_succ_eq_append_getElem (by omega), List.take_succ_eq_append_getElem (by omega)]
  constructor
  · intro h
    have h1 := List.append_inj' h (by simp)
    refine ⟨h1.1, ?_⟩
    have h2 : xs[k] = ys[k] := by simpa using h1.2
    simpa [gi, List.getElem?_eq_getElem (show k < xs.length by omega), List.getElem?_eq_getElem (show k < ys.length by omega)] using h2
  · rintro ⟨h1, h2⟩
    have h2 : xs[k] = ys[k] := by simpa [gi, List.getElem?_eq_getElem (show k < xs.length by omega), List.getElem?_eq_getElem (show k < ys.length by omega)] using h2
    rw [h1, h2]

set_option maxHeartbeats 400000 in
theorem same_any (B B' : Nat) (A A' : Option Addr) (n n' c c' : Nat) (xs ys : List Int) (w : World) (hx : Reads w B 1 A n (ints xs)) (hy : Reads w B' 1 A' n' (ints ys)) (hn : n ≤ 1000000000000) :
    Calls Try.prog 43 #[.slice A n c, .slice A' n' c', .func (.func 44) #[] #[]] w fun e w' => e = .returned (.bool (eqL xs ys)) ∧ ∃ m, w' = w.drewN m := by
  have HLx := Lib.hid hx.intLen
  have HLy := Lib.hid hy.intLen
  have HX := Lib.hid hx; clear hx
  have HY := Lib.hid hy; clear hy
  by_cases hnn : n = n'
  · subst hnn
    go_enter Try.func43, Try.ntmps43
    go_wp2
    go_loopg [7] n (fun gk q wr => (∃ m, wr = w.drewN m) ∧ ∃ k : Nat, q = .int .i64 k ∧ k ≤ n ∧ gk = n - k ∧ xs.take k = ys.take k)
    case atStart => exact ⟨⟨0, rfl⟩, 0, rfl, by omega, rfl, rfl⟩
    case round =>
      obtain ⟨⟨m, rfl⟩, k, rfl, hk, hgk, hno⟩ := hrel
      have HG := Lib.hid hgk; clear hgk
      have HN := Lib.hid hno; clear hno
      by_cases hlt : k < n
      · obtain ⟨ad, rfl, had, hc⟩ := HX.out.int hlt
        obtain ⟨ad', rfl, had', hc'⟩ := HY.out.int hlt
        have hct := Lib.hid (take_eq_succ HLx.out HLy.out hlt)
        have k0 : (0 : Int) ≤ k := by omega
        have k1 : (k : Int) < n := by omega
        cases he : (gi xs k == gi ys k) with
        | true =>
          have hf := Lib.hid (show xs.take (k + 1) = ys.take (k + 1) from hct.out.2 ⟨HN.out, by simpa using he⟩)
          go_wp2
          go_quiet ((go_at_call 44; exact quiet_add_left (eqf_any _ _ _)))
          go_wp2
          go_roundg (n - (k + 1))
          case measure => rw [HG.out]; omega
          case rel => exact ⟨⟨_, rfl⟩, k + 1, by go_num, by omega, rfl, hf.out⟩
        | false =>
          have hf := Lib.hid (show eqL xs ys = false by
            rw [eqL, decide_eq_false_iff_not]
            rintro rfl
            simp at he)
          go_wp2
          go_quiet ((go_at_call 44; exact quiet_add_left (eqf_any _ _ _)))
          go_wp2
          go_ret
          exact ⟨ret_bool hf.out.symm, m + nq, by rw [World.drewN_drewN]⟩
      · have hf := Lib.hid (show xs = ys by
          have := HN.out
          rw [List.take_of_length_le (by rw [HLx.out]; omega), List.take_of_length_le (by rw [HLy.out]; omega)] at this
          exact this)
        go_wp2
        go_ret
        exact ⟨ret_bool (by rw [hf.out, eqL_self]), m, rfl⟩
  · have hf := Lib.hid (show eqL xs ys = false by
      rw [eqL, decide_eq_false_iff_not]
      rintro rfl
      exact hnn (HLx.out.symm.trans HLy.out))
    have hne : ((n : Int) != (n' : Int)) = true := by simp; omega
    go_enter Try.func43, Try.ntmps43
    go_wp2
    go_ret
    exact ⟨ret_bool hf.out.symm, 0, rfl⟩

set_option maxHeartbeats 400000 in
theorem plain_any (B B' : Nat) (A A' : Option Addr) (n n' c c' : Nat) (xs ys : List Int) (w : World) (hx : Reads w B 1 A n (ints xs)) (hy : Reads w B' 1 A' n' (ints ys)) (hn : n ≤ 1000000000000) :
    Calls Try.prog 22 #[.slice A n c, .slice A' n' c'] w fun e w' => e = .returned (.bool (eqL xs ys)) ∧ ∃ m, w' = w.drewN m := by
  have HX := Lib.hid hx; clear hx
  have HY := Lib.hid hy; clear hy
  go_enter Try.func22, Try.ntmps22
  go_wp2_with (go_at_call 43; refine (same_any B B' _ _ _ _ _ _ xs ys _ HX.out HY.out hn).mono ?_; rintro e w' ⟨rfl, m, rfl⟩)
  go_ret
  exact ⟨rfl, m, rfl⟩

/-- what Own lays: the numbers, and three fills behind -/
def ownCell (xs : List Int) (n : Nat) (fill : Int) (i : Nat) : Value := .int .i64 (if i < n then gi xs i else fill)

theorem row_of_own {w : World} {B g n cap : Nat} {xs : List Int} (h : w.ownsRow B 3 1 (.slice (some ⟨g, 0, none⟩) n cap) n (ints xs)) :
    ∃ f : Nat → Value, w.rowIs g 3 cap f ∧ ∀ i, i < n → f i = .int .i64 (gi xs i) := by
  have hl : xs.length = n := by have := h.1; simpa [ints] using this
  rcases h.2 with ⟨h2, _⟩ | ⟨g', cap', cur, hv, _, hh, hn, _, hs, ht⟩
  · cases h2
  · simp only [Value.slice.injEq, Option.some.injEq, Addr.mk.injEq, and_true, true_and] at hv
    obtain ⟨rfl, rfl⟩ := hv
    refine ⟨fun i => cur.getD i undef, ⟨cur, hh, by simpa using hs, fun i hi => ?_⟩, fun i hi => ?_⟩
    · have hi' : i < cur.size := by omega
      simp [Array.getD, hi']
    · have hi' : i < cur.size := by omega
      have h1 : (cur.toList.take n)[i]? = (ints xs)[i]? := by rw [← ht]; simp
      rw [ints_get (by omega), List.getElem?_take, if_pos hi] at h1
      have h2 : cur[i]? = some (Value.int .i64 (gi xs i)) := by simpa using h1
      rw [Array.getElem?_eq_getElem hi'] at h2
      injection h2 with h2
      simp [Array.getD, hi', h2]

set_option maxHeartbeats 400000 in
theorem own_any (B : Nat) (A : Option Addr) (n c : Nat) (xs : List Int) (fill : Int) (w : World) (h : Reads w B 1 A n (ints xs)) (hB : B ≤ w.heap.size) (hn : n ≤ 1000000000000) :
    Calls Try.prog 19 #[.slice A n c, .int .i64 fill] w fun e w' => e = .returned (.slice (some ⟨w.heap.size, 0, none⟩) n (n + 3)) ∧ w'.rowIs w.heap.size 3 (n + 3) (ownCell xs n fill) ∧ Grows w w' := by
  have HL := Lib.hid h.intLen
  have H := Lib.hid h; clear h
  obtain ⟨t0, hi0, hz0, hz1, hz2⟩ := info_parts Try.infoInt
  go_enter Try.func19, Try.ntmps19
  go_wp2_with (first
    | (at_make; refine wpList_make_own _ rfl _ _ 23 rfl w.heap.size 3 t0 _ 1 Try.underlying23 hi0 hz0 hz1 _ _ _ (n + 3) rfl rfl (by omega) (by rw [hz2]; omega) (by simp only [maxLen]; omega) (Nat.le_refl _) ?_; intro w1 hown1 hg1; have hgr1 : Grows w w1 := Below.grown (Grows.refl w) hg1 (Nat.le_refl _) (fun k hk => by cases hk); have hR1 := H.out.grows hB hgr1; have hR := Lib.hid hR1; clear hR1)
    | (at_builtin; refine wpList_append_fitsR rfl (.tmp 12) (.tmp 13) _ rfl w.heap.size 3 t0 1 Try.underlying23 hi0 hz1 _ 0 _ [] rfl hown1 B A n c (ints xs) rfl hR.out (ints_oneCell xs) (by omega) ?_; intro w2 hown2 hg2; have hgr2 : Grows w w2 := Below.grown hgr1 hg2 hgr1.size (fun k hk => by cases hk; omega)))
  obtain ⟨f, hrow0, hf⟩ := row_of_own (xs := xs) (by simpa using hown2)
  have HF := Lib.hid hf
  clear hown2 hown1 hf
  go_loopg [7] 3 (fun gk q wr => ∃ k : Nat, q = .int .i64 k ∧ n ≤ k ∧ k ≤ n + 3 ∧ gk = n + 3 - k ∧ wr.rowIs w.heap.size 3 (n + 3) (fun j => if n ≤ j ∧ j < k then .int .i64 fill else f j) ∧ Grows w wr)
  case atStart => exact ⟨n, rfl, by omega, by omega, by omega, hrow0.congr fun j _ => by rw [if_neg (by omega)], hgr2⟩
  case round =>
    obtain ⟨k, rfl, hk0, hk, hgk, hrow, hgr⟩ := hrel
    have HG := Lib.hid hgk; clear hgk
    by_cases hlt : k < n + 3
    · have hc := hrow.cell hlt
      have hfz := hrow.frozen k
      rw [if_neg (by omega)] at hc
      have hset := hrow.set k (.int .i64 fill)
      have hgrs : Grows w (wr.setCell ⟨w.heap.size, k, none⟩ (.int .i64 fill)) := Below.setCell hgr (Nat.le_refl _) _
      have HS := Lib.hid hset
      clear hset
      go_wp2
      go_roundg (n + 3 - (k + 1))
      case measure => rw [HG.out]; omega
      case rel => exact ⟨k + 1, by go_num, by omega, by omega, rfl, HS.out.congr fun j _ => by
        by_cases e : j = k
        · subst e; simp [hk0]
        · rw [if_neg e]
          congr 1
          rw [eq_iff_iff]
          omega, hgrs⟩
    · go_wp2
      go_ret
      refine ⟨rfl, hrow.congr fun j hj => ?_, hgr⟩
      unfold ownCell
      by_cases hjn : j < n
      · rw [if_neg (by omega), if_pos hjn, HF.out j hjn]
      · rw [if_pos (by omega), if_neg hjn]

/-- the row of Own, as a slice that reads -/
theorem reads_row {w : World} {g n cap : Nat} {f : Nat → Value} {xs : List Int} (h : w.rowIs g 3 cap f) (hf : ∀ i, i < n → f i = .int .i64 (gi xs i)) (hl : xs.length = n) (hn : n ≤ cap) : Reads w (g + 1) 1 (some ⟨g, 0, none⟩) n (ints xs) := by
  refine ⟨by simp [ints, hl], fun _ => ⟨_, rfl, by simp, fun j u hu => ?_⟩⟩
  have hj : j < n := by
    have := (List.getElem?_eq_some_iff.1 hu).1
    rw [ints_len, hl] at this
    exact this
  rw [ints_get (by omega)] at hu
  cases hu
  have had : Addr.add ⟨g, 0, none⟩ j = ⟨g, j, none⟩ := by unfold Addr.add; split <;> simp_all
  rw [had, h.cell (by omega), hf j hj]

set_option maxHeartbeats 400000 in
theorem kept_any (B : Nat) (A : Option Addr) (n c g : Nat) (xs : List Int) (fill : Int) (w : World) (h : Reads w B 1 A n (ints xs)) (hrow : w.rowIs g 3 (n + 3) (ownCell xs n fill)) (hn : n ≤ 1000000000000) :
    Calls Try.prog 28 #[.slice (some ⟨g, 0, none⟩) n (n + 3), .slice A n c, .int .i64 fill] w fun e w' => e = .returned (.bool true) ∧ ∃ m, w' = w.drewN m := by
  have hR := reads_row hrow (fun i hi => by rw [ownCell, if_pos hi]) h.intLen (by omega)
  have H := Lib.hid h; clear h
  have HR := Lib.hid hR; clear hR
  go_enter Try.func28, Try.ntmps28
  go_wp2_with (go_at_call 22; refine (plain_any (g + 1) B _ _ _ _ _ _ xs xs _ HR.out H.out hn).mono ?_; rintro e w' ⟨rfl, m, rfl⟩; rw [eqL_self])
  go_loopg [8] 3 (fun gk q wr => wr = w.drewN m ∧ ∃ k : Nat, q = .int .i64 k ∧ n ≤ k ∧ k ≤ n + 3 ∧ gk = n + 3 - k)
  case atStart => exact ⟨rfl, n, rfl, by omega, by omega, by omega⟩
  case round =>
    obtain ⟨rfl, k, rfl, hk0, hk, hgk⟩ := hrel
    have HG := Lib.hid hgk; clear hgk
    by_cases hlt : k < n + 3
    · have hc := hrow.cell hlt
      rw [ownCell, if_neg (by omega)] at hc
      have hff : (fill != fill) = false := by simp
      go_wp2
      go_roundg (n + 3 - (k + 1))
      case measure => rw [HG.out]; omega
      case rel => exact ⟨rfl, k + 1, by go_num, by omega, by omega, rfl⟩
    · go_wp2
      go_ret
      exact ⟨rfl, m, rfl⟩

end Go.Proofs.Ytdhdlkbldngmoaa
