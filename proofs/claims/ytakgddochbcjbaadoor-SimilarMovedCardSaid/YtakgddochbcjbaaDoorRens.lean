/- Lists of renames as slices of structs; rickhelp.Same and Plain at renames. -/
import Derived.Test.YtakgddochbcjbaaDoorEdits
namespace Go.Proofs.YtakgddochbcjbaaDoor
open Go.RowKit Go.Deep

/-- a rename: from where, to where -/
def rnCells (l : List (ByteArray × ByteArray)) : List Value := l.flatMap fun e => [.string e.1, .string e.2]
def grf (l : List (ByteArray × ByteArray)) (k : Nat) : ByteArray := (l.getD k (ByteArray.empty, ByteArray.empty)).1
def grt (l : List (ByteArray × ByteArray)) (k : Nat) : ByteArray := (l.getD k (ByteArray.empty, ByteArray.empty)).2
theorem rnCells_cons (e : ByteArray × ByteArray) (l : List (ByteArray × ByteArray)) : rnCells (e :: l) = .string e.1 :: .string e.2 :: rnCells l := rfl
theorem rnCells_append (l m : List (ByteArray × ByteArray)) : rnCells (l ++ m) = rnCells l ++ rnCells m := by simp [rnCells]
theorem rnCells_one (k s : ByteArray) : rnCells [(k, s)] = [.string k, .string s] := rfl
theorem rnCells_len (l : List (ByteArray × ByteArray)) : (rnCells l).length = l.length * 2 := by
  induction l with
  | nil => rfl
  | cons e l ih => simp [rnCells_cons, ih]; omega
theorem rnCells_get {l : List (ByteArray × ByteArray)} {k : Nat} (h : k < l.length) : (rnCells l)[k * 2]? = some (.string (grf l k)) ∧ (rnCells l)[k * 2 + 1]? = some (.string (grt l k)) := by
  induction l generalizing k with
  | nil => simp at h
  | cons e l ih =>
    rw [rnCells_cons]
    cases k with
    | zero => exact ⟨rfl, rfl⟩
    | succ k =>
      have := ih (k := k) (by simpa using h)
      rw [show (k + 1) * 2 = k * 2 + 1 + 1 by omega]
      simpa [grf, grt] using this
theorem rnCells_oneCell (l : List (ByteArray × ByteArray)) : ∀ u ∈ rnCells l, u.oneCell' = true := by
  intro u hu
  simp only [rnCells, List.mem_flatMap] at hu
  obtain ⟨e, _, hu⟩ := hu
  simp at hu
  rcases hu with rfl | rfl <;> rfl
section
variable {w w' : World} {B n : Nat} {A : Option Addr} {l : List (ByteArray × ByteArray)}
theorem Reads.rnLen (h : Reads w B 2 A n (rnCells l)) : l.length = n := by
  have := h.1
  rw [rnCells_len] at this
  omega
theorem add_one_ofR (ad : Addr) (k : Nat) : (ad.add k).add 1 = ⟨(ad.add k).block, (ad.add k).off + 1, none⟩ := by simp [Addr.add]
theorem Reads.rn {k : Nat} (h : Reads w B 2 A n (rnCells l)) (hk : k < n) :
    ∃ ad, A = some ad ∧ ad.block < B ∧ w.cell? (ad.add (k * 2)) = some (.string (grf l k)) ∧ w.cell? ⟨(ad.add (k * 2)).block, (ad.add (k * 2)).off + 1, none⟩ = some (.string (grt l k)) := by
  obtain ⟨ad, e, hb, hc⟩ := h.2 (by omega)
  have hl := h.rnLen
  have hg := rnCells_get (l := l) (k := k) (by omega)
  refine ⟨ad, e, hb, hc _ _ hg.1, ?_⟩
  have := hc _ _ hg.2
  rw [← add_of_add, add_one_ofR] at this
  exact this
theorem Reads.rnAt {ad : Addr} {k : Nat} (h : Reads w B 2 (some ad) n (rnCells l)) (hk : k < n) :
    w.cell? (ad.add (k * 2)) = some (.string (grf l k)) ∧ w.cell? ⟨(ad.add (k * 2)).block, (ad.add (k * 2)).off + 1, none⟩ = some (.string (grt l k)) := by
  obtain ⟨ad', e, _, hc⟩ := h.rn hk
  cases e
  exact hc
end
def eqR (l m : List (ByteArray × ByteArray)) : Bool := decide (l = m)
theorem eqR_self (l : List (ByteArray × ByteArray)) : eqR l l = true := by simp [eqR]
theorem eqR_iff {l m : List (ByteArray × ByteArray)} : eqR l m = true ↔ l = m := by simp [eqR]
theorem takeR_succ {l m : List (ByteArray × ByteArray)} {k n : Nat} (hx : l.length = n) (hy : m.length = n) (hk : k < n) : (l.take (k + 1) = m.take (k + 1)) ↔ (l.take k = m.take k ∧ (((grf l k).toList == (grf m k).toList) && ((grt l k).toList == (grt m k).toList)) = true) := by
  rw [List.take_succ_eq_append_getElem (by omega), List.take_succ_eq_append_getElem (by omega)]
  have e1 : l.getD k (ByteArray.empty, ByteArray.empty) = l[k] := by simp [List.getD_eq_getElem?_getD, List.getElem?_eq_getElem (show k < l.length by omega)]
  have e2 : m.getD k (ByteArray.empty, ByteArray.empty) = m[k] := by simp [List.getD_eq_getElem?_getD, List.getElem?_eq_getElem (show k < m.length by omega)]
  rw [← beq_toListBytes, ← beq_toListBytes, Bool.and_eq_true, MapKept.bytes_beq, MapKept.bytes_beq, grf, grf, grt, grt, e1, e2]
  constructor
  · intro h
    have h1 := List.append_inj' h (by simp)
    have h2 : l[k] = m[k] := by simpa using h1.2
    rw [h2]
    exact ⟨h1.1, rfl, rfl⟩
  · rintro ⟨h1, h2, h3⟩
    rw [h1, show l[k] = m[k] from Prod.ext h2 h3]

set_option maxRecDepth 100000 in
set_option maxHeartbeats 400000 in
theorem eqfR_any (a c : ByteArray) (b d : ByteArray) (w : World) :
    Calls Tryd.prog 76 #[.agg #[.string a, .string b], .agg #[.string c, .string d]] w fun e w' => e = .returned (.bool ((a.toList == c.toList) && (b.toList == d.toList))) ∧ Grows w w' := by
  have hg : Grows w ((w.alloc (.cells #[.string a, .string b] 61)).alloc (.cells #[.string c, .string d] 61)) := ((Grows.refl w).alloc _).alloc _
  cases h1 : (a.toList == c.toList)
  all_goals cases h2 : (b.toList == d.toList)
  all_goals
    go_enter Tryd.func76, Tryd.ntmps76
    go_wp2
    go_ret
    exact ⟨rfl, hg⟩

set_option maxRecDepth 100000 in
set_option maxHeartbeats 1000000 in
set_option maxRecDepth 100000 in
theorem sameR_any (B B' : Nat) (A A' : Option Addr) (n n' c c' : Nat) (xs ys : List (ByteArray × ByteArray)) (w : World) (hx : Reads w B 2 A n (rnCells xs)) (hy : Reads w B' 2 A' n' (rnCells ys)) (hB : B ≤ w.heap.size) (hB' : B' ≤ w.heap.size) (hn : n ≤ 1000000000000) :
    Calls Tryd.prog 75 #[.slice A n c, .slice A' n' c', .func (.func 76) #[] #[]] w fun e w' => e = .returned (.bool (eqR xs ys)) ∧ Grows w w' := by
  have HLx := Lib.hid hx.rnLen
  have HLy := Lib.hid hy.rnLen
  have HX := Lib.hid hx; clear hx
  have HY := Lib.hid hy; clear hy
  by_cases hnn : n = n'
  · subst hnn
    go_enter Tryd.func75, Tryd.ntmps75
    go_wp2
    go_loopg [7] n (fun gk q wr => Grows w wr ∧ ∃ k : Nat, q = .int .i64 k ∧ k ≤ n ∧ gk = n - k ∧ xs.take k = ys.take k)
    case atStart => exact ⟨Grows.refl _, 0, rfl, by omega, rfl, rfl⟩
    case round =>
      obtain ⟨hgr, k, rfl, hk, hgk, hno⟩ := hrel
      have HG := Lib.hid hgk; clear hgk
      have HN := Lib.hid hno; clear hno
      by_cases hlt : k < n
      · obtain ⟨ad, rfl, had, hc0, hc1⟩ := (HX.out.grows hB hgr).rn hlt
        obtain ⟨ad', rfl, had', hc0', hc1'⟩ := (HY.out.grows hB' hgr).rn hlt
        have hct := Lib.hid (takeR_succ HLx.out HLy.out hlt)
        have k0 : (0 : Int) ≤ k := by omega
        have k1 : (k : Int) < n := by omega
        cases he : (((grf xs k).toList == (grf ys k).toList) && ((grt xs k).toList == (grt ys k).toList)) with
        | true =>
          have hf := Lib.hid (show xs.take (k + 1) = ys.take (k + 1) from hct.out.2 ⟨HN.out, he⟩)
          have he2 := Lib.hid he
          clear he
          go_wp2
          go_still_tail 9, (by kernel_rfl)
          have ew : ({ heap := wr.heap, tape := wr.tape, drawn := wr.drawn + 1, os := wr.os, output := wr.output } : World) = wr.drew := rfl
          rw [ew]
          have hgd : Grows w wr.drew := hgr.drew
          clear ew
          go_wp2_with (go_at_call 76; refine (eqfR_any _ _ _ _ _).mono ?_; rintro e w5 ⟨rfl, hg5⟩; rw [he2.out]; have hgx5 := hgd.trans hg5)
          go_roundg (n - (k + 1))
          case measure => rw [HG.out]; omega
          case rel => exact ⟨hgx5, k + 1, by go_num, by omega, rfl, hf.out⟩
        | false =>
          have hf := Lib.hid (show eqR xs ys = false by
            rw [eqR, decide_eq_false_iff_not]
            rintro rfl
            simp at he)
          have he2 := Lib.hid he
          clear he
          go_wp2
          go_still_tail 9, (by kernel_rfl)
          have ew : ({ heap := wr.heap, tape := wr.tape, drawn := wr.drawn + 1, os := wr.os, output := wr.output } : World) = wr.drew := rfl
          rw [ew]
          have hgd : Grows w wr.drew := hgr.drew
          clear ew
          go_wp2_with (go_at_call 76; refine (eqfR_any _ _ _ _ _).mono ?_; rintro e w5 ⟨rfl, hg5⟩; rw [he2.out]; have hgx5 := hgd.trans hg5)
          go_ret
          exact ⟨ret_bool hf.out.symm, hgx5⟩
      · have hf := Lib.hid (show xs = ys by
          have := HN.out
          rw [List.take_of_length_le (by rw [HLx.out]; omega), List.take_of_length_le (by rw [HLy.out]; omega)] at this
          exact this)
        go_wp2
        go_ret
        exact ⟨ret_bool (by rw [hf.out, eqR_self]), hgr⟩
  · have hf := Lib.hid (show eqR xs ys = false by
      rw [eqR, decide_eq_false_iff_not]
      rintro rfl
      exact hnn (HLx.out.symm.trans HLy.out))
    have hne : ((n : Int) != (n' : Int)) = true := by simp; omega
    go_enter Tryd.func75, Tryd.ntmps75
    go_wp2
    go_ret
    exact ⟨ret_bool hf.out.symm, Grows.refl _⟩

set_option maxRecDepth 100000 in
set_option maxHeartbeats 400000 in
theorem plainR_any (B B' : Nat) (A A' : Option Addr) (n n' c c' : Nat) (xs ys : List (ByteArray × ByteArray)) (w : World) (hx : Reads w B 2 A n (rnCells xs)) (hy : Reads w B' 2 A' n' (rnCells ys)) (hB : B ≤ w.heap.size) (hB' : B' ≤ w.heap.size) (hn : n ≤ 1000000000000) :
    Calls Tryd.prog 39 #[.slice A n c, .slice A' n' c'] w fun e w' => e = .returned (.bool (eqR xs ys)) ∧ Grows w w' := by
  have HX := Lib.hid hx; clear hx
  have HY := Lib.hid hy; clear hy
  go_enter Tryd.func39, Tryd.ntmps39
  go_wp2_with (go_at_call 75; refine (sameR_any B B' _ _ _ _ _ _ xs ys _ HX.out HY.out hB hB' hn).mono ?_; rintro e w' ⟨rfl, hg⟩)
  go_ret
  exact ⟨rfl, hg⟩

end Go.Proofs.YtakgddochbcjbaaDoor
