/- Lists of strings; the walks of package rickhelp at string (written by gen_str.py from XHelp). Lists of edits as slices of structs; rickhelp.Same and Plain at edits. -/
import Derived.Test.YtakgddochbcjbaaDoorPkBase
import Derived.Deep.OwnRows
import Derived.MapKept
import Derived.Laws.StructEq
namespace Go.Proofs.YtakgddochbcjbaaDoor
open Go.RowKit Go.Deep Go.MapKept

theorem bytes_lawful : LawfulBEq ByteArray where
  eq_of_beq h := (bytes_beq _ _).1 h
  rfl := (bytes_beq _ _).2 rfl
local instance : LawfulBEq ByteArray := bytes_lawful

/-- element k of a list of strings, behind a name that the walk does not open -/
def gs (xs : List ByteArray) (k : Nat) : ByteArray := xs.getD k ByteArray.empty
theorem gs_def (xs : List ByteArray) (k : Nat) : gs xs k = xs.getD k ByteArray.empty := rfl
def strs (xs : List ByteArray) : List Value := xs.map Value.string
theorem strs_len (xs : List ByteArray) : (strs xs).length = xs.length := by simp [strs]
theorem strs_append (xs ys : List ByteArray) : strs (xs ++ ys) = strs xs ++ strs ys := by simp [strs]
theorem strs_one (x : ByteArray) : strs [x] = [.string x] := rfl
theorem strs_get {xs : List ByteArray} {k : Nat} (h : k < xs.length) : (strs xs)[k]? = some (.string (gs xs k)) := by
  simp [strs, gs, List.getElem?_eq_getElem h]
theorem strs_oneCell (xs : List ByteArray) : ∀ u ∈ strs xs, u.oneCell' = true := by
  intro u hu
  simp only [strs, List.mem_map] at hu
  obtain ⟨x, _, rfl⟩ := hu
  rfl
section
variable {w w' : World} {B n : Nat} {A : Option Addr} {xs : List ByteArray}
theorem Reads.strLen (h : Reads w B 1 A n (strs xs)) : xs.length = n := by have := h.1; simpa [strs] using this
theorem Reads.str {k : Nat} (h : Reads w B 1 A n (strs xs)) (hk : k < n) : ∃ ad, A = some ad ∧ ad.block < B ∧ w.cell? (ad.add k) = some (.string (gs xs k)) := by
  obtain ⟨ad, u, e, hb, hx, hc⟩ := h.at_ hk
  refine ⟨ad, e, hb, hc.trans ?_⟩
  rw [← hx, strs_get (by have := h.strLen; omega)]
theorem Reads.strAt {ad : Addr} {k : Nat} (h : Reads w B 1 (some ad) n (strs xs)) (hk : k < n) : w.cell? (ad.add k) = some (.string (gs xs k)) := by
  obtain ⟨ad', e, _, hc⟩ := h.str hk
  cases e
  exact hc
end
theorem Tryd.infoStr : (Tryd.prog.info? 9).map (fun i => (i.zero, i.size, i.bytes)) = some (some (.string ByteArray.empty), 1, 16) := by kernel_rfl

/-- is x among xs: behind a name that the walk does not open -/
def inS (xs : List ByteArray) (x : ByteArray) : Bool := xs.contains x
theorem inS_iff {xs : List ByteArray} {x : ByteArray} : inS xs x = true ↔ x ∈ xs := by simp [inS]
theorem contains_takeS {xs : List ByteArray} {x : ByteArray} {k : Nat} (hk : k < xs.length) : (xs.take (k + 1)).contains x = ((xs.take k).contains x || gs xs k == x) := by
  rw [List.take_succ_eq_append_getElem hk, List.contains_append, gs_def, List.getD_eq_getElem?_getD, List.getElem?_eq_getElem hk]
  congr 1
  rw [Bool.eq_iff_iff]
  simp only [Option.getD_some, List.contains_cons, List.contains_nil, Bool.or_false, beq_iff_eq]
  exact eq_comm

theorem eqfS_any (a b : ByteArray) (w : World) :
    Calls Tryd.prog 90 #[.string a, .string b] w fun e w' => e = .returned (.bool (a == b)) ∧ w = w' := by
  go_enter Tryd.func90, Tryd.ntmps90
  go_wp2
  go_ret
  exact ⟨ret_bool (beq_toListBytes a b).symm, rfl⟩

/-- are two lists one: behind a name that the walk does not open -/
def eqS (xs ys : List ByteArray) : Bool := decide (xs = ys)
theorem eqS_self (xs : List ByteArray) : eqS xs xs = true := by simp [eqS]
theorem eqS_iff {xs ys : List ByteArray} : eqS xs ys = true ↔ xs = ys := by simp [eqS]
theorem take_eq_succS {xs ys : List ByteArray} {k n : Nat} (hx : xs.length = n) (hy : ys.length = n) (hk : k < n) : (xs.take (k + 1) = ys.take (k + 1)) ↔ (xs.take k = ys.take k ∧ gs xs k = gs ys k) := by
  rw [List.take_succ_eq_append_getElem (by omega), List.take_succ_eq_append_getElem (by omega)]
  constructor
  · intro h
    have h1 := List.append_inj' h (by simp)
    refine ⟨h1.1, ?_⟩
    have h2 : xs[k] = ys[k] := by simpa using h1.2
    simpa [gs, List.getElem?_eq_getElem (show k < xs.length by omega), List.getElem?_eq_getElem (show k < ys.length by omega)] using h2
  · rintro ⟨h1, h2⟩
    have h2 : xs[k] = ys[k] := by simpa [gs, List.getElem?_eq_getElem (show k < xs.length by omega), List.getElem?_eq_getElem (show k < ys.length by omega)] using h2
    rw [h1, h2]

set_option maxRecDepth 100000 in
set_option maxHeartbeats 400000 in
theorem sameS_any (B B' : Nat) (A A' : Option Addr) (n n' c c' : Nat) (xs ys : List ByteArray) (w : World) (hx : Reads w B 1 A n (strs xs)) (hy : Reads w B' 1 A' n' (strs ys)) (hn : n ≤ 1000000000000) :
    Calls Tryd.prog 89 #[.slice A n c, .slice A' n' c', .func (.func 90) #[] #[]] w fun e w' => e = .returned (.bool (eqS xs ys)) ∧ ∃ m, w' = w.drewN m := by
  have HLx := Lib.hid hx.strLen
  have HLy := Lib.hid hy.strLen
  have HX := Lib.hid hx; clear hx
  have HY := Lib.hid hy; clear hy
  by_cases hnn : n = n'
  · subst hnn
    go_enter Tryd.func89, Tryd.ntmps89
    go_wp2
    go_loopg [7] n (fun gk q wr => (∃ m, wr = w.drewN m) ∧ ∃ k : Nat, q = .int .i64 k ∧ k ≤ n ∧ gk = n - k ∧ xs.take k = ys.take k)
    case atStart => exact ⟨⟨0, rfl⟩, 0, rfl, by omega, rfl, rfl⟩
    case round =>
      obtain ⟨⟨m, rfl⟩, k, rfl, hk, hgk, hno⟩ := hrel
      have HG := Lib.hid hgk; clear hgk
      have HN := Lib.hid hno; clear hno
      by_cases hlt : k < n
      · obtain ⟨ad, rfl, had, hc⟩ := HX.out.str hlt
        obtain ⟨ad', rfl, had', hc'⟩ := HY.out.str hlt
        have hct := Lib.hid (take_eq_succS HLx.out HLy.out hlt)
        have k0 : (0 : Int) ≤ k := by omega
        have k1 : (k : Int) < n := by omega
        cases he : (gs xs k == gs ys k) with
        | true =>
          have hf := Lib.hid (show xs.take (k + 1) = ys.take (k + 1) from hct.out.2 ⟨HN.out, by simpa using he⟩)
          go_wp2
          go_quiet ((go_at_call 90; exact quiet_add_left (eqfS_any _ _ _)))
          go_wp2
          go_roundg (n - (k + 1))
          case measure => rw [HG.out]; omega
          case rel => exact ⟨⟨_, rfl⟩, k + 1, by go_num, by omega, rfl, hf.out⟩
        | false =>
          have hf := Lib.hid (show eqS xs ys = false by
            rw [eqS, decide_eq_false_iff_not]
            rintro rfl
            simp at he)
          go_wp2
          go_quiet ((go_at_call 90; exact quiet_add_left (eqfS_any _ _ _)))
          go_wp2
          go_ret
          exact ⟨ret_bool hf.out.symm, m + nq, by rw [World.drewN_drewN]⟩
      · have hf := Lib.hid (show xs = ys by
          have := HN.out
          rw [List.take_of_length_le (by rw [HLx.out]; omega), List.take_of_length_le (by rw [HLy.out]; omega)] at this
          exact this)
        go_wp2
        go_ret
        exact ⟨ret_bool (by rw [hf.out, eqS_self]), m, rfl⟩
  · have hf := Lib.hid (show eqS xs ys = false by
      rw [eqS, decide_eq_false_iff_not]
      rintro rfl
      exact hnn (HLx.out.symm.trans HLy.out))
    have hne : ((n : Int) != (n' : Int)) = true := by simp; omega
    go_enter Tryd.func89, Tryd.ntmps89
    go_wp2
    go_ret
    exact ⟨ret_bool hf.out.symm, 0, rfl⟩

set_option maxRecDepth 100000 in
set_option maxHeartbeats 400000 in
theorem plainS_any (B B' : Nat) (A A' : Option Addr) (n n' c c' : Nat) (xs ys : List ByteArray) (w : World) (hx : Reads w B 1 A n (strs xs)) (hy : Reads w B' 1 A' n' (strs ys)) (hn : n ≤ 1000000000000) :
    Calls Tryd.prog 51 #[.slice A n c, .slice A' n' c'] w fun e w' => e = .returned (.bool (eqS xs ys)) ∧ ∃ m, w' = w.drewN m := by
  have HX := Lib.hid hx; clear hx
  have HY := Lib.hid hy; clear hy
  go_enter Tryd.func51, Tryd.ntmps51
  go_wp2_with (go_at_call 89; refine (sameS_any B B' _ _ _ _ _ _ xs ys _ HX.out HY.out hn).mono ?_; rintro e w' ⟨rfl, m, rfl⟩)
  go_ret
  exact ⟨rfl, m, rfl⟩

/-- what Own lays: the numbers, and three fills behind -/
def ownCellS (xs : List ByteArray) (n : Nat) (fill : ByteArray) (i : Nat) : Value := .string (if i < n then gs xs i else fill)

theorem row_of_ownS {w : World} {B g n cap : Nat} {xs : List ByteArray} (h : w.ownsRow B 9 1 (.slice (some ⟨g, 0, none⟩) n cap) n (strs xs)) :
    ∃ f : Nat → Value, w.rowIs g 9 cap f ∧ ∀ i, i < n → f i = .string (gs xs i) := by
  have hl : xs.length = n := by have := h.1; simpa [strs] using this
  rcases h.2 with ⟨h2, _⟩ | ⟨g', cap', cur, hv, _, hh, hn, _, hs, ht⟩
  · cases h2
  · simp only [Value.slice.injEq, Option.some.injEq, Addr.mk.injEq, and_true, true_and] at hv
    obtain ⟨rfl, rfl⟩ := hv
    refine ⟨fun i => cur.getD i undef, ⟨cur, hh, by simpa using hs, fun i hi => ?_⟩, fun i hi => ?_⟩
    · have hi' : i < cur.size := by omega
      simp [Array.getD, hi']
    · have hi' : i < cur.size := by omega
      have h1 : (cur.toList.take n)[i]? = (strs xs)[i]? := by rw [← ht]; simp
      rw [strs_get (by omega), List.getElem?_take, if_pos hi] at h1
      have h2 : cur[i]? = some (Value.string (gs xs i)) := by simpa using h1
      rw [Array.getElem?_eq_getElem hi'] at h2
      injection h2 with h2
      simp [Array.getD, hi', h2]

/-- the row of Own, as a slice that reads -/
theorem reads_rowS {w : World} {g n cap : Nat} {f : Nat → Value} {xs : List ByteArray} (h : w.rowIs g 9 cap f) (hf : ∀ i, i < n → f i = .string (gs xs i)) (hl : xs.length = n) (hn : n ≤ cap) : Reads w (g + 1) 1 (some ⟨g, 0, none⟩) n (strs xs) := by
  refine ⟨by simp [strs, hl], fun _ => ⟨_, rfl, by simp, fun j u hu => ?_⟩⟩
  have hj : j < n := by
    have := (List.getElem?_eq_some_iff.1 hu).1
    rw [strs_len, hl] at this
    exact this
  rw [strs_get (by omega)] at hu
  cases hu
  have had : Addr.add ⟨g, 0, none⟩ j = ⟨g, j, none⟩ := by unfold Addr.add; split <;> simp_all
  rw [had, h.cell (by omega), hf j hj]

end Go.Proofs.YtakgddochbcjbaaDoor
namespace Go.Proofs.YtakgddochbcjbaaDoor
open Go.RowKit Go.Deep

/-- an edit: its kind and its line -/
def edCells (l : List (Int × ByteArray)) : List Value := l.flatMap fun e => [.int .i64 e.1, .string e.2]
def gek (l : List (Int × ByteArray)) (k : Nat) : Int := (l.getD k (0, ByteArray.empty)).1
def gel (l : List (Int × ByteArray)) (k : Nat) : ByteArray := (l.getD k (0, ByteArray.empty)).2
theorem edCells_cons (e : Int × ByteArray) (l : List (Int × ByteArray)) : edCells (e :: l) = .int .i64 e.1 :: .string e.2 :: edCells l := rfl
theorem edCells_append (l m : List (Int × ByteArray)) : edCells (l ++ m) = edCells l ++ edCells m := by simp [edCells]
theorem edCells_one (k : Int) (s : ByteArray) : edCells [(k, s)] = [.int .i64 k, .string s] := rfl
theorem edCells_len (l : List (Int × ByteArray)) : (edCells l).length = l.length * 2 := by
  induction l with
  | nil => rfl
  | cons e l ih => simp [edCells_cons, ih]; omega
theorem edCells_get {l : List (Int × ByteArray)} {k : Nat} (h : k < l.length) : (edCells l)[k * 2]? = some (.int .i64 (gek l k)) ∧ (edCells l)[k * 2 + 1]? = some (.string (gel l k)) := by
  induction l generalizing k with
  | nil => simp at h
  | cons e l ih =>
    rw [edCells_cons]
    cases k with
    | zero => exact ⟨rfl, rfl⟩
    | succ k =>
      have := ih (k := k) (by simpa using h)
      rw [show (k + 1) * 2 = k * 2 + 1 + 1 by omega]
      simpa [gek, gel] using this
theorem edCells_oneCell (l : List (Int × ByteArray)) : ∀ u ∈ edCells l, u.oneCell' = true := by
  intro u hu
  simp only [edCells, List.mem_flatMap] at hu
  obtain ⟨e, _, hu⟩ := hu
  simp at hu
  rcases hu with rfl | rfl <;> rfl
section
variable {w w' : World} {B n : Nat} {A : Option Addr} {l : List (Int × ByteArray)}
theorem Reads.edLen (h : Reads w B 2 A n (edCells l)) : l.length = n := by
  have := h.1
  rw [edCells_len] at this
  omega
theorem add_one_of (ad : Addr) (k : Nat) : (ad.add k).add 1 = ⟨(ad.add k).block, (ad.add k).off + 1, none⟩ := by simp [Addr.add]
theorem Reads.ed {k : Nat} (h : Reads w B 2 A n (edCells l)) (hk : k < n) :
    ∃ ad, A = some ad ∧ ad.block < B ∧ w.cell? (ad.add (k * 2)) = some (.int .i64 (gek l k)) ∧ w.cell? ⟨(ad.add (k * 2)).block, (ad.add (k * 2)).off + 1, none⟩ = some (.string (gel l k)) := by
  obtain ⟨ad, e, hb, hc⟩ := h.2 (by omega)
  have hl := h.edLen
  have hg := edCells_get (l := l) (k := k) (by omega)
  refine ⟨ad, e, hb, hc _ _ hg.1, ?_⟩
  have := hc _ _ hg.2
  rw [← add_of_add, add_one_of] at this
  exact this
theorem Reads.edAt {ad : Addr} {k : Nat} (h : Reads w B 2 (some ad) n (edCells l)) (hk : k < n) :
    w.cell? (ad.add (k * 2)) = some (.int .i64 (gek l k)) ∧ w.cell? ⟨(ad.add (k * 2)).block, (ad.add (k * 2)).off + 1, none⟩ = some (.string (gel l k)) := by
  obtain ⟨ad', e, _, hc⟩ := h.ed hk
  cases e
  exact hc
end
theorem Tryd.infoEdit : (Tryd.prog.info? 138).map (fun i => (i.zero, i.size, i.bytes)) = some (some (.agg #[.int .i64 0, .string ByteArray.empty]), 2, 24) := by kernel_rfl

theorem cell_two_newE (w : World) (u v : Value) (t : TypeId) : ∀ j x, [u, v][j]? = some x → (w.alloc (.cells #[u, v] t)).cell? (Addr.add ⟨w.heap.size, 0, none⟩ j) = some x := by
  intro j x hx
  have e2 : Addr.add ⟨w.heap.size, 0, none⟩ j = ⟨w.heap.size, j, none⟩ := by unfold Addr.add; split <;> simp_all
  rw [e2, cell_of_row _ w.heap.size j _ _ _ (heap_alloc_new w _)]
  match j, hx with
  | 0, hx => simpa using hx
  | 1, hx => simpa using hx

theorem cell_one_at {w : World} {x : Value} {t : TypeId} {g : Nat} (hg : g = w.heap.size) : ∀ j u, [x][j]? = some u → (w.alloc (.cells #[x] t)).cell? (Addr.add ⟨g, 0, none⟩ j) = some u := by
  subst hg
  exact cell_one_new _ _ _

def eqE (l m : List (Int × ByteArray)) : Bool := decide (l = m)
theorem eqE_self (l : List (Int × ByteArray)) : eqE l l = true := by simp [eqE]
theorem eqE_iff {l m : List (Int × ByteArray)} : eqE l m = true ↔ l = m := by simp [eqE]
theorem takeE_succ {l m : List (Int × ByteArray)} {k n : Nat} (hx : l.length = n) (hy : m.length = n) (hk : k < n) : (l.take (k + 1) = m.take (k + 1)) ↔ (l.take k = m.take k ∧ ((gek l k == gek m k) && ((gel l k).toList == (gel m k).toList)) = true) := by
  rw [List.take_succ_eq_append_getElem (by omega), List.take_succ_eq_append_getElem (by omega)]
  have e1 : l.getD k (0, ByteArray.empty) = l[k] := by simp [List.getD_eq_getElem?_getD, List.getElem?_eq_getElem (show k < l.length by omega)]
  have e2 : m.getD k (0, ByteArray.empty) = m[k] := by simp [List.getD_eq_getElem?_getD, List.getElem?_eq_getElem (show k < m.length by omega)]
  rw [← beq_toListBytes, Bool.and_eq_true, beq_iff_eq, MapKept.bytes_beq, gek, gek, gel, gel, e1, e2]
  constructor
  · intro h
    have h1 := List.append_inj' h (by simp)
    have h2 : l[k] = m[k] := by simpa using h1.2
    rw [h2]
    exact ⟨h1.1, rfl, rfl⟩
  · rintro ⟨h1, h2, h3⟩
    rw [h1, show l[k] = m[k] from Prod.ext h2 h3]

end Go.Proofs.YtakgddochbcjbaaDoor
