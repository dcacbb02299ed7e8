/- Lists of edits as slices of structs; rickhelp.Same and Plain at edits. -/
import Derived.Test.YtakgddochbcjbaaDoorStrs
namespace Go.Proofs.YtakgddochbcjbaaDoor
open Go.RowKit Go.Deep

/-- an edit: its kind and its line -/
def edCells (l : List (Int × ByteArray)) : List Value := l.flatMap fun e => [.int .i64 e.1, .string e.2]
def gek (l : List (Int × ByteArray)) (k : Nat) : Int := (l.getD k (0, ByteArray.empty)).1
def gel (l : List (Int × ByteArray)) (k : Nat) : ByteArray := (l.getD k (0, ByteArray.empty)).2
theorem edCells_cons (e : Int × ByteArray) (l : List (Int × ByteArray)) : edCells (e :: l) = .int .i64 e.1 :: .string e.2 :: edCells l := rfl
theorem edCells_append (l m : List (Int × ByteArray)) : edCells (l ++ m) = edCells l ++ edCells m := by simp [edCells]
theorem edCells_one (k : Int) (s : ByteArray) : edCells [(k, s)] = [.int .i64 k, .string s] := rfl
theorem edCells_len (l : List (Int × ByteArray)) : (edCells l).length = l.length * 2 := by
  induction l with
  | nil => rfl
  | cons e l ih => simp [edCells_cons, ih]; omega
theorem edCells_get {l : List (Int × ByteArray)} {k : Nat} (h : k < l.length) : (edCells l)[k * 2]? = some (.int .i64 (gek l k)) ∧ (edCells l)[k * 2 + 1]? = some (.string (gel l k)) := by
  induction l generalizing k with
  | nil => simp at h
  | cons e l ih =>
    rw [edCells_cons]
    cases k with
    | zero => exact ⟨rfl, rfl⟩
    | succ k =>
      have := ih (k := k) (by simpa using h)
      rw [show (k + 1) * 2 = k * 2 + 1 + 1 by omega]
      simpa [gek, gel] using this
theorem edCells_oneCell (l : List (Int × ByteArray)) : ∀ u ∈ edCells l, u.oneCell' = true := by
  intro u hu
  simp only [edCells, List.mem_flatMap] at hu
  obtain ⟨e, _, hu⟩ := hu
  simp at hu
  rcases hu with rfl | rfl <;> rfl
section
variable {w w' : World} {B n : Nat} {A : Option Addr} {l : List (Int × ByteArray)}
theorem Reads.edLen (h : Reads w B 2 A n (edCells l)) : l.length = n := by
  have := h.1
  rw [edCells_len] at this
  omega
theorem add_one_of (ad : Addr) (k : Nat) : (ad.add k).add 1 = ⟨(ad.add k).block, (ad.add k).off + 1, none⟩ := by simp [Addr.add]
theorem Reads.ed {k : Nat} (h : Reads w B 2 A n (edCells l)) (hk : k < n) :
    ∃ ad, A = some ad ∧ ad.block < B ∧ w.cell? (ad.add (k * 2)) = some (.int .i64 (gek l k)) ∧ w.cell? ⟨(ad.add (k * 2)).block, (ad.add (k * 2)).off + 1, none⟩ = some (.string (gel l k)) := by
  obtain ⟨ad, e, hb, hc⟩ := h.2 (by omega)
  have hl := h.edLen
  have hg := edCells_get (l := l) (k := k) (by omega)
  refine ⟨ad, e, hb, hc _ _ hg.1, ?_⟩
  have := hc _ _ hg.2
  rw [← add_of_add, add_one_of] at this
  exact this
theorem Reads.edAt {ad : Addr} {k : Nat} (h : Reads w B 2 (some ad) n (edCells l)) (hk : k < n) :
    w.cell? (ad.add (k * 2)) = some (.int .i64 (gek l k)) ∧ w.cell? ⟨(ad.add (k * 2)).block, (ad.add (k * 2)).off + 1, none⟩ = some (.string (gel l k)) := by
  obtain ⟨ad', e, _, hc⟩ := h.ed hk
  cases e
  exact hc
end
theorem Tryd.infoEdit : (Tryd.prog.info? 138).map (fun i => (i.zero, i.size, i.bytes)) = some (some (.agg #[.int .i64 0, .string ByteArray.empty]), 2, 24) := by kernel_rfl

theorem cell_two_newE (w : World) (u v : Value) (t : TypeId) : ∀ j x, [u, v][j]? = some x → (w.alloc (.cells #[u, v] t)).cell? (Addr.add ⟨w.heap.size, 0, none⟩ j) = some x := by
  intro j x hx
  have e2 : Addr.add ⟨w.heap.size, 0, none⟩ j = ⟨w.heap.size, j, none⟩ := by unfold Addr.add; split <;> simp_all
  rw [e2, cell_of_row _ w.heap.size j _ _ _ (heap_alloc_new w _)]
  match j, hx with
  | 0, hx => simpa using hx
  | 1, hx => simpa using hx

theorem cell_one_at {w : World} {x : Value} {t : TypeId} {g : Nat} (hg : g = w.heap.size) : ∀ j u, [x][j]? = some u → (w.alloc (.cells #[x] t)).cell? (Addr.add ⟨g, 0, none⟩ j) = some u := by
  subst hg
  exact cell_one_new _ _ _

def eqE (l m : List (Int × ByteArray)) : Bool := decide (l = m)
theorem eqE_self (l : List (Int × ByteArray)) : eqE l l = true := by simp [eqE]
theorem eqE_iff {l m : List (Int × ByteArray)} : eqE l m = true ↔ l = m := by simp [eqE]
theorem takeE_succ {l m : List (Int × ByteArray)} {k n : Nat} (hx : l.length = n) (hy : m.length = n) (hk : k < n) : (l.take (k + 1) = m.take (k + 1)) ↔ (l.take k = m.take k ∧ ((gek l k == gek m k) && ((gel l k).toList == (gel m k).toList)) = true) := by
  rw [List.take_succ_eq_append_getElem (by omega), List.take_succ_eq_append_getElem (by omega)]
  have e1 : l.getD k (0, ByteArray.empty) = l[k] := by simp [List.getD_eq_getElem?_getD, List.getElem?_eq_getElem (show k < l.length by omega)]
  have e2 : m.getD k (0, ByteArray.empty) = m[k] := by simp [List.getD_eq_getElem?_getD, List.getElem?_eq_getElem (show k < m.length by omega)]
  rw [← beq_toListBytes, Bool.and_eq_true, beq_iff_eq, MapKept.bytes_beq, gek, gek, gel, gel, e1, e2]
  constructor
  · intro h
    have h1 := List.append_inj' h (by simp)
    have h2 : l[k] = m[k] := by simpa using h1.2
    rw [h2]
    exact ⟨h1.1, rfl, rfl⟩
  · rintro ⟨h1, h2, h3⟩
    rw [h1, show l[k] = m[k] from Prod.ext h2 h3]

end Go.Proofs.YtakgddochbcjbaaDoor
