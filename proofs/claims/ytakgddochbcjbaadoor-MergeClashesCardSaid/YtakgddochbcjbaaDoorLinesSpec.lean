/- The lines of a text, in plain words. -/
import Derived.Test.YtakgddochbcjbaaDoorSplSpec
namespace Go.Proofs.YtakgddochbcjbaaDoor

/-- a list without an empty end -/
def dropE (l : List (List UInt8)) : List (List UInt8) := if l.getLast? = some [] then l.dropLast else l
def lnL (L : List UInt8) : List (List UInt8) := dropE (sp 10 1 L)
theorem dropE_cons {x y : List UInt8} {l : List (List UInt8)} : dropE (x :: y :: l) = x :: dropE (y :: l) := by
  unfold dropE
  rw [List.getLast?_cons_cons]
  split <;> simp
theorem lnL_no {L : List UInt8} (h : (10 : UInt8) ∉ L) : lnL L = if L = [] then [] else [L] := by
  rw [lnL, sp_no h, dropE]
  simp only [List.getLast?_singleton, Option.some.injEq, List.dropLast_singleton]
theorem lnL_at {u v : List UInt8} (h : (10 : UInt8) ∉ u) : lnL (u ++ 10 :: v) = (u ++ [10]) :: lnL v := by
  rw [lnL, sp_at1 h, lnL]
  have hn := sp_ne 10 1 v
  match hs : sp 10 1 v with
  | [] => exact absurd hs hn
  | y :: l => exact dropE_cons
theorem lnL_nil : lnL [] = [] := by rw [lnL_no (by simp), if_pos rfl]
/-- in front of an end, and behind it -/
theorem lnL_app (v : List UInt8) : ∀ u : List UInt8, lnL (u ++ 10 :: v) = lnL (u ++ [10]) ++ lnL v :=
  sp_ind (c := 10) (M := fun u => lnL (u ++ 10 :: v) = lnL (u ++ [10]) ++ lnL v) (fun u h => by rw [lnL_at h, lnL_at h, lnL_nil]; rfl) (fun u u' h ih => by
    rw [List.append_assoc, List.cons_append, lnL_at h, ih, List.append_assoc, List.cons_append, lnL_at h]; rfl)
theorem lnL_join : ∀ L : List UInt8, (lnL L).flatten = L :=
  sp_ind (c := 10) (M := fun L => (lnL L).flatten = L) (fun L h => by
    rw [lnL_no h]
    split
    · rename_i h; rw [h]; rfl
    · simp) (fun u v h ih => by rw [lnL_at h, List.flatten_cons, ih]; simp)

/-- may a line stand at its place: is it no last one? -/
def okLine (more : Bool) (x : List UInt8) : Bool := !x.isEmpty && (!x.dropLast.contains 10 && (!more || x.getLast? == some 10))
/-- may a list be a text's lines? -/
def good : List (List UInt8) → Bool
  | [] => true
  | [x] => okLine false x
  | x :: y :: l => okLine true x && good (y :: l)
theorem ok_end {u : List UInt8} (h : (10 : UInt8) ∉ u) (m : Bool) : okLine m (u ++ [10]) = true := by
  unfold okLine
  rw [List.dropLast_concat]
  simp [h]
theorem ok_last {u : List UInt8} (h : (10 : UInt8) ∉ u) (h0 : u ≠ []) : okLine false u = true := by
  have : u.dropLast.contains 10 = false := by
    rw [← Bool.not_eq_true, List.contains_iff_mem]
    exact fun hm => h ((List.dropLast_sublist u).subset hm)
  unfold okLine
  rw [this]
  simp [h0]
theorem good_cons {x : List UInt8} {l : List (List UInt8)} (hx : ∀ m, okLine m x = true) (hl : good l = true) : good (x :: l) = true := by
  match l with
  | [] => exact hx false
  | y :: l => rw [good, hx, hl]; rfl
theorem good_lnL : ∀ L : List UInt8, good (lnL L) = true :=
  sp_ind (c := 10) (M := fun L => good (lnL L) = true) (fun L h => by
    rw [lnL_no h]
    split
    · rfl
    · rename_i h0; exact ok_last h h0) (fun u v h ih => by rw [lnL_at h]; exact good_cons (ok_end h) ih)
theorem split_end {x : List UInt8} (h : x ≠ []) : ∃ u b, x = u ++ [b] := ⟨x.dropLast, x.getLast h, (List.dropLast_concat_getLast h).symm⟩
theorem no_of_contains {u : List UInt8} (h : u.contains 10 = false) : (10 : UInt8) ∉ u := by
  rw [← List.contains_iff_mem, h]; simp
/-- a line that may stand ahead of others -/
theorem ok_more {x : List UInt8} (h : okLine true x = true) : ∃ u, x = u ++ [10] ∧ (10 : UInt8) ∉ u := by
  simp only [okLine, Bool.and_eq_true, Bool.not_eq_true', Bool.not_true, Bool.false_or, beq_iff_eq] at h
  obtain ⟨h1, h2, h3⟩ := h
  obtain ⟨u, b, rfl⟩ := split_end (x := x) (by rintro rfl; simp at h1)
  rw [List.dropLast_concat] at h2
  rw [List.getLast?_concat] at h3
  exact ⟨u, by rw [Option.some.inj h3], no_of_contains h2⟩
theorem ok_any {x : List UInt8} (h : okLine false x = true) : lnL x = [x] := by
  simp only [okLine, Bool.and_eq_true, Bool.not_eq_true', Bool.not_false, Bool.true_or, and_true] at h
  obtain ⟨h1, h2⟩ := h
  obtain ⟨u, b, rfl⟩ := split_end (x := x) (by rintro rfl; simp at h1)
  rw [List.dropLast_concat] at h2
  have hu := no_of_contains h2
  by_cases hb : b = 10
  · subst hb
    rw [lnL_at hu, lnL_nil]
  · rw [lnL_no (by simp only [List.mem_append, List.mem_singleton, not_or]; exact ⟨hu, fun h => hb h.symm⟩), if_neg (by simp)]
theorem lnL_good : ∀ l : List (List UInt8), good l = true → lnL l.flatten = l
  | [], _ => lnL_nil
  | [x], h => by
    rw [List.flatten_cons, List.flatten_nil, List.append_nil]
    exact ok_any h
  | x :: y :: l, h => by
    rw [good, Bool.and_eq_true] at h
    obtain ⟨u, rfl, hu⟩ := ok_more h.1
    rw [List.flatten_cons, List.append_assoc, List.singleton_append, lnL_at hu, lnL_good (y :: l) h.2]
/-- a list is good just where it is its join's lines -/
theorem good_iff (l : List (List UInt8)) : good l = decide (lnL l.flatten = l) := by
  rw [Bool.eq_iff_iff, decide_eq_true_eq]
  exact ⟨lnL_good l, fun h => by rw [← h]; exact good_lnL _⟩

/-! texts -/
def linesT (s : ByteArray) : List ByteArray := (lnL s.data.toList).map tx
def bl (l : List ByteArray) : List (List UInt8) := l.map (·.data.toList)
def joinT (l : List ByteArray) : ByteArray := tx (bl l).flatten
def goodT (l : List ByteArray) : Bool := good (bl l)
theorem bl_tx (l : List (List UInt8)) : bl (l.map tx) = l := by
  rw [bl, List.map_map]
  have : ((fun x : ByteArray => x.data.toList) ∘ tx) = id := by funext x; exact data_tx x
  rw [this, List.map_id]
theorem tx_bl (l : List ByteArray) : (bl l).map tx = l := by
  rw [bl, List.map_map]
  have : (tx ∘ fun x : ByteArray => x.data.toList) = id := by funext x; exact tx_data x
  rw [this, List.map_id]
theorem bl_lines (s : ByteArray) : bl (linesT s) = lnL s.data.toList := bl_tx _
theorem join_lines (s : ByteArray) : joinT (linesT s) = s := by rw [joinT, bl_lines, lnL_join, tx_data]
theorem good_lines (s : ByteArray) : goodT (linesT s) = true := by rw [goodT, bl_lines]; exact good_lnL _
theorem lines_join (l : List ByteArray) (h : goodT l = true) : linesT (joinT l) = l := by
  rw [linesT, joinT, data_tx, lnL_good _ h, tx_bl]
theorem good_eq (l : List ByteArray) : goodT l = decide (linesT (joinT l) = l) := by
  rw [Bool.eq_iff_iff, decide_eq_true_eq]
  exact ⟨lines_join l, fun h => by rw [← h]; exact good_lines _⟩
end Go.Proofs.YtakgddochbcjbaaDoor
