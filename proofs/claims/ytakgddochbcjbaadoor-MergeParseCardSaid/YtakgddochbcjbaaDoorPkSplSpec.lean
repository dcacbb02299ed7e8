/- A text cut at a byte: the shelf's words, brought to plain steps. The lines of a text, in plain words. -/
import Derived.Lib.Split
import Derived.Test.YtakgddochbcjbaaDoorPkStrs
namespace Go.Proofs.YtakgddochbcjbaaDoor

/-- a text's pieces, cut at c; save: how much of c stays with the piece -/
def sp (c : UInt8) (save : Nat) (l : List UInt8) : List (List UInt8) := Lib.splitK [c] save (l.count c) l
theorem index_no {c : UInt8} {l : List UInt8} (h : c ∉ l) : Lib.index l [c] = -1 := by
  refine Lib.index_none fun j hj => ?_
  cases ho : Lib.occAt l [c] j with
  | false => rfl
  | true =>
    have := Lib.occAt_head (c := c) (t := []) rfl ho
    exact absurd (List.mem_of_getElem? this) h
theorem index_at {c : UInt8} {u v : List UInt8} (h : c ∉ u) : Lib.index (u ++ c :: v) [c] = u.length := by
  refine Lib.index_first (by simp) ?_ fun j hj => ?_
  · unfold Lib.occAt
    rw [List.drop_left' rfl]
    simp
  · cases ho : Lib.occAt (u ++ c :: v) [c] j with
    | false => rfl
    | true =>
      have := Lib.occAt_head (c := c) (t := []) rfl ho
      rw [List.getElem?_append_left hj] at this
      exact absurd (List.mem_of_getElem? this) h
theorem splitK_no {c : UInt8} {save k : Nat} {l : List UInt8} (h : c ∉ l) : Lib.splitK [c] save k l = [l] := by
  cases k with
  | zero => rfl
  | succ k => unfold Lib.splitK; rw [index_no h]; simp
theorem splitK_at {c : UInt8} {save k : Nat} {u v : List UInt8} (h : c ∉ u) : Lib.splitK [c] save (k + 1) (u ++ c :: v) = (u ++ c :: v).take (u.length + save) :: Lib.splitK [c] save k v := by
  rw [Lib.splitK, index_at h]
  rw [if_neg (by simp)]
  have e : ((u.length : Nat) : Int).toNat = u.length := by omega
  rw [e]
  congr 2
  rw [show (u.length + [c].length) = (u ++ [c]).length by simp, show u ++ c :: v = (u ++ [c]) ++ v by simp, List.drop_left' rfl]
theorem first_of {c : UInt8} : ∀ {l : List UInt8}, c ∈ l → ∃ u v, l = u ++ c :: v ∧ c ∉ u
  | x :: l, h => by
    by_cases hx : c = x
    · subst hx; exact ⟨[], l, rfl, by simp⟩
    · obtain ⟨u, v, e, hu⟩ := first_of (c := c) (l := l) (by simpa [hx] using h)
      exact ⟨x :: u, v, by rw [e]; rfl, by simp [hx, hu]⟩
/-- more looks than there are pieces change nothing -/
theorem splitK_more {c : UInt8} {save : Nat} : ∀ (k : Nat) (l : List UInt8), l.count c ≤ k → Lib.splitK [c] save k l = sp c save l
  | k, l, h => by
    by_cases hc : c ∈ l
    · obtain ⟨u, v, rfl, hu⟩ := first_of hc
      have e : (u ++ c :: v).count c = v.count c + 1 := by rw [List.count_append, List.count_eq_zero_of_not_mem hu, List.count_cons_self]; omega
      rw [e] at h
      obtain ⟨k', rfl⟩ : ∃ k', k = k' + 1 := ⟨k - 1, by omega⟩
      unfold sp
      rw [e, splitK_at hu, splitK_at hu, splitK_more k' v (by omega)]
      rfl
    · unfold sp
      rw [splitK_no hc, splitK_no hc]
termination_by k => k
theorem sp_no {c : UInt8} {save : Nat} {l : List UInt8} (h : c ∉ l) : sp c save l = [l] := splitK_no h
theorem sp_at {c : UInt8} {save : Nat} {u v : List UInt8} (h : c ∉ u) : sp c save (u ++ c :: v) = (u ++ c :: v).take (u.length + save) :: sp c save v := by
  have e : (u ++ c :: v).count c = v.count c + 1 := by rw [List.count_append, List.count_eq_zero_of_not_mem h, List.count_cons_self]; omega
  unfold sp
  rw [e, splitK_at h]
theorem sp_at0 {c : UInt8} {u v : List UInt8} (h : c ∉ u) : sp c 0 (u ++ c :: v) = u :: sp c 0 v := by
  rw [sp_at h, Nat.add_zero, List.take_left' rfl]
theorem sp_at1 {c : UInt8} {u v : List UInt8} (h : c ∉ u) : sp c 1 (u ++ c :: v) = (u ++ [c]) :: sp c 1 v := by
  rw [sp_at h, show u ++ c :: v = (u ++ [c]) ++ v by simp, List.take_left' (by simp)]
/-- whatever holds of a text without c, and goes on from piece to piece, holds of all -/
theorem sp_ind {c : UInt8} {M : List UInt8 → Prop} (h0 : ∀ l, c ∉ l → M l) (h1 : ∀ u v, c ∉ u → M v → M (u ++ c :: v)) : ∀ l, M l := by
  have key : ∀ (n : Nat) (l : List UInt8), l.length ≤ n → M l := by
    intro n
    induction n with
    | zero =>
      intro l hl
      have : l = [] := List.eq_nil_of_length_eq_zero (by omega)
      subst this
      exact h0 [] (by simp)
    | succ n ih =>
      intro l hl
      by_cases hc : c ∈ l
      · obtain ⟨u, v, e, hu⟩ := first_of hc
        rw [e] at hl ⊢
        exact h1 u v hu (ih v (by simp at hl; omega))
      · exact h0 l hc
  exact fun l => key _ l (Nat.le_refl _)
theorem sp_ne (c : UInt8) (save : Nat) (l : List UInt8) : sp c save l ≠ [] := by
  by_cases hc : c ∈ l
  · obtain ⟨u, v, e, hu⟩ := first_of hc
    rw [e, sp_at hu]; simp
  · rw [sp_no hc]; simp

/-- bytes as a text -/
def tx (l : List UInt8) : ByteArray := ⟨l.toArray⟩
theorem tx_data (s : ByteArray) : tx s.data.toList = s := by cases s; simp [tx]
theorem data_tx (l : List UInt8) : (tx l).data.toList = l := by simp [tx]
theorem tx_size (l : List UInt8) : (tx l).size = l.length := by simp [tx, ByteArray.size]
theorem tx_inj {l m : List UInt8} (h : tx l = tx m) : l = m := by rw [← data_tx l, h, data_tx]
theorem tx_ext (s : ByteArray) (a b : Nat) : s.extract a b = tx ((s.data.toList.take b).drop a) := by
  have h : (s.extract a b).data.toList = (s.data.toList.take b).drop a := by
    simp [ByteArray.data_extract, Array.toList_extract, List.extract_eq_take_drop, List.drop_take]
  rw [← h, tx_data]
/-- a text's pieces, as texts -/
def pieces (c : UInt8) (save : Nat) (s : ByteArray) : List ByteArray := (sp c save s.data.toList).map tx
theorem pieces_shelf (c : UInt8) (save k : Nat) (s : ByteArray) (hk : s.data.toList.count c ≤ k) : Lib.splitB ⟨#[c]⟩ save k s = pieces c save s := by
  have h := Lib.splitB_data ⟨#[c]⟩ save k s
  have e : (⟨#[c]⟩ : ByteArray).data.toList = [c] := rfl
  rw [e, splitK_more k _ hk] at h
  unfold pieces
  rw [← h, List.map_map]
  have : (tx ∘ fun x : ByteArray => x.data.toList) = id := by funext x; exact tx_data x
  rw [this, List.map_id]
end Go.Proofs.YtakgddochbcjbaaDoor
namespace Go.Proofs.YtakgddochbcjbaaDoor

/-- a list without an empty end -/
def dropE (l : List (List UInt8)) : List (List UInt8) := if l.getLast? = some [] then l.dropLast else l
def lnL (L : List UInt8) : List (List UInt8) := dropE (sp 10 1 L)
theorem dropE_cons {x y : List UInt8} {l : List (List UInt8)} : dropE (x :: y :: l) = x :: dropE (y :: l) := by
  unfold dropE
  rw [List.getLast?_cons_cons]
  split <;> simp
theorem lnL_no {L : List UInt8} (h : (10 : UInt8) ∉ L) : lnL L = if L = [] then [] else [L] := by
  rw [lnL, sp_no h, dropE]
  simp only [List.getLast?_singleton, Option.some.injEq, List.dropLast_singleton]
theorem lnL_at {u v : List UInt8} (h : (10 : UInt8) ∉ u) : lnL (u ++ 10 :: v) = (u ++ [10]) :: lnL v := by
  rw [lnL, sp_at1 h, lnL]
  have hn := sp_ne 10 1 v
  match hs : sp 10 1 v with
  | [] => exact absurd hs hn
  | y :: l => exact dropE_cons
theorem lnL_nil : lnL [] = [] := by rw [lnL_no (by simp), if_pos rfl]
/-- in front of an end, and behind it -/
theorem lnL_app (v : List UInt8) : ∀ u : List UInt8, lnL (u ++ 10 :: v) = lnL (u ++ [10]) ++ lnL v :=
  sp_ind (c := 10) (M := fun u => lnL (u ++ 10 :: v) = lnL (u ++ [10]) ++ lnL v) (fun u h => by rw [lnL_at h, lnL_at h, lnL_nil]; rfl) (fun u u' h ih => by
    rw [List.append_assoc, List.cons_append, lnL_at h, ih, List.append_assoc, List.cons_append, lnL_at h]; rfl)
theorem lnL_join : ∀ L : List UInt8, (lnL L).flatten = L :=
  sp_ind (c := 10) (M := fun L => (lnL L).flatten = L) (fun L h => by
    rw [lnL_no h]
    split
    · rename_i h; rw [h]; rfl
    · simp) (fun u v h ih => by rw [lnL_at h, List.flatten_cons, ih]; simp)

/-- may a line stand at its place: is it no last one? -/
def okLine (more : Bool) (x : List UInt8) : Bool := !x.isEmpty && (!x.dropLast.contains 10 && (!more || x.getLast? == some 10))
/-- may a list be a text's lines? -/
def good : List (List UInt8) → Bool
  | [] => true
  | [x] => okLine false x
  | x :: y :: l => okLine true x && good (y :: l)
theorem ok_end {u : List UInt8} (h : (10 : UInt8) ∉ u) (m : Bool) : okLine m (u ++ [10]) = true := by
  unfold okLine
  rw [List.dropLast_concat]
  simp [h]
theorem ok_last {u : List UInt8} (h : (10 : UInt8) ∉ u) (h0 : u ≠ []) : okLine false u = true := by
  have : u.dropLast.contains 10 = false := by
    rw [← Bool.not_eq_true, List.contains_iff_mem]
    exact fun hm => h ((List.dropLast_sublist u).subset hm)
  unfold okLine
  rw [this]
  simp [h0]
theorem good_cons {x : List UInt8} {l : List (List UInt8)} (hx : ∀ m, okLine m x = true) (hl : good l = true) : good (x :: l) = true := by
  match l with
  | [] => exact hx false
  | y :: l => rw [good, hx, hl]; rfl
theorem good_lnL : ∀ L : List UInt8, good (lnL L) = true :=
  sp_ind (c := 10) (M := fun L => good (lnL L) = true) (fun L h => by
    rw [lnL_no h]
    split
    · rfl
    · rename_i h0; exact ok_last h h0) (fun u v h ih => by rw [lnL_at h]; exact good_cons (ok_end h) ih)
theorem split_end {x : List UInt8} (h : x ≠ []) : ∃ u b, x = u ++ [b] := ⟨x.dropLast, x.getLast h, (List.dropLast_concat_getLast h).symm⟩
theorem no_of_contains {u : List UInt8} (h : u.contains 10 = false) : (10 : UInt8) ∉ u := by
  rw [← List.contains_iff_mem, h]; simp
/-- a line that may stand ahead of others -/
theorem ok_more {x : List UInt8} (h : okLine true x = true) : ∃ u, x = u ++ [10] ∧ (10 : UInt8) ∉ u := by
  simp only [okLine, Bool.and_eq_true, Bool.not_eq_true', Bool.not_true, Bool.false_or, beq_iff_eq] at h
  obtain ⟨h1, h2, h3⟩ := h
  obtain ⟨u, b, rfl⟩ := split_end (x := x) (by rintro rfl; simp at h1)
  rw [List.dropLast_concat] at h2
  rw [List.getLast?_concat] at h3
  exact ⟨u, by rw [Option.some.inj h3], no_of_contains h2⟩
theorem ok_any {x : List UInt8} (h : okLine false x = true) : lnL x = [x] := by
  simp only [okLine, Bool.and_eq_true, Bool.not_eq_true', Bool.not_false, Bool.true_or, and_true] at h
  obtain ⟨h1, h2⟩ := h
  obtain ⟨u, b, rfl⟩ := split_end (x := x) (by rintro rfl; simp at h1)
  rw [List.dropLast_concat] at h2
  have hu := no_of_contains h2
  by_cases hb : b = 10
  · subst hb
    rw [lnL_at hu, lnL_nil]
  · rw [lnL_no (by simp only [List.mem_append, List.mem_singleton, not_or]; exact ⟨hu, fun h => hb h.symm⟩), if_neg (by simp)]
theorem lnL_good : ∀ l : List (List UInt8), good l = true → lnL l.flatten = l
  | [], _ => lnL_nil
  | [x], h => by
    rw [List.flatten_cons, List.flatten_nil, List.append_nil]
    exact ok_any h
  | x :: y :: l, h => by
    rw [good, Bool.and_eq_true] at h
    obtain ⟨u, rfl, hu⟩ := ok_more h.1
    rw [List.flatten_cons, List.append_assoc, List.singleton_append, lnL_at hu, lnL_good (y :: l) h.2]
/-- a list is good just where it is its join's lines -/
theorem good_iff (l : List (List UInt8)) : good l = decide (lnL l.flatten = l) := by
  rw [Bool.eq_iff_iff, decide_eq_true_eq]
  exact ⟨lnL_good l, fun h => by rw [← h]; exact good_lnL _⟩

/-! texts -/
def linesT (s : ByteArray) : List ByteArray := (lnL s.data.toList).map tx
def bl (l : List ByteArray) : List (List UInt8) := l.map (·.data.toList)
def joinT (l : List ByteArray) : ByteArray := tx (bl l).flatten
def goodT (l : List ByteArray) : Bool := good (bl l)
theorem bl_tx (l : List (List UInt8)) : bl (l.map tx) = l := by
  rw [bl, List.map_map]
  have : ((fun x : ByteArray => x.data.toList) ∘ tx) = id := by funext x; exact data_tx x
  rw [this, List.map_id]
theorem tx_bl (l : List ByteArray) : (bl l).map tx = l := by
  rw [bl, List.map_map]
  have : (tx ∘ fun x : ByteArray => x.data.toList) = id := by funext x; exact tx_data x
  rw [this, List.map_id]
theorem bl_lines (s : ByteArray) : bl (linesT s) = lnL s.data.toList := bl_tx _
theorem join_lines (s : ByteArray) : joinT (linesT s) = s := by rw [joinT, bl_lines, lnL_join, tx_data]
theorem good_lines (s : ByteArray) : goodT (linesT s) = true := by rw [goodT, bl_lines]; exact good_lnL _
theorem lines_join (l : List ByteArray) (h : goodT l = true) : linesT (joinT l) = l := by
  rw [linesT, joinT, data_tx, lnL_good _ h, tx_bl]
theorem good_eq (l : List ByteArray) : goodT l = decide (linesT (joinT l) = l) := by
  rw [Bool.eq_iff_iff, decide_eq_true_eq]
  exact ⟨lines_join l, fun h => by rw [← h]; exact good_lines _⟩
end Go.Proofs.YtakgddochbcjbaaDoor
