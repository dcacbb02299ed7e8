/- A text cut at a byte: the shelf's words, brought to plain steps. -/
import Derived.Lib.Split
import Derived.Test.YtakgddochbcjbaaDoorStrs
namespace Go.Proofs.YtakgddochbcjbaaDoor

/-- a text's pieces, cut at c; save: how much of c stays with the piece -/
def sp (c : UInt8) (save : Nat) (l : List UInt8) : List (List UInt8) := Lib.splitK [c] save (l.count c) l
theorem index_no {c : UInt8} {l : List UInt8} (h : c ∉ l) : Lib.index l [c] = -1 := by
  refine Lib.index_none fun j hj => ?_
  cases ho : Lib.occAt l [c] j with
  | false => rfl
  | true =>
    have := Lib.occAt_head (c := c) (t := []) rfl ho
    exact absurd (List.mem_of_getElem? this) h
theorem index_at {c : UInt8} {u v : List UInt8} (h : c ∉ u) : Lib.index (u ++ c :: v) [c] = u.length := by
  refine Lib.index_first (by simp) ?_ fun j hj => ?_
  · unfold Lib.occAt
    rw [List.drop_left' rfl]
    simp
  · cases ho : Lib.occAt (u ++ c :: v) [c] j with
    | false => rfl
    | true =>
      have := Lib.occAt_head (c := c) (t := []) rfl ho
      rw [List.getElem?_append_left hj] at this
      exact absurd (List.mem_of_getElem? this) h
theorem splitK_no {c : UInt8} {save k : Nat} {l : List UInt8} (h : c ∉ l) : Lib.splitK [c] save k l = [l] := by
  cases k with
  | zero => rfl
  | succ k => unfold Lib.splitK; rw [index_no h]; simp
theorem splitK_at {c : UInt8} {save k : Nat} {u v : List UInt8} (h : c ∉ u) : Lib.splitK [c] save (k + 1) (u ++ c :: v) = (u ++ c :: v).take (u.length + save) :: Lib.splitK [c] save k v := by
  rw [Lib.splitK, index_at h]
  rw [if_neg (by simp)]
  have e : ((u.length : Nat) : Int).toNat = u.length := by omega
  rw [e]
  congr 2
  rw [show (u.length + [c].length) = (u ++ [c]).length by simp, show u ++ c :: v = (u ++ [c]) ++ v by simp, List.drop_left' rfl]
theorem first_of {c : UInt8} : ∀ {l : List UInt8}, c ∈ l → ∃ u v, l = u ++ c :: v ∧ c ∉ u
  | x :: l, h => by
    by_cases hx : c = x
    · subst hx; exact ⟨[], l, rfl, by simp⟩
    · obtain ⟨u, v, e, hu⟩ := first_of (c := c) (l := l) (by simpa [hx] using h)
      exact ⟨x :: u, v, by rw [e]; rfl, by simp [hx, hu]⟩
/-- more looks than there are pieces change nothing -/
theorem splitK_more {c : UInt8} {save : Nat} : ∀ (k : Nat) (l : List UInt8), l.count c ≤ k → Lib.splitK [c] save k l = sp c save l
  | k, l, h => by
    by_cases hc : c ∈ l
    · obtain ⟨u, v, rfl, hu⟩ := first_of hc
      have e : (u ++ c :: v).count c = v.count c + 1 := by rw [List.count_append, List.count_eq_zero_of_not_mem hu, List.count_cons_self]; omega
      rw [e] at h
      obtain ⟨k', rfl⟩ : ∃ k', k = k' + 1 := ⟨k - 1, by omega⟩
      unfold sp
      rw [e, splitK_at hu, splitK_at hu, splitK_more k' v (by omega)]
      rfl
    · unfold sp
      rw [splitK_no hc, splitK_no hc]
termination_by k => k
theorem sp_no {c : UInt8} {save : Nat} {l : List UInt8} (h : c ∉ l) : sp c save l = [l] := splitK_no h
theorem sp_at {c : UInt8} {save : Nat} {u v : List UInt8} (h : c ∉ u) : sp c save (u ++ c :: v) = (u ++ c :: v).take (u.length + save) :: sp c save v := by
  have e : (u ++ c :: v).count c = v.count c + 1 := by rw [List.count_append, List.count_eq_zero_of_not_mem h, List.count_cons_self]; omega
  unfold sp
  rw [e, splitK_at h]
theorem sp_at0 {c : UInt8} {u v : List UInt8} (h : c ∉ u) : sp c 0 (u ++ c :: v) = u :: sp c 0 v := by
  rw [sp_at h, Nat.add_zero, List.take_left' rfl]
theorem sp_at1 {c : UInt8} {u v : List UInt8} (h : c ∉ u) : sp c 1 (u ++ c :: v) = (u ++ [c]) :: sp c 1 v := by
  rw [sp_at h, show u ++ c :: v = (u ++ [c]) ++ v by simp, List.take_left' (by simp)]
/-- whatever holds of a text without c, and goes on from piece to piece, holds of all -/
theorem sp_ind {c : UInt8} {M : List UInt8 → Prop} (h0 : ∀ l, c ∉ l → M l) (h1 : ∀ u v, c ∉ u → M v → M (u ++ c :: v)) : ∀ l, M l := by
  have key : ∀ (n : Nat) (l : List UInt8), l.length ≤ n → M l := by
    intro n
    induction n with
    | zero =>
      intro l hl
      have : l = [] := List.eq_nil_of_length_eq_zero (by omega)
      subst this
      exact h0 [] (by simp)
    | succ n ih =>
      intro l hl
      by_cases hc : c ∈ l
      · obtain ⟨u, v, e, hu⟩ := first_of hc
        rw [e] at hl ⊢
        exact h1 u v hu (ih v (by simp at hl; omega))
      · exact h0 l hc
  exact fun l => key _ l (Nat.le_refl _)
theorem sp_ne (c : UInt8) (save : Nat) (l : List UInt8) : sp c save l ≠ [] := by
  by_cases hc : c ∈ l
  · obtain ⟨u, v, e, hu⟩ := first_of hc
    rw [e, sp_at hu]; simp
  · rw [sp_no hc]; simp

/-- bytes as a text -/
def tx (l : List UInt8) : ByteArray := ⟨l.toArray⟩
theorem tx_data (s : ByteArray) : tx s.data.toList = s := by cases s; simp [tx]
theorem data_tx (l : List UInt8) : (tx l).data.toList = l := by simp [tx]
theorem tx_size (l : List UInt8) : (tx l).size = l.length := by simp [tx, ByteArray.size]
theorem tx_inj {l m : List UInt8} (h : tx l = tx m) : l = m := by rw [← data_tx l, h, data_tx]
theorem tx_ext (s : ByteArray) (a b : Nat) : s.extract a b = tx ((s.data.toList.take b).drop a) := by
  have h : (s.extract a b).data.toList = (s.data.toList.take b).drop a := by
    simp [ByteArray.data_extract, Array.toList_extract, List.extract_eq_take_drop, List.drop_take]
  rw [← h, tx_data]
/-- a text's pieces, as texts -/
def pieces (c : UInt8) (save : Nat) (s : ByteArray) : List ByteArray := (sp c save s.data.toList).map tx
theorem pieces_shelf (c : UInt8) (save k : Nat) (s : ByteArray) (hk : s.data.toList.count c ≤ k) : Lib.splitB ⟨#[c]⟩ save k s = pieces c save s := by
  have h := Lib.splitB_data ⟨#[c]⟩ save k s
  have e : (⟨#[c]⟩ : ByteArray).data.toList = [c] := rfl
  rw [e, splitK_more k _ hk] at h
  unfold pieces
  rw [← h, List.map_map]
  have : (tx ∘ fun x : ByteArray => x.data.toList) = id := by funext x; exact tx_data x
  rw [this, List.map_id]
end Go.Proofs.YtakgddochbcjbaaDoor
