/- What the parts of a joined name are. -/
import Derived.Test.YtmfgbkbbmeedjaaDoorPathAwake
namespace Go.Proofs.YtmfgbkbbmeedjaaDoor

theorem sp_app (c : UInt8) (v : List UInt8) : ∀ u : List UInt8, sp c 0 (u ++ c :: v) = sp c 0 u ++ sp c 0 v :=
  sp_ind (M := fun u => sp c 0 (u ++ c :: v) = sp c 0 u ++ sp c 0 v) (fun u h => by rw [sp_at0 h, sp_no h]; rfl) (fun u u' h ih => by
    rw [List.append_assoc, List.cons_append, sp_at0 h, sp_at0 h, ih]; rfl)
def slash : ByteArray := ⟨#[47]⟩
def none_ : ByteArray := ⟨#[]⟩
theorem pieces_join (a b : ByteArray) : pieces 47 0 (a ++ slash ++ b) = pieces 47 0 a ++ pieces 47 0 b := by
  have e : (a ++ slash ++ b).data.toList = a.data.toList ++ 47 :: b.data.toList := by simp [slash, ByteArray.data_append]
  rw [pieces, e, sp_app, List.map_append]
  rfl
theorem of_data {a b : ByteArray} (h : a.data.toList = b.data.toList) : a = b := by rw [← tx_data a, h, tx_data]
theorem app_none (a : ByteArray) : a ++ none_ = a := of_data (by simp [none_, ByteArray.data_append])
theorem none_app (a : ByteArray) : none_ ++ a = a := of_data (by simp [none_, ByteArray.data_append])
theorem pieces_none : pieces 47 0 none_ = [none_] := by kernel_rfl
theorem right_bad {p x : ByteArray} (h : x ∈ pieces 47 0 p) (hb : badS x = true) : rightP p = false := by
  have : (pieces 47 0 p).any badS = true := List.any_eq_true.2 ⟨x, h, hb⟩
  rw [rightP, this]
  simp
theorem right_tail (s : ByteArray) : rightP (s ++ slash) = false := by
  refine right_bad (x := none_) ?_ (by kernel_rfl)
  rw [← app_none (s ++ slash), pieces_join, pieces_none]
  simp
theorem right_head (s : ByteArray) : rightP (slash ++ s) = false := by
  refine right_bad (x := none_) ?_ (by kernel_rfl)
  have e : slash ++ s = none_ ++ slash ++ s := by rw [none_app]
  rw [e, pieces_join, pieces_none]
  simp
theorem right_none : rightP none_ = false := by kernel_rfl
def updots : ByteArray := ⟨#[47, 46, 46, 47, 97]⟩
theorem right_dots (s : ByteArray) : rightP (s ++ updots) = false := by
  refine right_bad (x := ⟨#[46, 46]⟩) ?_ (by kernel_rfl)
  have e : s ++ updots = s ++ slash ++ ⟨#[46, 46, 47, 97]⟩ := of_data (by simp [updots, slash, ByteArray.data_append])
  have e2 : pieces 47 0 ⟨#[46, 46, 47, 97]⟩ = [⟨#[46, 46]⟩, ⟨#[97]⟩] := by kernel_rfl
  rw [e, pieces_join, e2]
  simp

/-- the first k parts, slashes between -/
def jk (l : List ByteArray) : Nat → ByteArray
  | 0 => none_
  | k + 1 => (if k = 0 then none_ else jk l k ++ slash) ++ gs l k
/-- a part that may stand alone -/
def okPart (x : ByteArray) : Bool := rightP x && decide ((pieces 47 0 x).length = 1)
def okParts (l : List ByteArray) (k : Nat) : Bool := (l.take k).all okPart
theorem okParts_succ {l : List ByteArray} {k : Nat} (h : k < l.length) : okParts l (k + 1) = (okParts l k && okPart (gs l k)) := by
  have e : gs l k = l[k] := by simp [gs, h]
  rw [okParts, List.take_succ_eq_append_getElem h, List.all_append, ← e]
  simp [okParts]
theorem okPart_pieces {x : ByteArray} (h : okPart x = true) : pieces 47 0 x = [x] := by
  simp only [okPart, Bool.and_eq_true, decide_eq_true_eq] at h
  have h2 := h.2
  rw [pieces_len] at h2
  have : (47 : UInt8) ∉ x.data.toList := by
    rw [← List.count_eq_zero]
    omega
  rw [pieces, sp_no this, List.map_cons, tx_data]
  rfl
theorem jk_size {l : List ByteArray} (h : ∀ k, k < l.length → (gs l k).size ≤ 20) : ∀ k, k ≤ l.length → (jk l k).size ≤ 21 * k
  | 0, _ => Nat.zero_le _
  | k + 1, hk => by
    have h1 := jk_size h k (by omega)
    have h2 := h k (by omega)
    unfold jk
    split
    · rw [ByteArray.size_append, show none_.size = 0 from rfl]; omega
    · rw [ByteArray.size_append, ByteArray.size_append, show slash.size = 1 from rfl]; omega
/-- what right parts come to -/
theorem jk_right {l : List ByteArray} : ∀ k, k < l.length → okParts l (k + 1) = true → pieces 47 0 (jk l (k + 1)) = l.take (k + 1) ∧ (jk l (k + 1)).data.toList.any badB = false ∧ 1 ≤ (jk l (k + 1)).size := by
  intro k
  induction k with
  | zero =>
    intro hk ho
    rw [okParts_succ hk, Bool.and_eq_true] at ho
    have h2 := ho.2
    have e : jk l 1 = gs l 0 := none_app _
    have eg : gs l 0 = l[0] := by simp [gs, hk]
    rw [e, okPart_pieces h2]
    simp only [okPart, rightP, Bool.and_eq_true, decide_eq_true_eq, Bool.not_eq_true'] at h2
    refine ⟨?_, h2.1.2.1, h2.1.1.1⟩
    rw [List.take_succ_eq_append_getElem hk, eg]
    rfl
  | succ k ih =>
    intro hk ho
    rw [okParts_succ hk, Bool.and_eq_true] at ho
    obtain ⟨i1, i2, i3⟩ := ih (by omega) ho.1
    have h2 := ho.2
    have eg : gs l (k + 1) = l[k + 1] := by simp [gs, hk]
    have e : jk l (k + 1 + 1) = jk l (k + 1) ++ slash ++ gs l (k + 1) := rfl
    rw [e, pieces_join, okPart_pieces h2, i1]
    simp only [okPart, rightP, Bool.and_eq_true, decide_eq_true_eq, Bool.not_eq_true'] at h2
    refine ⟨?_, ?_, ?_⟩
    · rw [List.take_succ_eq_append_getElem hk, eg]
    · rw [ByteArray.data_append, ByteArray.data_append, Array.toList_append, Array.toList_append, List.any_append, List.any_append, i2, h2.1.2.1]
      rfl
    · rw [ByteArray.size_append, ByteArray.size_append]; omega
theorem join_right {l : List ByteArray} (h0 : l.length ≠ 0) (ho : okParts l l.length = true) (hs : (jk l l.length).size ≤ 100) : rightP (jk l l.length) = true ∧ pieces 47 0 (jk l l.length) = l := by
  obtain ⟨k, hk⟩ : ∃ k, l.length = k + 1 := ⟨l.length - 1, by omega⟩
  rw [hk] at ho hs ⊢
  obtain ⟨i1, i2, i3⟩ := jk_right k (by omega) ho
  have e : l.take (k + 1) = l := List.take_of_length_le (by omega)
  refine ⟨?_, i1.trans e⟩
  have hb : (pieces 47 0 (jk l (k + 1))).any badS = false := by
    rw [i1, ← Bool.not_eq_true, List.any_eq_true]
    rintro ⟨x, hx, hbad⟩
    have h1 := List.all_eq_true.1 ho x hx
    have h2 := okPart_pieces h1
    simp only [okPart, rightP, Bool.and_eq_true, decide_eq_true_eq, Bool.not_eq_true'] at h1
    have h3 := h1.1.2.2
    rw [h2] at h3
    simp [hbad] at h3
  rw [rightP, i2, hb, decide_eq_true ⟨i3, hs⟩]
  rfl
end Go.Proofs.YtmfgbkbbmeedjaaDoor
