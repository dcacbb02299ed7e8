/- MergeParse: the walk of the law. -/
import Derived.Test.YtakgddochbcjbaaDoorPkTells2
import Derived.Test.YtakgddochbcjbaaDoorPkMergeMarks
namespace Go.Proofs.YtakgddochbcjbaaDoor
open Go.RowKit Go.Deep Go.MapKept

theorem good_init : ∀ (init : List (List UInt8)) (z : List UInt8), good (init ++ [z]) = true → (∀ x ∈ init, okLine true x = true) ∧ okLine false z = true
  | [], z, h => ⟨(fun x hx => absurd hx (by simp)), h⟩
  | [y], z, h => by
    have h' : (okLine true y && good [z]) = true := h
    rw [Bool.and_eq_true] at h'
    exact ⟨(fun x hx => by rw [List.mem_singleton.1 hx]; exact h'.1), h'.2⟩
  | y :: y2 :: init, z, h => by
    have h' : (okLine true y && good (y2 :: (init ++ [z]))) = true := h
    rw [Bool.and_eq_true] at h'
    obtain ⟨h1, h2⟩ := good_init (y2 :: init) z h'.2
    exact ⟨(fun x hx => (List.mem_cons.1 hx).elim (fun e => e ▸ h'.1) (h1 x)), h2⟩
/-- the lines of a text that ends with an end have theirs -/
theorem lines_ended (s : ByteArray) : ∀ x ∈ linesT (s ++ { data := #[10] }), okLine true x.data.toList = true := by
  have hg : good (bl (linesT (s ++ { data := #[10] }))) = true := good_lines _
  have hj : (bl (linesT (s ++ { data := #[10] }))).flatten = s.data.toList ++ [10] := by
    have := congrArg (fun z : ByteArray => z.data.toList) (join_lines (s ++ { data := #[10] }))
    rw [joinT_data] at this
    rw [this, ByteArray.data_append]
    simp
  intro x hx
  have hx' : x.data.toList ∈ bl (linesT (s ++ { data := #[10] })) := List.mem_map.2 ⟨x, hx, rfl⟩
  generalize bl (linesT (s ++ { data := #[10] })) = L at hg hj hx'
  have hL : L ≠ [] := by rintro rfl; simp at hj
  obtain ⟨init, z, rfl⟩ : ∃ init z, L = init ++ [z] := ⟨L.dropLast, L.getLast hL, (List.dropLast_concat_getLast hL).symm⟩
  obtain ⟨h1, h2⟩ := good_init init z hg
  rcases List.mem_append.1 hx' with h | h
  · exact h1 _ h
  · rw [List.mem_singleton.1 h]
    have hz : z ≠ [] := by rintro rfl; simp [okLine] at h2
    obtain ⟨u, b, rfl⟩ := split_end hz
    rw [List.flatten_append, List.flatten_cons, List.flatten_nil, List.append_nil, ← List.append_assoc] at hj
    have hb := (List.append_inj' hj rfl).2
    simp only [List.cons.injEq, and_true] at hb
    subst hb
    simp only [okLine, Bool.and_eq_true, Bool.not_eq_true', Bool.not_false, Bool.true_or, and_true] at h2 ⊢
    simpa using h2
theorem endT_of {x : ByteArray} (h : okLine true x.data.toList = true) : endT x = x := by
  obtain ⟨u, hu, _⟩ := ok_more h
  rw [endT, hu, endL_last (b := 10) (k := u.length) (by simp) (by simp), if_pos rfl, ← hu, tx_data]
/-- a plain text whose lines have ends -/
theorem plain_lines {s : ByteArray} (h : plainT (s ++ { data := #[10] }) = true) : ∀ x ∈ linesT (s ++ { data := #[10] }), LineP x := by
  intro x hx
  have ho := lines_ended s x hx
  refine ⟨ho, ?_⟩
  unfold plainT at h
  rw [Bool.not_eq_true', List.any_eq_false] at h
  have := h x hx
  rw [isMark, ended_line ho, endT_of ho] at this
  cases hm : markF x with
  | none => rfl
  | some p => rw [hm] at this; simp at this
theorem chunks_plain {b o t : ByteArray} (hb : plainT (b ++ { data := #[10] }) = true) (ho : plainT (o ++ { data := #[10] }) = true) (ht : plainT (t ++ { data := #[10] }) = true) :
    ∀ ch ∈ chunks (linesT (b ++ { data := #[10] })) (linesT (o ++ { data := #[10] })) (linesT (t ++ { data := #[10] })), ChunkP ch := by
  intro ch hch
  obtain ⟨w1, w2, w3⟩ := chunks_whole (linesT (b ++ { data := #[10] })) (linesT (o ++ { data := #[10] })) (linesT (t ++ { data := #[10] }))
  refine ⟨fun x hx => plain_lines hb x ?_, fun x hx => plain_lines ho x ?_, fun x hx => plain_lines ht x ?_⟩
  · rw [← w1]; exact List.mem_flatMap.2 ⟨ch, hch, hx⟩
  · rw [← w2]; exact List.mem_flatMap.2 ⟨ch, hch, hx⟩
  · rw [← w3]; exact List.mem_flatMap.2 ⟨ch, hch, hx⟩
theorem merged_plain {l : List ChkB} (hc : ∀ c ∈ l, ChunkP c) (h : cleanC l = true) : plainT (mergedT l) = true := by
  unfold plainT
  rw [merged_split hc, lines_clean h, Bool.not_eq_true', List.any_eq_false]
  intro x hx
  obtain ⟨c, hcl, hxc⟩ := List.mem_flatMap.1 hx
  have hp : LineP x := by
    have := hc c hcl
    split at hxc
    · exact this.2.2 x hxc
    · exact this.2.1 x hxc
  rw [isMark, ended_line hp.1, endT_of hp.1, hp.2]
  simp
theorem merged_size {l : List ChkB} (hs : ∀ k, k < l.length → SmallC (gch l k)) (hl : l.length ≤ 1000) (hf : (flatS (mergeC l)).length ≤ 2000) : (mergedT l).size ≤ 4000000 := by
  unfold mergedT
  split
  · rw [joinT_size]
    have : (bl (mergeC l)).flatten.length = (flatS (mergeC l)).length := rfl
    omega
  · rw [tx_size]
    have := outTo_len hs l.length (Nat.le_refl _)
    omega
/-- one side of what came, as far as chunk k -/
def aTo (ours : Bool) (c : List ChkB) (k : Nat) : ByteArray := tx ((c.take k).flatMap (sideB ours))
theorem aTo_succ {c : List ChkB} {ours : Bool} {k : Nat} (h : k < c.length) : aTo ours c (k + 1) = aTo ours c k ++ tx (sideB ours (gch c k)) := by
  rw [aTo, List.take_succ_eq_append_getElem h, List.flatMap_append, tx_appT, aTo]
  congr 2
  simp [gch, List.getElem?_eq_getElem h]
theorem aTo_size {c : List ChkB} {ours : Bool} (hs : ∀ k, k < c.length → SmallC (gch c k)) : ∀ k, k ≤ c.length → (aTo ours c k).size ≤ 1000 * k
  | 0, _ => by simp [aTo, tx_size]
  | k + 1, h => by
    have ih := aTo_size (ours := ours) hs k (by omega)
    have h1 := (hs k (by omega)).1
    rw [aTo_succ (by omega), ByteArray.size_append, tx_size]
    have : (sideB ours (gch c k)).length ≤ 1000 := by
      unfold sideB
      split
      · unfold sideC
        split
        · exact h1.2.1
        · exact h1.2.2
      · rw [flat_merge]
        split
        · exact h1.2.2
        · exact h1.2.1
    omega
def cTo (c : List ChkB) (k : Nat) : Nat := clashN (c.take k)
theorem cTo_succ {c : List ChkB} {k : Nat} (h : k < c.length) : cTo c (k + 1) = cTo c k + if (gch c k).1 = 5 then 1 else 0 := by
  rw [cTo, List.take_succ_eq_append_getElem h, clash_app, cTo]
  congr 1
  have : gch c k = c[k] := by simp [gch, List.getElem?_eq_getElem h]
  rw [this]
  by_cases h5 : c[k].1 = 5
  · rw [if_pos h5]; simp [clashN, h5]
  · rw [if_neg h5]; simp [clashN, h5]
theorem cTo_le (c : List ChkB) (k : Nat) : cTo c k ≤ k := by
  have := List.countP_le_length (p := fun c : ChkB => c.1 == 5) (l := c.take k)
  rw [List.length_take] at this
  unfold cTo clashN
  omega
end Go.Proofs.YtakgddochbcjbaaDoor
