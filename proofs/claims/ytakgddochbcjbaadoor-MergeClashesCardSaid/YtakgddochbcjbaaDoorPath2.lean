/- Names of files: Parts and Right of the program; the document's Parts, Path, Within, Clash. -/
import Derived.Test.YtakgddochbcjbaaDoorPath
import Derived.Lib.SplitLaws
namespace Go.Proofs.YtakgddochbcjbaaDoor
open Go.RowKit Go.Deep Go.MapKept

/-- the library's own variable holds some number -/
def MaxL (w : World) : Prop := ∃ m, w.cell? ⟨0, 0, none⟩ = some (.int .i64 m)
theorem MaxL.pos {w : World} (h : MaxL w) : 0 < w.heap.size := by
  obtain ⟨m, hm⟩ := h
  rcases Nat.eq_zero_or_pos w.heap.size with h0 | h0
  · exfalso
    simp only [World.cell?] at hm
    rw [Array.getElem?_eq_none (by omega)] at hm
    cases hm
  · exact h0
theorem MaxL.grows {w w' : World} (h : MaxL w) (hg : Grows w w') : MaxL w' := by
  have hp := h.pos
  obtain ⟨m, hm⟩ := h
  exact ⟨m, (Below.cell hg (by exact hp)).trans hm⟩
theorem MaxL.drewN {w : World} (h : MaxL w) (n : Nat) : MaxL (w.drewN n) := h
theorem MaxL.drew {w : World} (h : MaxL w) : MaxL w.drew := h
theorem MaxL.alloc {w : World} (h : MaxL w) (o : Obj) : MaxL (w.alloc o) := h.grows ((Grows.refl w).alloc o)

theorem count_one (c : UInt8) : ∀ l : List UInt8, Lib.count l [c] = l.count c :=
  sp_ind (M := fun l => Lib.count l [c] = l.count c) (fun l h => by rw [Lib.count_miss (index_no h), List.count_eq_zero_of_not_mem h]) (fun u v h ih => by
    rw [Lib.count_hit (by simp) (index_at h)]
    have e : (u ++ c :: v).drop (u.length + [c].length) = v := by
      rw [show (u.length + [c].length) = (u ++ [c]).length by simp, show u ++ c :: v = (u ++ [c]) ++ v by simp, List.drop_left' rfl]
    rw [e, ih, List.count_append, List.count_eq_zero_of_not_mem h, List.count_cons_self]
    omega)
theorem countB_one (s : ByteArray) (c : UInt8) : Lib.countB s ⟨#[c]⟩ = s.data.toList.count c := count_one c _
theorem sp_len (c : UInt8) (save : Nat) : ∀ l : List UInt8, (sp c save l).length = l.count c + 1 :=
  sp_ind (M := fun l => (sp c save l).length = l.count c + 1) (fun l h => by rw [sp_no h, List.count_eq_zero_of_not_mem h]; rfl) (fun u v h ih => by
    rw [sp_at h, List.length_cons, ih, List.count_append, List.count_eq_zero_of_not_mem h, List.count_cons_self]
    omega)
theorem pieces_len (c : UInt8) (save : Nat) (s : ByteArray) : (pieces c save s).length = s.data.toList.count c + 1 := by rw [pieces, List.length_map, sp_len]
theorem count_size (c : UInt8) (s : ByteArray) : s.data.toList.count c ≤ s.size := by
  have h := List.count_le_length (a := c) (l := s.data.toList)
  rw [Array.length_toList] at h
  exact h

theorem Reads.newRow (w : World) (t : TypeId) (vs : List Value) (fz : Nat × Nat) : Reads (w.alloc (.cells vs.toArray t fz)) (w.heap.size + 1) 1 (some ⟨w.heap.size, 0, none⟩) vs.length vs := by
  refine ⟨by omega, fun _ => ⟨_, rfl, Nat.lt_succ_self _, fun j u hu => ?_⟩⟩
  have had : Addr.add ⟨w.heap.size, 0, none⟩ j = ⟨w.heap.size, j, none⟩ := by unfold Addr.add; split <;> simp_all
  rw [had, cell_of_row _ _ _ _ _ _ (heap_alloc_new w _)]
  simpa using hu

/-- a fresh row of pieces, and the world behind -/
def RowOf (w w' : World) (v : Value) (xs : List ByteArray) : Prop := ∃ A c, v = .slice A xs.length c ∧ xs.length ≤ c ∧ c ≤ 1000000000000 ∧ Reads w' w'.heap.size 1 A xs.length (strs xs) ∧ Grows w w'
theorem Reads.bytesRow_ (w : World) (s : ByteArray) (t : TypeId) (cap : Nat) (fz : Nat × Nat) : Reads (w.alloc (.cells (bytesRow s cap) t fz)) (w.alloc (.cells (bytesRow s cap) t fz)).heap.size 1 (some ⟨w.heap.size, 0, none⟩) s.size (byteV s.data.toList) := by
  refine ⟨by rw [byteV, List.length_map, Array.length_toList, Nat.mul_one]; rfl, fun _ => ⟨_, rfl, by simp, fun j u hu => ?_⟩⟩
  have had : Addr.add ⟨w.heap.size, 0, none⟩ j = ⟨w.heap.size, j, none⟩ := by unfold Addr.add; split <;> simp_all
  have hj : j < s.data.size := by
    have := (List.getElem?_eq_some_iff.1 hu).1
    simpa [byteV] using this
  rw [had, cell_of_row _ _ _ _ _ _ (heap_alloc_new w _)]
  rw [bytesRow, Array.getElem?_append_left (by simpa using hj)]
  simpa [byteV] using hu

end Go.Proofs.YtakgddochbcjbaaDoor
