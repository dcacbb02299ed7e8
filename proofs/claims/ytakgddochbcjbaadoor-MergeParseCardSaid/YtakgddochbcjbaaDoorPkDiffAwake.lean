/- The diff chapter's first line, awake. -/
import Derived.Test.YtakgddochbcjbaaDoorPkDist
namespace Go.Proofs.YtakgddochbcjbaaDoor
open Go.RowKit Go.Deep Go.MapKept

theorem reads_alloc (w : World) (xs : List Value) (size n : Nat) (t : TypeId) (hl : xs.length = n * size) : Reads (w.alloc (.cells xs.toArray t)) (w.heap.size + 1) size (some ⟨w.heap.size, 0, none⟩) n xs := by
  refine ⟨hl, fun _ => ⟨_, rfl, by simp, fun j u hu => ?_⟩⟩
  have had : Addr.add ⟨w.heap.size, 0, none⟩ j = ⟨w.heap.size, j, none⟩ := by unfold Addr.add; split <;> simp_all
  rw [had, cell_of_row _ w.heap.size j _ _ _ (heap_alloc_new w _)]
  simpa using hu

theorem script_abc {a b c : ByteArray} (h : a ≠ b) (h1 : a ≠ c) (h2 : b ≠ c) : script 400 [a, b] [b, c] = [(2, a), (1, b), (3, c)] := by
  rw [script_short (by simp) (by simp), scr_del h, scr_eq, scr_nil]
  · rfl
  · rw [lcs_none]
    · exact Nat.zero_le _
    · intro x hx
      simp only [List.mem_cons, List.not_mem_nil, or_false] at hx ⊢
      rcases hx with rfl | rfl
      · exact h1
      · exact h2

theorem eqE_self' (l : List (Int × ByteArray)) : eqE l l = true := eqE_self l
def lA : ByteArray := { data := #[97] }
def lB : ByteArray := { data := #[98] }
def lC : ByteArray := { data := #[99] }
theorem script_lit : script 400 [lA, lB] [lB, lC] = [(2, lA), (1, lB), (3, lC)] := script_abc (by decide) (by decide) (by decide)
/-- two lists of lines, just laid -/
theorem reads_two (w : World) (xs ys : List ByteArray) (n m : Nat) (hx : xs.length = n) (hy : ys.length = m) (cs cs' : Array Value) (h1 : cs = (strs xs).toArray) (h2 : cs' = (strs ys).toArray) (t t' : TypeId) :
    Reads ((w.alloc (.cells cs t)).alloc (.cells cs' t')) (w.heap.size + 2) 1 (some ⟨w.heap.size, 0, none⟩) n (strs xs) ∧ Reads ((w.alloc (.cells cs t)).alloc (.cells cs' t')) (w.heap.size + 2) 1 (some ⟨w.heap.size + 1, 0, none⟩) m (strs ys) := by
  subst h1 h2
  have r1 := reads_alloc w (strs xs) 1 n t (by simp [strs, hx])
  have r2 := reads_alloc (w.alloc (.cells (strs xs).toArray t)) (strs ys) 1 m t' (by simp [strs, hy])
  refine ⟨(r1.alloc (by simp) _).more (by omega), ?_⟩
  simpa using r2

end Go.Proofs.YtakgddochbcjbaaDoor
