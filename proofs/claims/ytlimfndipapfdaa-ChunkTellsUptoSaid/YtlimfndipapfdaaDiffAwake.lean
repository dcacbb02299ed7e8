/- The diff chapter's first line, awake. -/
import Derived.Test.YtlimfndipapfdaaDist
namespace Go.Proofs.Ytlimfndipapfdaa
open Go.RowKit Go.Deep Go.MapKept

theorem reads_alloc (w : World) (xs : List Value) (size n : Nat) (t : TypeId) (hl : xs.length = n * size) : Reads (w.alloc (.cells xs.toArray t)) (w.heap.size + 1) size (some ⟨w.heap.size, 0, none⟩) n xs := by
  refine ⟨hl, fun _ => ⟨_, rfl, by simp, fun j u hu => ?_⟩⟩
  have had : Addr.add ⟨w.heap.size, 0, none⟩ j = ⟨w.heap.size, j, none⟩ := by unfold Addr.add; split <;> simp_all
  rw [had, cell_of_row _ w.heap.size j _ _ _ (heap_alloc_new w _)]
  simpa using hu

theorem script_abc {a b c : ByteArray} (h : a ≠ b) (h1 : a ≠ c) (h2 : b ≠ c) : script 400 [a, b] [b, c] = [(2, a), (1, b), (3, c)] := by
  rw [script_short (by simp) (by simp), scr_del h, scr_eq, scr_nil]
  · rfl
  · rw [lcs_none]
    · exact Nat.zero_le _
    · intro x hx
      simp only [List.mem_cons, List.not_mem_nil, or_false] at hx ⊢
      rcases hx with rfl | rfl
      · exact h1
      · exact h2

theorem eqE_self' (l : List (Int × ByteArray)) : eqE l l = true := eqE_self l
def lA : ByteArray := { data := #[97] }
def lB : ByteArray := { data := #[98] }
def lC : ByteArray := { data := #[99] }
theorem script_lit : script 400 [lA, lB] [lB, lC] = [(2, lA), (1, lB), (3, lC)] := script_abc (by decide) (by decide) (by decide)
/-- two lists of lines, just laid -/
theorem reads_two (w : World) (xs ys : List ByteArray) (n m : Nat) (hx : xs.length = n) (hy : ys.length = m) (cs cs' : Array Value) (h1 : cs = (strs xs).toArray) (h2 : cs' = (strs ys).toArray) (t t' : TypeId) :
    Reads ((w.alloc (.cells cs t)).alloc (.cells cs' t')) (w.heap.size + 2) 1 (some ⟨w.heap.size, 0, none⟩) n (strs xs) ∧ Reads ((w.alloc (.cells cs t)).alloc (.cells cs' t')) (w.heap.size + 2) 1 (some ⟨w.heap.size + 1, 0, none⟩) m (strs ys) := by
  subst h1 h2
  have r1 := reads_alloc w (strs xs) 1 n t (by simp [strs, hx])
  have r2 := reads_alloc (w.alloc (.cells (strs xs).toArray t)) (strs ys) 1 m t' (by simp [strs, hy])
  refine ⟨(r1.alloc (by simp) _).more (by omega), ?_⟩
  simpa using r2

set_option maxHeartbeats 1000000 in
theorem dawake_any (w : World) : Calls Try.prog 15 #[] w fun e w' => e = .returned (.bool true) ∧ Grows w w' := by
  obtain ⟨r1, r2⟩ := reads_two w [lA, lB] [lB, lC] 2 2 rfl rfl #[.string lA, .string lB] #[.string lB, .string lC] rfl rfl 9 9
  have hsz : w.heap.size + 2 ≤ ((w.alloc (.cells #[.string lA, .string lB] 9)).alloc (.cells #[.string lB, .string lC] 9)).heap.size := by simp
  have hg0 : Grows w ((w.alloc (.cells #[.string lA, .string lB] 9)).alloc (.cells #[.string lB, .string lC] 9)) := ((Grows.refl w).alloc _).alloc _
  have HS := Lib.hid (script_any _ _ _ _ 2 2 2 2 _ _ _ r1 r2 hsz hsz (by decide) (by decide) (by decide) (by decide) (by decide) (by decide))
  have HG0 := Lib.hid hg0
  clear r1 r2 hsz hg0
  go_enter Try.func15, Try.ntmps15
  go_wp2_with fail
  refine HS.out.mono ?_
  rw [script_lit]
  rintro e w2 ⟨v, rfl, hown, hgr⟩
  have HG1 := Lib.hid (HG0.out.trans hgr)
  obtain ⟨A2, c2, rfl, hc2, hc2M⟩ := own_form hown
  have HR := Lib.hid (Reads.of_own hown)
  clear HS HG0 hown hgr
  go_wp2_with fail
  have hR2 : Reads (w2.alloc (.cells #[.int .i64 2, .string lA, .int .i64 1, .string lB, .int .i64 3, .string lC] 27)) (w2.heap.size + 1) 2 (some ⟨w2.heap.size, 0, none⟩) 3 (edCells [(2, lA), (1, lB), (3, lC)]) := reads_alloc w2 (edCells [(2, lA), (1, lB), (3, lC)]) 2 3 27 rfl
  refine (plainE_any w2.heap.size (w2.heap.size + 1) A2 _ 3 3 c2 3 _ _ _ (HR.out.alloc (Nat.le_refl _) _) hR2 (by simp) (by simp) (by decide)).mono ?_
  rw [eqE_self']
  rintro e w3 ⟨rfl, hgr3⟩
  have hg3 := HG1.out.trans (((Grows.refl w2).alloc _).trans hgr3)
  have HG3 := Lib.hid hg3
  clear HG1 hR2 hgr3 hg3 HR
  obtain ⟨r1, r2⟩ := reads_two w3 [lA] [lA] 1 1 rfl rfl #[.string lA] #[.string lA] rfl rfl 9 9
  have hsz : w3.heap.size + 2 ≤ ((w3.alloc (.cells #[.string lA] 9)).alloc (.cells #[.string lA] 9)).heap.size := by simp
  have HC := Lib.hid (common_any _ _ _ _ 1 1 1 1 _ _ _ r1 r2 hsz hsz (by decide) (by decide) (by decide) (by decide) (by decide) (by decide))
  clear r1 r2 hsz
  go_wp2_with fail
  refine HC.out.mono ?_
  rw [lcs_self]
  rintro e w4 ⟨rfl, hg4⟩
  have HG4 := Lib.hid (HG3.out.trans ((((Grows.refl w3).alloc _).alloc _).trans hg4))
  clear HG3 hg4 HC
  go_wp2_with fail
  go_ret
  exact ⟨rfl, HG4.out⟩

end Go.Proofs.Ytlimfndipapfdaa
