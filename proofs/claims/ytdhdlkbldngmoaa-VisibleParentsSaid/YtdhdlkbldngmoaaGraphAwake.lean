/- The law's own first line, awake: what a program that does nothing does not answer. -/
import Derived.Test.YtdhdlkbldngmoaaGraphWalk2
import Derived.Test.YtdhdlkbldngmoaaRefGraph
import Derived.Test.YtdhdlkbldngmoaaParents
namespace Go.Proofs.Ytdhdlkbldngmoaa
open Go.RowKit

theorem reads_lit (w : World) (xs : List Int) (cs : Array Value) (n : Nat) (hn : xs.length = n) (hc : cs = (ints xs).toArray) : Reads (w.alloc (.cells cs 3)) (w.heap.size + 1) 1 (some ⟨w.heap.size, 0, none⟩) n (ints xs) := by
  subst hc
  refine ⟨by simp [ints, hn], fun _ => ⟨_, rfl, by simp, fun j u hu => ?_⟩⟩
  have had : Addr.add ⟨w.heap.size, 0, none⟩ j = ⟨w.heap.size, j, none⟩ := by unfold Addr.add; split <;> simp_all
  rw [had, cell_of_row _ w.heap.size j _ _ _ (heap_alloc_new w _)]
  simpa using hu

theorem retL {w : World} {xs : List Int} {B : Nat} (ys : List Int) (n : Nat) (heq : xs = ys) (hn : ys.length = n) {e : Ending} {w' : World} (h : ∃ v, e = .returned v ∧ w'.ownsRow B 3 1 v xs.length (ints xs) ∧ Grows w w') :
    ∃ A c, e = .returned (.slice A n c) ∧ Reads w' w'.heap.size 1 A n (ints ys) ∧ Grows w w' := by
  obtain ⟨v, rfl, hown, hg⟩ := h
  subst heq
  subst hn
  obtain ⟨A, c, rfl, _, _⟩ := own_form hown
  exact ⟨A, c, rfl, Reads.of_own hown, hg⟩

set_option maxHeartbeats 400000 in
theorem gawake_any (w : World) : Calls Try.prog 13 #[] w fun e w' => e = .returned (.bool true) ∧ Grows w w' := by
  have HR := Lib.hid (reads_lit w [-1, 0, 1] #[.int .i64 (-1), .int .i64 0, .int .i64 1] 3 rfl rfl)
  have hg0 : Grows w (w.alloc (.cells #[.int .i64 (-1), .int .i64 0, .int .i64 1] 3)) := (Grows.refl w).alloc _
  go_enter Try.func13, Try.ntmps13
  go_wp2_with fail
  refine (right_any _ _ _ _ _ _ HR.out (by decide)).mono ?_
  rintro e w' ⟨rfl, rfl⟩
  rw [show right [-1, 0, 1] = true by decide]
  go_wp2_with fail
  refine (chain_any _ _ _ _ _ _ _ HR.out (by simp) (by decide)).mono fun e w1 h => ?_
  obtain ⟨A1, c1, rfl, hr1, hg1⟩ := retL [2, 1, 0] 3 (by decide) rfl h
  clear h
  go_wp2_with fail
  refine (plain_any _ _ _ _ _ _ _ _ [2, 1, 0] [2, 1, 0] _ (hr1.alloc (Nat.le_refl _) _) (reads_lit w1 [2, 1, 0] #[.int .i64 2, .int .i64 1, .int .i64 0] 3 rfl rfl) (by decide)).mono ?_
  rintro e w2 ⟨rfl, m1, rfl⟩
  rw [eqL_self]
  have hg2 := ((hg1.alloc (.cells #[.int .i64 2, .int .i64 1, .int .i64 0] 3)).drewN m1)
  have hgg2 := hg0.trans hg2
  have HR2 := Lib.hid (HR.out.grows (by simp) hg2)
  have hz2 : w.heap.size + 1 ≤ ((w1.alloc (.cells #[.int .i64 2, .int .i64 1, .int .i64 0] 3)).drewN m1).heap.size := by have := hg2.size; simpa using this
  clear hr1
  go_wp2_with fail
  refine (under_any _ _ _ _ _ _ _ HR2.out hz2 (by decide)).mono fun e w3 h => ?_
  obtain ⟨A3, c3, rfl, hr3, hg3⟩ := retL [1, 2] 2 (by decide) rfl h
  clear h
  go_wp2_with fail
  refine (plain_any _ _ _ _ _ _ _ _ [1, 2] [1, 2] _ (hr3.alloc (Nat.le_refl _) _) (reads_lit w3 [1, 2] #[.int .i64 1, .int .i64 2] 2 rfl rfl) (by decide)).mono ?_
  rintro e w4 ⟨rfl, m2, rfl⟩
  rw [eqL_self]
  have hg4 := ((hg3.alloc (.cells #[.int .i64 1, .int .i64 2] 3)).drewN m2)
  have HR4 := Lib.hid (HR2.out.grows hz2 hg4)
  clear hr3
  go_wp2_with fail
  refine (base_any _ _ _ _ _ _ _ _ HR4.out (by decide)).mono ?_
  rintro e w5 ⟨rfl, rfl⟩
  rw [show base [-1, 0, 1] 2 1 = 1 by decide]
  have hfin := hgg2.trans hg4
  go_wp2_with fail
  go_ret
  exact ⟨rfl, hfin⟩

end Go.Proofs.Ytdhdlkbldngmoaa
