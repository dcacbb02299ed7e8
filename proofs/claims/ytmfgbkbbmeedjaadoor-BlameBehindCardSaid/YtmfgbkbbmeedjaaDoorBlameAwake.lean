/- The blame chapter's first line: awake. -/
import Derived.Test.YtmfgbkbbmeedjaaDoorBlame4
namespace Go.Proofs.YtmfgbkbbmeedjaaDoor
open Go.RowKit Go.Deep Go.MapKept

def tA : ByteArray := { data := #[97, 10] }
def tAB : ByteArray := { data := #[97, 10, 98, 10] }
def tB : ByteArray := { data := #[98, 10] }
theorem lines_tA : linesT tA = [tA] := by kernel_rfl
theorem lines_tAB : linesT tAB = [tA] ++ [tB] := by kernel_rfl
theorem blame_stack : blameL ([tA, tAB].map linesT) = [0, 1] := by
  show blameL [linesT tA, linesT tAB] = [0, 1]
  rw [lines_tA, lines_tAB]
  show nextL (((0 : Nat) : Int) + 1) (blameK [[tA], [tA] ++ [tB]] 0) (script 400 [tA] ([tA] ++ [tB])) = [0, 1]
  rw [blame_more _ _ _ _ rfl]
  rfl
theorem lAB_ne : lA ≠ lB := by
  intro h
  have := congrArg (fun x : ByteArray => x.data.toList) h
  exact absurd this (by decide)
theorem blame_lists : blameL [[lA], [lB, lA]] = [1, 0] := by
  show nextL (((0 : Nat) : Int) + 1) (blameK [[lA], [lB, lA]] 0) (script 400 [lA] [lB, lA]) = [1, 0]
  rw [script_short (by decide) (by decide), scr_ins lAB_ne (by rw [lcs_eq, lcs_nil, lcs_nil]; decide), scr_eq, scr_nil]
  rfl

theorem own_lit (w : World) (x : List ByteArray) (h : x.length ≤ maxLen) : OwnS (w.alloc (.cells (strs x).toArray 9 (0, 0))) (.slice (some ⟨w.heap.size, 0, none⟩) x.length x.length) x :=
  OwnS.of (B := 0) (n := x.length) (World.ownsRow_lit w (strs x).toArray x.length (Nat.zero_le _) h (by simp [strs]))
theorem vers_lit {w : World} {v1 v2 : Value} {x1 x2 : List ByteArray} (h1 : OwnS w v1 x1) (h2 : OwnS w v2 x2) : Vers (w.alloc (.cells #[v1, v2] 22 (0, 0))) (w.heap.size + 1) (some ⟨w.heap.size, 0, none⟩) 2 [x1, x2] := by
  have h := vers_of (World.ownsRow_lit (e := 22) (size := 1) w #[v1, v2] 2 (Nat.zero_le _) (by decide) rfl) (ll := [x1, x2]) ⟨h1.alloc _, h2.alloc _, trivial⟩
  have e : (w.alloc (.cells #[v1, v2] 22 (0, 0))).heap.size = w.heap.size + 1 := by simp
  rwa [e] at h
set_option maxHeartbeats 1000000 in
theorem bawake_any (w : World) (hm : MaxL w) : Calls Tryd.prog 34 #[] w fun e w' => e = .returned (.bool true) ∧ Grows w w' := by
  go_enter Tryd.func34, Tryd.ntmps34
  go_wp2_with fail
  have hr0 := Reads.newRow w 9 (strs [tA, tAB]) (0, 0)
  have hg0 := (Grows.refl w).alloc (.cells (strs [tA, tAB]).toArray 9 (0, 0))
  refine (stack_any (w.heap.size + 1) _ 2 2 [tA, tAB] (w.alloc (.cells (strs [tA, tAB]).toArray 9 (0, 0))) hr0 (by simp) (hm.grows hg0) (by decide) (fun i hi => by
    rcases (by omega : i = 0 ∨ i = 1) with rfl | rfl <;> decide)).mono ?_
  rw [blame_stack]
  rintro e w1 ⟨v, rfl, ⟨A1, c1, rfl, hr1⟩, hg1⟩
  have HR1 := Lib.hid hr1
  have HG1 := Lib.hid (hg0.trans hg1)
  clear hr0 hg0 hr1 hg1
  go_wp2_with fail
  have hr2 := Reads.newRow w1 3 (ints [0, 1]) (0, 0)
  refine (plain_any w1.heap.size (w1.heap.size + 1) A1 _ 2 2 _ _ [0, 1] [0, 1] _ (HR1.out.alloc (Nat.le_refl _) _) hr2 (by decide)).mono ?_
  rw [eqL_self]
  rintro e w' ⟨rfl, d, rfl⟩
  obtain ⟨w2, hw2⟩ : ∃ w2, (w1.alloc (.cells (ints [0, 1]).toArray 3 (0, 0))).drewN d = w2 := ⟨_, rfl⟩
  have HG2 := Lib.hid (show Grows w w2 by rw [← hw2]; exact (HG1.out.alloc (.cells (ints [0, 1]).toArray 3 (0, 0))).drewN d)
  rw [hw2]
  clear hw2 hr2 HR1
  go_wp2_with fail
  have o1 : OwnS (w2.alloc (.cells (strs [lA]).toArray 9 (0, 0))) (.slice (some ⟨w2.heap.size, 0, none⟩) 1 1) [lA] := own_lit w2 [lA] (by decide)
  have o2 : OwnS ((w2.alloc (.cells (strs [lA]).toArray 9 (0, 0))).alloc (.cells (strs [lB, lA]).toArray 9 (0, 0))) (.slice (some ⟨w2.heap.size + 1, 0, none⟩) 2 2) [lB, lA] := by
    have h := own_lit (w2.alloc (.cells (strs [lA]).toArray 9 (0, 0))) [lB, lA] (by decide)
    have e : (w2.alloc (.cells (strs [lA]).toArray 9 (0, 0))).heap.size = w2.heap.size + 1 := by simp
    rwa [e] at h
  have hv := vers_lit (o1.alloc (.cells (strs [lB, lA]).toArray 9 (0, 0))) o2
  have hg3 := ((HG2.out.alloc (.cells (strs [lA]).toArray 9 (0, 0))).alloc (.cells (strs [lB, lA]).toArray 9 (0, 0))).alloc (.cells #[.slice (some ⟨w2.heap.size, 0, none⟩) 1 1, .slice (some ⟨w2.heap.size + 1, 0, none⟩) 2 2] 22 (0, 0))
  have e : ((w2.alloc (.cells (strs [lA]).toArray 9 (0, 0))).alloc (.cells (strs [lB, lA]).toArray 9 (0, 0))).heap.size = w2.heap.size + 1 + 1 := by simp
  rw [e] at hv
  refine (blines_any _ _ 2 2 [[lA], [lB, lA]] _ hv (by simp) (by decide) (fun i hi => by
    rcases (by omega : i = 0 ∨ i = 1) with rfl | rfl <;> decide)).mono ?_
  rw [blame_lists]
  rintro e w4 ⟨v, rfl, ⟨A4, c4, rfl, hr4⟩, hg4⟩
  have HR4 := Lib.hid hr4
  have HG4 := Lib.hid (hg3.trans hg4)
  clear hv hg3 hr4 hg4 o1 o2 e
  go_wp2_with fail
  have hr5 := Reads.newRow w4 3 (ints [1, 0]) (0, 0)
  refine (plain_any w4.heap.size (w4.heap.size + 1) A4 _ 2 2 _ _ [1, 0] [1, 0] _ (HR4.out.alloc (Nat.le_refl _) _) hr5 (by decide)).mono ?_
  rw [eqL_self]
  rintro e w' ⟨rfl, d, rfl⟩
  have HG5 := Lib.hid ((HG4.out.alloc (.cells (ints [1, 0]).toArray 3 (0, 0))).drewN d)
  clear hr5 HR4
  go_wp2_with fail
  go_ret
  exact ⟨rfl, HG5.out⟩
end Go.Proofs.YtmfgbkbbmeedjaaDoor
