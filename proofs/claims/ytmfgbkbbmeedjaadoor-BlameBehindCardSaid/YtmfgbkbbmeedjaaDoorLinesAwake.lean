/- The lines chapter's first line: awake. -/
import Derived.Test.YtmfgbkbbmeedjaaDoorRefLines
namespace Go.Proofs.YtmfgbkbbmeedjaaDoor
open Go.RowKit Go.Deep Go.MapKept

def lAB : ByteArray := { data := #[97, 10, 98] }
def lA : ByteArray := { data := #[97] }
def lB : ByteArray := { data := #[98] }
def lA10 : ByteArray := { data := #[97, 10] }
theorem lines_ab : linesT lAB = [lA10, lB] := by kernel_rfl
theorem join_ab : joinT [lA, lB] = { data := #[97, 98] } := by kernel_rfl
theorem plainS_yes' (B B' : Nat) (A A' : Option Addr) (n n' c c' : Nat) (xs ys : List ByteArray) (w : World) (e : xs = ys) (hx : Reads w B 1 A n (strs xs)) (hy : Reads w B' 1 A' n' (strs ys)) (hn : n ≤ 1000000000000) :
    Calls Tryd.prog 17 #[.slice A n c, .slice A' n' c'] w fun e w' => e = .returned (.bool true) ∧ ∃ m, w' = w.drewN m := by
  subst e
  have := plainS_any B B' A A' n n' c c' xs xs w hx hy hn
  rw [eqS_self] at this
  exact this

set_option maxHeartbeats 1000000 in
theorem lawake_any (w : World) (hm : MaxL w) : Calls Tryd.prog 24 #[] w fun e w' => e = .returned (.bool true) ∧ Grows w w' := by
  go_enter Tryd.func24, Tryd.ntmps24
  go_wp2_with fail
  refine (split_any lAB w hm (by decide)).mono ?_
  rw [lines_ab]
  rintro e w1 ⟨v, rfl, g, c, rfl, _, _, hr1, hg1⟩
  have hm1 := hm.grows hg1
  have HR := Lib.hid hr1
  have HG := Lib.hid hg1
  clear hr1 hg1 hm
  go_wp2_with fail
  have hr4 := (Reads.newRow w1 9 (strs [lA10, lB]) (0, 0))
  refine (plainS_yes' w1.heap.size _ _ _ _ _ c _ _ _ _ rfl (HR.out.alloc (Nat.le_refl _) _) hr4 (by decide)).mono ?_
  rintro e w5 ⟨rfl, d, rfl⟩
  obtain ⟨w6, hw6⟩ : ∃ w6, (w1.alloc (.cells (strs [lA10, lB]).toArray 9 (0, 0))).drewN d = w6 := ⟨_, rfl⟩
  have HG5 := Lib.hid (show Grows w w6 by rw [← hw6]; exact ((HG.out.alloc (.cells (strs [lA10, lB]).toArray 9 (0, 0))).drewN d))
  rw [hw6]
  clear hw6 hr4 HR
  go_wp2_with fail
  have hr7 := (Reads.newRow w6 9 (strs [lA, lB]) (0, 0))
  refine (join_any (w6.heap.size + 1) _ 2 2 [lA, lB] _ (by rintro ad ⟨⟩; rfl) hr7 (by simp) (by decide) (by decide) (by decide)).mono ?_
  rw [join_ab]
  rintro e w7 ⟨rfl, hg7⟩
  have HG7 := Lib.hid (Grows.trans (HG5.out.alloc (.cells (strs [lA, lB]).toArray 9 (0, 0))) hg7)
  clear hg7 hr7
  go_wp2_with fail
  refine (lsame_any 0 0 none none 0 0 0 0 [] [] w7 Reads.none_ Reads.none_ (by decide)).mono ?_
  rintro e w8 ⟨rfl, d, rfl⟩
  go_wp2_with fail
  go_ret
  exact ⟨rfl, HG7.out.drewN d⟩
end Go.Proofs.YtmfgbkbbmeedjaaDoor
