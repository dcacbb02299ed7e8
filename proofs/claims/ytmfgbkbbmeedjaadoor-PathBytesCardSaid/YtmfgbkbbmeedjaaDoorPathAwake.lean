/- The path chapter's first line: awake. -/
import Derived.Test.YtmfgbkbbmeedjaaDoorRefPath
namespace Go.Proofs.YtmfgbkbbmeedjaaDoor
open Go.RowKit Go.Deep Go.MapKept

def pAB : ByteArray := { data := #[97, 47, 98] }
def pAAB : ByteArray := { data := #[97, 47, 47, 98] }
theorem right_ab : rightP pAB = true := by kernel_rfl
theorem right_aab : rightP pAAB = false := by kernel_rfl
theorem within_ab : withinP pAB { data := #[97] } = true := by kernel_rfl
theorem pieces_ab : pieces 47 0 pAB = [{ data := #[97] }, { data := #[98] }] := by kernel_rfl
theorem plainS_yes (B B' : Nat) (A A' : Option Addr) (n n' c c' : Nat) (xs ys : List ByteArray) (w : World) (e : xs = ys) (hx : Reads w B 1 A n (strs xs)) (hy : Reads w B' 1 A' n' (strs ys)) (hn : n ≤ 1000000000000) :
    Calls Tryd.prog 17 #[.slice A n c, .slice A' n' c'] w fun e w' => e = .returned (.bool true) ∧ ∃ m, w' = w.drewN m := by
  subst e
  have := plainS_any B B' A A' n n' c c' xs xs w hx hy hn
  rw [eqS_self] at this
  exact this

set_option maxHeartbeats 1000000 in
theorem pawake_any (w : World) (hm : MaxL w) : Calls Tryd.prog 14 #[] w fun e w' => e = .returned (.bool true) ∧ Grows w w' := by
  go_enter Tryd.func14, Tryd.ntmps14
  go_wp2_with fail
  refine (right_any pAB w hm).mono ?_
  rw [right_ab]
  rintro e w1 ⟨rfl, hg1⟩
  have hm1 := hm.grows hg1
  go_wp2_with fail
  refine (right_any pAAB w1 hm1).mono ?_
  rw [right_aab]
  rintro e w2 ⟨rfl, hg2⟩
  have hm2 := hm1.grows hg2
  have hg2' := hg1.trans hg2
  go_wp2_with fail
  refine (within_any pAB { data := #[97] } w2 (by decide)).mono ?_
  rw [within_ab]
  rintro e w' ⟨rfl, rfl⟩
  go_wp2_with fail
  refine (parts_any pAB w2 hm2 (by decide)).mono ?_
  rw [pieces_ab]
  rintro e w3 ⟨v, rfl, A, c, rfl, _, _, hr3, hg3⟩
  have HR := Lib.hid hr3
  have HG := Lib.hid (hg2'.trans hg3)
  clear hr3 hg3 hg2 hg1 hg2' hm hm1 hm2
  go_wp2_with fail
  have hr4 := (Reads.newRow w3 9 (strs [{ data := #[97] }, { data := #[98] }]) (0, 0))
  refine (plainS_yes w3.heap.size _ A _ _ _ c _ _ _ _ rfl (HR.out.alloc (Nat.le_refl _) _) hr4 (by decide)).mono ?_
  rintro e w5 ⟨rfl, d, rfl⟩
  have HG5 := Lib.hid ((HG.out.alloc (.cells (strs [{ data := #[97] }, { data := #[98] }]).toArray 9 (0, 0))).drewN d)
  go_wp2_with fail
  go_ret
  exact ⟨rfl, HG5.out⟩
end Go.Proofs.YtmfgbkbbmeedjaaDoor
