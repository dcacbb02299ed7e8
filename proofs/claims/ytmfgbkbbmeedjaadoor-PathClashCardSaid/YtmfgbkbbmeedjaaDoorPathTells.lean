/- PathTells, PathClash: the walks. -/
import Derived.Test.YtmfgbkbbmeedjaaDoorPathAwake
namespace Go.Proofs.YtmfgbkbbmeedjaaDoor
open Go.RowKit Go.Deep Go.MapKept

set_option maxRecDepth 100000 in
set_option maxHeartbeats 2000000 in
theorem ptells_any (a b : ByteArray) (w : World) (hm : MaxL w) : Calls Tryd.prog 5 #[.string a, .string b] w fun e w' => e = .returned (.bool true) ∧ Grows w w' := by
  have HA := Lib.hid (pawake_any w hm)
  by_cases ha : 300 < a.size
  · have k1 : (a.size : Int) > 300 := by omega
    go_enter Tryd.func5, Tryd.ntmps5
    go_wp2_with fail
    refine HA.out.mono ?_
    rintro e w1 ⟨rfl, hg⟩
    go_wp2_with fail
    go_ret
    exact ⟨rfl, hg⟩
  · have k1 : ¬ ((a.size : Int) > 300) := by omega
    by_cases hb : 300 < b.size
    · have k2 : (b.size : Int) > 300 := by omega
      go_enter Tryd.func5, Tryd.ntmps5
      go_wp2_with fail
      refine HA.out.mono ?_
      rintro e w1 ⟨rfl, hg⟩
      go_wp2_with fail
      go_ret
      exact ⟨rfl, hg⟩
    · have k2 : ¬ ((b.size : Int) > 300) := by omega
      have hcnt := Lib.hid (show (pieces 47 0 a).length ≤ 1000 by rw [pieces_len]; have := count_size 47 a; omega)
      go_enter Tryd.func5, Tryd.ntmps5
      go_wp2_with fail
      refine HA.out.mono ?_
      rintro e w1 ⟨rfl, hg1⟩
      have hm1 := hm.grows hg1
      go_wp2_with fail
      refine (parts_any a w1 hm1 (by omega)).mono ?_
      rintro e w2 ⟨v, rfl, A, c, rfl, _, _, hr2, hg2⟩
      have HR2 := Lib.hid hr2
      have hg2' := hg1.trans hg2
      clear hr2 hg1
      go_wp2_with fail
      refine (rparts_any a w2 (by omega)).mono ?_
      rintro e w3 ⟨v, rfl, hown, hg3⟩
      obtain ⟨A3, c3, rfl, _, _⟩ := own_form hown
      have HR3 := Lib.hid (Reads.of_own hown)
      have HR2' := Lib.hid (HR2.out.grows (Nat.le_refl _) hg3)
      have hg3' := hg2'.trans hg3
      clear hown hg2' hg2 hg3 HR2
      go_wp2_with fail
      refine (plainS_yes _ _ _ _ _ _ _ _ _ _ _ rfl HR2'.out HR3.out (Nat.le_trans hcnt.out (by decide))).mono ?_
      rintro e w4 ⟨rfl, d, rfl⟩
      have hg4 := hg3'.drewN d
      have hm4 := hm.grows hg4
      clear hg3' HR2' HR3
      go_wp2_with fail
      refine (right_any a _ hm4).mono ?_
      rintro e w5 ⟨rfl, hg5⟩
      have hg5' := hg4.trans hg5
      clear hg4 hg5
      obtain ⟨ra, hra⟩ : ∃ ra, rightP a = ra := ⟨_, rfl⟩
      have HRA := Lib.hid hra
      rw [hra]
      go_wp2_with fail
      refine (rpath_any a w5).mono ?_
      rw [hra]
      clear hra
      rintro e w6 ⟨rfl, hg6⟩
      have hg6' := hg5'.trans hg6
      clear hg5' hg6
      go_wp2_with fail
      refine (within_any a b w6 (by omega)).mono ?_
      rintro e w' ⟨rfl, rfl⟩
      obtain ⟨wa, hwa⟩ : ∃ wa, withinP a b = wa := ⟨_, rfl⟩
      rw [hwa]
      go_wp2_with fail
      refine (rwithin_any a b w6 (by omega)).mono ?_
      rw [hwa]
      clear hwa
      rintro e w' ⟨rfl, rfl⟩
      go_wp2_with fail
      refine (clash_any a b w6 (by omega) (by omega)).mono ?_
      rintro e w' ⟨rfl, rfl⟩
      obtain ⟨ca, hca⟩ : ∃ ca, clashP a b = ca := ⟨_, rfl⟩
      rw [hca]
      go_wp2_with fail
      refine (rclash_any a b w6 (by omega) (by omega)).mono ?_
      rw [hca]
      clear hca
      rintro e w' ⟨rfl, rfl⟩
      go_wp2_with fail
      go_ret
      exact ⟨rfl, hg6'⟩
end Go.Proofs.YtmfgbkbbmeedjaaDoor
