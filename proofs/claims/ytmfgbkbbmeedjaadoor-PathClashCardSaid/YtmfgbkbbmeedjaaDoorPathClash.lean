/- PathClash: the walk. -/
import Derived.Test.YtmfgbkbbmeedjaaDoorPathTells
namespace Go.Proofs.YtmfgbkbbmeedjaaDoor
open Go.RowKit Go.Deep Go.MapKept

theorem clash_turn (a b : ByteArray) : clashP a b = clashP b a := by
  unfold clashP
  rw [Bool.or_comm (withinP a b)]
  congr 1
  rw [Bool.eq_iff_iff, bytes_beq, bytes_beq]
  exact eq_comm
theorem clash_self (a : ByteArray) : clashP a a = true := by
  have : (a == a) = true := by rw [bytes_beq]
  rw [clashP, this]
  rfl
theorem within_len {p d : ByteArray} (h : withinP p d = true) : d.data.toList.length < p.data.toList.length := by
  obtain ⟨t, ht⟩ := (withinP_iff p d).1 h
  rw [ht]
  simp
theorem within_self (a : ByteArray) : withinP a a = false := by
  cases h : withinP a a with
  | false => rfl
  | true => exact absurd (within_len h) (Nat.lt_irrefl _)
theorem within_both {a b : ByteArray} (h : withinP a b = true) : withinP b a = false := by
  cases h2 : withinP b a with
  | false => rfl
  | true => have h3 := within_len h; have h4 := within_len h2; omega
theorem within_join (a b : ByteArray) : withinP (a ++ ⟨#[47]⟩ ++ b) a = true := by
  rw [withinP_iff]
  exact ⟨b.data.toList, by simp [ByteArray.data_append]⟩
theorem within_more {p d : ByteArray} (h : withinP p d = true) (c : ByteArray) : withinP (p ++ c) d = true := by
  rw [withinP_iff] at h ⊢
  obtain ⟨t, ht⟩ := h
  exact ⟨t ++ c.data.toList, by rw [ByteArray.data_append, Array.toList_append, ht]; simp⟩

set_option maxRecDepth 100000 in
set_option maxHeartbeats 2000000 in
theorem pclash_any (a b c : ByteArray) (w : World) (hm : MaxL w) : Calls Tryd.prog 6 #[.string a, .string b, .string c] w fun e w' => e = .returned (.bool true) ∧ Grows w w' := by
  have HA := Lib.hid (pawake_any w hm)
  by_cases ha : 100 < a.size
  · have k1 : (a.size : Int) > 100 := by omega
    go_enter Tryd.func6, Tryd.ntmps6
    go_wp2_with fail
    refine HA.out.mono ?_
    rintro e w1 ⟨rfl, hg⟩
    go_wp2_with fail
    go_ret
    exact ⟨rfl, hg⟩
  · have k1 : ¬ ((a.size : Int) > 100) := by omega
    by_cases hb : 100 < b.size
    · have k2 : (b.size : Int) > 100 := by omega
      go_enter Tryd.func6, Tryd.ntmps6
      go_wp2_with fail
      refine HA.out.mono ?_
      rintro e w1 ⟨rfl, hg⟩
      go_wp2_with fail
      go_ret
      exact ⟨rfl, hg⟩
    · have k2 : ¬ ((b.size : Int) > 100) := by omega
      by_cases hc : 100 < c.size
      · have k3 : (c.size : Int) > 100 := by omega
        go_enter Tryd.func6, Tryd.ntmps6
        go_wp2_with fail
        refine HA.out.mono ?_
        rintro e w1 ⟨rfl, hg⟩
        go_wp2_with fail
        go_ret
        exact ⟨rfl, hg⟩
      · have k3 : ¬ ((c.size : Int) > 100) := by omega
        have z0 : (ByteArray.mk #[47]).size = 1 := rfl
        have z1 : (a ++ ⟨#[47]⟩ : ByteArray).size = a.size + 1 := by rw [ByteArray.size_append]; rfl
        have z2 : (a ++ ⟨#[47]⟩ ++ b : ByteArray).size = a.size + 1 + b.size := by rw [ByteArray.size_append, z1]
        have z3 : (a ++ ⟨#[47]⟩ ++ b ++ ⟨#[47]⟩ : ByteArray).size = a.size + 1 + b.size + 1 := by rw [ByteArray.size_append, z2]; rfl
        have hx := Lib.hid (within_join a b)
        have hy := Lib.hid (within_join (a ++ ⟨#[47]⟩ ++ b) c)
        have hz := Lib.hid (show withinP (a ++ ⟨#[47]⟩ ++ b ++ ⟨#[47]⟩ ++ c) a = true from within_more (within_more (within_join a b) _) _)
        go_enter Tryd.func6, Tryd.ntmps6
        go_wp2_with fail
        refine HA.out.mono ?_
        rintro e w1 ⟨rfl, hg1⟩
        go_wp2_with fail
        obtain ⟨ca, hca⟩ : ∃ ca, clashP a b = ca := ⟨_, rfl⟩
        have hcb := (clash_turn b a).trans hca
        refine (clash_any a b w1 (by omega) (by omega)).mono ?_
        rw [hca]
        rintro e w' ⟨rfl, rfl⟩
        go_wp2_with fail
        refine (clash_any b a w1 (by omega) (by omega)).mono ?_
        rw [hcb]
        rintro e w' ⟨rfl, rfl⟩
        go_wp2_with fail
        refine (clash_any a a w1 (by omega) (by omega)).mono ?_
        rw [clash_self]
        rintro e w' ⟨rfl, rfl⟩
        go_wp2_with fail
        refine (within_any a a w1 (by omega)).mono ?_
        rw [within_self]
        rintro e w' ⟨rfl, rfl⟩
        go_wp2_with fail
        refine (within_any _ a w1 (by omega)).mono ?_
        rw [hx.out]
        rintro e w' ⟨rfl, rfl⟩
        go_wp2_with fail
        refine (within_any _ _ w1 (by rw [z2]; omega)).mono ?_
        rw [hy.out]
        rintro e w' ⟨rfl, rfl⟩
        go_wp2_with fail
        refine (within_any _ a w1 (by omega)).mono ?_
        rw [hz.out]
        rintro e w' ⟨rfl, rfl⟩
        go_wp2_with fail
        clear hca hcb
        cases hab : withinP a b with
        | false =>
          refine (within_any a b w1 (by omega)).mono ?_
          rw [hab]
          rintro e w' ⟨rfl, rfl⟩
          go_wp2_with fail
          go_ret
          exact ⟨rfl, hg1⟩
        | true =>
          refine (within_any a b w1 (by omega)).mono ?_
          rw [hab]
          rintro e w' ⟨rfl, rfl⟩
          go_wp2_with fail
          refine (within_any b a w1 (by omega)).mono ?_
          rw [within_both hab]
          rintro e w' ⟨rfl, rfl⟩
          go_wp2_with fail
          go_ret
          exact ⟨rfl, hg1⟩
end Go.Proofs.YtmfgbkbbmeedjaaDoor
