/- similar.Ratio, walked. -/
import Derived.Test.YtakgddochbcjbaaDoorSimWay
import Derived.Test.YtakgddochbcjbaaDoorCommon
import Derived.Test.YtakgddochbcjbaaDoorLinesFlat
namespace Go.Proofs.YtakgddochbcjbaaDoor
open Go.RowKit Go.Deep Go.MapKept

/-- how much alike two texts are, of a hundred -/
def ratioT (a b : ByteArray) : Nat :=
  if 400 < (linesT a).length ∨ 400 < (linesT b).length then 0
  else if (linesT a).length + (linesT b).length = 0 then 100
  else 200 * lcs (linesT a) (linesT b) / ((linesT a).length + (linesT b).length)
set_option maxRecDepth 100000 in
set_option maxHeartbeats 2000000 in
theorem ratio_any (a b : ByteArray) (w : World) (hm : MaxL w) (ha : a.size ≤ 100000) (hb : b.size ≤ 100000) :
    Calls Tryd.prog 31 #[.string a, .string b] w fun e w' => e = .returned (.int .i64 (ratioT a b : Nat)) ∧ Grows w w' := by
  obtain ⟨x, hx⟩ : ∃ x, x = linesT a := ⟨_, rfl⟩
  obtain ⟨y, hy⟩ : ∃ y, y = linesT b := ⟨_, rfl⟩
  have hnx : x.length ≤ 1000000 := by have := lines_len a; rw [hx]; omega
  have hny : y.length ≤ 1000000 := by have := lines_len b; rw [hy]; omega
  have HR := Lib.hid (show ratioT a b = if 400 < x.length ∨ 400 < y.length then 0 else if x.length + y.length = 0 then 100 else 200 * lcs x y / (x.length + y.length) by rw [hx, hy]; rfl)
  have hS1 := split_any a w hm (by omega)
  rw [← hx] at hS1
  have hS2 : ∀ w1, MaxL w1 → _ := fun w1 hm1 => split_any b w1 hm1 (by omega)
  rw [← hy] at hS2
  clear hx hy
  go_enter Tryd.func31, Tryd.ntmps31
  go_wp2_with fail
  refine hS1.mono ?_
  rintro e w1 ⟨v1, rfl, g1, c1, rfl, hc1, ⟨hM1, _⟩, hx1, hg1⟩
  go_wp2_with fail
  refine (hS2 w1 (hm.grows hg1)).mono ?_
  rintro e w2 ⟨v2, rfl, g2, c2, rfl, hc2, ⟨hM2, _⟩, hy2, hg2⟩
  have hx2 := (hx1.grows (Nat.le_refl _) hg2).more hg2.size
  have HGR := Lib.hid (hg1.trans hg2)
  clear hS1 hS2 hx1 hg1 hg2
  by_cases h1 : 400 < x.length
  · have HE := Lib.hid (show ratioT a b = 0 by rw [HR.out, if_pos (.inl h1)])
    have h1' : ((x.length : Nat) : Int) > 400 := by omega
    go_wp2_with fail
    go_ret
    exact ⟨by rw [HE.out]; rfl, HGR.out⟩
  · by_cases h2 : 400 < y.length
    · have HE := Lib.hid (show ratioT a b = 0 by rw [HR.out, if_pos (.inr h2)])
      have h1' : ¬ (((x.length : Nat) : Int) > 400) := by omega
      have h2' : ((y.length : Nat) : Int) > 400 := by omega
      go_wp2_with fail
      go_ret
      exact ⟨by rw [HE.out]; rfl, HGR.out⟩
    · have h1' : ¬ (((x.length : Nat) : Int) > 400) := by omega
      have h2' : ¬ (((y.length : Nat) : Int) > 400) := by omega
      by_cases h3 : x.length + y.length = 0
      · have HE := Lib.hid (show ratioT a b = 100 by rw [HR.out, if_neg (by omega), if_pos h3])
        have h3' : ((x.length : Nat) : Int) + (y.length : Nat) = 0 := by omega
        go_wp2_with fail
        go_ret
        exact ⟨by rw [HE.out]; rfl, HGR.out⟩
      · have HE := Lib.hid (show ratioT a b = 200 * lcs x y / (x.length + y.length) by rw [HR.out, if_neg (by omega), if_neg h3])
        have h3' : ¬ (((x.length : Nat) : Int) + (y.length : Nat) = 0) := by omega
        have hcm := common_any w2.heap.size w2.heap.size (some ⟨g1, 0, none⟩) (some ⟨g2, 0, none⟩) x.length y.length c1 c2 x y w2 hx2 hy2 (Nat.le_refl _) (Nat.le_refl _) hnx hny hc1 hc2 (by unfold maxLen; omega) (by unfold maxLen; omega)
        go_wp2_with fail
        have hll := lcs_le_left x y
        obtain ⟨L, hL⟩ : ∃ L, L = lcs x y := ⟨_, rfl⟩
        rw [← hL] at hll hcm HE
        have HLL := Lib.hid hL
        clear hL
        refine hcm.mono ?_
        rintro e w3 ⟨rfl, hg3⟩
        have hz : (0 : Int) < (x.length : Nat) + (y.length : Nat) := by omega
        go_wp2_with fail
        go_ret
        exact ⟨by rw [HE.out]; push_cast; rfl, HGR.out.trans hg3⟩
theorem ratio_le (a b : ByteArray) : ratioT a b ≤ 100 := by
  unfold ratioT
  split
  · omega
  · split
    · omega
    · have h1 := lcs_le_left (linesT a) (linesT b)
      have h2 := lcs_le_right (linesT a) (linesT b)
      rename_i h
      refine Nat.div_le_of_le_mul ?_
      omega
end Go.Proofs.YtakgddochbcjbaaDoor
