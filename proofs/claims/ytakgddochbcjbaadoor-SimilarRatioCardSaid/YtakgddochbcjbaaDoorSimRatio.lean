/- SimilarRatio: from 0 to 100, as much there as back; of a text and itself 100; a line more makes it no more than that. -/
import Derived.Test.YtakgddochbcjbaaDoorSimOne
namespace Go.Proofs.YtakgddochbcjbaaDoor
open Go.RowKit Go.Deep Go.MapKept Go.Shelf

theorem ratio_symm (a b : ByteArray) : ratioT a b = ratioT b a := by
  unfold ratioT
  rw [lcs_symm, Nat.add_comm (linesT a).length]
  by_cases h : 400 < (linesT a).length ∨ 400 < (linesT b).length
  · rw [if_pos h, if_pos (Or.symm h)]
  · rw [if_neg h, if_neg (fun h' => h (Or.symm h'))]
theorem ratio_self {a : ByteArray} (h : a.size ≤ 300) : ratioT a a = 100 := by
  have hl := lines_len a
  unfold ratioT
  rw [if_neg (by omega), lcs_self]
  split
  · rfl
  · exact Nat.div_eq_of_eq_mul_left (by omega) (by omega)
set_option maxRecDepth 100000 in
set_option maxHeartbeats 2000000 in
theorem sratio_any (a b x : ByteArray) (w : World) (hm : MaxL w) : Calls Tryd.prog 8 #[.string a, .string b, .string x] w fun e w' => e = .returned (.bool true) ∧ Grows w w' := by
  by_cases h : a.size ≤ 300 ∧ b.size ≤ 300 ∧ x.size ≤ 50
  · obtain ⟨ha, hb, hx⟩ := h
    have h1 : ¬ ((a.size : Int) > 300) := by omega
    have h2 : ¬ ((b.size : Int) > 300) := by omega
    have h3 : ¬ ((x.size : Int) > 50) := by omega
    have HS := Lib.hid (ratio_symm b a)
    have HSelf := Lib.hid (ratio_self ha)
    have hle := ratio_le a b
    obtain ⟨r, hr⟩ : ∃ r, r = ratioT a b := ⟨_, rfl⟩
    rw [← hr] at hle HS
    have HR := Lib.hid hr
    clear hr
    have hle' : (r : Int) ≤ 100 := by omega
    have hr0 : (0 : Int) ≤ r := by omega
    go_enter Tryd.func8, Tryd.ntmps8
    go_wp2_with fail
    refine (ratio_any a b w hm (by omega) (by omega)).mono ?_
    rintro e w1 ⟨rfl, hg1⟩
    rw [← HR.out]
    go_wp2_with fail
    refine (sawake_any w1 (hm.grows hg1)).mono ?_
    rintro e w2 ⟨rfl, hg2⟩
    have hg12 := hg1.trans hg2
    go_wp2_with fail
    refine (ratio_any b a w2 (hm.grows hg12) (by omega) (by omega)).mono ?_
    rintro e w3 ⟨rfl, hg3⟩
    rw [HS.out]
    have hg13 := hg12.trans hg3
    go_wp2_with fail
    refine (ratio_any a a w3 (hm.grows hg13) (by omega) (by omega)).mono ?_
    rintro e w4 ⟨rfl, hg4⟩
    rw [HSelf.out]
    have hg14 := hg13.trans hg4
    go_wp2_with fail
    refine (ratio_any a _ w4 (hm.grows hg14) (by omega) ?_).mono ?_
    · simp only [ByteArray.size_append]
      have : ({ data := #[10] } : ByteArray).size = 1 := rfl
      omega
    rintro e w5 ⟨rfl, hg5⟩
    have hg15 := hg14.trans hg5
    have hl2 := ratio_le a (a ++ { data := #[10] } ++ x)
    have hl3 : ((ratioT a (a ++ { data := #[10] } ++ x) : Nat) : Int) ≤ 100 := by omega
    generalize ratioT a (a ++ { data := #[10] } ++ x) = r2 at hl2 hl3 ⊢
    go_wp2_with fail
    go_ret
    exact ⟨rfl, hg15⟩
  · by_cases h1 : a.size ≤ 300
    · by_cases h2 : b.size ≤ 300
      · have h1' : ¬ ((a.size : Int) > 300) := by omega
        have h2' : ¬ ((b.size : Int) > 300) := by omega
        have h3' : ((x.size : Int) > 50) := by omega
        go_enter Tryd.func8, Tryd.ntmps8
        go_wp2_with fail
        refine (sawake_any w hm).mono ?_
        rintro e w2 ⟨rfl, hg2⟩
        go_wp2_with fail
        go_ret
        exact ⟨rfl, hg2⟩
      · have h1' : ¬ ((a.size : Int) > 300) := by omega
        have h2' : ((b.size : Int) > 300) := by omega
        go_enter Tryd.func8, Tryd.ntmps8
        go_wp2_with fail
        refine (sawake_any w hm).mono ?_
        rintro e w2 ⟨rfl, hg2⟩
        go_wp2_with fail
        go_ret
        exact ⟨rfl, hg2⟩
    · have h1' : ((a.size : Int) > 300) := by omega
      go_enter Tryd.func8, Tryd.ntmps8
      go_wp2_with fail
      refine (sawake_any w hm).mono ?_
      rintro e w2 ⟨rfl, hg2⟩
      go_wp2_with fail
      go_ret
      exact ⟨rfl, hg2⟩
end Go.Proofs.YtakgddochbcjbaaDoor
