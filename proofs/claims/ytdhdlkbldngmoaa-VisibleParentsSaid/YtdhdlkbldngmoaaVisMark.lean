/- The law's own helpers of the visible chapter: few, awake; and rickplay.Markers. -/
import Derived.Test.YtdhdlkbldngmoaaRefVis2
namespace Go.Proofs.Ytdhdlkbldngmoaa
open Go.RowKit Go.Deep

set_option maxHeartbeats 1000000 in
theorem few_any (B : Nat) (A : Option Addr) (n c : Nat) (olds : List Int) (w : World) (h : Marks w B A n olds) (hn : n ≤ maxLen) :
    Calls Try.prog 29 #[.slice A n c] w fun e w' => ∃ b, e = .returned (.bool b) ∧ (b = true → n ≤ 40) ∧ w = w' := by
  unfold maxLen at hn
  have H := Lib.hid h; clear h
  go_enter Try.func29, Try.ntmps29
  go_wp2
  go_loopg [3] n (fun gk q wr => w = wr ∧ ∃ k : Nat, q = .int .i64 k ∧ k ≤ n ∧ gk = n - k)
  case atStart => exact ⟨rfl, 0, rfl, by omega, rfl⟩
  case round =>
    obtain ⟨rfl, k, rfl, hk, hgk⟩ := hrel
    have HG := Lib.hid hgk; clear hgk
    by_cases hlt : k < n
    · obtain ⟨ad, rfl, had, _, A', m', c', hc⟩ := H.out.at_ hlt
      by_cases hm : (12 : Int) < m'
      · go_wp2
        go_ret
        exact ⟨false, rfl, by simp, rfl⟩
      · go_wp2
        go_roundg (n - (k + 1))
        case measure => rw [HG.out]; omega
        case rel => exact ⟨rfl, k + 1, by go_num, by omega, rfl⟩
    · go_wp2
      go_ret
      exact ⟨decide ((n : Int) ≤ 40), rfl, by simp; omega, rfl⟩

theorem marks_one (w : World) (v : Int) (A' : Option Addr) (m c : Nat) : Marks (w.alloc (.cells #[.int .i64 v, .slice A' m c] 50)) (w.heap.size + 1) (some ⟨w.heap.size, 0, none⟩) 1 [v] := by
  refine ⟨rfl, fun _ => ⟨_, rfl, by simp, fun k hk => ?_⟩⟩
  obtain rfl : k = 0 := by omega
  refine ⟨?_, A', m, c, ?_⟩
  · exact cell_of_row _ w.heap.size 0 _ _ _ (heap_alloc_new w _)
  · exact cell_of_row _ w.heap.size 1 _ _ _ (heap_alloc_new w _)

set_option maxHeartbeats 2000000 in
set_option maxRecDepth 100000 in
theorem vawake_any (w : World) : Calls Try.prog 30 #[] w fun e w' => e = .returned (.bool true) ∧ Grows w w' := by
  have HM := Lib.hid (marks_one w 0 none 0 0)
  have hg0 : Grows w (w.alloc (.cells #[.int .i64 0, .slice none 0 0] 50)) := (Grows.refl w).alloc _
  obtain ⟨wm, hwm⟩ : ∃ wm, wm = w.alloc (.cells #[.int .i64 0, .slice none 0 0] 50) := ⟨_, rfl⟩
  have hzm : w.heap.size + 1 = wm.heap.size := by rw [hwm]; simp
  go_enter Try.func30, Try.ntmps30
  go_wp2_with fail
  rw [← hwm] at HM hg0 ⊢
  clear hwm
  have HRa := Lib.hid (reads_lit wm [-1, 0] #[.int .i64 (-1), .int .i64 0] 2 rfl rfl)
  have hga : Grows wm (wm.alloc (.cells #[.int .i64 (-1), .int .i64 0] 3)) := (Grows.refl wm).alloc _
  go_wp2_with fail
  refine (vSeen_any _ _ 0 _ _ none 2 1 _ _ 0 _ _ [0] [] _ HRa.out (HM.out.grows (by omega) hga) Reads.none_ (by simp) (by simp; omega) (by simp) (by decide) (by decide) (by decide)).mono fun e w1 h => ?_
  obtain ⟨A1, c1, rfl, hr1, hg1⟩ := retL [0, 1] 2 (by decide) rfl h
  clear h
  have hm1 := hga.trans hg1
  go_wp2_with fail
  refine (plain_any _ _ _ _ _ _ _ _ [0, 1] [0, 1] _ (hr1.alloc (Nat.le_refl _) _) (reads_lit w1 [0, 1] #[.int .i64 0, .int .i64 1] 2 rfl rfl) (by decide)).mono ?_
  rintro e w2 ⟨rfl, m1, rfl⟩
  rw [eqL_self]
  have hg2 := hm1.trans (((Grows.refl w1).alloc (.cells #[.int .i64 0, .int .i64 1] 3)).drewN m1)
  obtain ⟨w2, hw2⟩ : ∃ w2, w2 = (w1.alloc (.cells #[.int .i64 0, .int .i64 1] 3)).drewN m1 := ⟨_, rfl⟩
  rw [← hw2] at hg2 ⊢
  clear hw2 hr1 hg1 hm1
  have hz2 := hg2.size
  have HM2 := Lib.hid (HM.out.grows (by omega) hg2)
  have HR2 := Lib.hid (reads_lit w2 [-1, 0] #[.int .i64 (-1), .int .i64 0] 2 rfl rfl)
  have hga2 : Grows w2 (w2.alloc (.cells #[.int .i64 (-1), .int .i64 0] 3)) := (Grows.refl w2).alloc _
  go_wp2_with fail
  refine (vLive_any _ _ _ _ 2 1 _ _ _ [0] _ HR2.out (HM2.out.grows (by omega) hga2) (by simp; omega) (by decide) (by decide)).mono fun e w3 h => ?_
  obtain ⟨A3, c3, rfl, hr3, hg3⟩ := retL [1] 1 (by decide) rfl h
  clear h
  have hm3 := hga2.trans hg3
  go_wp2_with fail
  refine (plain_any _ _ _ _ _ _ _ _ [1] [1] _ (hr3.alloc (Nat.le_refl _) _) (reads_lit w3 [1] #[.int .i64 1] 1 rfl rfl) (by decide)).mono ?_
  rintro e w4 ⟨rfl, m2, rfl⟩
  rw [eqL_self]
  have hg4 := hm3.trans (((Grows.refl w3).alloc (.cells #[.int .i64 1] 3)).drewN m2)
  obtain ⟨w4, hw4⟩ : ∃ w4, w4 = (w3.alloc (.cells #[.int .i64 1] 3)).drewN m2 := ⟨_, rfl⟩
  rw [← hw4] at hg4 ⊢
  clear hw4 hr3 hg3 hm3
  have HR4 := Lib.hid (reads_lit w4 [-1, 0] #[.int .i64 (-1), .int .i64 0] 2 rfl rfl)
  have hga4 : Grows w4 (w4.alloc (.cells #[.int .i64 (-1), .int .i64 0] 3)) := (Grows.refl w4).alloc _
  go_wp2_with fail
  refine (vHeads_any _ 0 _ none 2 0 _ _ _ [] _ HR4.out ⟨rfl, fun h => absurd h (by omega)⟩ (by simp) (by simp) (by decide) (by decide)).mono fun e w5 h => ?_
  obtain ⟨A5, c5, rfl, hr5, hg5⟩ := retL [1] 1 (by decide) rfl h
  clear h
  have hm5 := hga4.trans hg5
  go_wp2_with fail
  refine (plain_any _ _ _ _ _ _ _ _ [1] [1] _ (hr5.alloc (Nat.le_refl _) _) (reads_lit w5 [1] #[.int .i64 1] 1 rfl rfl) (by decide)).mono ?_
  rintro e w6 ⟨rfl, m3, rfl⟩
  rw [eqL_self]
  have hfin := (((hg0.trans hg2).trans hg4).trans hm5).trans (((Grows.refl w5).alloc (.cells #[.int .i64 1] 3)).drewN m3)
  go_wp2_with fail
  go_ret
  exact ⟨rfl, hfin⟩

end Go.Proofs.Ytdhdlkbldngmoaa
