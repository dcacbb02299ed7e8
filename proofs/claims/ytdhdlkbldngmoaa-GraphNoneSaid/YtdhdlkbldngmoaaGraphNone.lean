/- GraphNone: the walk of the law. -/
import Derived.Test.YtdhdlkbldngmoaaGraphAwake
import Derived.Test.YtdhdlkbldngmoaaGraphLaws
import Derived.Test.YtdhdlkbldngmoaaGraphLine
namespace Go.Proofs.Ytdhdlkbldngmoaa
open Go.RowKit Go.Deep

theorem gi_set {xs : List Int} {k j : Nat} {v : Int} (h : k < xs.length) : gi (xs.set k v) j = if j = k then v else gi xs j := by
  unfold gi
  by_cases e : j = k
  · subst e; simp [h]
  · rw [if_neg e]; simp [Ne.symm e]

set_option maxHeartbeats 4000000 in
set_option maxRecDepth 100000 in
theorem gnone_any (A : Option Addr) (n c : Nat) (xs : List Int) (a b : Int) (w : World) (h : Reads w w.heap.size 1 A n (ints xs)) (hn : n ≤ maxLen) :
    Calls Try.prog 7 #[.slice A n c, .int .i64 a, .int .i64 b] w fun e w' => e = .returned (.bool true) ∧ Grows w w' := by
  have H := Lib.hid h; clear h
  obtain ⟨G, hG0⟩ : ∃ G, parents xs 30 = G := ⟨_, rfl⟩
  have hr0 : right G = true := by rw [← hG0]; exact right_parents _ _
  have hl0 : G.length ≤ 30 := by rw [← hG0, parents_len]; omega
  obtain ⟨N, hN⟩ : ∃ N, G.length = N := ⟨_, rfl⟩
  have HGL := Lib.hid hN
  have HR := Lib.hid hr0
  have HG := Lib.hid hG0
  rw [hN] at hl0
  clear hN hr0 hG0
  obtain ⟨t0, hi0, hz0, hz1, hz2⟩ := info_parts Try.infoInt
  go_enter Try.func7, Try.ntmps7
  go_wp2_with fail
  refine (parents_any _ _ _ _ _ 30 _ H.out (Nat.le_refl _) hn (by omega)).mono fun e w1 h => ?_
  obtain ⟨A1, c1, rfl, hr1, hg1⟩ := retL G N HG.out HGL.out h
  clear h
  by_cases h0 : N = 0
  · subst h0
    go_wp2_with fail
    refine (gawake_any _).mono ?_
    rintro e w3 ⟨rfl, hg3⟩
    have hfin := hg1.trans hg3
    go_wp2_with fail
    go_ret
    exact ⟨rfl, hfin⟩
  · obtain ⟨I, hI, he1⟩ := mod_u64 a N (by omega) (by omega)
    obtain ⟨J, hJ, he2⟩ := mod_u64 b 5 (by omega) (by omega)
    have he2' : wrap64 ((IntKind.u64.wrap b).tmod 5) = (J : Int) := he2
    clear he2
    have h1 : ((N : Int) == 0) = false := by simp; omega
    have HR1 := Lib.hid hr1
    clear hr1
    go_wp2_with (at_builtin; refine wpList_append_any _ rfl (.const (.slice none 0 0)) (.tmp 22) _ rfl w1.heap.size 3 t0 _ 1 8 Try.underlying23 hi0 hz0 hz1 hz2 rfl (by decide) (.slice none 0 0) 0 [] rfl (World.ownsRow_nil _ _ _ _) w1.heap.size A1 N c1 (ints G) rfl HR1.out (ints_oneCell G) (by simp only [maxLen]; omega) (by omega) (Nat.le_refl _) ?_; intro v2 w2 hown2 hgb2 _; have hg2 : Grows w1 w2 := Below.grown (Grows.refl w1) hgb2 (Nat.le_refl _) (fun k hk => by cases hk); obtain ⟨g, cap, hv2, hgB, hgL⟩ := hown2.form (by omega); have e0 : 0 + N = N := Nat.zero_add N; rw [e0, List.nil_append] at hown2; rw [e0] at hv2; subst hv2; obtain ⟨f, hrow, hf⟩ := row_of_own hown2; have hcap : N ≤ cap := (by obtain ⟨_, _, he, h1, _⟩ := own_form hown2; cases he; exact h1); have hc := hrow.cell (i := I) (by omega); have hfz := hrow.frozen I; rw [hf I hI] at hc; have HF := Lib.hid hf; have HOW := Lib.hid hown2; clear hown2 hgb2 e0 hf)
    simp only [he2']
    have hset := hrow.set I (.int .i64 ((I : Int) + J))
    have hg3 : Grows w (w2.setCell ⟨g, I, none⟩ (.int .i64 ((I : Int) + J))) := Below.setCell (Below.trans hg1 (Below.mono hg2 hg1.size)) (show w.heap.size ≤ g from Nat.le_trans hg1.size hgB) _
    have hbad := reads_row (xs := G.set I ((I : Int) + J)) (n := N) hset (fun i hi => by
      have e := HGL.out
      rw [gi_set (by omega)]
      by_cases h : i = I
      · simp [h]
      · simp [h, HF.out i hi]) (by rw [List.length_set]; exact HGL.out) hcap
    have hgood : Reads (w2.setCell ⟨g, I, none⟩ (.int .i64 ((I : Int) + J))) w1.heap.size 1 A1 N (ints G) := (HR1.out.grows (Nat.le_refl _) hg2).setCell (p := ⟨g, I, none⟩) hgB _
    have hnr := Lib.hid (right_set (xs := G) (at_ := I) (v := (I : Int) + J) (by rw [HGL.out]; exact hI) (by omega))
    have hsz2 : g + 1 ≤ (w2.setCell ⟨g, I, none⟩ (.int .i64 ((I : Int) + J))).heap.size := by simp [World.setCell]; omega
    have hsz1 : w1.heap.size ≤ (w2.setCell ⟨g, I, none⟩ (.int .i64 ((I : Int) + J))).heap.size := by simp [World.setCell]; omega
    obtain ⟨w3, hw3⟩ : ∃ w3, w3 = w2.setCell ⟨g, I, none⟩ (.int .i64 ((I : Int) + J)) := ⟨_, rfl⟩
    rw [← hw3] at hg3 hbad hgood hsz1 hsz2 ⊢
    obtain ⟨D, hD⟩ : ∃ D, D = G.set I ((I : Int) + J) := ⟨_, rfl⟩
    rw [← hD] at hbad hnr
    have HB3 := Lib.hid hbad
    have HG3 := Lib.hid hgood
    clear hw3 hD hset hbad hgood hrow hc hfz HF HOW he1 he2' hg2
    refine (gawake_any _).mono ?_
    rintro e w4 ⟨rfl, hg4⟩
    have HB4 := Lib.hid (HB3.out.grows hsz2 hg4)
    have HG4 := Lib.hid (HG3.out.grows hsz1 hg4)
    have hz4 := hg4.size
    go_wp2_with fail
    refine (right_any _ _ _ _ _ _ HG4.out (by simp only [maxLen]; omega)).mono ?_
    rintro e w' ⟨rfl, rfl⟩
    rw [HR.out]
    go_wp2_with fail
    refine (right_any _ _ _ _ _ _ HB4.out (by simp only [maxLen]; omega)).mono ?_
    rintro e w' ⟨rfl, rfl⟩
    rw [hnr.out]
    have hisb := Lib.hid (fun i : Int => show isB D i = false by unfold isB; rw [hnr.out]; simp)
    go_wp2_with fail
    refine (chain_any _ _ _ _ _ _ _ HB4.out (by omega) (by omega)).mono fun e w5 h => ?_
    obtain ⟨A5, c5, rfl, _, hg5⟩ := retL [] 0 (chain_none (hisb.out 0)) rfl h
    clear h
    have HB5 := Lib.hid (HB4.out.grows (by omega) hg5)
    have hz5 := hg5.size
    go_wp2_with fail
    refine (under_any _ _ _ _ _ _ _ HB5.out (by omega) (by omega)).mono fun e w6 h => ?_
    obtain ⟨A6, c6, rfl, _, hg6⟩ := retL [] 0 (under_none (hisb.out 0)) rfl h
    clear h
    have HB6 := Lib.hid (HB5.out.grows (by omega) hg6)
    have hz6 := hg6.size
    go_wp2_with fail
    refine (children_any _ _ _ _ _ _ _ HB6.out (by omega) (by omega)).mono fun e w7 h => ?_
    obtain ⟨A7, c7, rfl, _, hg7⟩ := retL [] 0 (children_none hnr.out) rfl h
    clear h
    have HB7 := Lib.hid (HB6.out.grows (by omega) hg7)
    have hz7 := hg7.size
    go_wp2_with fail
    refine (above_any _ _ _ _ _ _ _ _ HB7.out (by omega)).mono ?_
    rintro e w' ⟨rfl, rfl⟩
    rw [above_none (hisb.out 0)]
    go_wp2_with fail
    refine (base_any _ _ _ _ _ _ _ _ HB7.out (by omega)).mono ?_
    rintro e w' ⟨rfl, rfl⟩
    rw [base_none (.inl (hisb.out 0))]
    have hfin := hg3.trans (hg4.trans (hg5.trans (hg6.trans hg7)))
    go_wp2_with fail
    go_ret
    exact ⟨rfl, hfin⟩

end Go.Proofs.Ytdhdlkbldngmoaa
