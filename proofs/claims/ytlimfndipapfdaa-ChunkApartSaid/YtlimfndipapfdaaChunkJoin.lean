/- ChunkApart's closure: two lists with a line between. -/
import Derived.Test.YtlimfndipapfdaaChunkNone
namespace Go.Proofs.Ytlimfndipapfdaa
open Go.RowKit Go.Deep Go.MapKept

set_option maxRecDepth 100000 in
set_option maxHeartbeats 4000000 in
theorem join_any (B1 B2 n1 n2 c1 c2 S : Nat) (A1 A2 : Option Addr) (p q : List ByteArray) (sep : ByteArray) (w : World) (h1 : Reads w B1 1 A1 n1 (strs p)) (h2 : Reads w B2 1 A2 n2 (strs q)) (hB1 : B1 ≤ w.heap.size) (hB2 : B2 ≤ w.heap.size) (hn1 : n1 ≤ 1000000) (hn2 : n2 ≤ 1000000) (hs : w.cell? ⟨S, 0, none⟩ = some (.string sep)) (hSw : S < w.heap.size) :
    Calls Try.prog 41 #[.slice A1 n1 c1, .slice A2 n2 c2, .pointer (some ⟨S, 0, none⟩)] w fun e w' => ∃ A c, e = .returned (.slice A (n1 + 1 + n2) c) ∧ n1 + 1 + n2 ≤ c ∧ c ≤ maxLen ∧ Reads w' w'.heap.size 1 A (n1 + 1 + n2) (strs (p ++ sep :: q)) ∧ Grows w w' := by
  obtain ⟨s0, hs0, hs1, hs2, hs3⟩ := info_parts Try.infoStr
  have H1 := Lib.hid h1
  have H2 := Lib.hid h2
  have HSC := Lib.hid hs
  clear h1 h2 hs
  obtain ⟨SP, hSP⟩ : ∃ SP : World → Prop, SP = fun w' => Grows w.drew w' := ⟨_, rfl⟩
  have hSc : ∀ s : SW SP, s.w.cell? ⟨S, 0, none⟩ = some (.string sep) := fun s => by
    have h1 : Grows w.drew s.w := by
      have := s.ok
      subst hSP
      exact this
    rw [Below.cell h1 hSw]
    exact HSC.out
  have hSi : ∀ w', Grows w.drew w' → SP w' := by rw [hSP]; exact fun _ h => h
  have hSS : SP w.drew := hSi _ (Grows.refl _)
  clear hSP
  haveI : Nonempty (SW SP) := ⟨⟨_, hSS⟩⟩
  go_enter Try.func41, Try.ntmps41
  go_wp2_with fail
  refine wp_region_fre SP 3 [([0, 2, 5], 1)] [([], 4), ([], 6)] [] [([], [7])] (by kernel_rfl) (fun _ _ _ _ _ h => h) (by kernel_rfl) hSS ?_
  simp only [pickS, pickT, pickL, List.map_cons, List.map_nil, List.filterMap_cons, List.filterMap_nil, List.getElem?_cons_zero, List.getElem?_cons_succ]
  have hz0 : w.heap.size ≤ w.drew.heap.size := Nat.le_refl _
  have R1 := Lib.hid H1.out.drew
  have R2 := Lib.hid H2.out.drew
  have HW := Lib.hid ((Grows.refl w).drew)
  have y1 : B1 ≤ w.drew.heap.size := hB1
  have y2 : B2 ≤ w.drew.heap.size := hB2
  have hgr : Grows w.drew w.drew := Grows.refl _
  clear hSS hSw H1 H2 HSC
  generalize w.drew = wd at hz0 R1 R2 hSi hgr y1 y2 HW ⊢
  have hcat : strs p ++ strs [sep] = strs (p ++ [sep]) := by simp [strs]
  have hcat2 : strs (p ++ [sep]) ++ strs q = strs (p ++ sep :: q) := by simp [strs]
  refine wpFre_consK fun K1 hK1 K2 hK2 K hK => ?_
  repeat (show wpQuiet _ _ _ _ (_ :: _) _; go_big_quiet_step (fail))
  refine wpQuiet_nil (hK _ ?_ ?_)
  · clear hK K hK2 K2
    show wpList _ _ _ [_] _ _
    go_wp2_with fail
    have hga : Grows wd (wd.alloc (.cells #[.string sep] 9)) := (Grows.refl _).alloc _
    have hrs : Reads (wd.alloc (.cells #[.string sep] 9)) (wd.heap.size + 1) 1 (some ⟨wd.heap.size, 0, none⟩) 1 (strs [sep]) := reads_alloc wd (strs [sep]) 1 1 9 rfl
    have hsz : wd.heap.size + 1 ≤ (wd.alloc (.cells #[.string sep] 9)).heap.size := by simp
    generalize wd.alloc (.cells #[.string sep] 9) = w1 at hga hrs hsz ⊢
    refine hK1.out _ _ (hSi _ hga) ?_
    clear hK1 K1
    refine wpSeq_consK fun K2 hK2 K hK => ?_
    refine wpQuiet_nil (hK _ ?_)
    clear hK K
    show wpList _ _ _ [_] _ _
    go_wp2_with (at_builtin; refine wpList_append_any _ rfl (.const (.slice none 0 0)) (.tmp 6) _ rfl wd.heap.size 9 s0 _ 1 16 Try.underlying22 hs0 hs1 hs2 hs3 rfl (by decide) _ _ _ rfl (World.ownsRow_nil w1 _ _ _) _ _ _ _ _ rfl (R1.out.grows y1 hga) (strs_oneCell _) (by simp only [maxLen]; omega) (by omega) hga.size ?_; intro v1 w2 hown1 hgb1 hor1)
    have hg2 : Grows wd w2 := Below.grown hga hgb1 hga.size (fun k hk => by cases hk)
    have hrs2 := hrs.below (Below.mono (Below.grown (Below.refl w1.heap.size w1) hgb1 (Nat.le_refl _) (fun k hk => by cases hk)) hsz)
    rw [List.nil_append, Nat.zero_add] at hown1
    refine hK2.out _ _ (hSi _ hg2) ?_
    clear hK2 K2
    refine wpSeq_consK fun K2 hK2 K hK => ?_
    refine wpQuiet_nil (hK _ ?_)
    clear hK K
    show wpList _ _ _ [_] _ _
    go_wp2_with (at_builtin; refine wpList_append_any _ rfl (.tmp 7) (.tmp 9) _ rfl wd.heap.size 9 s0 _ 1 16 Try.underlying22 hs0 hs1 hs2 hs3 rfl (by decide) _ _ _ rfl hown1 _ _ _ _ _ rfl hrs2 (strs_oneCell _) (by simp only [maxLen]; omega) (by omega) hg2.size ?_; intro v3 w3 hown3 hgb3 hor3)
    have hg3 : Grows wd w3 := Below.grown hg2 hgb3 hg2.size (fun k hk => (hown1.lt k hk).1)
    rw [hcat] at hown3
    refine hK2.out _ _ (hSi _ hg3) ?_
    clear hK2 K2
    refine wpSeq_consK fun K2 hK2 K hK => ?_
    refine wpQuiet_nil (hK _ ?_)
    clear hK K
    show wpList _ _ _ [_] _ _
    go_wp2_with (at_builtin; refine wpList_append_any _ rfl (.tmp 10) (.tmp 11) _ rfl wd.heap.size 9 s0 _ 1 16 Try.underlying22 hs0 hs1 hs2 hs3 rfl (by decide) _ _ _ rfl hown3 _ _ _ _ _ rfl (R2.out.grows y2 hg3) (strs_oneCell _) (by simp only [maxLen]; omega) (by omega) hg3.size ?_; intro v4 w4 hown4 hgb4 hor4)
    have hg4 : Grows wd w4 := Below.grown hg3 hgb4 hg3.size (fun k hk => (hown3.lt k hk).1)
    rw [hcat2] at hown4
    obtain ⟨A9, c9, rfl, hc9, hc9M⟩ := own_form hown4
    refine hK2.out _ _ (hSi _ hg4) ?_
    clear hK2 K2
    refine wpSeq_nil (wpRest_K fun K hK => ?_)
    refine wpQuiet_nil (hK _ ?_)
    clear hK K
    refine wpSegs_consK fun K2 hK2 K hK => ?_
    refine wpQuiet_nil (hK _ ?_)
    clear hK K
    show wpList _ _ _ [_] _ _
    go_wp2_with fail
    refine hK2.out _ _ (wpSegs_nil ?_)
    clear hK2 K2
    go_wp2_with fail
    go_ret
    exact ⟨A9, c9, rfl, hc9, hc9M, Reads.of_own hown4, HW.out.trans hg4⟩
  · clear hK K hK1 K1
    show wpList _ _ _ [_] _ _
    go_wp2_with (at_builtin; refine wpList_append_any _ rfl (.const (.slice none 0 0)) (.tmp 6) _ rfl wd.heap.size 9 s0 _ 1 16 Try.underlying22 hs0 hs1 hs2 hs3 rfl (by decide) _ _ _ rfl (World.ownsRow_nil wd _ _ _) _ _ _ _ _ rfl R1.out (strs_oneCell _) (by simp only [maxLen]; omega) (by omega) (Nat.le_refl _) ?_; intro v1 w1 hown1 hgb1 hor1)
    have hg1 : Grows wd w1 := Below.grown hgr hgb1 (Nat.le_refl _) (fun k hk => by cases hk)
    rw [List.nil_append, Nat.zero_add] at hown1
    refine hK2.out _ _ (hSi _ hg1) ?_
    clear hK2 K2
    refine wpFre_nilK fun K1 hK1 => ?_
    show wpList _ _ _ [_] _ _
    go_wp2_with fail
    have hga : Grows w1 (w1.alloc (.cells #[.string sep] 9)) := (Grows.refl _).alloc _
    have hrs2 : Reads (w1.alloc (.cells #[.string sep] 9)) (w1.heap.size + 1) 1 (some ⟨w1.heap.size, 0, none⟩) 1 (strs [sep]) := reads_alloc w1 (strs [sep]) 1 1 9 rfl
    have hown2 := own_grows hown1 hga
    have hg2 := hg1.trans hga
    generalize w1.alloc (.cells #[.string sep] 9) = w2 at hga hrs2 hown2 hg2 ⊢
    refine hK1.out _ _ (hSi _ hg2) ?_
    clear hK1 K1
    refine wpSeq_consK fun K2 hK2 K hK => ?_
    refine wpQuiet_nil (hK _ ?_)
    clear hK K
    show wpList _ _ _ [_] _ _
    go_wp2_with (at_builtin; refine wpList_append_any _ rfl (.tmp 7) (.tmp 9) _ rfl wd.heap.size 9 s0 _ 1 16 Try.underlying22 hs0 hs1 hs2 hs3 rfl (by decide) _ _ _ rfl hown2 _ _ _ _ _ rfl hrs2 (strs_oneCell _) (by simp only [maxLen]; omega) (by omega) hg2.size ?_; intro v3 w3 hown3 hgb3 hor3)
    have hg3 : Grows wd w3 := Below.grown hg2 hgb3 hg2.size (fun k hk => (hown2.lt k hk).1)
    rw [hcat] at hown3
    refine hK2.out _ _ (hSi _ hg3) ?_
    clear hK2 K2
    refine wpSeq_consK fun K2 hK2 K hK => ?_
    refine wpQuiet_nil (hK _ ?_)
    clear hK K
    show wpList _ _ _ [_] _ _
    go_wp2_with (at_builtin; refine wpList_append_any _ rfl (.tmp 10) (.tmp 11) _ rfl wd.heap.size 9 s0 _ 1 16 Try.underlying22 hs0 hs1 hs2 hs3 rfl (by decide) _ _ _ rfl hown3 _ _ _ _ _ rfl (R2.out.grows y2 hg3) (strs_oneCell _) (by simp only [maxLen]; omega) (by omega) hg3.size ?_; intro v4 w4 hown4 hgb4 hor4)
    have hg4 : Grows wd w4 := Below.grown hg3 hgb4 hg3.size (fun k hk => (hown3.lt k hk).1)
    rw [hcat2] at hown4
    obtain ⟨A9, c9, rfl, hc9, hc9M⟩ := own_form hown4
    refine hK2.out _ _ (hSi _ hg4) ?_
    clear hK2 K2
    refine wpSeq_nil (wpRest_K fun K hK => ?_)
    refine wpQuiet_nil (hK _ ?_)
    clear hK K
    refine wpSegs_consK fun K2 hK2 K hK => ?_
    refine wpQuiet_nil (hK _ ?_)
    clear hK K
    show wpList _ _ _ [_] _ _
    go_wp2_with fail
    refine hK2.out _ _ (wpSegs_nil ?_)
    clear hK2 K2
    go_wp2_with fail
    go_ret
    exact ⟨A9, c9, rfl, hc9, hc9M, Reads.of_own hown4, HW.out.trans hg4⟩

end Go.Proofs.Ytlimfndipapfdaa
