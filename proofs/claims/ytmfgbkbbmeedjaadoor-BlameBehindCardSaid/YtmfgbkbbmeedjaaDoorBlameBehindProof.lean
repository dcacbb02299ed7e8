/- Lines that a version puts behind all others come from it; those ahead keep what they had. -/
import Derived.Test.YtmfgbkbbmeedjaaDoorBlameBehind
import Derived.Test.YtmfgbkbbmeedjaaDoorCard
import Derived.Test.YtmfgbkbbmeedjaaDoorOpenStr
import Derived.Test.YtmfgbkbbmeedjaaDoorOpenLists
namespace Go.Proofs.YtmfgbkbbmeedjaaDoor
open Go.ChangeShapes Go.WideShapes Go.ChangeAt Go.RowKit

set_option maxRecDepth 100000 in
theorem blameBehind_lifted (os : Os) (started : os.Started) (H : Type) (enc : TypeId × Value → H) :
    ReturnsInHanded {} Tryd.checked os 13 .any (fun w args => (Rows.blameBehindSpec.pre enc Tryd.prog Tryd.f13 Rows.blameBehindRow.domain false w args ∧ laidMetH Tryd.prog laidHere w) ∧ sizedMet enc Tryd.prog Tryd.f13 (OpenSpec.ofChange Rows.blameBehindSpec) false w args) (Rows.blameBehindSpec.post enc Tryd.prog Tryd.f13 false true false false) := by
  refine returns_listed (C := Tryd.checked) (X := fun w _ => laidMetH Tryd.prog laidHere w) Tryd.own started (by kernel_rfl) Tryd.func13
    (ChangeSpec.witness_shaped (enc := enc) (C := Tryd.checked) (os := os) (X := fun w _ => laidMetH Tryd.prog laidHere w) false (World.laidAll Tryd.prog os laidHere) #[.slice none 0 0, .slice none 0 0] 8 (World.laidAll_os _ _ _)
      (World.shaped_of_ZipB (by kernel_rfl) (by kernel_rfl)) (by kernel_rfl) (by kernel_rfl) (by kernel_rfl)
      (by rw [MakeChecks.laidMetH_plain _ _ _ (by kernel_rfl)]; exact laidMet_laidAll _ (by kernel_rfl) (by kernel_rfl))) ?_
  intro W base args ds gs before hval0 hW hsh
  have hm : MaxL W := max_of_shape hsh
  have hval : ∀ (j : Nat) t v, Tryd.f13.params[j]? = some t → args[j]? = some v → Value.okWide Tryd.prog W .any base t v := hval0
  have hW' := hW
  obtain ⟨p, q, hA0, hV, rfl, hfz, hnd⟩ := hW
  have hA : DataW.TrodAll enc Tryd.prog W 0 (fun _ => true) true Tryd.f13.params.toList args.toList ds p := hA0
  rw [Tryd.params13] at hA hval
  obtain ⟨v0, v1, d0, d1, p0, p1, rfl, rfl, rfl, h0, h1⟩ := trodAll_two hA
  obtain ⟨rfl, rfl⟩ := trodVars_none hV
  obtain ⟨A0, n0, c0, x0, rfl, hv0, hn0, hc0⟩ := open_lists Tryd.underlying37 Tryd.underlying22 Tryd.underlying9 (by kernel_rfl) (by kernel_rfl) (hval 0 37 v0 rfl rfl) h0
  obtain ⟨A1, n1, c1, x1, rfl, hr1, hn1, hc1⟩ := open_readsS Tryd.underlying22 Tryd.underlying9 (by kernel_rfl) (hval 1 22 v1 rfl rfl) h1
  refine (bbehind_any A0 A1 n0 c0 n1 c1 x0 x1 W hv0 hr1 hm).mono fun e W' ⟨he, hg⟩ => ?_
  subst he
  exact ⟨_, rfl, law_post (by kernel_rfl) (types_ok (by kernel_rfl)) hW' rfl rfl rfl rfl rfl (by kernel_rfl) Tryd.underlying4 hg⟩

theorem blameBehind_said : Rows.BlameBehindSaid :=
  OpenClaim.holds_of_wide 13 Tryd.f13 rfl rfl rfl rfl rfl rfl rfl ⟨rfl, rfl, rfl, rfl, rfl⟩ rfl rfl rfl rfl rfl (by kernel_rfl) Tryd.func13 (by kernel_rfl)
    (of_decide_eq_true (by kernel_rfl)) (by unfold Func.isWrapper; first | (rw [if_pos (by decide +kernel)]; kernel_rfl) | (rw [if_neg (by decide +kernel)]; exact ⟨rfl, rfl⟩))
    (fun os started H enc _ => blameBehind_lifted os started H enc)

theorem blameBehind_holds : Rows.BlameBehindCardSaid :=
  Claim7.holds_tied_plain_at .later [] [.data, .pinned] true _ false blameBehind_said (fun _ h => by cases h) (by kernel_rfl) (fun _ h => by cases h) blameBehind_row_tie rfl ⟨rfl, rfl⟩ (by kernel_rfl) rfl
    (fun f fn hf hfn => by
      obtain rfl : f = 13 := Option.some.inj ((show Tryd.prog.funcNamed "rick/ricklaw08.BlameBehind" = some 13 by kernel_rfl).symm.trans hf) |>.symm
      obtain rfl : fn = Tryd.f13 := (Option.some.inj (Tryd.func13.symm.trans hfn)).symm
      exact ⟨by kernel_rfl, fun j t ht => by
        rw [Tryd.params13] at ht
        have hm : t ∈ [37, 22] := by have := Array.mem_of_getElem? ht; simp at this ⊢; first | exact this | (rcases this with h | h | h <;> simp [h]) | (rcases this with h | h <;> simp [h])
        have hall : ([37, 22].all fun u => !Tryd.prog.wantsStandIn u) = true := by kernel_rfl
        exact (show Tryd.prog.wantsStandIn t = false by simpa using List.all_eq_true.1 hall t hm)⟩)
    (by kernel_rfl)

end Go.Proofs.YtmfgbkbbmeedjaaDoor
