/- SimilarRenames holds of the given program: of any two lists of files, each file of the trees is paired once, what moved is not in the other tree, both are alike enough, the moves rise, and where nothing moved there is none. No condition. -/
import Derived.Test.YtakgddochbcjbaaDoorSimRens
import Derived.Test.YtakgddochbcjbaaDoorCard
import Derived.Test.YtakgddochbcjbaaDoorOpenFiles
namespace Go.Proofs.YtakgddochbcjbaaDoor
open Go.ChangeShapes Go.WideShapes Go.ChangeAt Go.RowKit

set_option maxRecDepth 100000 in
theorem similarRenames_lifted (os : Os) (started : os.Started) (H : Type) (enc : TypeId × Value → H) :
    ReturnsInHanded {} Tryd.checked os 9 .any (fun w args => (Rows.similarRenamesSpec.pre enc Tryd.prog Tryd.f9 Rows.similarRenamesRow.domain false w args ∧ laidMetH Tryd.prog laidHere w) ∧ sizedMet enc Tryd.prog Tryd.f9 (OpenSpec.ofChange Rows.similarRenamesSpec) false w args) (Rows.similarRenamesSpec.post enc Tryd.prog Tryd.f9 false true false false) := by
  refine returns_listed (C := Tryd.checked) (X := fun w _ => laidMetH Tryd.prog laidHere w) Tryd.own started (by kernel_rfl) Tryd.func9
    (ChangeSpec.witness_shaped (enc := enc) (C := Tryd.checked) (os := os) (X := fun w _ => laidMetH Tryd.prog laidHere w) false (World.laidAll Tryd.prog os laidHere) #[.slice none 0 0, .slice none 0 0] 8 (World.laidAll_os _ _ _)
      (World.shaped_of_ZipB (by kernel_rfl) (by kernel_rfl)) (by kernel_rfl) (by kernel_rfl) (by kernel_rfl)
      (by rw [MakeChecks.laidMetH_plain _ _ _ (by kernel_rfl)]; exact laidMet_laidAll _ (by kernel_rfl) (by kernel_rfl))) ?_
  intro W base args ds gs before hval0 hW hsh
  have hm : MaxL W := max_of_shape hsh
  have hval : ∀ (j : Nat) t v, Tryd.f9.params[j]? = some t → args[j]? = some v → Value.okWide Tryd.prog W .any base t v := hval0
  have hW' := hW
  obtain ⟨p, q, hA0, hV, rfl, hfz, hnd⟩ := hW
  have hA : DataW.TrodAll enc Tryd.prog W 0 (fun _ => true) true Tryd.f9.params.toList args.toList ds p := hA0
  rw [Tryd.params9] at hA hval
  obtain ⟨v0, v1, d0, d1, p0, p1, rfl, rfl, rfl, h0, h1⟩ := trodAll_two hA
  obtain ⟨rfl, rfl⟩ := trodVars_none hV
  obtain ⟨A0, n0, c0, x0, rfl, hr0, hn0, hc0⟩ := open_files Tryd.underlying51 Tryd.underlying57 (by kernel_rfl) ⟨rfl, by kernel_rfl, Tryd.underlying9⟩ ⟨rfl, by kernel_rfl, Tryd.underlying4⟩ ⟨rfl, by kernel_rfl, Tryd.underlying9⟩ (hval 0 51 v0 rfl rfl) h0
  obtain ⟨A1, n1, c1, x1, rfl, hr1, hn1, hc1⟩ := open_files Tryd.underlying51 Tryd.underlying57 (by kernel_rfl) ⟨rfl, by kernel_rfl, Tryd.underlying9⟩ ⟨rfl, by kernel_rfl, Tryd.underlying4⟩ ⟨rfl, by kernel_rfl, Tryd.underlying9⟩ (hval 1 51 v1 rfl rfl) h1
  refine (srens_any _ _ A0 A1 n0 n1 c0 c1 x0 x1 W hm hr0 hr1 (Nat.le_refl _) (Nat.le_refl _) (Nat.le_trans hn0 hc0) (Nat.le_trans hn1 hc1)).mono fun e W' ⟨he, hg⟩ => ?_
  subst he
  exact ⟨_, rfl, law_post (by kernel_rfl) (types_ok (by kernel_rfl)) hW' rfl rfl rfl rfl rfl (by kernel_rfl) Tryd.underlying4 hg⟩

theorem similarRenames_said : Rows.SimilarRenamesSaid :=
  OpenClaim.holds_of_wide 9 Tryd.f9 rfl rfl rfl rfl rfl rfl rfl ⟨rfl, rfl, rfl, rfl, rfl⟩ rfl rfl rfl rfl rfl (by kernel_rfl) Tryd.func9 (by kernel_rfl)
    (of_decide_eq_true (by kernel_rfl)) (by unfold Func.isWrapper; first | (rw [if_pos (by decide +kernel)]; kernel_rfl) | (rw [if_neg (by decide +kernel)]; exact ⟨rfl, rfl⟩))
    (fun os started H enc _ => similarRenames_lifted os started H enc)

theorem similarRenames_holds : Rows.SimilarRenamesCardSaid :=
  Claim7.holds_tied_plain_at .later [] [.data, .pinned] true _ false similarRenames_said (fun _ h => by cases h) (by kernel_rfl) (fun _ h => by cases h) similarRenames_row_tie rfl ⟨rfl, rfl⟩ (by kernel_rfl) rfl
    (fun f fn hf hfn => by
      obtain rfl : f = 9 := Option.some.inj ((show Tryd.prog.funcNamed "rick/ricklaw13.SimilarRenames" = some 9 by kernel_rfl).symm.trans hf) |>.symm
      obtain rfl : fn = Tryd.f9 := (Option.some.inj (Tryd.func9.symm.trans hfn)).symm
      exact ⟨by kernel_rfl, fun j t ht => by
        rw [Tryd.params9] at ht
        have hm : t ∈ [51] := by have := Array.mem_of_getElem? ht; simp at this ⊢; first | exact this | (rcases this with h | h | h <;> simp [h]) | (rcases this with h | h <;> simp [h])
        have hall : ([51].all fun u => !Tryd.prog.wantsStandIn u) = true := by kernel_rfl
        exact (show Tryd.prog.wantsStandIn t = false by simpa using List.all_eq_true.1 hall t hm)⟩)
    (by kernel_rfl)

end Go.Proofs.YtakgddochbcjbaaDoor
