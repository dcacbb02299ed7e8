/- Plain texts whose lines have ends: what they come to, with marks, is read back: with ours (theirs) picked each conflict is as that side has it. Conditions: none but the row's own (the listed tables of the library read as the program lays them). -/
import Derived.Test.YtakgddochbcjbaaDoorPkMergeParseW
import Derived.Test.YtakgddochbcjbaaDoorPkCard
import Derived.Test.YtakgddochbcjbaaDoorPkOpenStr
namespace Go.Proofs.YtakgddochbcjbaaDoor
open Go.ChangeShapes Go.WideShapes Go.ChangeAt Go.ChangeMaps Go.RowKit

set_option maxRecDepth 100000 in
theorem mergeParse_lifted (os : Os) (started : os.Started) (H : Type) (enc : TypeId × Value → H) :
    ReturnsInHanded {} Tryd.checked os 7 .any (fun w args => (Rows.mergeParseSpec.pre enc Tryd.prog Tryd.f7 Rows.mergeParseRow.domain false w args ∧ laidMetH Tryd.prog laidHere w) ∧ sizedMet enc Tryd.prog Tryd.f7 (OpenSpec.ofChange Rows.mergeParseSpec) false w args) (Rows.mergeParseSpec.post enc Tryd.prog Tryd.f7 false true false false) := by
  refine returns_listed (C := Tryd.checked) (X := fun w _ => laidMetH Tryd.prog laidHere w) Tryd.own started (by kernel_rfl) Tryd.func7
    (ChangeSpec.witness_shaped (enc := enc) (C := Tryd.checked) (os := os) (X := fun w _ => laidMetH Tryd.prog laidHere w) false (World.laidAll Tryd.prog os laidHere) #[.string ByteArray.empty, .string ByteArray.empty, .string ByteArray.empty] 8 (World.laidAll_os _ _ _)
      (World.shaped_of_ZipB (by kernel_rfl) (by kernel_rfl)) (by kernel_rfl) (by kernel_rfl) (by kernel_rfl)
      (by rw [MakeChecks.laidMetH_plain _ _ _ (by kernel_rfl)]; exact laidMet_laidAll _ (by kernel_rfl) (by kernel_rfl))) ?_
  intro W base args ds gs before hval0 hW hsh
  have hm : MaxL W := max_of_shape hsh
  have hval : ∀ (j : Nat) t v, Tryd.f7.params[j]? = some t → args[j]? = some v → Value.okWide Tryd.prog W .any base t v := hval0
  have hW' := hW
  obtain ⟨p, q, hA0, hV, rfl, hfz, hnd⟩ := hW
  have hA : DataW.TrodAll enc Tryd.prog W 0 (fun _ => true) true Tryd.f7.params.toList args.toList ds p := hA0
  rw [Tryd.params7] at hA hval
  obtain ⟨v0, v1, v2, d0, d1, d2, p0, p1, p2, rfl, rfl, rfl, h0, h1, h2⟩ := trodAll_three hA
  obtain ⟨rfl, rfl⟩ := trodVars_none hV
  obtain ⟨x0, rfl, e0, _, hx0⟩ := open_string Tryd.underlying9 (hval 0 9 v0 rfl rfl) h0
  obtain ⟨x1, rfl, e1, _, hx1⟩ := open_string Tryd.underlying9 (hval 1 9 v1 rfl rfl) h1
  obtain ⟨x2, rfl, e2, _, hx2⟩ := open_string Tryd.underlying9 (hval 2 9 v2 rfl rfl) h2
  refine (mparse_any x0 x1 x2 W hm).mono fun e W' ⟨he, hg⟩ => ?_
  subst he
  exact ⟨_, rfl, law_post (by kernel_rfl) (types_ok (by kernel_rfl)) hW' rfl rfl rfl rfl rfl (by kernel_rfl) Tryd.underlying4 hg⟩

theorem mergeParse_said : Rows.MergeParseSaid :=
  OpenClaim.holds_of_wide 7 Tryd.f7 rfl rfl rfl rfl rfl rfl rfl ⟨rfl, rfl, rfl, rfl, rfl⟩ rfl rfl rfl rfl rfl (by kernel_rfl) Tryd.func7 (by kernel_rfl)
    (of_decide_eq_true (by kernel_rfl)) (by unfold Func.isWrapper; first | (rw [if_pos (by decide +kernel)]; kernel_rfl) | (rw [if_neg (by decide +kernel)]; exact ⟨rfl, rfl⟩))
    (fun os started H enc _ => mergeParse_lifted os started H enc)

theorem mergeParse_holds : Rows.MergeParseCardSaid :=
  Claim7.holds_tied_plain_at .later [] [.data, .pinned] true _ false mergeParse_said (fun _ h => by cases h) (by kernel_rfl) (fun _ h => by cases h) mergeParse_row_tie rfl ⟨rfl, rfl⟩ (by kernel_rfl) rfl
    (fun f fn hf hfn => by
      obtain rfl : f = 7 := Option.some.inj ((show Tryd.prog.funcNamed "rick/ricklaw10.MergeParse" = some 7 by kernel_rfl).symm.trans hf) |>.symm
      obtain rfl : fn = Tryd.f7 := (Option.some.inj (Tryd.func7.symm.trans hfn)).symm
      exact ⟨by kernel_rfl, fun j t ht => by
        rw [Tryd.params7] at ht
        have hm : t ∈ [9] := by have := Array.mem_of_getElem? ht; simp at this ⊢; first | exact this | (rcases this with h | h | h | h | h <;> simp [h]) | (rcases this with h | h | h <;> simp [h]) | (rcases this with h | h <;> simp [h])
        have hall : ([9].all fun u => !Tryd.prog.wantsStandIn u) = true := by kernel_rfl
        exact (show Tryd.prog.wantsStandIn t = false by simpa using List.all_eq_true.1 hall t hm)⟩)
    (by kernel_rfl)

end Go.Proofs.YtakgddochbcjbaaDoor
