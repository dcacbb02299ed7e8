/- SimilarMoved holds of the given program: of any list of files, any number and any path, a file that moves, as it is, to a place where nothing was, is found. No condition. -/
import Derived.Test.YtakgddochbcjbaaDoorSimMove
import Derived.Test.YtakgddochbcjbaaDoorCard
import Derived.Test.YtakgddochbcjbaaDoorOpenStr
import Derived.Test.YtakgddochbcjbaaDoorOpenFiles
namespace Go.Proofs.YtakgddochbcjbaaDoor
open Go.ChangeShapes Go.WideShapes Go.ChangeAt Go.ChangeMaps Go.RowKit

set_option maxRecDepth 100000 in
theorem similarMoved_lifted (os : Os) (started : os.Started) (H : Type) (enc : TypeId × Value → H) :
    ReturnsInHanded {} Tryd.checked os 10 .any (fun w args => (Rows.similarMovedSpec.pre enc Tryd.prog Tryd.f10 Rows.similarMovedRow.domain false w args ∧ laidMetH Tryd.prog laidHere w) ∧ sizedMet enc Tryd.prog Tryd.f10 (OpenSpec.ofChange Rows.similarMovedSpec) false w args) (Rows.similarMovedSpec.post enc Tryd.prog Tryd.f10 false true false false) := by
  refine returns_listed (C := Tryd.checked) (X := fun w _ => laidMetH Tryd.prog laidHere w) Tryd.own started (by kernel_rfl) Tryd.func10
    (ChangeSpec.witness_shaped (enc := enc) (C := Tryd.checked) (os := os) (X := fun w _ => laidMetH Tryd.prog laidHere w) false (World.laidAll Tryd.prog os laidHere) #[.slice none 0 0, .int .i64 0, .string ByteArray.empty] 8 (World.laidAll_os _ _ _)
      (World.shaped_of_ZipB (by kernel_rfl) (by kernel_rfl)) (by kernel_rfl) (by kernel_rfl) (by kernel_rfl)
      (by rw [MakeChecks.laidMetH_plain _ _ _ (by kernel_rfl)]; exact laidMet_laidAll _ (by kernel_rfl) (by kernel_rfl))) ?_
  intro W base args ds gs before hval0 hW hsh
  have hm : MaxL W := max_of_shape hsh
  have hval : ∀ (j : Nat) t v, Tryd.f10.params[j]? = some t → args[j]? = some v → Value.okWide Tryd.prog W .any base t v := hval0
  have hW' := hW
  obtain ⟨p, q, hA0, hV, rfl, hfz, hnd⟩ := hW
  have hA : DataW.TrodAll enc Tryd.prog W 0 (fun _ => true) true Tryd.f10.params.toList args.toList ds p := hA0
  rw [Tryd.params10] at hA hval
  obtain ⟨v0, v1, v2, d0, d1, d2, p0, p1, p2, rfl, rfl, rfl, h0, h1, h2⟩ := trodAll_three hA
  obtain ⟨rfl, rfl⟩ := trodVars_none hV
  obtain ⟨A0, n0, c0, x0, rfl, hr0, hn0, hc0⟩ := open_files Tryd.underlying51 Tryd.underlying57 (by kernel_rfl) ⟨rfl, by kernel_rfl, Tryd.underlying9⟩ ⟨rfl, by kernel_rfl, Tryd.underlying4⟩ ⟨rfl, by kernel_rfl, Tryd.underlying9⟩ (hval 0 51 v0 rfl rfl) h0
  obtain ⟨x1, rfl, e1, wr1, wx1⟩ := open_int Tryd.underlying3 (hval 1 3 v1 rfl rfl) h1
  obtain ⟨x2, rfl, e2, _, hx2⟩ := open_string Tryd.underlying9 (hval 2 9 v2 rfl rfl) h2
  refine (smoved_any _ A0 n0 c0 x0 x1 x2 W hm hr0 (Nat.le_refl _) (Nat.le_trans hn0 hc0)).mono fun e W' ⟨he, hg⟩ => ?_
  subst he
  exact ⟨_, rfl, law_post (by kernel_rfl) (types_ok (by kernel_rfl)) hW' rfl rfl rfl rfl rfl (by kernel_rfl) Tryd.underlying4 hg⟩

theorem similarMoved_said : Rows.SimilarMovedSaid :=
  OpenClaim.holds_of_wide 10 Tryd.f10 rfl rfl rfl rfl rfl rfl rfl ⟨rfl, rfl, rfl, rfl, rfl⟩ rfl rfl rfl rfl rfl (by kernel_rfl) Tryd.func10 (by kernel_rfl)
    (of_decide_eq_true (by kernel_rfl)) (by unfold Func.isWrapper; first | (rw [if_pos (by decide +kernel)]; kernel_rfl) | (rw [if_neg (by decide +kernel)]; exact ⟨rfl, rfl⟩))
    (fun os started H enc _ => similarMoved_lifted os started H enc)

theorem similarMoved_holds : Rows.SimilarMovedCardSaid :=
  Claim7.holds_tied_plain_at .later [] [.data, .pinned] true _ false similarMoved_said (fun _ h => by cases h) (by kernel_rfl) (fun _ h => by cases h) similarMoved_row_tie rfl ⟨rfl, rfl⟩ (by kernel_rfl) rfl
    (fun f fn hf hfn => by
      obtain rfl : f = 10 := Option.some.inj ((show Tryd.prog.funcNamed "rick/ricklaw13.SimilarMoved" = some 10 by kernel_rfl).symm.trans hf) |>.symm
      obtain rfl : fn = Tryd.f10 := (Option.some.inj (Tryd.func10.symm.trans hfn)).symm
      exact ⟨by kernel_rfl, fun j t ht => by
        rw [Tryd.params10] at ht
        have hm : t ∈ [51, 3, 9] := by have := Array.mem_of_getElem? ht; simp at this ⊢; first | exact this | (rcases this with h | h | h <;> simp [h]) | (rcases this with h | h <;> simp [h])
        have hall : ([51, 3, 9].all fun u => !Tryd.prog.wantsStandIn u) = true := by kernel_rfl
        exact (show Tryd.prog.wantsStandIn t = false by simpa using List.all_eq_true.1 hall t hm)⟩)
    (by kernel_rfl)

end Go.Proofs.YtakgddochbcjbaaDoor
