/- Any text line by line, any lines as a text, whether lines are alike and whole, as the document says; what is handed in stays. Condition: what it reads is of bulk at most 1048576 (the statement's second form). -/
import Derived.Test.YtmfgbkbbmeedjaaDoorLinesTell
import Derived.Test.YtmfgbkbbmeedjaaDoorCardU
import Derived.Test.YtmfgbkbbmeedjaaDoorOpenBulk
import Derived.Test.YtmfgbkbbmeedjaaDoorOpenStr
namespace Go.Proofs.YtmfgbkbbmeedjaaDoor
open Go.ChangeShapes Go.WideShapes Go.ChangeAt Go.ChangeMaps Go.RowKit

set_option maxRecDepth 100000 in
theorem linesTell_lifted (os : Os) (started : os.Started) (H : Type) (enc : TypeId × Value → H) (F : Stop.Interp) :
    ReturnsInHanded {} Tryd.checked os 8 .any ((Rows.OpenSpec.upto Rows.linesTellSpec).preRow enc Tryd.prog Tryd.f8 Rows.linesTellUptoRow.domain false laidHere) (((Rows.OpenSpec.upto Rows.linesTellSpec).at F).post enc Tryd.prog Tryd.f8 false true false false) := by
  refine returnsInHanded_of_row (C := Tryd.checked) (s := Rows.OpenSpec.upto Rows.linesTellSpec) Tryd.own started (by kernel_rfl) Tryd.func8
    (witness_listed (enc := enc) (C := Tryd.checked) (os := os) (World.laidAll Tryd.prog os laidHere) #[.string ByteArray.empty, .slice none 0 0, .slice none 0 0] (World.laidAll_os _ _ _)
      (World.shaped_of_ZipB (by kernel_rfl) (by kernel_rfl)) (by kernel_rfl)
      (OpenSpec.preRow_of_cond 8 (x := ([.lit (.string []), .nil, .nil], [], [])) (by kernel_rfl) (by kernel_rfl) (fun k hk => by cases hk; kernel_rfl) (by kernel_rfl)
        (by rw [MakeChecks.laidMetH_plain _ _ _ (by kernel_rfl)]; exact laidMet_laidAll _ (by kernel_rfl) (by kernel_rfl)))) ?_
  intro W base args ds gs before hval0 hW _ hcond _ _ hsh _
  have hk0 : Rows.uptoBulkAll (ds ++ gs) ≤ 1048576 := of_decide_eq_true (hcond _ rfl)
  have hm : MaxL W := max_of_shape hsh
  have hval : ∀ (j : Nat) t v, Tryd.f8.params[j]? = some t → args[j]? = some v → Value.okWide Tryd.prog W .any base t v := hval0
  have hW' := hW
  obtain ⟨p, q, hA0, hV, rfl, hfz, hnd⟩ := hW
  have hA : DataW.TrodAll enc Tryd.prog W 0 (fun _ => true) true Tryd.f8.params.toList args.toList ds p := hA0
  rw [Tryd.params8] at hA hval
  obtain ⟨v0, v1, v2, d0, d1, d2, p0, p1, p2, rfl, rfl, rfl, h0, h1, h2⟩ := trodAll_three hA
  obtain ⟨rfl, rfl⟩ := trodVars_none hV
  obtain ⟨x0, rfl, e0, _, hx0⟩ := open_string Tryd.underlying9 (hval 0 9 v0 rfl rfl) h0
  obtain ⟨A1, n1, c1, x1, rfl, hr1, hn1, hc1, bk1'⟩ := open_readsSB Tryd.underlying22 Tryd.underlying9 (by kernel_rfl) (hval 1 22 v1 rfl rfl) h1
  obtain ⟨A2, n2, c2, x2, rfl, hr2, hn2, hc2, bk2'⟩ := open_readsSB Tryd.underlying22 Tryd.underlying9 (by kernel_rfl) (hval 2 22 v2 rfl rfl) h2
  rw [List.append_nil] at hk0
  simp only [Rows.uptoBulkAll] at hk0
  have bk1 : (bl x1).flatten.length + n1 ≤ 1048576 := by omega
  have bk2 : (bl x2).flatten.length + n2 ≤ 1048576 := by omega
  refine (ltell_any x0 A1 A2 n1 c1 n2 c2 x1 x2 W hr1 hr2 hm (by omega)).mono fun e W' ⟨he, hg⟩ => ?_
  subst he
  exact ⟨_, rfl, law_post (by kernel_rfl) (types_ok (by kernel_rfl)) hW' rfl rfl rfl rfl rfl (by kernel_rfl) Tryd.underlying4 hg⟩

theorem linesTell_said : Rows.LinesTellUptoSaid :=
  OpenClaim.holds_of_cond 8 Tryd.f8 rfl rfl rfl rfl rfl rfl rfl ⟨rfl, rfl, rfl, rfl, rfl⟩ rfl rfl rfl rfl rfl (by kernel_rfl) Tryd.func8 (by kernel_rfl)
    (of_decide_eq_true (by kernel_rfl)) (by unfold Func.isWrapper; first | (rw [if_pos (by decide +kernel)]; kernel_rfl) | (rw [if_neg (by decide +kernel)]; exact ⟨rfl, rfl⟩))
    (fun os started H enc _ F => by rw [OpenClaim.pre_eq_preRow]; exact linesTell_lifted os started H enc F)

theorem linesTell_holds : Rows.LinesTellUptoCardSaid :=
  Claim7.holds_tied_plain_at .later [] [.data, .pinned] true _ false linesTell_said (fun _ h => by cases h) (by kernel_rfl) (fun _ h => by cases h) linesTellUpto_row_tie rfl ⟨rfl, rfl⟩ (by kernel_rfl) rfl
    (fun f fn hf hfn => by
      obtain rfl : f = 8 := Option.some.inj ((show Tryd.prog.funcNamed "rick/ricklaw05.LinesTell" = some 8 by kernel_rfl).symm.trans hf) |>.symm
      obtain rfl : fn = Tryd.f8 := (Option.some.inj (Tryd.func8.symm.trans hfn)).symm
      exact ⟨by kernel_rfl, fun j t ht => by
        rw [Tryd.params8] at ht
        have hm : t ∈ [22, 9] := by have := Array.mem_of_getElem? ht; simp at this ⊢; first | exact this | (rcases this with h | h | h <;> simp [h]) | (rcases this with h | h <;> simp [h])
        have hall : ([22, 9].all fun u => !Tryd.prog.wantsStandIn u) = true := by kernel_rfl
        exact (show Tryd.prog.wantsStandIn t = false by simpa using List.all_eq_true.1 hall t hm)⟩)
    (by kernel_rfl)

end Go.Proofs.YtmfgbkbbmeedjaaDoor
