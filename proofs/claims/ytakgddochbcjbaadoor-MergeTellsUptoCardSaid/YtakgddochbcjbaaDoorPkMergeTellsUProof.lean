/- What any three texts come to, whether a text is plain, what any text is read as, or why not, and either side of that: as the document says; what is handed in stays. Condition: what it reads is of bulk at most 1048576 (the statement's second form). -/
import Derived.Test.YtakgddochbcjbaaDoorPkMergeTells
import Derived.Test.YtakgddochbcjbaaDoorPkCard
import Derived.Test.YtakgddochbcjbaaDoorPkOpenChunkB
namespace Go.Proofs.YtakgddochbcjbaaDoor
open Go.ChangeShapes Go.WideShapes Go.ChangeAt Go.ChangeMaps Go.RowKit

set_option maxRecDepth 100000 in
theorem mergeTells_lifted (os : Os) (started : os.Started) (H : Type) (enc : TypeId × Value → H) (F : Stop.Interp) :
    ReturnsInHanded {} Tryd.checked os 6 .any ((Rows.OpenSpec.upto Rows.mergeTellsSpec).preRow enc Tryd.prog Tryd.f6 Rows.mergeTellsUptoRow.domain false laidHere) (((Rows.OpenSpec.upto Rows.mergeTellsSpec).at F).post enc Tryd.prog Tryd.f6 false true false false) := by
  refine returnsInHanded_of_row (C := Tryd.checked) (s := Rows.OpenSpec.upto Rows.mergeTellsSpec) Tryd.own started (by kernel_rfl) Tryd.func6
    (witness_listed (enc := enc) (C := Tryd.checked) (os := os) (World.laidAll Tryd.prog os laidHere) #[.string ByteArray.empty, .string ByteArray.empty, .string ByteArray.empty, .string ByteArray.empty, .slice none 0 0, .bool false] (World.laidAll_os _ _ _)
      (World.shaped_of_ZipB (by kernel_rfl) (by kernel_rfl)) (by kernel_rfl)
      (OpenSpec.preRow_of_cond 8 (x := ([.lit (.string []), .lit (.string []), .lit (.string []), .lit (.string []), .nil, .lit (.bool false)], [], [])) (by kernel_rfl) (by kernel_rfl) (fun k hk => by cases hk; kernel_rfl) (by kernel_rfl)
        (by rw [MakeChecks.laidMetH_plain _ _ _ (by kernel_rfl)]; exact laidMet_laidAll _ (by kernel_rfl) (by kernel_rfl)))) ?_
  intro W base args ds gs before hval0 hW _ hcond _ _ hsh _
  have hk0 : Rows.uptoBulkAll (ds ++ gs) ≤ 1048576 := of_decide_eq_true (hcond _ rfl)
  have hm : MaxL W := max_of_shape hsh
  have hval : ∀ (j : Nat) t v, Tryd.f6.params[j]? = some t → args[j]? = some v → Value.okWide Tryd.prog W .any base t v := hval0
  have hW' := hW
  obtain ⟨p, q, hA0, hV, rfl, hfz, hnd⟩ := hW
  have hA : DataW.TrodAll enc Tryd.prog W 0 (fun _ => true) true Tryd.f6.params.toList args.toList ds p := hA0
  rw [Tryd.params6] at hA hval
  obtain ⟨v0, v1, v2, v3, v4, v5, d0, d1, d2, d3, d4, d5, p0, p1, p2, p3, p4, p5, rfl, rfl, rfl, h0, h1, h2, h3, h4, h5⟩ := trodAll_six hA
  obtain ⟨rfl, rfl⟩ := trodVars_none hV
  obtain ⟨x0, rfl, e0, _, hx0⟩ := open_string Tryd.underlying9 (hval 0 9 v0 rfl rfl) h0
  obtain ⟨x1, rfl, e1, _, hx1⟩ := open_string Tryd.underlying9 (hval 1 9 v1 rfl rfl) h1
  obtain ⟨x2, rfl, e2, _, hx2⟩ := open_string Tryd.underlying9 (hval 2 9 v2 rfl rfl) h2
  obtain ⟨x3, rfl, e3, _, hx3⟩ := open_string Tryd.underlying9 (hval 3 9 v3 rfl rfl) h3
  obtain ⟨A4, n4, c4, x4, rfl, hr4, hn4, hc4, bk4⟩ := open_chunksB Tryd.underlying30 Tryd.underlying36 (by kernel_rfl) ⟨rfl, by kernel_rfl, Tryd.underlying3⟩ ⟨rfl, by kernel_rfl, rfl⟩ ⟨rfl, by kernel_rfl, rfl⟩ ⟨rfl, by kernel_rfl, rfl⟩ Tryd.underlying28 Tryd.underlying9 (by kernel_rfl) (hval 4 30 v4 rfl rfl) h4
  obtain ⟨x5, rfl, e5, _⟩ := open_bool Tryd.underlying4 (hval 5 4 v5 rfl rfl) h5
  rw [List.append_nil] at hk0
  simp only [Rows.uptoBulkAll] at hk0
  have hbk : (x4.map chW).sum ≤ 1048576 := by omega
  refine (mtells_any A4 n4 c4 x4 x0 x1 x2 x3 x5 W hm hr4 (Nat.le_trans hn4 hc4) (lines_bulk hbk (by decide)) (by
    have h := pick_bulk x5 x4
    rw [pickTo, List.take_length]
    omega)).mono fun e W' ⟨he, hg⟩ => ?_
  subst he
  exact ⟨_, rfl, law_post (by kernel_rfl) (types_ok (by kernel_rfl)) hW' rfl rfl rfl rfl rfl (by kernel_rfl) Tryd.underlying4 hg⟩

theorem mergeTells_said : Rows.MergeTellsUptoSaid :=
  OpenClaim.holds_of_cond 6 Tryd.f6 rfl rfl rfl rfl rfl rfl rfl ⟨rfl, rfl, rfl, rfl, rfl⟩ rfl rfl rfl rfl rfl (by kernel_rfl) Tryd.func6 (by kernel_rfl)
    (of_decide_eq_true (by kernel_rfl)) (by unfold Func.isWrapper; first | (rw [if_pos (by decide +kernel)]; kernel_rfl) | (rw [if_neg (by decide +kernel)]; exact ⟨rfl, rfl⟩))
    (fun os started H enc _ F => by rw [OpenClaim.pre_eq_preRow]; exact mergeTells_lifted os started H enc F)

theorem mergeTells_holds : Rows.MergeTellsUptoCardSaid :=
  Claim7.holds_tied_plain_at .later [] [.data, .pinned] true _ false mergeTells_said (fun _ h => by cases h) (by kernel_rfl) (fun _ h => by cases h) mergeTellsUpto_row_tie rfl ⟨rfl, rfl⟩ (by kernel_rfl) rfl
    (fun f fn hf hfn => by
      obtain rfl : f = 6 := Option.some.inj ((show Tryd.prog.funcNamed "rick/ricklaw10.MergeTells" = some 6 by kernel_rfl).symm.trans hf) |>.symm
      obtain rfl : fn = Tryd.f6 := (Option.some.inj (Tryd.func6.symm.trans hfn)).symm
      exact ⟨by kernel_rfl, fun j t ht => by
        rw [Tryd.params6] at ht
        have hm : t ∈ [9, 30, 4] := by have := Array.mem_of_getElem? ht; simp at this ⊢; first | exact this | (rcases this with h | h | h | h | h | h <;> simp [h]) | (rcases this with h | h | h <;> simp [h]) | (rcases this with h | h <;> simp [h])
        have hall : ([9, 30, 4].all fun u => !Tryd.prog.wantsStandIn u) = true := by kernel_rfl
        exact (show Tryd.prog.wantsStandIn t = false by simpa using List.all_eq_true.1 hall t hm)⟩)
    (by kernel_rfl)

end Go.Proofs.YtakgddochbcjbaaDoor
