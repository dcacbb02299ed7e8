/- ChunkTells answers true for every input of bulk at most 1048576, and leaves what it was handed as it was. Condition: what it reads is of bulk at most 1048576 (the statement's second form). -/
import Derived.Test.YtlimfndipapfdaaChunkTells
import Derived.Test.YtlimfndipapfdaaOpenChunks
import Derived.Test.YtlimfndipapfdaaShut
import Derived.Test.YtlimfndipapfdaaOpenStrs
import Derived.JoinedCond
namespace Go.Proofs.Ytlimfndipapfdaa
open Go.ChangeShapes Go.WideShapes Go.ChangeAt Go.RowKit

theorem bulk_last {H : Type} {d0 d1 d2 d3 : DataW H} (hk : Rows.uptoSmall H ([d0, d1, d2, d3] ++ []) = true) : Rows.uptoBulk d3 ≤ 1048576 := by
  have h : Rows.uptoBulkAll ([d0, d1, d2, d3] ++ []) ≤ 1048576 := of_decide_eq_true hk
  rw [List.append_nil] at h
  simp only [Rows.uptoBulkAll] at h
  omega

set_option maxRecDepth 100000 in
theorem chunkTells_lifted (os : Os) (started : os.Started) (H : Type) (enc : TypeId × Value → H) (F : Stop.Interp) :
    ReturnsInHanded {} Try.checked os 9 .any ((Rows.OpenSpec.upto Rows.chunkTellsSpec).pre6 enc Try.prog Try.f9 Rows.chunkTellsUptoRow.domain false) (((Rows.OpenSpec.upto Rows.chunkTellsSpec).at F).post enc Try.prog Try.f9 false true false false) := by
  refine returnsInHanded_of_cond (C := Try.checked) (s := Rows.OpenSpec.upto Rows.chunkTellsSpec) (k := Rows.uptoSmall) rfl Try.own started (by kernel_rfl) Try.func9
    (OpenSpec.witness (enc := enc) (C := Try.checked) (s := Rows.OpenSpec.upto Rows.chunkTellsSpec) (k := Rows.uptoSmall) rfl false ⟨#[], #[.slice none 0 0, .slice none 0 0, .slice none 0 0, .slice none 0 0], []⟩ 8 (by kernel_rfl) (by kernel_rfl) (by kernel_rfl)
      (x := ([.nil, .nil, .nil, .nil], [], [])) (by kernel_rfl) rfl (by kernel_rfl)) ?_
  intro W base args ds gs before hval0 hW _ hk _
  have hval : ∀ (j : Nat) t v, Try.f9.params[j]? = some t → args[j]? = some v → Value.okWide Try.prog W .any base t v := hval0
  have hW' := hW
  obtain ⟨p, q, hA0, hV, rfl, hfz, hnd⟩ := hW
  have hA : DataW.TrodAll enc Try.prog W 0 (fun _ => true) true Try.f9.params.toList args.toList ds p := hA0
  rw [Try.params9] at hA hval
  obtain ⟨v0, v1, v2, v3, d0, d1, d2, d3, p0, p1, p2, p3, rfl, rfl, rfl, h0, h1, h2, h3⟩ := trodAll_four hA
  obtain ⟨rfl, rfl⟩ := trodVars_none hV
  obtain ⟨A0, n0, c0, x0, rfl, hr0, hn0, hc0⟩ := open_readsS Try.underlying22 Try.underlying9 (by kernel_rfl) (hval 0 22 v0 rfl rfl) h0
  obtain ⟨A1, n1, c1, x1, rfl, hr1, hn1, hc1⟩ := open_readsS Try.underlying22 Try.underlying9 (by kernel_rfl) (hval 1 22 v1 rfl rfl) h1
  obtain ⟨A2, n2, c2, x2, rfl, hr2, hn2, hc2⟩ := open_readsS Try.underlying22 Try.underlying9 (by kernel_rfl) (hval 2 22 v2 rfl rfl) h2
  obtain ⟨A3, n3, c3, l, rfl, hl, hn3, hc3, hbk⟩ := open_chunks Try.underlying39 Try.underlying42 (by kernel_rfl) ⟨rfl, by kernel_rfl, Try.underlying3⟩ ⟨rfl, by kernel_rfl, rfl⟩ ⟨rfl, by kernel_rfl, rfl⟩ ⟨rfl, by kernel_rfl, rfl⟩ Try.underlying22 Try.underlying9 (by kernel_rfl) (hval 3 39 v3 rfl rfl) h3
  refine (ctells_any A0 A1 A2 A3 n0 c0 n1 c1 n2 c2 n3 c3 x0 x1 x2 l W hr0 hn0 hc0 hr1 hn1 hc1 hr2 hn2 hc2 hl (Nat.le_trans hn3 hc3) (Nat.le_trans hbk (Nat.le_trans (bulk_last hk) (by decide)))).mono fun e W' ⟨he, hg⟩ => ?_
  subst he
  exact ⟨_, rfl, law_post (by kernel_rfl) (types_ok (by kernel_rfl)) hW' rfl rfl rfl rfl rfl (by kernel_rfl) Try.underlying4 hg⟩

theorem chunkTells_upto : Rows.ChunkTellsUptoSaid :=
  OpenClaim.holds_of_cond 9 Try.f9 rfl rfl rfl rfl rfl rfl rfl ⟨rfl, rfl, rfl, rfl, rfl⟩ rfl rfl rfl rfl rfl (by kernel_rfl) Try.func9 (by kernel_rfl)
    (of_decide_eq_true (by kernel_rfl)) (by unfold Func.isWrapper; first | (rw [if_pos (by decide +kernel)]; kernel_rfl) | (rw [if_neg (by decide +kernel)]; exact ⟨rfl, rfl⟩))
    (fun os started H enc _ F => chunkTells_lifted os started H enc F)

end Go.Proofs.Ytlimfndipapfdaa
