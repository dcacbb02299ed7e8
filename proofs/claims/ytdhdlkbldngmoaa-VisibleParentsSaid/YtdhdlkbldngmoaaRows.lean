/-
  No cell of these rows narrows 'for every input' (looked for: loops, veiled, ifaces, maps, wideKeys, modest, calm, conditions, laid).
  DERIVED. THE GIVEN ROWS OF THIS SEAT. 8 by the template 'for every input the law returns true; each argument reads behind the call as it read before'; 0 by the template 'total and deterministic' (their statements: YtdhdlkbldngmoaaTotals.lean).
  GIVEN WITH THE SEED: the statements are not yours to turn. If you find one false, say at which input.
  Laid BY PROGRAM, IN A SANDBOX (cutbox-rows.mjs): the forced cells as the released guide's own fill.sh prints them over the translation 037eaf87c1fd2b3f… (all of the seat's roots in one cut). By AI agents, Wed Nov 11 2026. No macro, syntax, notation, axiom, sorry.
-/
import Derived.Test.YtdhdlkbldngmoaaChecked
import GoSem.Claim
import GoSem.ClaimJoined
import GoSem.ClaimMapViews
import Derived.JoinedTies
import Derived.KernelRfl
namespace Go.Proofs.Ytdhdlkbldngmoaa
/- THE CELL 'sum', in the pinned program and in every row, IS THE sha256 OF THE DUMP (.gsa) THAT YtdhdlkbldngmoaaProg.lean LOADS. Nothing in Lean hashes anything: it is a label: what it is worth is what the hold of that sum in a sandbox is worth. -/
noncomputable def Try.pinned : Pinned := { name := "ytdhdlkbldngmoaa", sum := "037eaf87c1fd2b3f78202a0eeebab591f89758848f461706c9d0db0499080927", checked := Try.checked }
namespace Rows
def none {H : Type} : Left H := { results := [], args := [] }

/-- 'ricklaw18.GraphLine': WHATEVER THE INPUT: true; the input reads as it did. -/
def graphLineSpec : ChangeSpec := { name := "graphLine", fn := fun _ => fun
  | [d1, d2] => { results := [.lit (.bool true)], args := [d1, d2] }
  | _ => none }
def graphLineRow : OpenClaim := { program := "ytdhdlkbldngmoaa", sum := "037eaf87c1fd2b3f78202a0eeebab591f89758848f461706c9d0db0499080927", func := "rick/ricklaw18.GraphLine", spec := "graphLine", unfollowed := true, recurses := true, apart := false }
def GraphLineSaid : Prop := graphLineRow.holds Try.pinned (OpenSpec.ofChange graphLineSpec)

/-- ITS FALSE NEIGHBOUR: 'it returns false'. Refute it at one input. -/
def graphLineWrong : ChangeSpec := { name := "graphLine", fn := fun _ => fun
  | [d1, d2] => { results := [.lit (.bool false)], args := [d1, d2] }
  | _ => none }
def GraphLineWrongFalsely : Prop := graphLineRow.holds Try.pinned (OpenSpec.ofChange graphLineWrong)

/-- 'ricklaw18.GraphUnder': WHATEVER THE INPUT: true; the input reads as it did. -/
def graphUnderSpec : ChangeSpec := { name := "graphUnder", fn := fun _ => fun
  | [d1, d2, d3] => { results := [.lit (.bool true)], args := [d1, d2, d3] }
  | _ => none }
def graphUnderRow : OpenClaim := { program := "ytdhdlkbldngmoaa", sum := "037eaf87c1fd2b3f78202a0eeebab591f89758848f461706c9d0db0499080927", func := "rick/ricklaw18.GraphUnder", spec := "graphUnder", unfollowed := true, recurses := true, apart := false }
def GraphUnderSaid : Prop := graphUnderRow.holds Try.pinned (OpenSpec.ofChange graphUnderSpec)

/-- ITS FALSE NEIGHBOUR: 'it returns false'. Refute it at one input. -/
def graphUnderWrong : ChangeSpec := { name := "graphUnder", fn := fun _ => fun
  | [d1, d2, d3] => { results := [.lit (.bool false)], args := [d1, d2, d3] }
  | _ => none }
def GraphUnderWrongFalsely : Prop := graphUnderRow.holds Try.pinned (OpenSpec.ofChange graphUnderWrong)

/-- 'ricklaw18.GraphChildren': WHATEVER THE INPUT: true; the input reads as it did. -/
def graphChildrenSpec : ChangeSpec := { name := "graphChildren", fn := fun _ => fun
  | [d] => { results := [.lit (.bool true)], args := [d] }
  | _ => none }
def graphChildrenRow : OpenClaim := { program := "ytdhdlkbldngmoaa", sum := "037eaf87c1fd2b3f78202a0eeebab591f89758848f461706c9d0db0499080927", func := "rick/ricklaw18.GraphChildren", spec := "graphChildren", unfollowed := true, recurses := true, apart := false }
def GraphChildrenSaid : Prop := graphChildrenRow.holds Try.pinned (OpenSpec.ofChange graphChildrenSpec)

/-- ITS FALSE NEIGHBOUR: 'it returns false'. Refute it at one input. -/
def graphChildrenWrong : ChangeSpec := { name := "graphChildren", fn := fun _ => fun
  | [d] => { results := [.lit (.bool false)], args := [d] }
  | _ => none }
def GraphChildrenWrongFalsely : Prop := graphChildrenRow.holds Try.pinned (OpenSpec.ofChange graphChildrenWrong)

/-- 'ricklaw18.GraphTells': WHATEVER THE INPUT: true; the input reads as it did. -/
def graphTellsSpec : ChangeSpec := { name := "graphTells", fn := fun _ => fun
  | [d1, d2, d3, d4] => { results := [.lit (.bool true)], args := [d1, d2, d3, d4] }
  | _ => none }
def graphTellsRow : OpenClaim := { program := "ytdhdlkbldngmoaa", sum := "037eaf87c1fd2b3f78202a0eeebab591f89758848f461706c9d0db0499080927", func := "rick/ricklaw18.GraphTells", spec := "graphTells", unfollowed := true, recurses := true, apart := false }
def GraphTellsSaid : Prop := graphTellsRow.holds Try.pinned (OpenSpec.ofChange graphTellsSpec)

/-- ITS FALSE NEIGHBOUR: 'it returns false'. Refute it at one input. -/
def graphTellsWrong : ChangeSpec := { name := "graphTells", fn := fun _ => fun
  | [d1, d2, d3, d4] => { results := [.lit (.bool false)], args := [d1, d2, d3, d4] }
  | _ => none }
def GraphTellsWrongFalsely : Prop := graphTellsRow.holds Try.pinned (OpenSpec.ofChange graphTellsWrong)

/-- 'ricklaw18.GraphNone': WHATEVER THE INPUT: true; the input reads as it did. -/
def graphNoneSpec : ChangeSpec := { name := "graphNone", fn := fun _ => fun
  | [d1, d2, d3] => { results := [.lit (.bool true)], args := [d1, d2, d3] }
  | _ => none }
def graphNoneRow : OpenClaim := { program := "ytdhdlkbldngmoaa", sum := "037eaf87c1fd2b3f78202a0eeebab591f89758848f461706c9d0db0499080927", func := "rick/ricklaw18.GraphNone", spec := "graphNone", unfollowed := true, recurses := true, apart := false }
def GraphNoneSaid : Prop := graphNoneRow.holds Try.pinned (OpenSpec.ofChange graphNoneSpec)

/-- ITS FALSE NEIGHBOUR: 'it returns false'. Refute it at one input. -/
def graphNoneWrong : ChangeSpec := { name := "graphNone", fn := fun _ => fun
  | [d1, d2, d3] => { results := [.lit (.bool false)], args := [d1, d2, d3] }
  | _ => none }
def GraphNoneWrongFalsely : Prop := graphNoneRow.holds Try.pinned (OpenSpec.ofChange graphNoneWrong)

/-- 'ricklaw20.VisibleTells': WHATEVER THE INPUT: true; the input reads as it did. -/
def visibleTellsSpec : ChangeSpec := { name := "visibleTells", fn := fun _ => fun
  | [d1, d2, d3, d4] => { results := [.lit (.bool true)], args := [d1, d2, d3, d4] }
  | _ => none }
def visibleTellsRow : OpenClaim := { program := "ytdhdlkbldngmoaa", sum := "037eaf87c1fd2b3f78202a0eeebab591f89758848f461706c9d0db0499080927", func := "rick/ricklaw20.VisibleTells", spec := "visibleTells", unfollowed := true, recurses := true, apart := false }
def VisibleTellsSaid : Prop := visibleTellsRow.holds Try.pinned (OpenSpec.ofChange visibleTellsSpec)

/-- ITS FALSE NEIGHBOUR: 'it returns false'. Refute it at one input. -/
def visibleTellsWrong : ChangeSpec := { name := "visibleTells", fn := fun _ => fun
  | [d1, d2, d3, d4] => { results := [.lit (.bool false)], args := [d1, d2, d3, d4] }
  | _ => none }
def VisibleTellsWrongFalsely : Prop := visibleTellsRow.holds Try.pinned (OpenSpec.ofChange visibleTellsWrong)

/-- 'ricklaw20.VisibleParents': WHATEVER THE INPUT: true; the input reads as it did. -/
def visibleParentsSpec : ChangeSpec := { name := "visibleParents", fn := fun _ => fun
  | [d1, d2, d3] => { results := [.lit (.bool true)], args := [d1, d2, d3] }
  | _ => none }
def visibleParentsRow : OpenClaim := { program := "ytdhdlkbldngmoaa", sum := "037eaf87c1fd2b3f78202a0eeebab591f89758848f461706c9d0db0499080927", func := "rick/ricklaw20.VisibleParents", spec := "visibleParents", unfollowed := true, recurses := true, apart := false }
def VisibleParentsSaid : Prop := visibleParentsRow.holds Try.pinned (OpenSpec.ofChange visibleParentsSpec)

/-- ITS FALSE NEIGHBOUR: 'it returns false'. Refute it at one input. -/
def visibleParentsWrong : ChangeSpec := { name := "visibleParents", fn := fun _ => fun
  | [d1, d2, d3] => { results := [.lit (.bool false)], args := [d1, d2, d3] }
  | _ => none }
def VisibleParentsWrongFalsely : Prop := visibleParentsRow.holds Try.pinned (OpenSpec.ofChange visibleParentsWrong)

/-- 'ricklaw20.VisibleHeads': WHATEVER THE INPUT: true; the input reads as it did. -/
def visibleHeadsSpec : ChangeSpec := { name := "visibleHeads", fn := fun _ => fun
  | [d1, d2] => { results := [.lit (.bool true)], args := [d1, d2] }
  | _ => none }
def visibleHeadsRow : OpenClaim := { program := "ytdhdlkbldngmoaa", sum := "037eaf87c1fd2b3f78202a0eeebab591f89758848f461706c9d0db0499080927", func := "rick/ricklaw20.VisibleHeads", spec := "visibleHeads", unfollowed := true, recurses := true, apart := false }
def VisibleHeadsSaid : Prop := visibleHeadsRow.holds Try.pinned (OpenSpec.ofChange visibleHeadsSpec)

/-- ITS FALSE NEIGHBOUR: 'it returns false'. Refute it at one input. -/
def visibleHeadsWrong : ChangeSpec := { name := "visibleHeads", fn := fun _ => fun
  | [d1, d2] => { results := [.lit (.bool false)], args := [d1, d2] }
  | _ => none }
def VisibleHeadsWrongFalsely : Prop := visibleHeadsRow.holds Try.pinned (OpenSpec.ofChange visibleHeadsWrong)

/- THE SECOND FORM. 'bulk': how many values and letters a reading holds, each counted each time it is reached (what is shared counts as often as it is met; a slice's spare places count too). A statement '..UptoSaid' is the law's where the arguments, and the package variables that the reading takes, are together of bulk at most 1048576: NARROWER than '..Said'. Prove '..Said' where nothing that the law and all that it calls make is longer than what came in: it says more and counts as full. Else prove '..UptoSaid'. A law counts once. -/
mutual
def uptoBulk {H : Type} : DataW H → Nat
  | .lit (.string bytes) => bytes.length + 1
  | .lit _ => 1
  | .nil => 1
  | .ptr d => uptoBulk d + 1
  | .slice elems spare => uptoBulkAll elems + uptoBulkAll spare + 1
  | .agg parts => uptoBulkAll parts + 1
  | .iface _ d => uptoBulk d + 1
  | .map entries => uptoBulkEntries entries + 1
  | .held _ => 1
def uptoBulkAll {H : Type} : List (DataW H) → Nat
  | [] => 0
  | d :: r => uptoBulk d + uptoBulkAll r
def uptoBulkEntries {H : Type} : List (Lit × DataW H) → Nat
  | [] => 0
  | x :: r => uptoBulkEntry x + uptoBulkEntries r
def uptoBulkEntry {H : Type} : Lit × DataW H → Nat
  | (.string bytes, d) => bytes.length + uptoBulk d + 1
  | (_, d) => uptoBulk d + 1
 end
def uptoSmall : (H : Type) → List (DataW H) → Bool := fun _ ds => decide (uptoBulkAll ds ≤ 1048576)
def OpenSpec.upto (s : _root_.Go.ChangeSpec) : _root_.Go.OpenSpec := { _root_.Go.OpenSpec.ofChange s with cond := some uptoSmall }

/-- 'ricklaw18.GraphLine', WHERE WHAT IT READS IS OF BULK AT MOST 1048576: true; the input reads as it did. -/
def graphLineUptoRow : OpenClaim := { program := "ytdhdlkbldngmoaa", sum := "037eaf87c1fd2b3f78202a0eeebab591f89758848f461706c9d0db0499080927", func := "rick/ricklaw18.GraphLine", spec := "graphLine", unfollowed := true, recurses := true, apart := false, narrowed := true }
def GraphLineUptoSaid : Prop := graphLineUptoRow.holds Try.pinned (OpenSpec.upto graphLineSpec)

/-- 'ricklaw18.GraphUnder', WHERE WHAT IT READS IS OF BULK AT MOST 1048576: true; the input reads as it did. -/
def graphUnderUptoRow : OpenClaim := { program := "ytdhdlkbldngmoaa", sum := "037eaf87c1fd2b3f78202a0eeebab591f89758848f461706c9d0db0499080927", func := "rick/ricklaw18.GraphUnder", spec := "graphUnder", unfollowed := true, recurses := true, apart := false, narrowed := true }
def GraphUnderUptoSaid : Prop := graphUnderUptoRow.holds Try.pinned (OpenSpec.upto graphUnderSpec)

/-- 'ricklaw18.GraphChildren', WHERE WHAT IT READS IS OF BULK AT MOST 1048576: true; the input reads as it did. -/
def graphChildrenUptoRow : OpenClaim := { program := "ytdhdlkbldngmoaa", sum := "037eaf87c1fd2b3f78202a0eeebab591f89758848f461706c9d0db0499080927", func := "rick/ricklaw18.GraphChildren", spec := "graphChildren", unfollowed := true, recurses := true, apart := false, narrowed := true }
def GraphChildrenUptoSaid : Prop := graphChildrenUptoRow.holds Try.pinned (OpenSpec.upto graphChildrenSpec)

/-- 'ricklaw18.GraphTells', WHERE WHAT IT READS IS OF BULK AT MOST 1048576: true; the input reads as it did. -/
def graphTellsUptoRow : OpenClaim := { program := "ytdhdlkbldngmoaa", sum := "037eaf87c1fd2b3f78202a0eeebab591f89758848f461706c9d0db0499080927", func := "rick/ricklaw18.GraphTells", spec := "graphTells", unfollowed := true, recurses := true, apart := false, narrowed := true }
def GraphTellsUptoSaid : Prop := graphTellsUptoRow.holds Try.pinned (OpenSpec.upto graphTellsSpec)

/-- 'ricklaw18.GraphNone', WHERE WHAT IT READS IS OF BULK AT MOST 1048576: true; the input reads as it did. -/
def graphNoneUptoRow : OpenClaim := { program := "ytdhdlkbldngmoaa", sum := "037eaf87c1fd2b3f78202a0eeebab591f89758848f461706c9d0db0499080927", func := "rick/ricklaw18.GraphNone", spec := "graphNone", unfollowed := true, recurses := true, apart := false, narrowed := true }
def GraphNoneUptoSaid : Prop := graphNoneUptoRow.holds Try.pinned (OpenSpec.upto graphNoneSpec)

/-- 'ricklaw20.VisibleTells', WHERE WHAT IT READS IS OF BULK AT MOST 1048576: true; the input reads as it did. -/
def visibleTellsUptoRow : OpenClaim := { program := "ytdhdlkbldngmoaa", sum := "037eaf87c1fd2b3f78202a0eeebab591f89758848f461706c9d0db0499080927", func := "rick/ricklaw20.VisibleTells", spec := "visibleTells", unfollowed := true, recurses := true, apart := false, narrowed := true }
def VisibleTellsUptoSaid : Prop := visibleTellsUptoRow.holds Try.pinned (OpenSpec.upto visibleTellsSpec)

/-- 'ricklaw20.VisibleParents', WHERE WHAT IT READS IS OF BULK AT MOST 1048576: true; the input reads as it did. -/
def visibleParentsUptoRow : OpenClaim := { program := "ytdhdlkbldngmoaa", sum := "037eaf87c1fd2b3f78202a0eeebab591f89758848f461706c9d0db0499080927", func := "rick/ricklaw20.VisibleParents", spec := "visibleParents", unfollowed := true, recurses := true, apart := false, narrowed := true }
def VisibleParentsUptoSaid : Prop := visibleParentsUptoRow.holds Try.pinned (OpenSpec.upto visibleParentsSpec)

/-- 'ricklaw20.VisibleHeads', WHERE WHAT IT READS IS OF BULK AT MOST 1048576: true; the input reads as it did. -/
def visibleHeadsUptoRow : OpenClaim := { program := "ytdhdlkbldngmoaa", sum := "037eaf87c1fd2b3f78202a0eeebab591f89758848f461706c9d0db0499080927", func := "rick/ricklaw20.VisibleHeads", spec := "visibleHeads", unfollowed := true, recurses := true, apart := false, narrowed := true }
def VisibleHeadsUptoSaid : Prop := visibleHeadsUptoRow.holds Try.pinned (OpenSpec.upto visibleHeadsSpec)

end Rows
end Go.Proofs.Ytdhdlkbldngmoaa
