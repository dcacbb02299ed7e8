/-
  NARROWER THAN 'FOR EVERY INPUT', by the rows' own cells (each row's printed sentence says how): MergeOne: laid · MergeMarks: laid · MergeClashes: laid · MergeTells: laid · MergeParse: laid · SimilarRatio: laid · SimilarRenames: laid · SimilarMoved: laid · SimilarHalf: laid.
  DERIVED. THE GIVEN ROWS OF THIS SEAT. 9 by the template 'for every input the law returns true; each argument reads behind the call as it read before'; 0 by the template 'total and deterministic' (their statements: YtakgddochbcjbaaDoorTotals.lean).
  GIVEN WITH THE SEED: the statements are not yours to turn. If you find one false, say at which input.
  Laid BY PROGRAM, IN A SANDBOX (cutbox-rows.mjs): the forced cells as the released guide's own fill.sh prints them over the translation 28242fb1f9d6cbd1… (all of the seat's roots in one cut). By AI agents, Wed Nov 11 2026. No macro, syntax, notation, axiom, sorry.
-/
import Derived.Test.YtakgddochbcjbaaDoorChecked
import GoSem.PinnedTables
import GoSem.Claim
import GoSem.ClaimJoined
import GoSem.ClaimMapViews
import Derived.JoinedTies
import Derived.KernelRfl
namespace Go.Proofs.YtakgddochbcjbaaDoor
/- THE CELL 'sum', in the pinned program and in every row, IS THE sha256 OF THE DUMP (.gsa) THAT YtakgddochbcjbaaDoorProg.lean LOADS. Nothing in Lean hashes anything: it is a label: what it is worth is what the hold of that sum in a sandbox is worth. -/
noncomputable def Tryd.pinned : Pinned := { name := "ytakgddochbcjbaadoor", sum := "28242fb1f9d6cbd123f0601701fd199d93f7e87812d3be68f07582578a0c3107", checked := Tryd.checked }
namespace Rows
def none {H : Type} : Left H := { results := [], args := [] }

/- WHAT THE LISTED PACKAGE-LEVEL VARIABLES READ AS WHEN THE CALL BEGINS. Each datum BY PROGRAM (the guide's laid-datum.mjs) off the statement by which the dump's own 'gosem.cut.vars' lays the variable. In a bare row this is a premise. The card (YtakgddochbcjbaaDoorCards.lean) ties it to the program's text. -/
def laid_unicode_utf8_acceptRanges {H : Type} : DataW H := .agg [.agg [.lit (.int .u8 128), .lit (.int .u8 191)], .agg [.lit (.int .u8 160), .lit (.int .u8 191)], .agg [.lit (.int .u8 128), .lit (.int .u8 159)], .agg [.lit (.int .u8 144), .lit (.int .u8 191)], .agg [.lit (.int .u8 128), .lit (.int .u8 143)], .agg [.lit (.int .u8 0), .lit (.int .u8 0)], .agg [.lit (.int .u8 0), .lit (.int .u8 0)], .agg [.lit (.int .u8 0), .lit (.int .u8 0)], .agg [.lit (.int .u8 0), .lit (.int .u8 0)], .agg [.lit (.int .u8 0), .lit (.int .u8 0)], .agg [.lit (.int .u8 0), .lit (.int .u8 0)], .agg [.lit (.int .u8 0), .lit (.int .u8 0)], .agg [.lit (.int .u8 0), .lit (.int .u8 0)], .agg [.lit (.int .u8 0), .lit (.int .u8 0)], .agg [.lit (.int .u8 0), .lit (.int .u8 0)], .agg [.lit (.int .u8 0), .lit (.int .u8 0)]]
/-- One of Go's own tables, pinned by name: the form's constant. -/
def laid_unicode_utf8_first : DataW Unit := Go.Pinned.utf8First

/-- 'ricklaw10.MergeOne': WHATEVER THE INPUT: true; the input reads as it did. -/
def mergeOneSpec : ChangeSpec := { name := "mergeOne", fn := fun _ => fun
  | [d1, d2] => { results := [.lit (.bool true)], args := [d1, d2] }
  | _ => none }
def mergeOneRow : OpenClaim := { program := "ytakgddochbcjbaadoor", sum := "28242fb1f9d6cbd123f0601701fd199d93f7e87812d3be68f07582578a0c3107", func := "rick/ricklaw10.MergeOne", spec := "mergeOne", inPlace := ["internal/bytealg.CountString", "internal/bytealg.IndexByteString", "internal/bytealg.IndexString", "internal/abi.NoEscape", "internal/bytealg.MakeNoZero"], unfollowed := true, recurses := true, named := ["unicode/utf8.first", "unicode/utf8.acceptRanges", "internal/bytealg.MaxLen"], plainKeys := false, apart := false, laid := [("unicode/utf8.acceptRanges", laid_unicode_utf8_acceptRanges), ("unicode/utf8.first", laid_unicode_utf8_first)] }
def MergeOneSaid : Prop := mergeOneRow.holds Tryd.pinned (OpenSpec.ofChange mergeOneSpec)

/-- ITS FALSE NEIGHBOUR: 'it returns false'. Refute it at one input. -/
def mergeOneWrong : ChangeSpec := { name := "mergeOne", fn := fun _ => fun
  | [d1, d2] => { results := [.lit (.bool false)], args := [d1, d2] }
  | _ => none }
def MergeOneWrongFalsely : Prop := mergeOneRow.holds Tryd.pinned (OpenSpec.ofChange mergeOneWrong)

/-- 'ricklaw10.MergeMarks': WHATEVER THE INPUT: true; the input reads as it did. -/
def mergeMarksSpec : ChangeSpec := { name := "mergeMarks", fn := fun _ => fun
  | [d] => { results := [.lit (.bool true)], args := [d] }
  | _ => none }
def mergeMarksRow : OpenClaim := { program := "ytakgddochbcjbaadoor", sum := "28242fb1f9d6cbd123f0601701fd199d93f7e87812d3be68f07582578a0c3107", func := "rick/ricklaw10.MergeMarks", spec := "mergeMarks", inPlace := ["internal/bytealg.CountString", "internal/bytealg.IndexByteString", "internal/bytealg.IndexString", "internal/abi.NoEscape", "internal/bytealg.MakeNoZero"], unfollowed := true, recurses := true, named := ["unicode/utf8.first", "unicode/utf8.acceptRanges", "internal/bytealg.MaxLen"], plainKeys := false, apart := false, laid := [("unicode/utf8.acceptRanges", laid_unicode_utf8_acceptRanges), ("unicode/utf8.first", laid_unicode_utf8_first)] }
def MergeMarksSaid : Prop := mergeMarksRow.holds Tryd.pinned (OpenSpec.ofChange mergeMarksSpec)

/-- ITS FALSE NEIGHBOUR: 'it returns false'. Refute it at one input. -/
def mergeMarksWrong : ChangeSpec := { name := "mergeMarks", fn := fun _ => fun
  | [d] => { results := [.lit (.bool false)], args := [d] }
  | _ => none }
def MergeMarksWrongFalsely : Prop := mergeMarksRow.holds Tryd.pinned (OpenSpec.ofChange mergeMarksWrong)

/-- 'ricklaw10.MergeClashes': WHATEVER THE INPUT: true; the input reads as it did. -/
def mergeClashesSpec : ChangeSpec := { name := "mergeClashes", fn := fun _ => fun
  | [d1, d2, d3, d4, d5] => { results := [.lit (.bool true)], args := [d1, d2, d3, d4, d5] }
  | _ => none }
def mergeClashesRow : OpenClaim := { program := "ytakgddochbcjbaadoor", sum := "28242fb1f9d6cbd123f0601701fd199d93f7e87812d3be68f07582578a0c3107", func := "rick/ricklaw10.MergeClashes", spec := "mergeClashes", inPlace := ["internal/bytealg.CountString", "internal/bytealg.IndexByteString", "internal/bytealg.IndexString", "internal/abi.NoEscape", "internal/bytealg.MakeNoZero"], unfollowed := true, recurses := true, named := ["unicode/utf8.first", "unicode/utf8.acceptRanges", "internal/bytealg.MaxLen"], plainKeys := false, apart := false, laid := [("unicode/utf8.acceptRanges", laid_unicode_utf8_acceptRanges), ("unicode/utf8.first", laid_unicode_utf8_first)] }
def MergeClashesSaid : Prop := mergeClashesRow.holds Tryd.pinned (OpenSpec.ofChange mergeClashesSpec)

/-- ITS FALSE NEIGHBOUR: 'it returns false'. Refute it at one input. -/
def mergeClashesWrong : ChangeSpec := { name := "mergeClashes", fn := fun _ => fun
  | [d1, d2, d3, d4, d5] => { results := [.lit (.bool false)], args := [d1, d2, d3, d4, d5] }
  | _ => none }
def MergeClashesWrongFalsely : Prop := mergeClashesRow.holds Tryd.pinned (OpenSpec.ofChange mergeClashesWrong)

/-- 'ricklaw10.MergeTells': WHATEVER THE INPUT: true; the input reads as it did. -/
def mergeTellsSpec : ChangeSpec := { name := "mergeTells", fn := fun _ => fun
  | [d1, d2, d3, d4, d5, d6] => { results := [.lit (.bool true)], args := [d1, d2, d3, d4, d5, d6] }
  | _ => none }
def mergeTellsRow : OpenClaim := { program := "ytakgddochbcjbaadoor", sum := "28242fb1f9d6cbd123f0601701fd199d93f7e87812d3be68f07582578a0c3107", func := "rick/ricklaw10.MergeTells", spec := "mergeTells", inPlace := ["internal/bytealg.CountString", "internal/bytealg.IndexByteString", "internal/bytealg.IndexString", "internal/abi.NoEscape", "internal/bytealg.MakeNoZero"], unfollowed := true, recurses := true, named := ["unicode/utf8.first", "unicode/utf8.acceptRanges", "internal/bytealg.MaxLen"], plainKeys := false, apart := false, laid := [("unicode/utf8.acceptRanges", laid_unicode_utf8_acceptRanges), ("unicode/utf8.first", laid_unicode_utf8_first)] }
def MergeTellsSaid : Prop := mergeTellsRow.holds Tryd.pinned (OpenSpec.ofChange mergeTellsSpec)

/-- ITS FALSE NEIGHBOUR: 'it returns false'. Refute it at one input. -/
def mergeTellsWrong : ChangeSpec := { name := "mergeTells", fn := fun _ => fun
  | [d1, d2, d3, d4, d5, d6] => { results := [.lit (.bool false)], args := [d1, d2, d3, d4, d5, d6] }
  | _ => none }
def MergeTellsWrongFalsely : Prop := mergeTellsRow.holds Tryd.pinned (OpenSpec.ofChange mergeTellsWrong)

/-- 'ricklaw10.MergeParse': WHATEVER THE INPUT: true; the input reads as it did. -/
def mergeParseSpec : ChangeSpec := { name := "mergeParse", fn := fun _ => fun
  | [d1, d2, d3] => { results := [.lit (.bool true)], args := [d1, d2, d3] }
  | _ => none }
def mergeParseRow : OpenClaim := { program := "ytakgddochbcjbaadoor", sum := "28242fb1f9d6cbd123f0601701fd199d93f7e87812d3be68f07582578a0c3107", func := "rick/ricklaw10.MergeParse", spec := "mergeParse", inPlace := ["internal/bytealg.CountString", "internal/bytealg.IndexByteString", "internal/bytealg.IndexString", "internal/abi.NoEscape", "internal/bytealg.MakeNoZero"], unfollowed := true, recurses := true, named := ["unicode/utf8.first", "unicode/utf8.acceptRanges", "internal/bytealg.MaxLen"], plainKeys := false, apart := false, laid := [("unicode/utf8.acceptRanges", laid_unicode_utf8_acceptRanges), ("unicode/utf8.first", laid_unicode_utf8_first)] }
def MergeParseSaid : Prop := mergeParseRow.holds Tryd.pinned (OpenSpec.ofChange mergeParseSpec)

/-- ITS FALSE NEIGHBOUR: 'it returns false'. Refute it at one input. -/
def mergeParseWrong : ChangeSpec := { name := "mergeParse", fn := fun _ => fun
  | [d1, d2, d3] => { results := [.lit (.bool false)], args := [d1, d2, d3] }
  | _ => none }
def MergeParseWrongFalsely : Prop := mergeParseRow.holds Tryd.pinned (OpenSpec.ofChange mergeParseWrong)

/-- 'ricklaw13.SimilarRatio': WHATEVER THE INPUT: true; the input reads as it did. -/
def similarRatioSpec : ChangeSpec := { name := "similarRatio", fn := fun _ => fun
  | [d1, d2, d3] => { results := [.lit (.bool true)], args := [d1, d2, d3] }
  | _ => none }
def similarRatioRow : OpenClaim := { program := "ytakgddochbcjbaadoor", sum := "28242fb1f9d6cbd123f0601701fd199d93f7e87812d3be68f07582578a0c3107", func := "rick/ricklaw13.SimilarRatio", spec := "similarRatio", inPlace := ["internal/bytealg.CountString", "internal/bytealg.IndexByteString", "internal/bytealg.IndexString"], unfollowed := true, recurses := true, named := ["unicode/utf8.first", "unicode/utf8.acceptRanges", "internal/bytealg.MaxLen"], plainKeys := false, apart := false, laid := [("unicode/utf8.acceptRanges", laid_unicode_utf8_acceptRanges), ("unicode/utf8.first", laid_unicode_utf8_first)] }
def SimilarRatioSaid : Prop := similarRatioRow.holds Tryd.pinned (OpenSpec.ofChange similarRatioSpec)

/-- ITS FALSE NEIGHBOUR: 'it returns false'. Refute it at one input. -/
def similarRatioWrong : ChangeSpec := { name := "similarRatio", fn := fun _ => fun
  | [d1, d2, d3] => { results := [.lit (.bool false)], args := [d1, d2, d3] }
  | _ => none }
def SimilarRatioWrongFalsely : Prop := similarRatioRow.holds Tryd.pinned (OpenSpec.ofChange similarRatioWrong)

/-- 'ricklaw13.SimilarRenames': WHATEVER THE INPUT: true; the input reads as it did. -/
def similarRenamesSpec : ChangeSpec := { name := "similarRenames", fn := fun _ => fun
  | [d1, d2] => { results := [.lit (.bool true)], args := [d1, d2] }
  | _ => none }
def similarRenamesRow : OpenClaim := { program := "ytakgddochbcjbaadoor", sum := "28242fb1f9d6cbd123f0601701fd199d93f7e87812d3be68f07582578a0c3107", func := "rick/ricklaw13.SimilarRenames", spec := "similarRenames", inPlace := ["internal/bytealg.CountString", "internal/bytealg.IndexByteString", "internal/bytealg.IndexString"], unfollowed := true, recurses := true, named := ["unicode/utf8.first", "unicode/utf8.acceptRanges", "internal/bytealg.MaxLen"], plainKeys := false, apart := false, laid := [("unicode/utf8.acceptRanges", laid_unicode_utf8_acceptRanges), ("unicode/utf8.first", laid_unicode_utf8_first)] }
def SimilarRenamesSaid : Prop := similarRenamesRow.holds Tryd.pinned (OpenSpec.ofChange similarRenamesSpec)

/-- ITS FALSE NEIGHBOUR: 'it returns false'. Refute it at one input. -/
def similarRenamesWrong : ChangeSpec := { name := "similarRenames", fn := fun _ => fun
  | [d1, d2] => { results := [.lit (.bool false)], args := [d1, d2] }
  | _ => none }
def SimilarRenamesWrongFalsely : Prop := similarRenamesRow.holds Tryd.pinned (OpenSpec.ofChange similarRenamesWrong)

/-- 'ricklaw13.SimilarMoved': WHATEVER THE INPUT: true; the input reads as it did. -/
def similarMovedSpec : ChangeSpec := { name := "similarMoved", fn := fun _ => fun
  | [d1, d2, d3] => { results := [.lit (.bool true)], args := [d1, d2, d3] }
  | _ => none }
def similarMovedRow : OpenClaim := { program := "ytakgddochbcjbaadoor", sum := "28242fb1f9d6cbd123f0601701fd199d93f7e87812d3be68f07582578a0c3107", func := "rick/ricklaw13.SimilarMoved", spec := "similarMoved", inPlace := ["internal/bytealg.CountString", "internal/bytealg.IndexByteString", "internal/bytealg.IndexString"], unfollowed := true, recurses := true, named := ["unicode/utf8.first", "unicode/utf8.acceptRanges", "internal/bytealg.MaxLen"], plainKeys := false, apart := false, laid := [("unicode/utf8.acceptRanges", laid_unicode_utf8_acceptRanges), ("unicode/utf8.first", laid_unicode_utf8_first)] }
def SimilarMovedSaid : Prop := similarMovedRow.holds Tryd.pinned (OpenSpec.ofChange similarMovedSpec)

/-- ITS FALSE NEIGHBOUR: 'it returns false'. Refute it at one input. -/
def similarMovedWrong : ChangeSpec := { name := "similarMoved", fn := fun _ => fun
  | [d1, d2, d3] => { results := [.lit (.bool false)], args := [d1, d2, d3] }
  | _ => none }
def SimilarMovedWrongFalsely : Prop := similarMovedRow.holds Tryd.pinned (OpenSpec.ofChange similarMovedWrong)

/-- 'ricklaw13.SimilarHalf': WHATEVER THE INPUT: true; the input reads as it did. -/
def similarHalfSpec : ChangeSpec := { name := "similarHalf", fn := fun _ => fun
  | [d1, d2] => { results := [.lit (.bool true)], args := [d1, d2] }
  | _ => none }
def similarHalfRow : OpenClaim := { program := "ytakgddochbcjbaadoor", sum := "28242fb1f9d6cbd123f0601701fd199d93f7e87812d3be68f07582578a0c3107", func := "rick/ricklaw13.SimilarHalf", spec := "similarHalf", inPlace := ["internal/bytealg.CountString", "internal/bytealg.IndexByteString", "internal/bytealg.IndexString"], unfollowed := true, recurses := true, named := ["unicode/utf8.first", "unicode/utf8.acceptRanges", "internal/bytealg.MaxLen"], plainKeys := false, apart := false, laid := [("unicode/utf8.acceptRanges", laid_unicode_utf8_acceptRanges), ("unicode/utf8.first", laid_unicode_utf8_first)] }
def SimilarHalfSaid : Prop := similarHalfRow.holds Tryd.pinned (OpenSpec.ofChange similarHalfSpec)

/-- ITS FALSE NEIGHBOUR: 'it returns false'. Refute it at one input. -/
def similarHalfWrong : ChangeSpec := { name := "similarHalf", fn := fun _ => fun
  | [d1, d2] => { results := [.lit (.bool false)], args := [d1, d2] }
  | _ => none }
def SimilarHalfWrongFalsely : Prop := similarHalfRow.holds Tryd.pinned (OpenSpec.ofChange similarHalfWrong)

/- THE SECOND FORM. 'bulk': how many values and letters a reading holds, each counted each time it is reached (what is shared counts as often as it is met; a slice's spare places count too). A statement '..UptoSaid' is the law's where the arguments, and the package variables that the reading takes, are together of bulk at most 1048576: NARROWER than '..Said'. Prove '..Said' where nothing that the law and all that it calls make is longer than what came in: it says more and counts as full. Else prove '..UptoSaid'. A law counts once. -/
mutual
def uptoBulk {H : Type} : DataW H → Nat
  | .lit (.string bytes) => bytes.length + 1
  | .lit _ => 1
  | .nil => 1
  | .ptr d => uptoBulk d + 1
  | .slice elems spare => uptoBulkAll elems + uptoBulkAll spare + 1
  | .agg parts => uptoBulkAll parts + 1
  | .iface _ d => uptoBulk d + 1
  | .map entries => uptoBulkEntries entries + 1
  | .held _ => 1
def uptoBulkAll {H : Type} : List (DataW H) → Nat
  | [] => 0
  | d :: r => uptoBulk d + uptoBulkAll r
def uptoBulkEntries {H : Type} : List (Lit × DataW H) → Nat
  | [] => 0
  | x :: r => uptoBulkEntry x + uptoBulkEntries r
def uptoBulkEntry {H : Type} : Lit × DataW H → Nat
  | (.string bytes, d) => bytes.length + uptoBulk d + 1
  | (_, d) => uptoBulk d + 1
 end
def uptoSmall : (H : Type) → List (DataW H) → Bool := fun _ ds => decide (uptoBulkAll ds ≤ 1048576)
def OpenSpec.upto (s : _root_.Go.ChangeSpec) : _root_.Go.OpenSpec := { _root_.Go.OpenSpec.ofChange s with cond := some uptoSmall }

/-- 'ricklaw10.MergeOne', WHERE WHAT IT READS IS OF BULK AT MOST 1048576: true; the input reads as it did. -/
def mergeOneUptoRow : OpenClaim := { program := "ytakgddochbcjbaadoor", sum := "28242fb1f9d6cbd123f0601701fd199d93f7e87812d3be68f07582578a0c3107", func := "rick/ricklaw10.MergeOne", spec := "mergeOne", inPlace := ["internal/bytealg.CountString", "internal/bytealg.IndexByteString", "internal/bytealg.IndexString", "internal/abi.NoEscape", "internal/bytealg.MakeNoZero"], unfollowed := true, recurses := true, named := ["unicode/utf8.first", "unicode/utf8.acceptRanges", "internal/bytealg.MaxLen"], plainKeys := false, apart := false, laid := [("unicode/utf8.acceptRanges", laid_unicode_utf8_acceptRanges), ("unicode/utf8.first", laid_unicode_utf8_first)], narrowed := true }
def MergeOneUptoSaid : Prop := mergeOneUptoRow.holds Tryd.pinned (OpenSpec.upto mergeOneSpec)

/-- 'ricklaw10.MergeMarks', WHERE WHAT IT READS IS OF BULK AT MOST 1048576: true; the input reads as it did. -/
def mergeMarksUptoRow : OpenClaim := { program := "ytakgddochbcjbaadoor", sum := "28242fb1f9d6cbd123f0601701fd199d93f7e87812d3be68f07582578a0c3107", func := "rick/ricklaw10.MergeMarks", spec := "mergeMarks", inPlace := ["internal/bytealg.CountString", "internal/bytealg.IndexByteString", "internal/bytealg.IndexString", "internal/abi.NoEscape", "internal/bytealg.MakeNoZero"], unfollowed := true, recurses := true, named := ["unicode/utf8.first", "unicode/utf8.acceptRanges", "internal/bytealg.MaxLen"], plainKeys := false, apart := false, laid := [("unicode/utf8.acceptRanges", laid_unicode_utf8_acceptRanges), ("unicode/utf8.first", laid_unicode_utf8_first)], narrowed := true }
def MergeMarksUptoSaid : Prop := mergeMarksUptoRow.holds Tryd.pinned (OpenSpec.upto mergeMarksSpec)

/-- 'ricklaw10.MergeClashes', WHERE WHAT IT READS IS OF BULK AT MOST 1048576: true; the input reads as it did. -/
def mergeClashesUptoRow : OpenClaim := { program := "ytakgddochbcjbaadoor", sum := "28242fb1f9d6cbd123f0601701fd199d93f7e87812d3be68f07582578a0c3107", func := "rick/ricklaw10.MergeClashes", spec := "mergeClashes", inPlace := ["internal/bytealg.CountString", "internal/bytealg.IndexByteString", "internal/bytealg.IndexString", "internal/abi.NoEscape", "internal/bytealg.MakeNoZero"], unfollowed := true, recurses := true, named := ["unicode/utf8.first", "unicode/utf8.acceptRanges", "internal/bytealg.MaxLen"], plainKeys := false, apart := false, laid := [("unicode/utf8.acceptRanges", laid_unicode_utf8_acceptRanges), ("unicode/utf8.first", laid_unicode_utf8_first)], narrowed := true }
def MergeClashesUptoSaid : Prop := mergeClashesUptoRow.holds Tryd.pinned (OpenSpec.upto mergeClashesSpec)

/-- 'ricklaw10.MergeTells', WHERE WHAT IT READS IS OF BULK AT MOST 1048576: true; the input reads as it did. -/
def mergeTellsUptoRow : OpenClaim := { program := "ytakgddochbcjbaadoor", sum := "28242fb1f9d6cbd123f0601701fd199d93f7e87812d3be68f07582578a0c3107", func := "rick/ricklaw10.MergeTells", spec := "mergeTells", inPlace := ["internal/bytealg.CountString", "internal/bytealg.IndexByteString", "internal/bytealg.IndexString", "internal/abi.NoEscape", "internal/bytealg.MakeNoZero"], unfollowed := true, recurses := true, named := ["unicode/utf8.first", "unicode/utf8.acceptRanges", "internal/bytealg.MaxLen"], plainKeys := false, apart := false, laid := [("unicode/utf8.acceptRanges", laid_unicode_utf8_acceptRanges), ("unicode/utf8.first", laid_unicode_utf8_first)], narrowed := true }
def MergeTellsUptoSaid : Prop := mergeTellsUptoRow.holds Tryd.pinned (OpenSpec.upto mergeTellsSpec)

/-- 'ricklaw10.MergeParse', WHERE WHAT IT READS IS OF BULK AT MOST 1048576: true; the input reads as it did. -/
def mergeParseUptoRow : OpenClaim := { program := "ytakgddochbcjbaadoor", sum := "28242fb1f9d6cbd123f0601701fd199d93f7e87812d3be68f07582578a0c3107", func := "rick/ricklaw10.MergeParse", spec := "mergeParse", inPlace := ["internal/bytealg.CountString", "internal/bytealg.IndexByteString", "internal/bytealg.IndexString", "internal/abi.NoEscape", "internal/bytealg.MakeNoZero"], unfollowed := true, recurses := true, named := ["unicode/utf8.first", "unicode/utf8.acceptRanges", "internal/bytealg.MaxLen"], plainKeys := false, apart := false, laid := [("unicode/utf8.acceptRanges", laid_unicode_utf8_acceptRanges), ("unicode/utf8.first", laid_unicode_utf8_first)], narrowed := true }
def MergeParseUptoSaid : Prop := mergeParseUptoRow.holds Tryd.pinned (OpenSpec.upto mergeParseSpec)

/-- 'ricklaw13.SimilarRatio', WHERE WHAT IT READS IS OF BULK AT MOST 1048576: true; the input reads as it did. -/
def similarRatioUptoRow : OpenClaim := { program := "ytakgddochbcjbaadoor", sum := "28242fb1f9d6cbd123f0601701fd199d93f7e87812d3be68f07582578a0c3107", func := "rick/ricklaw13.SimilarRatio", spec := "similarRatio", inPlace := ["internal/bytealg.CountString", "internal/bytealg.IndexByteString", "internal/bytealg.IndexString"], unfollowed := true, recurses := true, named := ["unicode/utf8.first", "unicode/utf8.acceptRanges", "internal/bytealg.MaxLen"], plainKeys := false, apart := false, laid := [("unicode/utf8.acceptRanges", laid_unicode_utf8_acceptRanges), ("unicode/utf8.first", laid_unicode_utf8_first)], narrowed := true }
def SimilarRatioUptoSaid : Prop := similarRatioUptoRow.holds Tryd.pinned (OpenSpec.upto similarRatioSpec)

/-- 'ricklaw13.SimilarRenames', WHERE WHAT IT READS IS OF BULK AT MOST 1048576: true; the input reads as it did. -/
def similarRenamesUptoRow : OpenClaim := { program := "ytakgddochbcjbaadoor", sum := "28242fb1f9d6cbd123f0601701fd199d93f7e87812d3be68f07582578a0c3107", func := "rick/ricklaw13.SimilarRenames", spec := "similarRenames", inPlace := ["internal/bytealg.CountString", "internal/bytealg.IndexByteString", "internal/bytealg.IndexString"], unfollowed := true, recurses := true, named := ["unicode/utf8.first", "unicode/utf8.acceptRanges", "internal/bytealg.MaxLen"], plainKeys := false, apart := false, laid := [("unicode/utf8.acceptRanges", laid_unicode_utf8_acceptRanges), ("unicode/utf8.first", laid_unicode_utf8_first)], narrowed := true }
def SimilarRenamesUptoSaid : Prop := similarRenamesUptoRow.holds Tryd.pinned (OpenSpec.upto similarRenamesSpec)

/-- 'ricklaw13.SimilarMoved', WHERE WHAT IT READS IS OF BULK AT MOST 1048576: true; the input reads as it did. -/
def similarMovedUptoRow : OpenClaim := { program := "ytakgddochbcjbaadoor", sum := "28242fb1f9d6cbd123f0601701fd199d93f7e87812d3be68f07582578a0c3107", func := "rick/ricklaw13.SimilarMoved", spec := "similarMoved", inPlace := ["internal/bytealg.CountString", "internal/bytealg.IndexByteString", "internal/bytealg.IndexString"], unfollowed := true, recurses := true, named := ["unicode/utf8.first", "unicode/utf8.acceptRanges", "internal/bytealg.MaxLen"], plainKeys := false, apart := false, laid := [("unicode/utf8.acceptRanges", laid_unicode_utf8_acceptRanges), ("unicode/utf8.first", laid_unicode_utf8_first)], narrowed := true }
def SimilarMovedUptoSaid : Prop := similarMovedUptoRow.holds Tryd.pinned (OpenSpec.upto similarMovedSpec)

/-- 'ricklaw13.SimilarHalf', WHERE WHAT IT READS IS OF BULK AT MOST 1048576: true; the input reads as it did. -/
def similarHalfUptoRow : OpenClaim := { program := "ytakgddochbcjbaadoor", sum := "28242fb1f9d6cbd123f0601701fd199d93f7e87812d3be68f07582578a0c3107", func := "rick/ricklaw13.SimilarHalf", spec := "similarHalf", inPlace := ["internal/bytealg.CountString", "internal/bytealg.IndexByteString", "internal/bytealg.IndexString"], unfollowed := true, recurses := true, named := ["unicode/utf8.first", "unicode/utf8.acceptRanges", "internal/bytealg.MaxLen"], plainKeys := false, apart := false, laid := [("unicode/utf8.acceptRanges", laid_unicode_utf8_acceptRanges), ("unicode/utf8.first", laid_unicode_utf8_first)], narrowed := true }
def SimilarHalfUptoSaid : Prop := similarHalfUptoRow.holds Tryd.pinned (OpenSpec.upto similarHalfSpec)

end Rows
end Go.Proofs.YtakgddochbcjbaaDoor
