/-
  NARROWER THAN 'FOR EVERY INPUT', by the rows' own cells (each row's printed sentence says how): PathParts: laid · PathBytes: laid · PathTells: laid · PathClash: laid · LinesEnds: laid · LinesTell: laid · LinesBack: laid · LinesParts: laid · BlameTells: laid · BlameStays: laid · BlameBehind: laid.
  DERIVED. THE GIVEN ROWS OF THIS SEAT. 11 by the template 'for every input the law returns true; each argument reads behind the call as it read before'; 0 by the template 'total and deterministic' (their statements: YtmfgbkbbmeedjaaDoorTotals.lean).
  GIVEN WITH THE SEED: the statements are not yours to turn. If you find one false, say at which input.
  Laid BY PROGRAM, IN A SANDBOX (cutbox-rows.mjs): the forced cells as the released guide's own fill.sh prints them over the translation 2af6575dff20ce84… (all of the seat's roots in one cut). By AI agents, Wed Nov 11 2026. No macro, syntax, notation, axiom, sorry.
-/
import Derived.Test.YtmfgbkbbmeedjaaDoorChecked
import GoSem.PinnedTables
import GoSem.Claim
import GoSem.ClaimJoined
import GoSem.ClaimMapViews
import Derived.JoinedTies
import Derived.KernelRfl
namespace Go.Proofs.YtmfgbkbbmeedjaaDoor
/- THE CELL 'sum', in the pinned program and in every row, IS THE sha256 OF THE DUMP (.gsa) THAT YtmfgbkbbmeedjaaDoorProg.lean LOADS. Nothing in Lean hashes anything: it is a label: what it is worth is what the hold of that sum in a sandbox is worth. -/
noncomputable def Tryd.pinned : Pinned := { name := "ytmfgbkbbmeedjaadoor", sum := "2af6575dff20ce84e8131ae8a683a7a7dc3ecfd5581fe7090f32e8cb5ac019fc", checked := Tryd.checked }
namespace Rows
def none {H : Type} : Left H := { results := [], args := [] }

/- WHAT THE LISTED PACKAGE-LEVEL VARIABLES READ AS WHEN THE CALL BEGINS. Each datum BY PROGRAM (the guide's laid-datum.mjs) off the statement by which the dump's own 'gosem.cut.vars' lays the variable. In a bare row this is a premise. The card (YtmfgbkbbmeedjaaDoorCards.lean) ties it to the program's text. -/
def laid_unicode_utf8_acceptRanges {H : Type} : DataW H := .agg [.agg [.lit (.int .u8 128), .lit (.int .u8 191)], .agg [.lit (.int .u8 160), .lit (.int .u8 191)], .agg [.lit (.int .u8 128), .lit (.int .u8 159)], .agg [.lit (.int .u8 144), .lit (.int .u8 191)], .agg [.lit (.int .u8 128), .lit (.int .u8 143)], .agg [.lit (.int .u8 0), .lit (.int .u8 0)], .agg [.lit (.int .u8 0), .lit (.int .u8 0)], .agg [.lit (.int .u8 0), .lit (.int .u8 0)], .agg [.lit (.int .u8 0), .lit (.int .u8 0)], .agg [.lit (.int .u8 0), .lit (.int .u8 0)], .agg [.lit (.int .u8 0), .lit (.int .u8 0)], .agg [.lit (.int .u8 0), .lit (.int .u8 0)], .agg [.lit (.int .u8 0), .lit (.int .u8 0)], .agg [.lit (.int .u8 0), .lit (.int .u8 0)], .agg [.lit (.int .u8 0), .lit (.int .u8 0)], .agg [.lit (.int .u8 0), .lit (.int .u8 0)]]
/-- One of Go's own tables, pinned by name: the form's constant. -/
def laid_unicode_utf8_first : DataW Unit := Go.Pinned.utf8First

/-- 'ricklaw11.PathParts': WHATEVER THE INPUT: true; the input reads as it did. -/
def pathPartsSpec : ChangeSpec := { name := "pathParts", fn := fun _ => fun
  | [d] => { results := [.lit (.bool true)], args := [d] }
  | _ => none }
def pathPartsRow : OpenClaim := { program := "ytmfgbkbbmeedjaadoor", sum := "2af6575dff20ce84e8131ae8a683a7a7dc3ecfd5581fe7090f32e8cb5ac019fc", func := "rick/ricklaw11.PathParts", spec := "pathParts", inPlace := ["internal/bytealg.CountString", "internal/bytealg.IndexByteString", "internal/bytealg.IndexString"], unfollowed := true, recurses := true, named := ["unicode/utf8.first", "unicode/utf8.acceptRanges", "internal/bytealg.MaxLen"], apart := false, laid := [("unicode/utf8.acceptRanges", laid_unicode_utf8_acceptRanges), ("unicode/utf8.first", laid_unicode_utf8_first)] }
def PathPartsSaid : Prop := pathPartsRow.holds Tryd.pinned (OpenSpec.ofChange pathPartsSpec)

/-- ITS FALSE NEIGHBOUR: 'it returns false'. Refute it at one input. -/
def pathPartsWrong : ChangeSpec := { name := "pathParts", fn := fun _ => fun
  | [d] => { results := [.lit (.bool false)], args := [d] }
  | _ => none }
def PathPartsWrongFalsely : Prop := pathPartsRow.holds Tryd.pinned (OpenSpec.ofChange pathPartsWrong)

/-- 'ricklaw11.PathBytes': WHATEVER THE INPUT: true; the input reads as it did. -/
def pathBytesSpec : ChangeSpec := { name := "pathBytes", fn := fun _ => fun
  | [d1, d2] => { results := [.lit (.bool true)], args := [d1, d2] }
  | _ => none }
def pathBytesRow : OpenClaim := { program := "ytmfgbkbbmeedjaadoor", sum := "2af6575dff20ce84e8131ae8a683a7a7dc3ecfd5581fe7090f32e8cb5ac019fc", func := "rick/ricklaw11.PathBytes", spec := "pathBytes", inPlace := ["internal/bytealg.CountString", "internal/bytealg.IndexByteString", "internal/bytealg.IndexString"], unfollowed := true, recurses := true, named := ["unicode/utf8.first", "unicode/utf8.acceptRanges", "internal/bytealg.MaxLen"], apart := false, laid := [("unicode/utf8.acceptRanges", laid_unicode_utf8_acceptRanges), ("unicode/utf8.first", laid_unicode_utf8_first)] }
def PathBytesSaid : Prop := pathBytesRow.holds Tryd.pinned (OpenSpec.ofChange pathBytesSpec)

/-- ITS FALSE NEIGHBOUR: 'it returns false'. Refute it at one input. -/
def pathBytesWrong : ChangeSpec := { name := "pathBytes", fn := fun _ => fun
  | [d1, d2] => { results := [.lit (.bool false)], args := [d1, d2] }
  | _ => none }
def PathBytesWrongFalsely : Prop := pathBytesRow.holds Tryd.pinned (OpenSpec.ofChange pathBytesWrong)

/-- 'ricklaw11.PathTells': WHATEVER THE INPUT: true; the input reads as it did. -/
def pathTellsSpec : ChangeSpec := { name := "pathTells", fn := fun _ => fun
  | [d1, d2] => { results := [.lit (.bool true)], args := [d1, d2] }
  | _ => none }
def pathTellsRow : OpenClaim := { program := "ytmfgbkbbmeedjaadoor", sum := "2af6575dff20ce84e8131ae8a683a7a7dc3ecfd5581fe7090f32e8cb5ac019fc", func := "rick/ricklaw11.PathTells", spec := "pathTells", inPlace := ["internal/bytealg.CountString", "internal/bytealg.IndexByteString", "internal/bytealg.IndexString"], unfollowed := true, recurses := true, named := ["unicode/utf8.first", "unicode/utf8.acceptRanges", "internal/bytealg.MaxLen"], apart := false, laid := [("unicode/utf8.acceptRanges", laid_unicode_utf8_acceptRanges), ("unicode/utf8.first", laid_unicode_utf8_first)] }
def PathTellsSaid : Prop := pathTellsRow.holds Tryd.pinned (OpenSpec.ofChange pathTellsSpec)

/-- ITS FALSE NEIGHBOUR: 'it returns false'. Refute it at one input. -/
def pathTellsWrong : ChangeSpec := { name := "pathTells", fn := fun _ => fun
  | [d1, d2] => { results := [.lit (.bool false)], args := [d1, d2] }
  | _ => none }
def PathTellsWrongFalsely : Prop := pathTellsRow.holds Tryd.pinned (OpenSpec.ofChange pathTellsWrong)

/-- 'ricklaw11.PathClash': WHATEVER THE INPUT: true; the input reads as it did. -/
def pathClashSpec : ChangeSpec := { name := "pathClash", fn := fun _ => fun
  | [d1, d2, d3] => { results := [.lit (.bool true)], args := [d1, d2, d3] }
  | _ => none }
def pathClashRow : OpenClaim := { program := "ytmfgbkbbmeedjaadoor", sum := "2af6575dff20ce84e8131ae8a683a7a7dc3ecfd5581fe7090f32e8cb5ac019fc", func := "rick/ricklaw11.PathClash", spec := "pathClash", inPlace := ["internal/bytealg.CountString", "internal/bytealg.IndexByteString", "internal/bytealg.IndexString"], unfollowed := true, recurses := true, named := ["unicode/utf8.first", "unicode/utf8.acceptRanges", "internal/bytealg.MaxLen"], apart := false, laid := [("unicode/utf8.acceptRanges", laid_unicode_utf8_acceptRanges), ("unicode/utf8.first", laid_unicode_utf8_first)] }
def PathClashSaid : Prop := pathClashRow.holds Tryd.pinned (OpenSpec.ofChange pathClashSpec)

/-- ITS FALSE NEIGHBOUR: 'it returns false'. Refute it at one input. -/
def pathClashWrong : ChangeSpec := { name := "pathClash", fn := fun _ => fun
  | [d1, d2, d3] => { results := [.lit (.bool false)], args := [d1, d2, d3] }
  | _ => none }
def PathClashWrongFalsely : Prop := pathClashRow.holds Tryd.pinned (OpenSpec.ofChange pathClashWrong)

/-- 'ricklaw05.LinesEnds': WHATEVER THE INPUT: true; the input reads as it did. -/
def linesEndsSpec : ChangeSpec := { name := "linesEnds", fn := fun _ => fun
  | [d] => { results := [.lit (.bool true)], args := [d] }
  | _ => none }
def linesEndsRow : OpenClaim := { program := "ytmfgbkbbmeedjaadoor", sum := "2af6575dff20ce84e8131ae8a683a7a7dc3ecfd5581fe7090f32e8cb5ac019fc", func := "rick/ricklaw05.LinesEnds", spec := "linesEnds", inPlace := ["internal/bytealg.CountString", "internal/bytealg.IndexByteString", "internal/bytealg.IndexString", "internal/abi.NoEscape", "internal/bytealg.MakeNoZero"], unfollowed := true, recurses := true, named := ["unicode/utf8.first", "unicode/utf8.acceptRanges", "internal/bytealg.MaxLen"], apart := false, laid := [("unicode/utf8.acceptRanges", laid_unicode_utf8_acceptRanges), ("unicode/utf8.first", laid_unicode_utf8_first)] }
def LinesEndsSaid : Prop := linesEndsRow.holds Tryd.pinned (OpenSpec.ofChange linesEndsSpec)

/-- ITS FALSE NEIGHBOUR: 'it returns false'. Refute it at one input. -/
def linesEndsWrong : ChangeSpec := { name := "linesEnds", fn := fun _ => fun
  | [d] => { results := [.lit (.bool false)], args := [d] }
  | _ => none }
def LinesEndsWrongFalsely : Prop := linesEndsRow.holds Tryd.pinned (OpenSpec.ofChange linesEndsWrong)

/-- 'ricklaw05.LinesTell': WHATEVER THE INPUT: true; the input reads as it did. -/
def linesTellSpec : ChangeSpec := { name := "linesTell", fn := fun _ => fun
  | [d1, d2, d3] => { results := [.lit (.bool true)], args := [d1, d2, d3] }
  | _ => none }
def linesTellRow : OpenClaim := { program := "ytmfgbkbbmeedjaadoor", sum := "2af6575dff20ce84e8131ae8a683a7a7dc3ecfd5581fe7090f32e8cb5ac019fc", func := "rick/ricklaw05.LinesTell", spec := "linesTell", inPlace := ["internal/bytealg.CountString", "internal/bytealg.IndexByteString", "internal/bytealg.IndexString", "internal/abi.NoEscape", "internal/bytealg.MakeNoZero"], unfollowed := true, recurses := true, named := ["unicode/utf8.first", "unicode/utf8.acceptRanges", "internal/bytealg.MaxLen"], apart := false, laid := [("unicode/utf8.acceptRanges", laid_unicode_utf8_acceptRanges), ("unicode/utf8.first", laid_unicode_utf8_first)] }
def LinesTellSaid : Prop := linesTellRow.holds Tryd.pinned (OpenSpec.ofChange linesTellSpec)

/-- ITS FALSE NEIGHBOUR: 'it returns false'. Refute it at one input. -/
def linesTellWrong : ChangeSpec := { name := "linesTell", fn := fun _ => fun
  | [d1, d2, d3] => { results := [.lit (.bool false)], args := [d1, d2, d3] }
  | _ => none }
def LinesTellWrongFalsely : Prop := linesTellRow.holds Tryd.pinned (OpenSpec.ofChange linesTellWrong)

/-- 'ricklaw05.LinesBack': WHATEVER THE INPUT: true; the input reads as it did. -/
def linesBackSpec : ChangeSpec := { name := "linesBack", fn := fun _ => fun
  | [d1, d2] => { results := [.lit (.bool true)], args := [d1, d2] }
  | _ => none }
def linesBackRow : OpenClaim := { program := "ytmfgbkbbmeedjaadoor", sum := "2af6575dff20ce84e8131ae8a683a7a7dc3ecfd5581fe7090f32e8cb5ac019fc", func := "rick/ricklaw05.LinesBack", spec := "linesBack", inPlace := ["internal/bytealg.CountString", "internal/bytealg.IndexByteString", "internal/bytealg.IndexString", "internal/abi.NoEscape", "internal/bytealg.MakeNoZero"], unfollowed := true, recurses := true, named := ["unicode/utf8.first", "unicode/utf8.acceptRanges", "internal/bytealg.MaxLen"], apart := false, laid := [("unicode/utf8.acceptRanges", laid_unicode_utf8_acceptRanges), ("unicode/utf8.first", laid_unicode_utf8_first)] }
def LinesBackSaid : Prop := linesBackRow.holds Tryd.pinned (OpenSpec.ofChange linesBackSpec)

/-- ITS FALSE NEIGHBOUR: 'it returns false'. Refute it at one input. -/
def linesBackWrong : ChangeSpec := { name := "linesBack", fn := fun _ => fun
  | [d1, d2] => { results := [.lit (.bool false)], args := [d1, d2] }
  | _ => none }
def LinesBackWrongFalsely : Prop := linesBackRow.holds Tryd.pinned (OpenSpec.ofChange linesBackWrong)

/-- 'ricklaw05.LinesParts': WHATEVER THE INPUT: true; the input reads as it did. -/
def linesPartsSpec : ChangeSpec := { name := "linesParts", fn := fun _ => fun
  | [d] => { results := [.lit (.bool true)], args := [d] }
  | _ => none }
def linesPartsRow : OpenClaim := { program := "ytmfgbkbbmeedjaadoor", sum := "2af6575dff20ce84e8131ae8a683a7a7dc3ecfd5581fe7090f32e8cb5ac019fc", func := "rick/ricklaw05.LinesParts", spec := "linesParts", inPlace := ["internal/bytealg.CountString", "internal/bytealg.IndexByteString", "internal/bytealg.IndexString", "internal/abi.NoEscape", "internal/bytealg.MakeNoZero"], unfollowed := true, recurses := true, named := ["unicode/utf8.first", "unicode/utf8.acceptRanges", "internal/bytealg.MaxLen"], apart := false, laid := [("unicode/utf8.acceptRanges", laid_unicode_utf8_acceptRanges), ("unicode/utf8.first", laid_unicode_utf8_first)] }
def LinesPartsSaid : Prop := linesPartsRow.holds Tryd.pinned (OpenSpec.ofChange linesPartsSpec)

/-- ITS FALSE NEIGHBOUR: 'it returns false'. Refute it at one input. -/
def linesPartsWrong : ChangeSpec := { name := "linesParts", fn := fun _ => fun
  | [d] => { results := [.lit (.bool false)], args := [d] }
  | _ => none }
def LinesPartsWrongFalsely : Prop := linesPartsRow.holds Tryd.pinned (OpenSpec.ofChange linesPartsWrong)

/-- 'ricklaw08.BlameTells': WHATEVER THE INPUT: true; the input reads as it did. -/
def blameTellsSpec : ChangeSpec := { name := "blameTells", fn := fun _ => fun
  | [d1, d2] => { results := [.lit (.bool true)], args := [d1, d2] }
  | _ => none }
def blameTellsRow : OpenClaim := { program := "ytmfgbkbbmeedjaadoor", sum := "2af6575dff20ce84e8131ae8a683a7a7dc3ecfd5581fe7090f32e8cb5ac019fc", func := "rick/ricklaw08.BlameTells", spec := "blameTells", inPlace := ["internal/bytealg.CountString", "internal/bytealg.IndexByteString", "internal/bytealg.IndexString"], unfollowed := true, recurses := true, named := ["unicode/utf8.first", "unicode/utf8.acceptRanges", "internal/bytealg.MaxLen"], apart := false, laid := [("unicode/utf8.acceptRanges", laid_unicode_utf8_acceptRanges), ("unicode/utf8.first", laid_unicode_utf8_first)] }
def BlameTellsSaid : Prop := blameTellsRow.holds Tryd.pinned (OpenSpec.ofChange blameTellsSpec)

/-- ITS FALSE NEIGHBOUR: 'it returns false'. Refute it at one input. -/
def blameTellsWrong : ChangeSpec := { name := "blameTells", fn := fun _ => fun
  | [d1, d2] => { results := [.lit (.bool false)], args := [d1, d2] }
  | _ => none }
def BlameTellsWrongFalsely : Prop := blameTellsRow.holds Tryd.pinned (OpenSpec.ofChange blameTellsWrong)

/-- 'ricklaw08.BlameStays': WHATEVER THE INPUT: true; the input reads as it did. -/
def blameStaysSpec : ChangeSpec := { name := "blameStays", fn := fun _ => fun
  | [d1, d2] => { results := [.lit (.bool true)], args := [d1, d2] }
  | _ => none }
def blameStaysRow : OpenClaim := { program := "ytmfgbkbbmeedjaadoor", sum := "2af6575dff20ce84e8131ae8a683a7a7dc3ecfd5581fe7090f32e8cb5ac019fc", func := "rick/ricklaw08.BlameStays", spec := "blameStays", inPlace := ["internal/bytealg.CountString", "internal/bytealg.IndexByteString", "internal/bytealg.IndexString"], unfollowed := true, recurses := true, named := ["unicode/utf8.first", "unicode/utf8.acceptRanges", "internal/bytealg.MaxLen"], apart := false, laid := [("unicode/utf8.acceptRanges", laid_unicode_utf8_acceptRanges), ("unicode/utf8.first", laid_unicode_utf8_first)] }
def BlameStaysSaid : Prop := blameStaysRow.holds Tryd.pinned (OpenSpec.ofChange blameStaysSpec)

/-- ITS FALSE NEIGHBOUR: 'it returns false'. Refute it at one input. -/
def blameStaysWrong : ChangeSpec := { name := "blameStays", fn := fun _ => fun
  | [d1, d2] => { results := [.lit (.bool false)], args := [d1, d2] }
  | _ => none }
def BlameStaysWrongFalsely : Prop := blameStaysRow.holds Tryd.pinned (OpenSpec.ofChange blameStaysWrong)

/-- 'ricklaw08.BlameBehind': WHATEVER THE INPUT: true; the input reads as it did. -/
def blameBehindSpec : ChangeSpec := { name := "blameBehind", fn := fun _ => fun
  | [d1, d2] => { results := [.lit (.bool true)], args := [d1, d2] }
  | _ => none }
def blameBehindRow : OpenClaim := { program := "ytmfgbkbbmeedjaadoor", sum := "2af6575dff20ce84e8131ae8a683a7a7dc3ecfd5581fe7090f32e8cb5ac019fc", func := "rick/ricklaw08.BlameBehind", spec := "blameBehind", inPlace := ["internal/bytealg.CountString", "internal/bytealg.IndexByteString", "internal/bytealg.IndexString"], unfollowed := true, recurses := true, named := ["unicode/utf8.first", "unicode/utf8.acceptRanges", "internal/bytealg.MaxLen"], apart := false, laid := [("unicode/utf8.acceptRanges", laid_unicode_utf8_acceptRanges), ("unicode/utf8.first", laid_unicode_utf8_first)] }
def BlameBehindSaid : Prop := blameBehindRow.holds Tryd.pinned (OpenSpec.ofChange blameBehindSpec)

/-- ITS FALSE NEIGHBOUR: 'it returns false'. Refute it at one input. -/
def blameBehindWrong : ChangeSpec := { name := "blameBehind", fn := fun _ => fun
  | [d1, d2] => { results := [.lit (.bool false)], args := [d1, d2] }
  | _ => none }
def BlameBehindWrongFalsely : Prop := blameBehindRow.holds Tryd.pinned (OpenSpec.ofChange blameBehindWrong)

/- THE SECOND FORM. 'bulk': how many values and letters a reading holds, each counted each time it is reached (what is shared counts as often as it is met; a slice's spare places count too). A statement '..UptoSaid' is the law's where the arguments, and the package variables that the reading takes, are together of bulk at most 1048576: NARROWER than '..Said'. Prove '..Said' where nothing that the law and all that it calls make is longer than what came in: it says more and counts as full. Else prove '..UptoSaid'. A law counts once. -/
mutual
def uptoBulk {H : Type} : DataW H → Nat
  | .lit (.string bytes) => bytes.length + 1
  | .lit _ => 1
  | .nil => 1
  | .ptr d => uptoBulk d + 1
  | .slice elems spare => uptoBulkAll elems + uptoBulkAll spare + 1
  | .agg parts => uptoBulkAll parts + 1
  | .iface _ d => uptoBulk d + 1
  | .map entries => uptoBulkEntries entries + 1
  | .held _ => 1
def uptoBulkAll {H : Type} : List (DataW H) → Nat
  | [] => 0
  | d :: r => uptoBulk d + uptoBulkAll r
def uptoBulkEntries {H : Type} : List (Lit × DataW H) → Nat
  | [] => 0
  | x :: r => uptoBulkEntry x + uptoBulkEntries r
def uptoBulkEntry {H : Type} : Lit × DataW H → Nat
  | (.string bytes, d) => bytes.length + uptoBulk d + 1
  | (_, d) => uptoBulk d + 1
 end
def uptoSmall : (H : Type) → List (DataW H) → Bool := fun _ ds => decide (uptoBulkAll ds ≤ 1048576)
def OpenSpec.upto (s : _root_.Go.ChangeSpec) : _root_.Go.OpenSpec := { _root_.Go.OpenSpec.ofChange s with cond := some uptoSmall }

/-- 'ricklaw11.PathParts', WHERE WHAT IT READS IS OF BULK AT MOST 1048576: true; the input reads as it did. -/
def pathPartsUptoRow : OpenClaim := { program := "ytmfgbkbbmeedjaadoor", sum := "2af6575dff20ce84e8131ae8a683a7a7dc3ecfd5581fe7090f32e8cb5ac019fc", func := "rick/ricklaw11.PathParts", spec := "pathParts", inPlace := ["internal/bytealg.CountString", "internal/bytealg.IndexByteString", "internal/bytealg.IndexString"], unfollowed := true, recurses := true, named := ["unicode/utf8.first", "unicode/utf8.acceptRanges", "internal/bytealg.MaxLen"], apart := false, laid := [("unicode/utf8.acceptRanges", laid_unicode_utf8_acceptRanges), ("unicode/utf8.first", laid_unicode_utf8_first)], narrowed := true }
def PathPartsUptoSaid : Prop := pathPartsUptoRow.holds Tryd.pinned (OpenSpec.upto pathPartsSpec)

/-- 'ricklaw11.PathBytes', WHERE WHAT IT READS IS OF BULK AT MOST 1048576: true; the input reads as it did. -/
def pathBytesUptoRow : OpenClaim := { program := "ytmfgbkbbmeedjaadoor", sum := "2af6575dff20ce84e8131ae8a683a7a7dc3ecfd5581fe7090f32e8cb5ac019fc", func := "rick/ricklaw11.PathBytes", spec := "pathBytes", inPlace := ["internal/bytealg.CountString", "internal/bytealg.IndexByteString", "internal/bytealg.IndexString"], unfollowed := true, recurses := true, named := ["unicode/utf8.first", "unicode/utf8.acceptRanges", "internal/bytealg.MaxLen"], apart := false, laid := [("unicode/utf8.acceptRanges", laid_unicode_utf8_acceptRanges), ("unicode/utf8.first", laid_unicode_utf8_first)], narrowed := true }
def PathBytesUptoSaid : Prop := pathBytesUptoRow.holds Tryd.pinned (OpenSpec.upto pathBytesSpec)

/-- 'ricklaw11.PathTells', WHERE WHAT IT READS IS OF BULK AT MOST 1048576: true; the input reads as it did. -/
def pathTellsUptoRow : OpenClaim := { program := "ytmfgbkbbmeedjaadoor", sum := "2af6575dff20ce84e8131ae8a683a7a7dc3ecfd5581fe7090f32e8cb5ac019fc", func := "rick/ricklaw11.PathTells", spec := "pathTells", inPlace := ["internal/bytealg.CountString", "internal/bytealg.IndexByteString", "internal/bytealg.IndexString"], unfollowed := true, recurses := true, named := ["unicode/utf8.first", "unicode/utf8.acceptRanges", "internal/bytealg.MaxLen"], apart := false, laid := [("unicode/utf8.acceptRanges", laid_unicode_utf8_acceptRanges), ("unicode/utf8.first", laid_unicode_utf8_first)], narrowed := true }
def PathTellsUptoSaid : Prop := pathTellsUptoRow.holds Tryd.pinned (OpenSpec.upto pathTellsSpec)

/-- 'ricklaw11.PathClash', WHERE WHAT IT READS IS OF BULK AT MOST 1048576: true; the input reads as it did. -/
def pathClashUptoRow : OpenClaim := { program := "ytmfgbkbbmeedjaadoor", sum := "2af6575dff20ce84e8131ae8a683a7a7dc3ecfd5581fe7090f32e8cb5ac019fc", func := "rick/ricklaw11.PathClash", spec := "pathClash", inPlace := ["internal/bytealg.CountString", "internal/bytealg.IndexByteString", "internal/bytealg.IndexString"], unfollowed := true, recurses := true, named := ["unicode/utf8.first", "unicode/utf8.acceptRanges", "internal/bytealg.MaxLen"], apart := false, laid := [("unicode/utf8.acceptRanges", laid_unicode_utf8_acceptRanges), ("unicode/utf8.first", laid_unicode_utf8_first)], narrowed := true }
def PathClashUptoSaid : Prop := pathClashUptoRow.holds Tryd.pinned (OpenSpec.upto pathClashSpec)

/-- 'ricklaw05.LinesEnds', WHERE WHAT IT READS IS OF BULK AT MOST 1048576: true; the input reads as it did. -/
def linesEndsUptoRow : OpenClaim := { program := "ytmfgbkbbmeedjaadoor", sum := "2af6575dff20ce84e8131ae8a683a7a7dc3ecfd5581fe7090f32e8cb5ac019fc", func := "rick/ricklaw05.LinesEnds", spec := "linesEnds", inPlace := ["internal/bytealg.CountString", "internal/bytealg.IndexByteString", "internal/bytealg.IndexString", "internal/abi.NoEscape", "internal/bytealg.MakeNoZero"], unfollowed := true, recurses := true, named := ["unicode/utf8.first", "unicode/utf8.acceptRanges", "internal/bytealg.MaxLen"], apart := false, laid := [("unicode/utf8.acceptRanges", laid_unicode_utf8_acceptRanges), ("unicode/utf8.first", laid_unicode_utf8_first)], narrowed := true }
def LinesEndsUptoSaid : Prop := linesEndsUptoRow.holds Tryd.pinned (OpenSpec.upto linesEndsSpec)

/-- 'ricklaw05.LinesTell', WHERE WHAT IT READS IS OF BULK AT MOST 1048576: true; the input reads as it did. -/
def linesTellUptoRow : OpenClaim := { program := "ytmfgbkbbmeedjaadoor", sum := "2af6575dff20ce84e8131ae8a683a7a7dc3ecfd5581fe7090f32e8cb5ac019fc", func := "rick/ricklaw05.LinesTell", spec := "linesTell", inPlace := ["internal/bytealg.CountString", "internal/bytealg.IndexByteString", "internal/bytealg.IndexString", "internal/abi.NoEscape", "internal/bytealg.MakeNoZero"], unfollowed := true, recurses := true, named := ["unicode/utf8.first", "unicode/utf8.acceptRanges", "internal/bytealg.MaxLen"], apart := false, laid := [("unicode/utf8.acceptRanges", laid_unicode_utf8_acceptRanges), ("unicode/utf8.first", laid_unicode_utf8_first)], narrowed := true }
def LinesTellUptoSaid : Prop := linesTellUptoRow.holds Tryd.pinned (OpenSpec.upto linesTellSpec)

/-- 'ricklaw05.LinesBack', WHERE WHAT IT READS IS OF BULK AT MOST 1048576: true; the input reads as it did. -/
def linesBackUptoRow : OpenClaim := { program := "ytmfgbkbbmeedjaadoor", sum := "2af6575dff20ce84e8131ae8a683a7a7dc3ecfd5581fe7090f32e8cb5ac019fc", func := "rick/ricklaw05.LinesBack", spec := "linesBack", inPlace := ["internal/bytealg.CountString", "internal/bytealg.IndexByteString", "internal/bytealg.IndexString", "internal/abi.NoEscape", "internal/bytealg.MakeNoZero"], unfollowed := true, recurses := true, named := ["unicode/utf8.first", "unicode/utf8.acceptRanges", "internal/bytealg.MaxLen"], apart := false, laid := [("unicode/utf8.acceptRanges", laid_unicode_utf8_acceptRanges), ("unicode/utf8.first", laid_unicode_utf8_first)], narrowed := true }
def LinesBackUptoSaid : Prop := linesBackUptoRow.holds Tryd.pinned (OpenSpec.upto linesBackSpec)

/-- 'ricklaw05.LinesParts', WHERE WHAT IT READS IS OF BULK AT MOST 1048576: true; the input reads as it did. -/
def linesPartsUptoRow : OpenClaim := { program := "ytmfgbkbbmeedjaadoor", sum := "2af6575dff20ce84e8131ae8a683a7a7dc3ecfd5581fe7090f32e8cb5ac019fc", func := "rick/ricklaw05.LinesParts", spec := "linesParts", inPlace := ["internal/bytealg.CountString", "internal/bytealg.IndexByteString", "internal/bytealg.IndexString", "internal/abi.NoEscape", "internal/bytealg.MakeNoZero"], unfollowed := true, recurses := true, named := ["unicode/utf8.first", "unicode/utf8.acceptRanges", "internal/bytealg.MaxLen"], apart := false, laid := [("unicode/utf8.acceptRanges", laid_unicode_utf8_acceptRanges), ("unicode/utf8.first", laid_unicode_utf8_first)], narrowed := true }
def LinesPartsUptoSaid : Prop := linesPartsUptoRow.holds Tryd.pinned (OpenSpec.upto linesPartsSpec)

/-- 'ricklaw08.BlameTells', WHERE WHAT IT READS IS OF BULK AT MOST 1048576: true; the input reads as it did. -/
def blameTellsUptoRow : OpenClaim := { program := "ytmfgbkbbmeedjaadoor", sum := "2af6575dff20ce84e8131ae8a683a7a7dc3ecfd5581fe7090f32e8cb5ac019fc", func := "rick/ricklaw08.BlameTells", spec := "blameTells", inPlace := ["internal/bytealg.CountString", "internal/bytealg.IndexByteString", "internal/bytealg.IndexString"], unfollowed := true, recurses := true, named := ["unicode/utf8.first", "unicode/utf8.acceptRanges", "internal/bytealg.MaxLen"], apart := false, laid := [("unicode/utf8.acceptRanges", laid_unicode_utf8_acceptRanges), ("unicode/utf8.first", laid_unicode_utf8_first)], narrowed := true }
def BlameTellsUptoSaid : Prop := blameTellsUptoRow.holds Tryd.pinned (OpenSpec.upto blameTellsSpec)

/-- 'ricklaw08.BlameStays', WHERE WHAT IT READS IS OF BULK AT MOST 1048576: true; the input reads as it did. -/
def blameStaysUptoRow : OpenClaim := { program := "ytmfgbkbbmeedjaadoor", sum := "2af6575dff20ce84e8131ae8a683a7a7dc3ecfd5581fe7090f32e8cb5ac019fc", func := "rick/ricklaw08.BlameStays", spec := "blameStays", inPlace := ["internal/bytealg.CountString", "internal/bytealg.IndexByteString", "internal/bytealg.IndexString"], unfollowed := true, recurses := true, named := ["unicode/utf8.first", "unicode/utf8.acceptRanges", "internal/bytealg.MaxLen"], apart := false, laid := [("unicode/utf8.acceptRanges", laid_unicode_utf8_acceptRanges), ("unicode/utf8.first", laid_unicode_utf8_first)], narrowed := true }
def BlameStaysUptoSaid : Prop := blameStaysUptoRow.holds Tryd.pinned (OpenSpec.upto blameStaysSpec)

/-- 'ricklaw08.BlameBehind', WHERE WHAT IT READS IS OF BULK AT MOST 1048576: true; the input reads as it did. -/
def blameBehindUptoRow : OpenClaim := { program := "ytmfgbkbbmeedjaadoor", sum := "2af6575dff20ce84e8131ae8a683a7a7dc3ecfd5581fe7090f32e8cb5ac019fc", func := "rick/ricklaw08.BlameBehind", spec := "blameBehind", inPlace := ["internal/bytealg.CountString", "internal/bytealg.IndexByteString", "internal/bytealg.IndexString"], unfollowed := true, recurses := true, named := ["unicode/utf8.first", "unicode/utf8.acceptRanges", "internal/bytealg.MaxLen"], apart := false, laid := [("unicode/utf8.acceptRanges", laid_unicode_utf8_acceptRanges), ("unicode/utf8.first", laid_unicode_utf8_first)], narrowed := true }
def BlameBehindUptoSaid : Prop := blameBehindUptoRow.holds Tryd.pinned (OpenSpec.upto blameBehindSpec)

end Rows
end Go.Proofs.YtmfgbkbbmeedjaaDoor
