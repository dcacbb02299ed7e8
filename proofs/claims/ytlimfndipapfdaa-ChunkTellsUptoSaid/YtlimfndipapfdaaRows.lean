/-
  No cell of these rows narrows 'for every input' (looked for: loops, veiled, ifaces, maps, wideKeys, modest, calm, conditions, laid).
  DERIVED. THE GIVEN ROWS OF THIS SEAT. 12 by the template 'for every input the law returns true; each argument reads behind the call as it read before'; 0 by the template 'total and deterministic' (their statements: YtlimfndipapfdaaTotals.lean).
  GIVEN WITH THE SEED: the statements are not yours to turn. If you find one false, say at which input.
  Laid BY PROGRAM, IN A SANDBOX (cutbox-rows.mjs): the forced cells as the released guide's own fill.sh prints them over the translation 01a0db2149864716… (all of the seat's roots in one cut). By AI agents, Wed Nov 11 2026. No macro, syntax, notation, axiom, sorry.
-/
import Derived.Test.YtlimfndipapfdaaChecked
import GoSem.Claim
import GoSem.ClaimJoined
import GoSem.ClaimMapViews
import Derived.JoinedTies
import Derived.KernelRfl
namespace Go.Proofs.Ytlimfndipapfdaa
/- THE CELL 'sum', in the pinned program and in every row, IS THE sha256 OF THE DUMP (.gsa) THAT YtlimfndipapfdaaProg.lean LOADS. Nothing in Lean hashes anything: it is a label: what it is worth is what the hold of that sum in a sandbox is worth. -/
noncomputable def Try.pinned : Pinned := { name := "ytlimfndipapfdaa", sum := "01a0db2149864716f7befcbb5bafd949f589a6d5bd563d5c7418fab428dffa6b", checked := Try.checked }
namespace Rows
def none {H : Type} : Left H := { results := [], args := [] }

/-- 'ricklaw06.DiffFirst': WHATEVER THE INPUT: true; the input reads as it did. -/
def diffFirstSpec : ChangeSpec := { name := "diffFirst", fn := fun _ => fun
  | [d1, d2, d3] => { results := [.lit (.bool true)], args := [d1, d2, d3] }
  | _ => none }
def diffFirstRow : OpenClaim := { program := "ytlimfndipapfdaa", sum := "01a0db2149864716f7befcbb5bafd949f589a6d5bd563d5c7418fab428dffa6b", func := "rick/ricklaw06.DiffFirst", spec := "diffFirst", unfollowed := true, recurses := true, plainKeys := false, apart := false }
def DiffFirstSaid : Prop := diffFirstRow.holds Try.pinned (OpenSpec.ofChange diffFirstSpec)

/-- ITS FALSE NEIGHBOUR: 'it returns false'. Refute it at one input. -/
def diffFirstWrong : ChangeSpec := { name := "diffFirst", fn := fun _ => fun
  | [d1, d2, d3] => { results := [.lit (.bool false)], args := [d1, d2, d3] }
  | _ => none }
def DiffFirstWrongFalsely : Prop := diffFirstRow.holds Try.pinned (OpenSpec.ofChange diffFirstWrong)

/-- 'ricklaw06.DiffBoth': WHATEVER THE INPUT: true; the input reads as it did. -/
def diffBothSpec : ChangeSpec := { name := "diffBoth", fn := fun _ => fun
  | [d1, d2] => { results := [.lit (.bool true)], args := [d1, d2] }
  | _ => none }
def diffBothRow : OpenClaim := { program := "ytlimfndipapfdaa", sum := "01a0db2149864716f7befcbb5bafd949f589a6d5bd563d5c7418fab428dffa6b", func := "rick/ricklaw06.DiffBoth", spec := "diffBoth", unfollowed := true, recurses := true, plainKeys := false, apart := false }
def DiffBothSaid : Prop := diffBothRow.holds Try.pinned (OpenSpec.ofChange diffBothSpec)

/-- ITS FALSE NEIGHBOUR: 'it returns false'. Refute it at one input. -/
def diffBothWrong : ChangeSpec := { name := "diffBoth", fn := fun _ => fun
  | [d1, d2] => { results := [.lit (.bool false)], args := [d1, d2] }
  | _ => none }
def DiffBothWrongFalsely : Prop := diffBothRow.holds Try.pinned (OpenSpec.ofChange diffBothWrong)

/-- 'ricklaw06.DiffSame': WHATEVER THE INPUT: true; the input reads as it did. -/
def diffSameSpec : ChangeSpec := { name := "diffSame", fn := fun _ => fun
  | [d1, d2, d3] => { results := [.lit (.bool true)], args := [d1, d2, d3] }
  | _ => none }
def diffSameRow : OpenClaim := { program := "ytlimfndipapfdaa", sum := "01a0db2149864716f7befcbb5bafd949f589a6d5bd563d5c7418fab428dffa6b", func := "rick/ricklaw06.DiffSame", spec := "diffSame", unfollowed := true, recurses := true, plainKeys := false, apart := false }
def DiffSameSaid : Prop := diffSameRow.holds Try.pinned (OpenSpec.ofChange diffSameSpec)

/-- ITS FALSE NEIGHBOUR: 'it returns false'. Refute it at one input. -/
def diffSameWrong : ChangeSpec := { name := "diffSame", fn := fun _ => fun
  | [d1, d2, d3] => { results := [.lit (.bool false)], args := [d1, d2, d3] }
  | _ => none }
def DiffSameWrongFalsely : Prop := diffSameRow.holds Try.pinned (OpenSpec.ofChange diffSameWrong)

/-- 'ricklaw06.DiffTells': WHATEVER THE INPUT: true; the input reads as it did. -/
def diffTellsSpec : ChangeSpec := { name := "diffTells", fn := fun _ => fun
  | [d1, d2, d3] => { results := [.lit (.bool true)], args := [d1, d2, d3] }
  | _ => none }
def diffTellsRow : OpenClaim := { program := "ytlimfndipapfdaa", sum := "01a0db2149864716f7befcbb5bafd949f589a6d5bd563d5c7418fab428dffa6b", func := "rick/ricklaw06.DiffTells", spec := "diffTells", unfollowed := true, recurses := true, plainKeys := false, apart := false }
def DiffTellsSaid : Prop := diffTellsRow.holds Try.pinned (OpenSpec.ofChange diffTellsSpec)

/-- ITS FALSE NEIGHBOUR: 'it returns false'. Refute it at one input. -/
def diffTellsWrong : ChangeSpec := { name := "diffTells", fn := fun _ => fun
  | [d1, d2, d3] => { results := [.lit (.bool false)], args := [d1, d2, d3] }
  | _ => none }
def DiffTellsWrongFalsely : Prop := diffTellsRow.holds Try.pinned (OpenSpec.ofChange diffTellsWrong)

/-- 'ricklaw06.DiffLeads': WHATEVER THE INPUT: true; the input reads as it did. -/
def diffLeadsSpec : ChangeSpec := { name := "diffLeads", fn := fun _ => fun
  | [d1, d2] => { results := [.lit (.bool true)], args := [d1, d2] }
  | _ => none }
def diffLeadsRow : OpenClaim := { program := "ytlimfndipapfdaa", sum := "01a0db2149864716f7befcbb5bafd949f589a6d5bd563d5c7418fab428dffa6b", func := "rick/ricklaw06.DiffLeads", spec := "diffLeads", unfollowed := true, recurses := true, plainKeys := false, apart := false }
def DiffLeadsSaid : Prop := diffLeadsRow.holds Try.pinned (OpenSpec.ofChange diffLeadsSpec)

/-- ITS FALSE NEIGHBOUR: 'it returns false'. Refute it at one input. -/
def diffLeadsWrong : ChangeSpec := { name := "diffLeads", fn := fun _ => fun
  | [d1, d2] => { results := [.lit (.bool false)], args := [d1, d2] }
  | _ => none }
def DiffLeadsWrongFalsely : Prop := diffLeadsRow.holds Try.pinned (OpenSpec.ofChange diffLeadsWrong)

/-- 'ricklaw06.DiffLong': WHATEVER THE INPUT: true; the input reads as it did. -/
def diffLongSpec : ChangeSpec := { name := "diffLong", fn := fun _ => fun
  | [d1, d2, d3] => { results := [.lit (.bool true)], args := [d1, d2, d3] }
  | _ => none }
def diffLongRow : OpenClaim := { program := "ytlimfndipapfdaa", sum := "01a0db2149864716f7befcbb5bafd949f589a6d5bd563d5c7418fab428dffa6b", func := "rick/ricklaw06.DiffLong", spec := "diffLong", unfollowed := true, recurses := true, plainKeys := false, apart := false }
def DiffLongSaid : Prop := diffLongRow.holds Try.pinned (OpenSpec.ofChange diffLongSpec)

/-- ITS FALSE NEIGHBOUR: 'it returns false'. Refute it at one input. -/
def diffLongWrong : ChangeSpec := { name := "diffLong", fn := fun _ => fun
  | [d1, d2, d3] => { results := [.lit (.bool false)], args := [d1, d2, d3] }
  | _ => none }
def DiffLongWrongFalsely : Prop := diffLongRow.holds Try.pinned (OpenSpec.ofChange diffLongWrong)

/-- 'ricklaw09.ChunkTells': WHATEVER THE INPUT: true; the input reads as it did. -/
def chunkTellsSpec : ChangeSpec := { name := "chunkTells", fn := fun _ => fun
  | [d1, d2, d3, d4] => { results := [.lit (.bool true)], args := [d1, d2, d3, d4] }
  | _ => none }
def chunkTellsRow : OpenClaim := { program := "ytlimfndipapfdaa", sum := "01a0db2149864716f7befcbb5bafd949f589a6d5bd563d5c7418fab428dffa6b", func := "rick/ricklaw09.ChunkTells", spec := "chunkTells", unfollowed := true, recurses := true, plainKeys := false, apart := false }
def ChunkTellsSaid : Prop := chunkTellsRow.holds Try.pinned (OpenSpec.ofChange chunkTellsSpec)

/-- ITS FALSE NEIGHBOUR: 'it returns false'. Refute it at one input. -/
def chunkTellsWrong : ChangeSpec := { name := "chunkTells", fn := fun _ => fun
  | [d1, d2, d3, d4] => { results := [.lit (.bool false)], args := [d1, d2, d3, d4] }
  | _ => none }
def ChunkTellsWrongFalsely : Prop := chunkTellsRow.holds Try.pinned (OpenSpec.ofChange chunkTellsWrong)

/-- 'ricklaw09.ChunkWhole': WHATEVER THE INPUT: true; the input reads as it did. -/
def chunkWholeSpec : ChangeSpec := { name := "chunkWhole", fn := fun _ => fun
  | [d1, d2, d3] => { results := [.lit (.bool true)], args := [d1, d2, d3] }
  | _ => none }
def chunkWholeRow : OpenClaim := { program := "ytlimfndipapfdaa", sum := "01a0db2149864716f7befcbb5bafd949f589a6d5bd563d5c7418fab428dffa6b", func := "rick/ricklaw09.ChunkWhole", spec := "chunkWhole", unfollowed := true, recurses := true, plainKeys := false, apart := false }
def ChunkWholeSaid : Prop := chunkWholeRow.holds Try.pinned (OpenSpec.ofChange chunkWholeSpec)

/-- ITS FALSE NEIGHBOUR: 'it returns false'. Refute it at one input. -/
def chunkWholeWrong : ChangeSpec := { name := "chunkWhole", fn := fun _ => fun
  | [d1, d2, d3] => { results := [.lit (.bool false)], args := [d1, d2, d3] }
  | _ => none }
def ChunkWholeWrongFalsely : Prop := chunkWholeRow.holds Try.pinned (OpenSpec.ofChange chunkWholeWrong)

/-- 'ricklaw09.ChunkOne': WHATEVER THE INPUT: true; the input reads as it did. -/
def chunkOneSpec : ChangeSpec := { name := "chunkOne", fn := fun _ => fun
  | [d1, d2] => { results := [.lit (.bool true)], args := [d1, d2] }
  | _ => none }
def chunkOneRow : OpenClaim := { program := "ytlimfndipapfdaa", sum := "01a0db2149864716f7befcbb5bafd949f589a6d5bd563d5c7418fab428dffa6b", func := "rick/ricklaw09.ChunkOne", spec := "chunkOne", unfollowed := true, recurses := true, plainKeys := false, apart := false }
def ChunkOneSaid : Prop := chunkOneRow.holds Try.pinned (OpenSpec.ofChange chunkOneSpec)

/-- ITS FALSE NEIGHBOUR: 'it returns false'. Refute it at one input. -/
def chunkOneWrong : ChangeSpec := { name := "chunkOne", fn := fun _ => fun
  | [d1, d2] => { results := [.lit (.bool false)], args := [d1, d2] }
  | _ => none }
def ChunkOneWrongFalsely : Prop := chunkOneRow.holds Try.pinned (OpenSpec.ofChange chunkOneWrong)

/-- 'ricklaw09.ChunkTurned': WHATEVER THE INPUT: true; the input reads as it did. -/
def chunkTurnedSpec : ChangeSpec := { name := "chunkTurned", fn := fun _ => fun
  | [d1, d2, d3] => { results := [.lit (.bool true)], args := [d1, d2, d3] }
  | _ => none }
def chunkTurnedRow : OpenClaim := { program := "ytlimfndipapfdaa", sum := "01a0db2149864716f7befcbb5bafd949f589a6d5bd563d5c7418fab428dffa6b", func := "rick/ricklaw09.ChunkTurned", spec := "chunkTurned", unfollowed := true, recurses := true, plainKeys := false, apart := false }
def ChunkTurnedSaid : Prop := chunkTurnedRow.holds Try.pinned (OpenSpec.ofChange chunkTurnedSpec)

/-- ITS FALSE NEIGHBOUR: 'it returns false'. Refute it at one input. -/
def chunkTurnedWrong : ChangeSpec := { name := "chunkTurned", fn := fun _ => fun
  | [d1, d2, d3] => { results := [.lit (.bool false)], args := [d1, d2, d3] }
  | _ => none }
def ChunkTurnedWrongFalsely : Prop := chunkTurnedRow.holds Try.pinned (OpenSpec.ofChange chunkTurnedWrong)

/-- 'ricklaw09.ChunkApart': WHATEVER THE INPUT: true; the input reads as it did. -/
def chunkApartSpec : ChangeSpec := { name := "chunkApart", fn := fun _ => fun
  | [d1, d2, d3, d4, d5] => { results := [.lit (.bool true)], args := [d1, d2, d3, d4, d5] }
  | _ => none }
def chunkApartRow : OpenClaim := { program := "ytlimfndipapfdaa", sum := "01a0db2149864716f7befcbb5bafd949f589a6d5bd563d5c7418fab428dffa6b", func := "rick/ricklaw09.ChunkApart", spec := "chunkApart", unfollowed := true, recurses := true, plainKeys := false, apart := false }
def ChunkApartSaid : Prop := chunkApartRow.holds Try.pinned (OpenSpec.ofChange chunkApartSpec)

/-- ITS FALSE NEIGHBOUR: 'it returns false'. Refute it at one input. -/
def chunkApartWrong : ChangeSpec := { name := "chunkApart", fn := fun _ => fun
  | [d1, d2, d3, d4, d5] => { results := [.lit (.bool false)], args := [d1, d2, d3, d4, d5] }
  | _ => none }
def ChunkApartWrongFalsely : Prop := chunkApartRow.holds Try.pinned (OpenSpec.ofChange chunkApartWrong)

/-- 'ricklaw09.ChunkNone': WHATEVER THE INPUT: true; the input reads as it did. -/
def chunkNoneSpec : ChangeSpec := { name := "chunkNone", fn := fun _ => fun
  | [d1, d2, d3] => { results := [.lit (.bool true)], args := [d1, d2, d3] }
  | _ => none }
def chunkNoneRow : OpenClaim := { program := "ytlimfndipapfdaa", sum := "01a0db2149864716f7befcbb5bafd949f589a6d5bd563d5c7418fab428dffa6b", func := "rick/ricklaw09.ChunkNone", spec := "chunkNone", unfollowed := true, recurses := true, plainKeys := false, apart := false }
def ChunkNoneSaid : Prop := chunkNoneRow.holds Try.pinned (OpenSpec.ofChange chunkNoneSpec)

/-- ITS FALSE NEIGHBOUR: 'it returns false'. Refute it at one input. -/
def chunkNoneWrong : ChangeSpec := { name := "chunkNone", fn := fun _ => fun
  | [d1, d2, d3] => { results := [.lit (.bool false)], args := [d1, d2, d3] }
  | _ => none }
def ChunkNoneWrongFalsely : Prop := chunkNoneRow.holds Try.pinned (OpenSpec.ofChange chunkNoneWrong)

/- THE SECOND FORM. 'bulk': how many values and letters a reading holds, each counted each time it is reached (what is shared counts as often as it is met; a slice's spare places count too). A statement '..UptoSaid' is the law's where the arguments, and the package variables that the reading takes, are together of bulk at most 1048576: NARROWER than '..Said'. Prove '..Said' where nothing that the law and all that it calls make is longer than what came in: it says more and counts as full. Else prove '..UptoSaid'. A law counts once. -/
mutual
def uptoBulk {H : Type} : DataW H → Nat
  | .lit (.string bytes) => bytes.length + 1
  | .lit _ => 1
  | .nil => 1
  | .ptr d => uptoBulk d + 1
  | .slice elems spare => uptoBulkAll elems + uptoBulkAll spare + 1
  | .agg parts => uptoBulkAll parts + 1
  | .iface _ d => uptoBulk d + 1
  | .map entries => uptoBulkEntries entries + 1
  | .held _ => 1
def uptoBulkAll {H : Type} : List (DataW H) → Nat
  | [] => 0
  | d :: r => uptoBulk d + uptoBulkAll r
def uptoBulkEntries {H : Type} : List (Lit × DataW H) → Nat
  | [] => 0
  | x :: r => uptoBulkEntry x + uptoBulkEntries r
def uptoBulkEntry {H : Type} : Lit × DataW H → Nat
  | (.string bytes, d) => bytes.length + uptoBulk d + 1
  | (_, d) => uptoBulk d + 1
 end
def uptoSmall : (H : Type) → List (DataW H) → Bool := fun _ ds => decide (uptoBulkAll ds ≤ 1048576)
def OpenSpec.upto (s : _root_.Go.ChangeSpec) : _root_.Go.OpenSpec := { _root_.Go.OpenSpec.ofChange s with cond := some uptoSmall }

/-- 'ricklaw06.DiffFirst', WHERE WHAT IT READS IS OF BULK AT MOST 1048576: true; the input reads as it did. -/
def diffFirstUptoRow : OpenClaim := { program := "ytlimfndipapfdaa", sum := "01a0db2149864716f7befcbb5bafd949f589a6d5bd563d5c7418fab428dffa6b", func := "rick/ricklaw06.DiffFirst", spec := "diffFirst", unfollowed := true, recurses := true, plainKeys := false, apart := false, narrowed := true }
def DiffFirstUptoSaid : Prop := diffFirstUptoRow.holds Try.pinned (OpenSpec.upto diffFirstSpec)

/-- 'ricklaw06.DiffBoth', WHERE WHAT IT READS IS OF BULK AT MOST 1048576: true; the input reads as it did. -/
def diffBothUptoRow : OpenClaim := { program := "ytlimfndipapfdaa", sum := "01a0db2149864716f7befcbb5bafd949f589a6d5bd563d5c7418fab428dffa6b", func := "rick/ricklaw06.DiffBoth", spec := "diffBoth", unfollowed := true, recurses := true, plainKeys := false, apart := false, narrowed := true }
def DiffBothUptoSaid : Prop := diffBothUptoRow.holds Try.pinned (OpenSpec.upto diffBothSpec)

/-- 'ricklaw06.DiffSame', WHERE WHAT IT READS IS OF BULK AT MOST 1048576: true; the input reads as it did. -/
def diffSameUptoRow : OpenClaim := { program := "ytlimfndipapfdaa", sum := "01a0db2149864716f7befcbb5bafd949f589a6d5bd563d5c7418fab428dffa6b", func := "rick/ricklaw06.DiffSame", spec := "diffSame", unfollowed := true, recurses := true, plainKeys := false, apart := false, narrowed := true }
def DiffSameUptoSaid : Prop := diffSameUptoRow.holds Try.pinned (OpenSpec.upto diffSameSpec)

/-- 'ricklaw06.DiffTells', WHERE WHAT IT READS IS OF BULK AT MOST 1048576: true; the input reads as it did. -/
def diffTellsUptoRow : OpenClaim := { program := "ytlimfndipapfdaa", sum := "01a0db2149864716f7befcbb5bafd949f589a6d5bd563d5c7418fab428dffa6b", func := "rick/ricklaw06.DiffTells", spec := "diffTells", unfollowed := true, recurses := true, plainKeys := false, apart := false, narrowed := true }
def DiffTellsUptoSaid : Prop := diffTellsUptoRow.holds Try.pinned (OpenSpec.upto diffTellsSpec)

/-- 'ricklaw06.DiffLeads', WHERE WHAT IT READS IS OF BULK AT MOST 1048576: true; the input reads as it did. -/
def diffLeadsUptoRow : OpenClaim := { program := "ytlimfndipapfdaa", sum := "01a0db2149864716f7befcbb5bafd949f589a6d5bd563d5c7418fab428dffa6b", func := "rick/ricklaw06.DiffLeads", spec := "diffLeads", unfollowed := true, recurses := true, plainKeys := false, apart := false, narrowed := true }
def DiffLeadsUptoSaid : Prop := diffLeadsUptoRow.holds Try.pinned (OpenSpec.upto diffLeadsSpec)

/-- 'ricklaw06.DiffLong', WHERE WHAT IT READS IS OF BULK AT MOST 1048576: true; the input reads as it did. -/
def diffLongUptoRow : OpenClaim := { program := "ytlimfndipapfdaa", sum := "01a0db2149864716f7befcbb5bafd949f589a6d5bd563d5c7418fab428dffa6b", func := "rick/ricklaw06.DiffLong", spec := "diffLong", unfollowed := true, recurses := true, plainKeys := false, apart := false, narrowed := true }
def DiffLongUptoSaid : Prop := diffLongUptoRow.holds Try.pinned (OpenSpec.upto diffLongSpec)

/-- 'ricklaw09.ChunkTells', WHERE WHAT IT READS IS OF BULK AT MOST 1048576: true; the input reads as it did. -/
def chunkTellsUptoRow : OpenClaim := { program := "ytlimfndipapfdaa", sum := "01a0db2149864716f7befcbb5bafd949f589a6d5bd563d5c7418fab428dffa6b", func := "rick/ricklaw09.ChunkTells", spec := "chunkTells", unfollowed := true, recurses := true, plainKeys := false, apart := false, narrowed := true }
def ChunkTellsUptoSaid : Prop := chunkTellsUptoRow.holds Try.pinned (OpenSpec.upto chunkTellsSpec)

/-- 'ricklaw09.ChunkWhole', WHERE WHAT IT READS IS OF BULK AT MOST 1048576: true; the input reads as it did. -/
def chunkWholeUptoRow : OpenClaim := { program := "ytlimfndipapfdaa", sum := "01a0db2149864716f7befcbb5bafd949f589a6d5bd563d5c7418fab428dffa6b", func := "rick/ricklaw09.ChunkWhole", spec := "chunkWhole", unfollowed := true, recurses := true, plainKeys := false, apart := false, narrowed := true }
def ChunkWholeUptoSaid : Prop := chunkWholeUptoRow.holds Try.pinned (OpenSpec.upto chunkWholeSpec)

/-- 'ricklaw09.ChunkOne', WHERE WHAT IT READS IS OF BULK AT MOST 1048576: true; the input reads as it did. -/
def chunkOneUptoRow : OpenClaim := { program := "ytlimfndipapfdaa", sum := "01a0db2149864716f7befcbb5bafd949f589a6d5bd563d5c7418fab428dffa6b", func := "rick/ricklaw09.ChunkOne", spec := "chunkOne", unfollowed := true, recurses := true, plainKeys := false, apart := false, narrowed := true }
def ChunkOneUptoSaid : Prop := chunkOneUptoRow.holds Try.pinned (OpenSpec.upto chunkOneSpec)

/-- 'ricklaw09.ChunkTurned', WHERE WHAT IT READS IS OF BULK AT MOST 1048576: true; the input reads as it did. -/
def chunkTurnedUptoRow : OpenClaim := { program := "ytlimfndipapfdaa", sum := "01a0db2149864716f7befcbb5bafd949f589a6d5bd563d5c7418fab428dffa6b", func := "rick/ricklaw09.ChunkTurned", spec := "chunkTurned", unfollowed := true, recurses := true, plainKeys := false, apart := false, narrowed := true }
def ChunkTurnedUptoSaid : Prop := chunkTurnedUptoRow.holds Try.pinned (OpenSpec.upto chunkTurnedSpec)

/-- 'ricklaw09.ChunkApart', WHERE WHAT IT READS IS OF BULK AT MOST 1048576: true; the input reads as it did. -/
def chunkApartUptoRow : OpenClaim := { program := "ytlimfndipapfdaa", sum := "01a0db2149864716f7befcbb5bafd949f589a6d5bd563d5c7418fab428dffa6b", func := "rick/ricklaw09.ChunkApart", spec := "chunkApart", unfollowed := true, recurses := true, plainKeys := false, apart := false, narrowed := true }
def ChunkApartUptoSaid : Prop := chunkApartUptoRow.holds Try.pinned (OpenSpec.upto chunkApartSpec)

/-- 'ricklaw09.ChunkNone', WHERE WHAT IT READS IS OF BULK AT MOST 1048576: true; the input reads as it did. -/
def chunkNoneUptoRow : OpenClaim := { program := "ytlimfndipapfdaa", sum := "01a0db2149864716f7befcbb5bafd949f589a6d5bd563d5c7418fab428dffa6b", func := "rick/ricklaw09.ChunkNone", spec := "chunkNone", unfollowed := true, recurses := true, plainKeys := false, apart := false, narrowed := true }
def ChunkNoneUptoSaid : Prop := chunkNoneUptoRow.holds Try.pinned (OpenSpec.upto chunkNoneSpec)

end Rows
end Go.Proofs.Ytlimfndipapfdaa
