/-
  DERIVED. GIVEN WITH THE SEED: THE CARDS: each row of YtakgddochbcjbaaDoorRows.lean that lists a variable, with what it lists TIED to the program's text (the seventh form; the later family's looks); each row that meets fmt, with fmt's text TOLD by the authors' own Lean function (tested against real Go, not proved from fmt's source: count such statements apart). THE CARD IS WHAT COUNTS. Prove the row's statement (the work); the ties are given (YtakgddochbcjbaaDoorTie.lean); close each card by the builder's one call (the guide's Derived/Test/ToyasCard.lean, 'card_holds'). Laid BY PROGRAM, IN A SANDBOX (cutbox-door.mjs). By AI agents, Wed Nov 11 2026. No macro, syntax, notation, axiom, sorry.
-/
import Derived.Test.YtakgddochbcjbaaDoorRows
import GoSem.ClaimSeven
namespace Go.Proofs.YtakgddochbcjbaaDoor
namespace Rows

/-- THE TIED CARD OF 'ricklaw10.MergeOne'. -/
def mergeOneCard : Claim7 := { stood := { row := mergeOneRow, standIns := [], harness := (true, "fe60730975bba9c5a85827aa7eea55b63f58e58c58c93a0cf8f433f65b5ec86c"), looks := false }, kinds := [], alts := [], laidByText := true, laidKinds := [.data, .pinned], laidTests := true, laidLooks := .later }
def MergeOneCardSaid : Prop := Claim7.holds Tryd.pinned (.plain (OpenSpec.ofChange mergeOneSpec)) mergeOneCard

/-- THE TIED CARD OF 'ricklaw10.MergeMarks'. -/
def mergeMarksCard : Claim7 := { stood := { row := mergeMarksRow, standIns := [], harness := (true, "fe60730975bba9c5a85827aa7eea55b63f58e58c58c93a0cf8f433f65b5ec86c"), looks := false }, kinds := [], alts := [], laidByText := true, laidKinds := [.data, .pinned], laidTests := true, laidLooks := .later }
def MergeMarksCardSaid : Prop := Claim7.holds Tryd.pinned (.plain (OpenSpec.ofChange mergeMarksSpec)) mergeMarksCard

/-- THE TIED CARD OF 'ricklaw10.MergeClashes'. -/
def mergeClashesCard : Claim7 := { stood := { row := mergeClashesRow, standIns := [], harness := (true, "fe60730975bba9c5a85827aa7eea55b63f58e58c58c93a0cf8f433f65b5ec86c"), looks := false }, kinds := [], alts := [], laidByText := true, laidKinds := [.data, .pinned], laidTests := true, laidLooks := .later }
def MergeClashesCardSaid : Prop := Claim7.holds Tryd.pinned (.plain (OpenSpec.ofChange mergeClashesSpec)) mergeClashesCard

/-- THE TIED CARD OF 'ricklaw10.MergeTells'. -/
def mergeTellsCard : Claim7 := { stood := { row := mergeTellsRow, standIns := [], harness := (true, "fe60730975bba9c5a85827aa7eea55b63f58e58c58c93a0cf8f433f65b5ec86c"), looks := false }, kinds := [], alts := [], laidByText := true, laidKinds := [.data, .pinned], laidTests := true, laidLooks := .later }
def MergeTellsCardSaid : Prop := Claim7.holds Tryd.pinned (.plain (OpenSpec.ofChange mergeTellsSpec)) mergeTellsCard

/-- THE TIED CARD OF 'ricklaw10.MergeParse'. -/
def mergeParseCard : Claim7 := { stood := { row := mergeParseRow, standIns := [], harness := (true, "fe60730975bba9c5a85827aa7eea55b63f58e58c58c93a0cf8f433f65b5ec86c"), looks := false }, kinds := [], alts := [], laidByText := true, laidKinds := [.data, .pinned], laidTests := true, laidLooks := .later }
def MergeParseCardSaid : Prop := Claim7.holds Tryd.pinned (.plain (OpenSpec.ofChange mergeParseSpec)) mergeParseCard

/-- THE TIED CARD OF 'ricklaw13.SimilarRatio'. -/
def similarRatioCard : Claim7 := { stood := { row := similarRatioRow, standIns := [], harness := (true, "fe60730975bba9c5a85827aa7eea55b63f58e58c58c93a0cf8f433f65b5ec86c"), looks := false }, kinds := [], alts := [], laidByText := true, laidKinds := [.data, .pinned], laidTests := true, laidLooks := .later }
def SimilarRatioCardSaid : Prop := Claim7.holds Tryd.pinned (.plain (OpenSpec.ofChange similarRatioSpec)) similarRatioCard

/-- THE TIED CARD OF 'ricklaw13.SimilarRenames'. -/
def similarRenamesCard : Claim7 := { stood := { row := similarRenamesRow, standIns := [], harness := (true, "fe60730975bba9c5a85827aa7eea55b63f58e58c58c93a0cf8f433f65b5ec86c"), looks := false }, kinds := [], alts := [], laidByText := true, laidKinds := [.data, .pinned], laidTests := true, laidLooks := .later }
def SimilarRenamesCardSaid : Prop := Claim7.holds Tryd.pinned (.plain (OpenSpec.ofChange similarRenamesSpec)) similarRenamesCard

/-- THE TIED CARD OF 'ricklaw13.SimilarMoved'. -/
def similarMovedCard : Claim7 := { stood := { row := similarMovedRow, standIns := [], harness := (true, "fe60730975bba9c5a85827aa7eea55b63f58e58c58c93a0cf8f433f65b5ec86c"), looks := false }, kinds := [], alts := [], laidByText := true, laidKinds := [.data, .pinned], laidTests := true, laidLooks := .later }
def SimilarMovedCardSaid : Prop := Claim7.holds Tryd.pinned (.plain (OpenSpec.ofChange similarMovedSpec)) similarMovedCard

/-- THE TIED CARD OF 'ricklaw13.SimilarHalf'. -/
def similarHalfCard : Claim7 := { stood := { row := similarHalfRow, standIns := [], harness := (true, "fe60730975bba9c5a85827aa7eea55b63f58e58c58c93a0cf8f433f65b5ec86c"), looks := false }, kinds := [], alts := [], laidByText := true, laidKinds := [.data, .pinned], laidTests := true, laidLooks := .later }
def SimilarHalfCardSaid : Prop := Claim7.holds Tryd.pinned (.plain (OpenSpec.ofChange similarHalfSpec)) similarHalfCard

/-- THE SECOND FORM's CARD OF 'ricklaw10.MergeOne'. -/
def mergeOneUptoCard : Claim7 := { stood := { row := mergeOneUptoRow, standIns := [], harness := (true, "fe60730975bba9c5a85827aa7eea55b63f58e58c58c93a0cf8f433f65b5ec86c"), looks := false }, kinds := [], alts := [], laidByText := true, laidKinds := [.data, .pinned], laidTests := true, laidLooks := .later }
def MergeOneUptoCardSaid : Prop := Claim7.holds Tryd.pinned (.plain (OpenSpec.upto mergeOneSpec)) mergeOneUptoCard

/-- THE SECOND FORM's CARD OF 'ricklaw10.MergeMarks'. -/
def mergeMarksUptoCard : Claim7 := { stood := { row := mergeMarksUptoRow, standIns := [], harness := (true, "fe60730975bba9c5a85827aa7eea55b63f58e58c58c93a0cf8f433f65b5ec86c"), looks := false }, kinds := [], alts := [], laidByText := true, laidKinds := [.data, .pinned], laidTests := true, laidLooks := .later }
def MergeMarksUptoCardSaid : Prop := Claim7.holds Tryd.pinned (.plain (OpenSpec.upto mergeMarksSpec)) mergeMarksUptoCard

/-- THE SECOND FORM's CARD OF 'ricklaw10.MergeClashes'. -/
def mergeClashesUptoCard : Claim7 := { stood := { row := mergeClashesUptoRow, standIns := [], harness := (true, "fe60730975bba9c5a85827aa7eea55b63f58e58c58c93a0cf8f433f65b5ec86c"), looks := false }, kinds := [], alts := [], laidByText := true, laidKinds := [.data, .pinned], laidTests := true, laidLooks := .later }
def MergeClashesUptoCardSaid : Prop := Claim7.holds Tryd.pinned (.plain (OpenSpec.upto mergeClashesSpec)) mergeClashesUptoCard

/-- THE SECOND FORM's CARD OF 'ricklaw10.MergeTells'. -/
def mergeTellsUptoCard : Claim7 := { stood := { row := mergeTellsUptoRow, standIns := [], harness := (true, "fe60730975bba9c5a85827aa7eea55b63f58e58c58c93a0cf8f433f65b5ec86c"), looks := false }, kinds := [], alts := [], laidByText := true, laidKinds := [.data, .pinned], laidTests := true, laidLooks := .later }
def MergeTellsUptoCardSaid : Prop := Claim7.holds Tryd.pinned (.plain (OpenSpec.upto mergeTellsSpec)) mergeTellsUptoCard

/-- THE SECOND FORM's CARD OF 'ricklaw10.MergeParse'. -/
def mergeParseUptoCard : Claim7 := { stood := { row := mergeParseUptoRow, standIns := [], harness := (true, "fe60730975bba9c5a85827aa7eea55b63f58e58c58c93a0cf8f433f65b5ec86c"), looks := false }, kinds := [], alts := [], laidByText := true, laidKinds := [.data, .pinned], laidTests := true, laidLooks := .later }
def MergeParseUptoCardSaid : Prop := Claim7.holds Tryd.pinned (.plain (OpenSpec.upto mergeParseSpec)) mergeParseUptoCard

/-- THE SECOND FORM's CARD OF 'ricklaw13.SimilarRatio'. -/
def similarRatioUptoCard : Claim7 := { stood := { row := similarRatioUptoRow, standIns := [], harness := (true, "fe60730975bba9c5a85827aa7eea55b63f58e58c58c93a0cf8f433f65b5ec86c"), looks := false }, kinds := [], alts := [], laidByText := true, laidKinds := [.data, .pinned], laidTests := true, laidLooks := .later }
def SimilarRatioUptoCardSaid : Prop := Claim7.holds Tryd.pinned (.plain (OpenSpec.upto similarRatioSpec)) similarRatioUptoCard

/-- THE SECOND FORM's CARD OF 'ricklaw13.SimilarRenames'. -/
def similarRenamesUptoCard : Claim7 := { stood := { row := similarRenamesUptoRow, standIns := [], harness := (true, "fe60730975bba9c5a85827aa7eea55b63f58e58c58c93a0cf8f433f65b5ec86c"), looks := false }, kinds := [], alts := [], laidByText := true, laidKinds := [.data, .pinned], laidTests := true, laidLooks := .later }
def SimilarRenamesUptoCardSaid : Prop := Claim7.holds Tryd.pinned (.plain (OpenSpec.upto similarRenamesSpec)) similarRenamesUptoCard

/-- THE SECOND FORM's CARD OF 'ricklaw13.SimilarMoved'. -/
def similarMovedUptoCard : Claim7 := { stood := { row := similarMovedUptoRow, standIns := [], harness := (true, "fe60730975bba9c5a85827aa7eea55b63f58e58c58c93a0cf8f433f65b5ec86c"), looks := false }, kinds := [], alts := [], laidByText := true, laidKinds := [.data, .pinned], laidTests := true, laidLooks := .later }
def SimilarMovedUptoCardSaid : Prop := Claim7.holds Tryd.pinned (.plain (OpenSpec.upto similarMovedSpec)) similarMovedUptoCard

/-- THE SECOND FORM's CARD OF 'ricklaw13.SimilarHalf'. -/
def similarHalfUptoCard : Claim7 := { stood := { row := similarHalfUptoRow, standIns := [], harness := (true, "fe60730975bba9c5a85827aa7eea55b63f58e58c58c93a0cf8f433f65b5ec86c"), looks := false }, kinds := [], alts := [], laidByText := true, laidKinds := [.data, .pinned], laidTests := true, laidLooks := .later }
def SimilarHalfUptoCardSaid : Prop := Claim7.holds Tryd.pinned (.plain (OpenSpec.upto similarHalfSpec)) similarHalfUptoCard
end Rows
end Go.Proofs.YtakgddochbcjbaaDoor
