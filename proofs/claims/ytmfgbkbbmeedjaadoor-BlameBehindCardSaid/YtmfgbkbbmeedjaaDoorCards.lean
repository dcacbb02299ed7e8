/-
  DERIVED. GIVEN WITH THE SEED: THE CARDS: each row of YtmfgbkbbmeedjaaDoorRows.lean that lists a variable, with what it lists TIED to the program's text (the seventh form; the later family's looks); each row that meets fmt, with fmt's text TOLD by the authors' own Lean function (tested against real Go, not proved from fmt's source: count such statements apart). THE CARD IS WHAT COUNTS. Prove the row's statement (the work); the ties are given (YtmfgbkbbmeedjaaDoorTie.lean); close each card by the builder's one call (the guide's Derived/Test/ToyasCard.lean, 'card_holds'). Laid BY PROGRAM, IN A SANDBOX (cutbox-door.mjs). By AI agents, Wed Nov 11 2026. No macro, syntax, notation, axiom, sorry.
-/
import Derived.Test.YtmfgbkbbmeedjaaDoorRows
import GoSem.ClaimSeven
namespace Go.Proofs.YtmfgbkbbmeedjaaDoor
namespace Rows

/-- THE TIED CARD OF 'ricklaw11.PathParts'. -/
def pathPartsCard : Claim7 := { stood := { row := pathPartsRow, standIns := [], harness := (true, "ec0c56bd7e03806af32d8e8f11445477be0d50d9fd104468d15e284cfae17ac3"), looks := false }, kinds := [], alts := [], laidByText := true, laidKinds := [.data, .pinned], laidTests := true, laidLooks := .later }
def PathPartsCardSaid : Prop := Claim7.holds Tryd.pinned (.plain (OpenSpec.ofChange pathPartsSpec)) pathPartsCard

/-- THE TIED CARD OF 'ricklaw11.PathBytes'. -/
def pathBytesCard : Claim7 := { stood := { row := pathBytesRow, standIns := [], harness := (true, "ec0c56bd7e03806af32d8e8f11445477be0d50d9fd104468d15e284cfae17ac3"), looks := false }, kinds := [], alts := [], laidByText := true, laidKinds := [.data, .pinned], laidTests := true, laidLooks := .later }
def PathBytesCardSaid : Prop := Claim7.holds Tryd.pinned (.plain (OpenSpec.ofChange pathBytesSpec)) pathBytesCard

/-- THE TIED CARD OF 'ricklaw11.PathTells'. -/
def pathTellsCard : Claim7 := { stood := { row := pathTellsRow, standIns := [], harness := (true, "ec0c56bd7e03806af32d8e8f11445477be0d50d9fd104468d15e284cfae17ac3"), looks := false }, kinds := [], alts := [], laidByText := true, laidKinds := [.data, .pinned], laidTests := true, laidLooks := .later }
def PathTellsCardSaid : Prop := Claim7.holds Tryd.pinned (.plain (OpenSpec.ofChange pathTellsSpec)) pathTellsCard

/-- THE TIED CARD OF 'ricklaw11.PathClash'. -/
def pathClashCard : Claim7 := { stood := { row := pathClashRow, standIns := [], harness := (true, "ec0c56bd7e03806af32d8e8f11445477be0d50d9fd104468d15e284cfae17ac3"), looks := false }, kinds := [], alts := [], laidByText := true, laidKinds := [.data, .pinned], laidTests := true, laidLooks := .later }
def PathClashCardSaid : Prop := Claim7.holds Tryd.pinned (.plain (OpenSpec.ofChange pathClashSpec)) pathClashCard

/-- THE TIED CARD OF 'ricklaw05.LinesEnds'. -/
def linesEndsCard : Claim7 := { stood := { row := linesEndsRow, standIns := [], harness := (true, "ec0c56bd7e03806af32d8e8f11445477be0d50d9fd104468d15e284cfae17ac3"), looks := false }, kinds := [], alts := [], laidByText := true, laidKinds := [.data, .pinned], laidTests := true, laidLooks := .later }
def LinesEndsCardSaid : Prop := Claim7.holds Tryd.pinned (.plain (OpenSpec.ofChange linesEndsSpec)) linesEndsCard

/-- THE TIED CARD OF 'ricklaw05.LinesTell'. -/
def linesTellCard : Claim7 := { stood := { row := linesTellRow, standIns := [], harness := (true, "ec0c56bd7e03806af32d8e8f11445477be0d50d9fd104468d15e284cfae17ac3"), looks := false }, kinds := [], alts := [], laidByText := true, laidKinds := [.data, .pinned], laidTests := true, laidLooks := .later }
def LinesTellCardSaid : Prop := Claim7.holds Tryd.pinned (.plain (OpenSpec.ofChange linesTellSpec)) linesTellCard

/-- THE TIED CARD OF 'ricklaw05.LinesBack'. -/
def linesBackCard : Claim7 := { stood := { row := linesBackRow, standIns := [], harness := (true, "ec0c56bd7e03806af32d8e8f11445477be0d50d9fd104468d15e284cfae17ac3"), looks := false }, kinds := [], alts := [], laidByText := true, laidKinds := [.data, .pinned], laidTests := true, laidLooks := .later }
def LinesBackCardSaid : Prop := Claim7.holds Tryd.pinned (.plain (OpenSpec.ofChange linesBackSpec)) linesBackCard

/-- THE TIED CARD OF 'ricklaw05.LinesParts'. -/
def linesPartsCard : Claim7 := { stood := { row := linesPartsRow, standIns := [], harness := (true, "ec0c56bd7e03806af32d8e8f11445477be0d50d9fd104468d15e284cfae17ac3"), looks := false }, kinds := [], alts := [], laidByText := true, laidKinds := [.data, .pinned], laidTests := true, laidLooks := .later }
def LinesPartsCardSaid : Prop := Claim7.holds Tryd.pinned (.plain (OpenSpec.ofChange linesPartsSpec)) linesPartsCard

/-- THE TIED CARD OF 'ricklaw08.BlameTells'. -/
def blameTellsCard : Claim7 := { stood := { row := blameTellsRow, standIns := [], harness := (true, "ec0c56bd7e03806af32d8e8f11445477be0d50d9fd104468d15e284cfae17ac3"), looks := false }, kinds := [], alts := [], laidByText := true, laidKinds := [.data, .pinned], laidTests := true, laidLooks := .later }
def BlameTellsCardSaid : Prop := Claim7.holds Tryd.pinned (.plain (OpenSpec.ofChange blameTellsSpec)) blameTellsCard

/-- THE TIED CARD OF 'ricklaw08.BlameStays'. -/
def blameStaysCard : Claim7 := { stood := { row := blameStaysRow, standIns := [], harness := (true, "ec0c56bd7e03806af32d8e8f11445477be0d50d9fd104468d15e284cfae17ac3"), looks := false }, kinds := [], alts := [], laidByText := true, laidKinds := [.data, .pinned], laidTests := true, laidLooks := .later }
def BlameStaysCardSaid : Prop := Claim7.holds Tryd.pinned (.plain (OpenSpec.ofChange blameStaysSpec)) blameStaysCard

/-- THE TIED CARD OF 'ricklaw08.BlameBehind'. -/
def blameBehindCard : Claim7 := { stood := { row := blameBehindRow, standIns := [], harness := (true, "ec0c56bd7e03806af32d8e8f11445477be0d50d9fd104468d15e284cfae17ac3"), looks := false }, kinds := [], alts := [], laidByText := true, laidKinds := [.data, .pinned], laidTests := true, laidLooks := .later }
def BlameBehindCardSaid : Prop := Claim7.holds Tryd.pinned (.plain (OpenSpec.ofChange blameBehindSpec)) blameBehindCard

/-- THE SECOND FORM's CARD OF 'ricklaw11.PathParts'. -/
def pathPartsUptoCard : Claim7 := { stood := { row := pathPartsUptoRow, standIns := [], harness := (true, "ec0c56bd7e03806af32d8e8f11445477be0d50d9fd104468d15e284cfae17ac3"), looks := false }, kinds := [], alts := [], laidByText := true, laidKinds := [.data, .pinned], laidTests := true, laidLooks := .later }
def PathPartsUptoCardSaid : Prop := Claim7.holds Tryd.pinned (.plain (OpenSpec.upto pathPartsSpec)) pathPartsUptoCard

/-- THE SECOND FORM's CARD OF 'ricklaw11.PathBytes'. -/
def pathBytesUptoCard : Claim7 := { stood := { row := pathBytesUptoRow, standIns := [], harness := (true, "ec0c56bd7e03806af32d8e8f11445477be0d50d9fd104468d15e284cfae17ac3"), looks := false }, kinds := [], alts := [], laidByText := true, laidKinds := [.data, .pinned], laidTests := true, laidLooks := .later }
def PathBytesUptoCardSaid : Prop := Claim7.holds Tryd.pinned (.plain (OpenSpec.upto pathBytesSpec)) pathBytesUptoCard

/-- THE SECOND FORM's CARD OF 'ricklaw11.PathTells'. -/
def pathTellsUptoCard : Claim7 := { stood := { row := pathTellsUptoRow, standIns := [], harness := (true, "ec0c56bd7e03806af32d8e8f11445477be0d50d9fd104468d15e284cfae17ac3"), looks := false }, kinds := [], alts := [], laidByText := true, laidKinds := [.data, .pinned], laidTests := true, laidLooks := .later }
def PathTellsUptoCardSaid : Prop := Claim7.holds Tryd.pinned (.plain (OpenSpec.upto pathTellsSpec)) pathTellsUptoCard

/-- THE SECOND FORM's CARD OF 'ricklaw11.PathClash'. -/
def pathClashUptoCard : Claim7 := { stood := { row := pathClashUptoRow, standIns := [], harness := (true, "ec0c56bd7e03806af32d8e8f11445477be0d50d9fd104468d15e284cfae17ac3"), looks := false }, kinds := [], alts := [], laidByText := true, laidKinds := [.data, .pinned], laidTests := true, laidLooks := .later }
def PathClashUptoCardSaid : Prop := Claim7.holds Tryd.pinned (.plain (OpenSpec.upto pathClashSpec)) pathClashUptoCard

/-- THE SECOND FORM's CARD OF 'ricklaw05.LinesEnds'. -/
def linesEndsUptoCard : Claim7 := { stood := { row := linesEndsUptoRow, standIns := [], harness := (true, "ec0c56bd7e03806af32d8e8f11445477be0d50d9fd104468d15e284cfae17ac3"), looks := false }, kinds := [], alts := [], laidByText := true, laidKinds := [.data, .pinned], laidTests := true, laidLooks := .later }
def LinesEndsUptoCardSaid : Prop := Claim7.holds Tryd.pinned (.plain (OpenSpec.upto linesEndsSpec)) linesEndsUptoCard

/-- THE SECOND FORM's CARD OF 'ricklaw05.LinesTell'. -/
def linesTellUptoCard : Claim7 := { stood := { row := linesTellUptoRow, standIns := [], harness := (true, "ec0c56bd7e03806af32d8e8f11445477be0d50d9fd104468d15e284cfae17ac3"), looks := false }, kinds := [], alts := [], laidByText := true, laidKinds := [.data, .pinned], laidTests := true, laidLooks := .later }
def LinesTellUptoCardSaid : Prop := Claim7.holds Tryd.pinned (.plain (OpenSpec.upto linesTellSpec)) linesTellUptoCard

/-- THE SECOND FORM's CARD OF 'ricklaw05.LinesBack'. -/
def linesBackUptoCard : Claim7 := { stood := { row := linesBackUptoRow, standIns := [], harness := (true, "ec0c56bd7e03806af32d8e8f11445477be0d50d9fd104468d15e284cfae17ac3"), looks := false }, kinds := [], alts := [], laidByText := true, laidKinds := [.data, .pinned], laidTests := true, laidLooks := .later }
def LinesBackUptoCardSaid : Prop := Claim7.holds Tryd.pinned (.plain (OpenSpec.upto linesBackSpec)) linesBackUptoCard

/-- THE SECOND FORM's CARD OF 'ricklaw05.LinesParts'. -/
def linesPartsUptoCard : Claim7 := { stood := { row := linesPartsUptoRow, standIns := [], harness := (true, "ec0c56bd7e03806af32d8e8f11445477be0d50d9fd104468d15e284cfae17ac3"), looks := false }, kinds := [], alts := [], laidByText := true, laidKinds := [.data, .pinned], laidTests := true, laidLooks := .later }
def LinesPartsUptoCardSaid : Prop := Claim7.holds Tryd.pinned (.plain (OpenSpec.upto linesPartsSpec)) linesPartsUptoCard

/-- THE SECOND FORM's CARD OF 'ricklaw08.BlameTells'. -/
def blameTellsUptoCard : Claim7 := { stood := { row := blameTellsUptoRow, standIns := [], harness := (true, "ec0c56bd7e03806af32d8e8f11445477be0d50d9fd104468d15e284cfae17ac3"), looks := false }, kinds := [], alts := [], laidByText := true, laidKinds := [.data, .pinned], laidTests := true, laidLooks := .later }
def BlameTellsUptoCardSaid : Prop := Claim7.holds Tryd.pinned (.plain (OpenSpec.upto blameTellsSpec)) blameTellsUptoCard

/-- THE SECOND FORM's CARD OF 'ricklaw08.BlameStays'. -/
def blameStaysUptoCard : Claim7 := { stood := { row := blameStaysUptoRow, standIns := [], harness := (true, "ec0c56bd7e03806af32d8e8f11445477be0d50d9fd104468d15e284cfae17ac3"), looks := false }, kinds := [], alts := [], laidByText := true, laidKinds := [.data, .pinned], laidTests := true, laidLooks := .later }
def BlameStaysUptoCardSaid : Prop := Claim7.holds Tryd.pinned (.plain (OpenSpec.upto blameStaysSpec)) blameStaysUptoCard

/-- THE SECOND FORM's CARD OF 'ricklaw08.BlameBehind'. -/
def blameBehindUptoCard : Claim7 := { stood := { row := blameBehindUptoRow, standIns := [], harness := (true, "ec0c56bd7e03806af32d8e8f11445477be0d50d9fd104468d15e284cfae17ac3"), looks := false }, kinds := [], alts := [], laidByText := true, laidKinds := [.data, .pinned], laidTests := true, laidLooks := .later }
def BlameBehindUptoCardSaid : Prop := Claim7.holds Tryd.pinned (.plain (OpenSpec.upto blameBehindSpec)) blameBehindUptoCard
end Rows
end Go.Proofs.YtmfgbkbbmeedjaaDoor
