/-
  DERIVED. GIVEN WITH THE SEED: THE CARDS: each row of YtkdffcoofijhkaaDoorRows.lean that lists a variable, with what it lists TIED to the program's text (the seventh form; the later family's looks); each row that meets fmt, with fmt's text TOLD by the authors' own Lean function (tested against real Go, not proved from fmt's source: count such statements apart). THE CARD IS WHAT COUNTS. Prove the row's statement (the work); the ties are given (YtkdffcoofijhkaaDoorTie.lean); close each card by the builder's one call (the guide's Derived/Test/ToyasCard.lean, 'card_holds'). Laid BY PROGRAM, IN A SANDBOX (cutbox-door.mjs). By AI agents, Wed Nov 11 2026. No macro, syntax, notation, axiom, sorry.
-/
import Derived.Test.YtkdffcoofijhkaaDoorRows
import GoSem.ClaimSeven
namespace Go.Proofs.YtkdffcoofijhkaaDoor
namespace Rows

/-- THE TIED CARD OF 'limewashlaw07.FaceFan'. -/
def faceFanCard : Claim7 := { stood := { row := faceFanRow, standIns := [], harness := (true, "622dae4e5d5a2dbcb2ea75632e445ee87704d2a6120d78032f3675122524738c"), looks := true }, kinds := [], alts := [], laidByText := true, laidKinds := [.data, .data, .data, .data, .sentinel, .sentinel, .pinned], laidTests := true, laidLooks := .later }
def FaceFanCardSaid : Prop := Claim7.holds Tryd.pinned (.plain (OpenSpec.ofChange faceFanSpec)) faceFanCard

/-- THE TIED CARD OF 'limewashlaw07.FaceEach'. -/
def faceEachCard : Claim7 := { stood := { row := faceEachRow, standIns := [], harness := (true, "622dae4e5d5a2dbcb2ea75632e445ee87704d2a6120d78032f3675122524738c"), looks := true }, kinds := [], alts := [], laidByText := true, laidKinds := [.data, .data, .data, .data, .sentinel, .sentinel, .pinned], laidTests := true, laidLooks := .later }
def FaceEachCardSaid : Prop := Claim7.holds Tryd.pinned (.plain (OpenSpec.ofChange faceEachSpec)) faceEachCard

/-- THE TIED CARD OF 'limewashlaw05.ScanDoes'. -/
def scanDoesCard : Claim7 := { stood := { row := scanDoesRow, standIns := [], harness := (true, "622dae4e5d5a2dbcb2ea75632e445ee87704d2a6120d78032f3675122524738c"), looks := true }, kinds := [], alts := [], laidByText := true, laidKinds := [.data, .data, .data, .data, .sentinel, .sentinel, .pinned], laidTests := true, laidLooks := .later }
def ScanDoesCardSaid : Prop := Claim7.holds Tryd.pinned (.plain (OpenSpec.ofChange scanDoesSpec)) scanDoesCard

/-- THE TIED CARD OF 'limewashlaw05.ScanBack'. -/
def scanBackCard : Claim7 := { stood := { row := scanBackRow, standIns := [], harness := (true, "622dae4e5d5a2dbcb2ea75632e445ee87704d2a6120d78032f3675122524738c"), looks := true }, kinds := [], alts := [], laidByText := true, laidKinds := [.data, .data, .data, .data, .sentinel, .sentinel, .pinned], laidTests := true, laidLooks := .later }
def ScanBackCardSaid : Prop := Claim7.holds Tryd.pinned (.plain (OpenSpec.ofChange scanBackSpec)) scanBackCard

/-- THE TIED CARD OF 'limewashlaw05.ScanMore'. -/
def scanMoreCard : Claim7 := { stood := { row := scanMoreRow, standIns := [], harness := (true, "622dae4e5d5a2dbcb2ea75632e445ee87704d2a6120d78032f3675122524738c"), looks := true }, kinds := [], alts := [], laidByText := true, laidKinds := [.data, .data, .data, .data, .sentinel, .sentinel, .pinned], laidTests := true, laidLooks := .later }
def ScanMoreCardSaid : Prop := Claim7.holds Tryd.pinned (.plain (OpenSpec.ofChange scanMoreSpec)) scanMoreCard

/-- THE TIED CARD OF 'limewashlaw05.ScanSides'. -/
def scanSidesCard : Claim7 := { stood := { row := scanSidesRow, standIns := [], harness := (true, "622dae4e5d5a2dbcb2ea75632e445ee87704d2a6120d78032f3675122524738c"), looks := true }, kinds := [], alts := [], laidByText := true, laidKinds := [.data, .data, .data, .data, .sentinel, .sentinel, .pinned], laidTests := true, laidLooks := .later }
def ScanSidesCardSaid : Prop := Claim7.holds Tryd.pinned (.plain (OpenSpec.ofChange scanSidesSpec)) scanSidesCard

/-- THE TIED CARD OF 'limewashlaw05.ScanWhole'. -/
def scanWholeCard : Claim7 := { stood := { row := scanWholeRow, standIns := [], harness := (true, "622dae4e5d5a2dbcb2ea75632e445ee87704d2a6120d78032f3675122524738c"), looks := true }, kinds := [], alts := [], laidByText := true, laidKinds := [.data, .data, .data, .data, .sentinel, .sentinel, .pinned], laidTests := true, laidLooks := .later }
def ScanWholeCardSaid : Prop := Claim7.holds Tryd.pinned (.plain (OpenSpec.ofChange scanWholeSpec)) scanWholeCard

/-- THE TIED CARD OF 'limewashlaw07.FaceDoes'. -/
def faceDoesCard : Claim7 := { stood := { row := faceDoesRow, standIns := [], harness := (true, "622dae4e5d5a2dbcb2ea75632e445ee87704d2a6120d78032f3675122524738c"), looks := true }, kinds := [], alts := [], laidByText := true, laidKinds := [.data, .data, .data, .data, .sentinel, .sentinel, .pinned], laidTests := true, laidLooks := .later }
def FaceDoesCardSaid : Prop := Claim7.holds Tryd.pinned (.plain (OpenSpec.ofChange faceDoesSpec)) faceDoesCard

/-- THE TIED CARD OF 'limewashlaw07.FaceBack'. -/
def faceBackCard : Claim7 := { stood := { row := faceBackRow, standIns := [], harness := (true, "622dae4e5d5a2dbcb2ea75632e445ee87704d2a6120d78032f3675122524738c"), looks := true }, kinds := [], alts := [], laidByText := true, laidKinds := [.data, .data, .data, .data, .sentinel, .sentinel, .pinned], laidTests := true, laidLooks := .later }
def FaceBackCardSaid : Prop := Claim7.holds Tryd.pinned (.plain (OpenSpec.ofChange faceBackSpec)) faceBackCard

/-- THE TIED CARD OF 'limewashlaw07.FaceBelow'. -/
def faceBelowCard : Claim7 := { stood := { row := faceBelowRow, standIns := [], harness := (true, "622dae4e5d5a2dbcb2ea75632e445ee87704d2a6120d78032f3675122524738c"), looks := true }, kinds := [], alts := [], laidByText := true, laidKinds := [.data, .data, .data, .data, .sentinel, .sentinel, .pinned], laidTests := true, laidLooks := .later }
def FaceBelowCardSaid : Prop := Claim7.holds Tryd.pinned (.plain (OpenSpec.ofChange faceBelowSpec)) faceBelowCard

/-- THE SECOND FORM's CARD OF 'limewashlaw07.FaceFan'. -/
def faceFanUptoCard : Claim7 := { stood := { row := faceFanUptoRow, standIns := [], harness := (true, "622dae4e5d5a2dbcb2ea75632e445ee87704d2a6120d78032f3675122524738c"), looks := true }, kinds := [], alts := [], laidByText := true, laidKinds := [.data, .data, .data, .data, .sentinel, .sentinel, .pinned], laidTests := true, laidLooks := .later }
def FaceFanUptoCardSaid : Prop := Claim7.holds Tryd.pinned (.plain (OpenSpec.upto faceFanSpec)) faceFanUptoCard

/-- THE SECOND FORM's CARD OF 'limewashlaw07.FaceEach'. -/
def faceEachUptoCard : Claim7 := { stood := { row := faceEachUptoRow, standIns := [], harness := (true, "622dae4e5d5a2dbcb2ea75632e445ee87704d2a6120d78032f3675122524738c"), looks := true }, kinds := [], alts := [], laidByText := true, laidKinds := [.data, .data, .data, .data, .sentinel, .sentinel, .pinned], laidTests := true, laidLooks := .later }
def FaceEachUptoCardSaid : Prop := Claim7.holds Tryd.pinned (.plain (OpenSpec.upto faceEachSpec)) faceEachUptoCard

/-- THE SECOND FORM's CARD OF 'limewashlaw05.ScanDoes'. -/
def scanDoesUptoCard : Claim7 := { stood := { row := scanDoesUptoRow, standIns := [], harness := (true, "622dae4e5d5a2dbcb2ea75632e445ee87704d2a6120d78032f3675122524738c"), looks := true }, kinds := [], alts := [], laidByText := true, laidKinds := [.data, .data, .data, .data, .sentinel, .sentinel, .pinned], laidTests := true, laidLooks := .later }
def ScanDoesUptoCardSaid : Prop := Claim7.holds Tryd.pinned (.plain (OpenSpec.upto scanDoesSpec)) scanDoesUptoCard

/-- THE SECOND FORM's CARD OF 'limewashlaw05.ScanBack'. -/
def scanBackUptoCard : Claim7 := { stood := { row := scanBackUptoRow, standIns := [], harness := (true, "622dae4e5d5a2dbcb2ea75632e445ee87704d2a6120d78032f3675122524738c"), looks := true }, kinds := [], alts := [], laidByText := true, laidKinds := [.data, .data, .data, .data, .sentinel, .sentinel, .pinned], laidTests := true, laidLooks := .later }
def ScanBackUptoCardSaid : Prop := Claim7.holds Tryd.pinned (.plain (OpenSpec.upto scanBackSpec)) scanBackUptoCard

/-- THE SECOND FORM's CARD OF 'limewashlaw05.ScanMore'. -/
def scanMoreUptoCard : Claim7 := { stood := { row := scanMoreUptoRow, standIns := [], harness := (true, "622dae4e5d5a2dbcb2ea75632e445ee87704d2a6120d78032f3675122524738c"), looks := true }, kinds := [], alts := [], laidByText := true, laidKinds := [.data, .data, .data, .data, .sentinel, .sentinel, .pinned], laidTests := true, laidLooks := .later }
def ScanMoreUptoCardSaid : Prop := Claim7.holds Tryd.pinned (.plain (OpenSpec.upto scanMoreSpec)) scanMoreUptoCard

/-- THE SECOND FORM's CARD OF 'limewashlaw05.ScanSides'. -/
def scanSidesUptoCard : Claim7 := { stood := { row := scanSidesUptoRow, standIns := [], harness := (true, "622dae4e5d5a2dbcb2ea75632e445ee87704d2a6120d78032f3675122524738c"), looks := true }, kinds := [], alts := [], laidByText := true, laidKinds := [.data, .data, .data, .data, .sentinel, .sentinel, .pinned], laidTests := true, laidLooks := .later }
def ScanSidesUptoCardSaid : Prop := Claim7.holds Tryd.pinned (.plain (OpenSpec.upto scanSidesSpec)) scanSidesUptoCard

/-- THE SECOND FORM's CARD OF 'limewashlaw05.ScanWhole'. -/
def scanWholeUptoCard : Claim7 := { stood := { row := scanWholeUptoRow, standIns := [], harness := (true, "622dae4e5d5a2dbcb2ea75632e445ee87704d2a6120d78032f3675122524738c"), looks := true }, kinds := [], alts := [], laidByText := true, laidKinds := [.data, .data, .data, .data, .sentinel, .sentinel, .pinned], laidTests := true, laidLooks := .later }
def ScanWholeUptoCardSaid : Prop := Claim7.holds Tryd.pinned (.plain (OpenSpec.upto scanWholeSpec)) scanWholeUptoCard

/-- THE SECOND FORM's CARD OF 'limewashlaw07.FaceDoes'. -/
def faceDoesUptoCard : Claim7 := { stood := { row := faceDoesUptoRow, standIns := [], harness := (true, "622dae4e5d5a2dbcb2ea75632e445ee87704d2a6120d78032f3675122524738c"), looks := true }, kinds := [], alts := [], laidByText := true, laidKinds := [.data, .data, .data, .data, .sentinel, .sentinel, .pinned], laidTests := true, laidLooks := .later }
def FaceDoesUptoCardSaid : Prop := Claim7.holds Tryd.pinned (.plain (OpenSpec.upto faceDoesSpec)) faceDoesUptoCard

/-- THE SECOND FORM's CARD OF 'limewashlaw07.FaceBack'. -/
def faceBackUptoCard : Claim7 := { stood := { row := faceBackUptoRow, standIns := [], harness := (true, "622dae4e5d5a2dbcb2ea75632e445ee87704d2a6120d78032f3675122524738c"), looks := true }, kinds := [], alts := [], laidByText := true, laidKinds := [.data, .data, .data, .data, .sentinel, .sentinel, .pinned], laidTests := true, laidLooks := .later }
def FaceBackUptoCardSaid : Prop := Claim7.holds Tryd.pinned (.plain (OpenSpec.upto faceBackSpec)) faceBackUptoCard

/-- THE SECOND FORM's CARD OF 'limewashlaw07.FaceBelow'. -/
def faceBelowUptoCard : Claim7 := { stood := { row := faceBelowUptoRow, standIns := [], harness := (true, "622dae4e5d5a2dbcb2ea75632e445ee87704d2a6120d78032f3675122524738c"), looks := true }, kinds := [], alts := [], laidByText := true, laidKinds := [.data, .data, .data, .data, .sentinel, .sentinel, .pinned], laidTests := true, laidLooks := .later }
def FaceBelowUptoCardSaid : Prop := Claim7.holds Tryd.pinned (.plain (OpenSpec.upto faceBelowSpec)) faceBelowUptoCard
end Rows
end Go.Proofs.YtkdffcoofijhkaaDoor
