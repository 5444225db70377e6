/-
  DERIVED. GIVEN WITH THE SEED: THE CARDS: each row of YtcllghcplphijaaDoorRows.lean that lists a variable, with what it lists TIED to the program's text (the seventh form; the later family's looks); each row that meets fmt, with fmt's text TOLD by the authors' own Lean function (tested against real Go, not proved from fmt's source: count such statements apart). THE CARD IS WHAT COUNTS. Prove the row's statement (the work); the ties are given (YtcllghcplphijaaDoorTie.lean); close each card by the builder's one call (the guide's Derived/Test/ToyasCard.lean, 'card_holds'). Laid BY PROGRAM, IN A SANDBOX (cutbox-door.mjs). By AI agents, Wed Nov 11 2026. No macro, syntax, notation, axiom, sorry.
-/
import Derived.Test.YtcllghcplphijaaDoorRows
import GoSem.ClaimSeven
namespace Go.Proofs.YtcllghcplphijaaDoor
namespace Rows

/-- THE TIED CARD OF 'limewashlaw01.WideTells'. -/
def wideTellsCard : Claim7 := { stood := { row := wideTellsRow, standIns := [], harness := (true, "482ce5aea3c39e363271c9ecbafc71e87535ec4e57107ada802c57ee2a84cef0"), looks := false }, kinds := [], alts := [], laidByText := true, laidKinds := [.data, .data, .data], laidTests := true, laidLooks := .later }
def WideTellsCardSaid : Prop := Claim7.holds Tryd.pinned (.plain (OpenSpec.ofChange wideTellsSpec)) wideTellsCard

/-- THE TIED CARD OF 'limewashlaw01.WideInt'. -/
def wideIntCard : Claim7 := { stood := { row := wideIntRow, standIns := [], harness := (true, "482ce5aea3c39e363271c9ecbafc71e87535ec4e57107ada802c57ee2a84cef0"), looks := false }, kinds := [], alts := [], laidByText := true, laidKinds := [.data, .data, .data], laidTests := true, laidLooks := .later }
def WideIntCardSaid : Prop := Claim7.holds Tryd.pinned (.plain (OpenSpec.ofChange wideIntSpec)) wideIntCard

/-- THE TIED CARD OF 'limewashlaw01.WideMakes'. -/
def wideMakesCard : Claim7 := { stood := { row := wideMakesRow, standIns := [], harness := (true, "482ce5aea3c39e363271c9ecbafc71e87535ec4e57107ada802c57ee2a84cef0"), looks := false }, kinds := [], alts := [], laidByText := true, laidKinds := [.data, .data, .data], laidTests := true, laidLooks := .later }
def WideMakesCardSaid : Prop := Claim7.holds Tryd.pinned (.plain (OpenSpec.ofChange wideMakesSpec)) wideMakesCard

/-- THE TIED CARD OF 'limewashlaw01.WideSums'. -/
def wideSumsCard : Claim7 := { stood := { row := wideSumsRow, standIns := [], harness := (true, "482ce5aea3c39e363271c9ecbafc71e87535ec4e57107ada802c57ee2a84cef0"), looks := false }, kinds := [], alts := [], laidByText := true, laidKinds := [.data, .data, .data], laidTests := true, laidLooks := .later }
def WideSumsCardSaid : Prop := Claim7.holds Tryd.pinned (.plain (OpenSpec.ofChange wideSumsSpec)) wideSumsCard

/-- THE TIED CARD OF 'limewashlaw01.WideOrder'. -/
def wideOrderCard : Claim7 := { stood := { row := wideOrderRow, standIns := [], harness := (true, "482ce5aea3c39e363271c9ecbafc71e87535ec4e57107ada802c57ee2a84cef0"), looks := false }, kinds := [], alts := [], laidByText := true, laidKinds := [.data, .data, .data], laidTests := true, laidLooks := .later }
def WideOrderCardSaid : Prop := Claim7.holds Tryd.pinned (.plain (OpenSpec.ofChange wideOrderSpec)) wideOrderCard

/-- THE TIED CARD OF 'limewashlaw01.WideDivides'. -/
def wideDividesCard : Claim7 := { stood := { row := wideDividesRow, standIns := [], harness := (true, "482ce5aea3c39e363271c9ecbafc71e87535ec4e57107ada802c57ee2a84cef0"), looks := false }, kinds := [], alts := [], laidByText := true, laidKinds := [.data, .data, .data], laidTests := true, laidLooks := .later }
def WideDividesCardSaid : Prop := Claim7.holds Tryd.pinned (.plain (OpenSpec.ofChange wideDividesSpec)) wideDividesCard

/-- THE SECOND FORM's CARD OF 'limewashlaw01.WideTells'. -/
def wideTellsUptoCard : Claim7 := { stood := { row := wideTellsUptoRow, standIns := [], harness := (true, "482ce5aea3c39e363271c9ecbafc71e87535ec4e57107ada802c57ee2a84cef0"), looks := false }, kinds := [], alts := [], laidByText := true, laidKinds := [.data, .data, .data], laidTests := true, laidLooks := .later }
def WideTellsUptoCardSaid : Prop := Claim7.holds Tryd.pinned (.plain (OpenSpec.upto wideTellsSpec)) wideTellsUptoCard

/-- THE SECOND FORM's CARD OF 'limewashlaw01.WideInt'. -/
def wideIntUptoCard : Claim7 := { stood := { row := wideIntUptoRow, standIns := [], harness := (true, "482ce5aea3c39e363271c9ecbafc71e87535ec4e57107ada802c57ee2a84cef0"), looks := false }, kinds := [], alts := [], laidByText := true, laidKinds := [.data, .data, .data], laidTests := true, laidLooks := .later }
def WideIntUptoCardSaid : Prop := Claim7.holds Tryd.pinned (.plain (OpenSpec.upto wideIntSpec)) wideIntUptoCard

/-- THE SECOND FORM's CARD OF 'limewashlaw01.WideMakes'. -/
def wideMakesUptoCard : Claim7 := { stood := { row := wideMakesUptoRow, standIns := [], harness := (true, "482ce5aea3c39e363271c9ecbafc71e87535ec4e57107ada802c57ee2a84cef0"), looks := false }, kinds := [], alts := [], laidByText := true, laidKinds := [.data, .data, .data], laidTests := true, laidLooks := .later }
def WideMakesUptoCardSaid : Prop := Claim7.holds Tryd.pinned (.plain (OpenSpec.upto wideMakesSpec)) wideMakesUptoCard

/-- THE SECOND FORM's CARD OF 'limewashlaw01.WideSums'. -/
def wideSumsUptoCard : Claim7 := { stood := { row := wideSumsUptoRow, standIns := [], harness := (true, "482ce5aea3c39e363271c9ecbafc71e87535ec4e57107ada802c57ee2a84cef0"), looks := false }, kinds := [], alts := [], laidByText := true, laidKinds := [.data, .data, .data], laidTests := true, laidLooks := .later }
def WideSumsUptoCardSaid : Prop := Claim7.holds Tryd.pinned (.plain (OpenSpec.upto wideSumsSpec)) wideSumsUptoCard

/-- THE SECOND FORM's CARD OF 'limewashlaw01.WideOrder'. -/
def wideOrderUptoCard : Claim7 := { stood := { row := wideOrderUptoRow, standIns := [], harness := (true, "482ce5aea3c39e363271c9ecbafc71e87535ec4e57107ada802c57ee2a84cef0"), looks := false }, kinds := [], alts := [], laidByText := true, laidKinds := [.data, .data, .data], laidTests := true, laidLooks := .later }
def WideOrderUptoCardSaid : Prop := Claim7.holds Tryd.pinned (.plain (OpenSpec.upto wideOrderSpec)) wideOrderUptoCard

/-- THE SECOND FORM's CARD OF 'limewashlaw01.WideDivides'. -/
def wideDividesUptoCard : Claim7 := { stood := { row := wideDividesUptoRow, standIns := [], harness := (true, "482ce5aea3c39e363271c9ecbafc71e87535ec4e57107ada802c57ee2a84cef0"), looks := false }, kinds := [], alts := [], laidByText := true, laidKinds := [.data, .data, .data], laidTests := true, laidLooks := .later }
def WideDividesUptoCardSaid : Prop := Claim7.holds Tryd.pinned (.plain (OpenSpec.upto wideDividesSpec)) wideDividesUptoCard
end Rows
end Go.Proofs.YtcllghcplphijaaDoor
