/-
  DERIVED. GIVEN WITH THE SEED: THE CARDS: each row of YtjbniichcopnlaaGreatDoorRows.lean that lists a variable, with what it lists TIED to the program's text (the seventh form; the later family's looks); each row that meets fmt, with fmt's text TOLD by the authors' own Lean function (tested against real Go, not proved from fmt's source: count such statements apart). THE CARD IS WHAT COUNTS. Prove the row's statement (the work); the ties are given (YtjbniichcopnlaaGreatDoorTie.lean); close each card by the builder's one call (the guide's Derived/Test/ToyasCard.lean, 'card_holds'). Laid BY PROGRAM, IN A SANDBOX (cutbox-door.mjs). By AI agents, Wed Nov 11 2026. No macro, syntax, notation, axiom, sorry.
-/
import Derived.Test.YtjbniichcopnlaaGreatDoorRows
import GoSem.ClaimSeven
namespace Go.Proofs.YtjbniichcopnlaaGreatDoor
namespace Rows

/-- THE TIED CARD OF 'quarterdaylaw12.ConfBack'. -/
def confBackCard : Claim7 := { stood := { row := confBackRow, standIns := [], harness := (true, "dd35284a04a7ac44cd03ab30f51f17ddbdb5dca3bb2e11dbfb25c0c54a93044c"), looks := false }, kinds := [], alts := [], laidByText := true, laidKinds := [.data, .data, .data, .data, .listed, .data, .pinned], laidTests := true, laidLooks := .later }
def ConfBackCardSaid : Prop := Claim7.holds Tryz.pinned (.plain (OpenSpec.ofChange confBackSpec)) confBackCard

/-- THE TIED CARD OF 'quarterdaylaw12.ConfRight'. -/
def confRightCard : Claim7 := { stood := { row := confRightRow, standIns := [], harness := (true, "dd35284a04a7ac44cd03ab30f51f17ddbdb5dca3bb2e11dbfb25c0c54a93044c"), looks := false }, kinds := [], alts := [], laidByText := true, laidKinds := [.data, .data, .data, .data, .listed, .data, .pinned], laidTests := true, laidLooks := .later }
def ConfRightCardSaid : Prop := Claim7.holds Tryz.pinned (.plain (OpenSpec.ofChange confRightSpec)) confRightCard

/-- THE TIED CARD OF 'quarterdaylaw12.ConfTells'. -/
def confTellsCard : Claim7 := { stood := { row := confTellsRow, standIns := [], harness := (true, "dd35284a04a7ac44cd03ab30f51f17ddbdb5dca3bb2e11dbfb25c0c54a93044c"), looks := false }, kinds := [], alts := [], laidByText := true, laidKinds := [.data, .data, .data, .data, .listed, .data, .pinned], laidTests := true, laidLooks := .later }
def ConfTellsCardSaid : Prop := Claim7.holds Tryz.pinned (.plain (OpenSpec.ofChange confTellsSpec)) confTellsCard

/-- THE SECOND FORM's CARD OF 'quarterdaylaw12.ConfBack'. -/
def confBackUptoCard : Claim7 := { stood := { row := confBackUptoRow, standIns := [], harness := (true, "dd35284a04a7ac44cd03ab30f51f17ddbdb5dca3bb2e11dbfb25c0c54a93044c"), looks := false }, kinds := [], alts := [], laidByText := true, laidKinds := [.data, .data, .data, .data, .listed, .data, .pinned], laidTests := true, laidLooks := .later }
def ConfBackUptoCardSaid : Prop := Claim7.holds Tryz.pinned (.plain (OpenSpec.upto confBackSpec)) confBackUptoCard

/-- THE SECOND FORM's CARD OF 'quarterdaylaw12.ConfRight'. -/
def confRightUptoCard : Claim7 := { stood := { row := confRightUptoRow, standIns := [], harness := (true, "dd35284a04a7ac44cd03ab30f51f17ddbdb5dca3bb2e11dbfb25c0c54a93044c"), looks := false }, kinds := [], alts := [], laidByText := true, laidKinds := [.data, .data, .data, .data, .listed, .data, .pinned], laidTests := true, laidLooks := .later }
def ConfRightUptoCardSaid : Prop := Claim7.holds Tryz.pinned (.plain (OpenSpec.upto confRightSpec)) confRightUptoCard

/-- THE SECOND FORM's CARD OF 'quarterdaylaw12.ConfTells'. -/
def confTellsUptoCard : Claim7 := { stood := { row := confTellsUptoRow, standIns := [], harness := (true, "dd35284a04a7ac44cd03ab30f51f17ddbdb5dca3bb2e11dbfb25c0c54a93044c"), looks := false }, kinds := [], alts := [], laidByText := true, laidKinds := [.data, .data, .data, .data, .listed, .data, .pinned], laidTests := true, laidLooks := .later }
def ConfTellsUptoCardSaid : Prop := Claim7.holds Tryz.pinned (.plain (OpenSpec.upto confTellsSpec)) confTellsUptoCard
end Rows
end Go.Proofs.YtjbniichcopnlaaGreatDoor
