/-
  DERIVED. GIVEN WITH THE SEED: THE CARDS: each row of YtmgoagncbmonlaaDoorRows.lean that lists a variable, with what it lists TIED to the program's text (the seventh form; the later family's looks); each row that meets fmt, with fmt's text TOLD by the authors' own Lean function (tested against real Go, not proved from fmt's source: count such statements apart). THE CARD IS WHAT COUNTS. Prove the row's statement (the work); the ties are given (YtmgoagncbmonlaaDoorTie.lean); close each card by the builder's one call (the guide's Derived/Test/ToyasCard.lean, 'card_holds'). Laid BY PROGRAM, IN A SANDBOX (cutbox-door.mjs). By AI agents, Wed Nov 11 2026. No macro, syntax, notation, axiom, sorry.
-/
import Derived.Test.YtmgoagncbmonlaaDoorRows
import GoSem.ClaimSeven
namespace Go.Proofs.YtmgoagncbmonlaaDoor
namespace Rows

/-- THE TIED CARD OF 'quarterdaylaw18.LabelNumbers'. -/
def labelNumbersCard : Claim7 := { stood := { row := labelNumbersRow, standIns := [], harness := (true, "2b847031041015f3aebeee07efee72e7b69f77cf212aa144c6b0699325f1f360"), looks := false }, kinds := [], alts := [], laidByText := true, laidKinds := [.data, .data, .data], laidTests := true, laidLooks := .later }
def LabelNumbersCardSaid : Prop := Claim7.holds Tryd.pinned (.plain (OpenSpec.ofChange labelNumbersSpec)) labelNumbersCard

/-- THE SECOND FORM's CARD OF 'quarterdaylaw18.LabelNumbers'. -/
def labelNumbersUptoCard : Claim7 := { stood := { row := labelNumbersUptoRow, standIns := [], harness := (true, "2b847031041015f3aebeee07efee72e7b69f77cf212aa144c6b0699325f1f360"), looks := false }, kinds := [], alts := [], laidByText := true, laidKinds := [.data, .data, .data], laidTests := true, laidLooks := .later }
def LabelNumbersUptoCardSaid : Prop := Claim7.holds Tryd.pinned (.plain (OpenSpec.upto labelNumbersSpec)) labelNumbersUptoCard
end Rows
end Go.Proofs.YtmgoagncbmonlaaDoor
