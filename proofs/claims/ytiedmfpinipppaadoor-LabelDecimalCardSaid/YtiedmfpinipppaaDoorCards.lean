/-
  DERIVED. GIVEN WITH THE SEED: THE CARDS: each row of YtiedmfpinipppaaDoorRows.lean that lists a variable, with what it lists TIED to the program's text (the seventh form; the later family's looks); each row that meets fmt, with fmt's text TOLD by the authors' own Lean function (tested against real Go, not proved from fmt's source: count such statements apart). THE CARD IS WHAT COUNTS. Prove the row's statement (the work); the ties are given (YtiedmfpinipppaaDoorTie.lean); close each card by the builder's one call (the guide's Derived/Test/ToyasCard.lean, 'card_holds'). Laid BY PROGRAM, IN A SANDBOX (cutbox-door.mjs). By AI agents, Wed Nov 11 2026. No macro, syntax, notation, axiom, sorry.
-/
import Derived.Test.YtiedmfpinipppaaDoorRows
import GoSem.ClaimSeven
namespace Go.Proofs.YtiedmfpinipppaaDoor
namespace Rows

/-- THE TIED CARD OF 'quarterdaylaw18.LabelBack'. -/
def labelBackCard : Claim7 := { stood := { row := labelBackRow, standIns := [], harness := (true, "377dc9d16311d1600037709dd2f0c3485df316cb4e1ea86bf41ba4ec530e21de"), looks := false }, kinds := [], alts := [], laidByText := true, laidKinds := [.data, .data, .data], laidTests := true, laidLooks := .later }
def LabelBackCardSaid : Prop := Claim7.holds Tryd.pinned (.plain (OpenSpec.ofChange labelBackSpec)) labelBackCard

/-- THE TIED CARD OF 'quarterdaylaw18.LabelOrder'. -/
def labelOrderCard : Claim7 := { stood := { row := labelOrderRow, standIns := [], harness := (true, "377dc9d16311d1600037709dd2f0c3485df316cb4e1ea86bf41ba4ec530e21de"), looks := false }, kinds := [], alts := [], laidByText := true, laidKinds := [.data, .data, .data], laidTests := true, laidLooks := .later }
def LabelOrderCardSaid : Prop := Claim7.holds Tryd.pinned (.plain (OpenSpec.ofChange labelOrderSpec)) labelOrderCard

/-- THE TIED CARD OF 'quarterdaylaw18.LabelDoes'. -/
def labelDoesCard : Claim7 := { stood := { row := labelDoesRow, standIns := [], harness := (true, "377dc9d16311d1600037709dd2f0c3485df316cb4e1ea86bf41ba4ec530e21de"), looks := false }, kinds := [], alts := [], laidByText := true, laidKinds := [.data, .data, .data], laidTests := true, laidLooks := .later }
def LabelDoesCardSaid : Prop := Claim7.holds Tryd.pinned (.plain (OpenSpec.ofChange labelDoesSpec)) labelDoesCard

/-- THE TIED CARD OF 'quarterdaylaw18.LabelOver'. -/
def labelOverCard : Claim7 := { stood := { row := labelOverRow, standIns := [], harness := (true, "377dc9d16311d1600037709dd2f0c3485df316cb4e1ea86bf41ba4ec530e21de"), looks := false }, kinds := [], alts := [], laidByText := true, laidKinds := [.data, .data, .data], laidTests := true, laidLooks := .later }
def LabelOverCardSaid : Prop := Claim7.holds Tryd.pinned (.plain (OpenSpec.ofChange labelOverSpec)) labelOverCard

/-- THE TIED CARD OF 'quarterdaylaw18.LabelNumbers'. -/
def labelNumbersCard : Claim7 := { stood := { row := labelNumbersRow, standIns := [], harness := (true, "377dc9d16311d1600037709dd2f0c3485df316cb4e1ea86bf41ba4ec530e21de"), looks := false }, kinds := [], alts := [], laidByText := true, laidKinds := [.data, .data, .data], laidTests := true, laidLooks := .later }
def LabelNumbersCardSaid : Prop := Claim7.holds Tryd.pinned (.plain (OpenSpec.ofChange labelNumbersSpec)) labelNumbersCard

/-- THE TIED CARD OF 'quarterdaylaw18.LabelDecimal'. -/
def labelDecimalCard : Claim7 := { stood := { row := labelDecimalRow, standIns := [], harness := (true, "377dc9d16311d1600037709dd2f0c3485df316cb4e1ea86bf41ba4ec530e21de"), looks := false }, kinds := [], alts := [], laidByText := true, laidKinds := [.data, .data, .data], laidTests := true, laidLooks := .later }
def LabelDecimalCardSaid : Prop := Claim7.holds Tryd.pinned (.plain (OpenSpec.ofChange labelDecimalSpec)) labelDecimalCard

/-- THE SECOND FORM's CARD OF 'quarterdaylaw18.LabelBack'. -/
def labelBackUptoCard : Claim7 := { stood := { row := labelBackUptoRow, standIns := [], harness := (true, "377dc9d16311d1600037709dd2f0c3485df316cb4e1ea86bf41ba4ec530e21de"), looks := false }, kinds := [], alts := [], laidByText := true, laidKinds := [.data, .data, .data], laidTests := true, laidLooks := .later }
def LabelBackUptoCardSaid : Prop := Claim7.holds Tryd.pinned (.plain (OpenSpec.upto labelBackSpec)) labelBackUptoCard

/-- THE SECOND FORM's CARD OF 'quarterdaylaw18.LabelOrder'. -/
def labelOrderUptoCard : Claim7 := { stood := { row := labelOrderUptoRow, standIns := [], harness := (true, "377dc9d16311d1600037709dd2f0c3485df316cb4e1ea86bf41ba4ec530e21de"), looks := false }, kinds := [], alts := [], laidByText := true, laidKinds := [.data, .data, .data], laidTests := true, laidLooks := .later }
def LabelOrderUptoCardSaid : Prop := Claim7.holds Tryd.pinned (.plain (OpenSpec.upto labelOrderSpec)) labelOrderUptoCard

/-- THE SECOND FORM's CARD OF 'quarterdaylaw18.LabelDoes'. -/
def labelDoesUptoCard : Claim7 := { stood := { row := labelDoesUptoRow, standIns := [], harness := (true, "377dc9d16311d1600037709dd2f0c3485df316cb4e1ea86bf41ba4ec530e21de"), looks := false }, kinds := [], alts := [], laidByText := true, laidKinds := [.data, .data, .data], laidTests := true, laidLooks := .later }
def LabelDoesUptoCardSaid : Prop := Claim7.holds Tryd.pinned (.plain (OpenSpec.upto labelDoesSpec)) labelDoesUptoCard

/-- THE SECOND FORM's CARD OF 'quarterdaylaw18.LabelOver'. -/
def labelOverUptoCard : Claim7 := { stood := { row := labelOverUptoRow, standIns := [], harness := (true, "377dc9d16311d1600037709dd2f0c3485df316cb4e1ea86bf41ba4ec530e21de"), looks := false }, kinds := [], alts := [], laidByText := true, laidKinds := [.data, .data, .data], laidTests := true, laidLooks := .later }
def LabelOverUptoCardSaid : Prop := Claim7.holds Tryd.pinned (.plain (OpenSpec.upto labelOverSpec)) labelOverUptoCard

/-- THE SECOND FORM's CARD OF 'quarterdaylaw18.LabelNumbers'. -/
def labelNumbersUptoCard : Claim7 := { stood := { row := labelNumbersUptoRow, standIns := [], harness := (true, "377dc9d16311d1600037709dd2f0c3485df316cb4e1ea86bf41ba4ec530e21de"), looks := false }, kinds := [], alts := [], laidByText := true, laidKinds := [.data, .data, .data], laidTests := true, laidLooks := .later }
def LabelNumbersUptoCardSaid : Prop := Claim7.holds Tryd.pinned (.plain (OpenSpec.upto labelNumbersSpec)) labelNumbersUptoCard

/-- THE SECOND FORM's CARD OF 'quarterdaylaw18.LabelDecimal'. -/
def labelDecimalUptoCard : Claim7 := { stood := { row := labelDecimalUptoRow, standIns := [], harness := (true, "377dc9d16311d1600037709dd2f0c3485df316cb4e1ea86bf41ba4ec530e21de"), looks := false }, kinds := [], alts := [], laidByText := true, laidKinds := [.data, .data, .data], laidTests := true, laidLooks := .later }
def LabelDecimalUptoCardSaid : Prop := Claim7.holds Tryd.pinned (.plain (OpenSpec.upto labelDecimalSpec)) labelDecimalUptoCard
end Rows
end Go.Proofs.YtiedmfpinipppaaDoor
