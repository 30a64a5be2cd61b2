/-
  DERIVED. GIVEN WITH THE SEED: THE CARDS: each row of YtaffbnjdlgcaiaaDoorRows.lean that lists a variable, with what it lists TIED to the program's text (the seventh form; the later family's looks); each row that meets fmt, with fmt's text TOLD by the authors' own Lean function (tested against real Go, not proved from fmt's source: count such statements apart). THE CARD IS WHAT COUNTS. Prove the row's statement (the work); the ties are given (YtaffbnjdlgcaiaaDoorTie.lean); close each card by the builder's one call (the guide's Derived/Test/ToyasCard.lean, 'card_holds'). Laid BY PROGRAM, IN A SANDBOX (cutbox-door.mjs). By AI agents, Wed Nov 11 2026. No macro, syntax, notation, axiom, sorry.
-/
import Derived.Test.YtaffbnjdlgcaiaaDoorRows
import GoSem.ClaimSeven
namespace Go.Proofs.YtaffbnjdlgcaiaaDoor
namespace Rows

/-- THE TIED CARD OF 'quarterdaylaw10.LayoutDoes'. -/
def layoutDoesCard : Claim7 := { stood := { row := layoutDoesRow, standIns := [], harness := (true, "d3b6a84c38233c5a28c99877119b2074bb36095fb5bc3cc750ce995ebd75ff87"), looks := false }, kinds := [], alts := [], laidByText := true, laidKinds := [.data, .data, .data, .data, .listed, .data, .pinned], laidTests := true, laidLooks := .later }
def LayoutDoesCardSaid : Prop := Claim7.holds Tryd.pinned (.plain (OpenSpec.ofChange layoutDoesSpec)) layoutDoesCard

/-- THE TIED CARD OF 'quarterdaylaw10.LayoutCanon'. -/
def layoutCanonCard : Claim7 := { stood := { row := layoutCanonRow, standIns := [], harness := (true, "d3b6a84c38233c5a28c99877119b2074bb36095fb5bc3cc750ce995ebd75ff87"), looks := false }, kinds := [], alts := [], laidByText := true, laidKinds := [.data, .data, .data, .data, .listed, .data, .pinned], laidTests := true, laidLooks := .later }
def LayoutCanonCardSaid : Prop := Claim7.holds Tryd.pinned (.plain (OpenSpec.ofChange layoutCanonSpec)) layoutCanonCard

/-- THE TIED CARD OF 'quarterdaylaw10.LayoutLines'. -/
def layoutLinesCard : Claim7 := { stood := { row := layoutLinesRow, standIns := [], harness := (true, "d3b6a84c38233c5a28c99877119b2074bb36095fb5bc3cc750ce995ebd75ff87"), looks := false }, kinds := [], alts := [], laidByText := true, laidKinds := [.data, .data, .data, .data, .listed, .data, .pinned], laidTests := true, laidLooks := .later }
def LayoutLinesCardSaid : Prop := Claim7.holds Tryd.pinned (.plain (OpenSpec.ofChange layoutLinesSpec)) layoutLinesCard

/-- THE TIED CARD OF 'quarterdaylaw10.LayoutTwo'. -/
def layoutTwoCard : Claim7 := { stood := { row := layoutTwoRow, standIns := [], harness := (true, "d3b6a84c38233c5a28c99877119b2074bb36095fb5bc3cc750ce995ebd75ff87"), looks := false }, kinds := [], alts := [], laidByText := true, laidKinds := [.data, .data, .data, .data, .listed, .data, .pinned], laidTests := true, laidLooks := .later }
def LayoutTwoCardSaid : Prop := Claim7.holds Tryd.pinned (.plain (OpenSpec.ofChange layoutTwoSpec)) layoutTwoCard

/-- THE TIED CARD OF 'quarterdaylaw10.LayoutBack'. -/
def layoutBackCard : Claim7 := { stood := { row := layoutBackRow, standIns := [], harness := (true, "d3b6a84c38233c5a28c99877119b2074bb36095fb5bc3cc750ce995ebd75ff87"), looks := false }, kinds := [], alts := [], laidByText := true, laidKinds := [.data, .data, .data, .data, .listed, .data, .pinned], laidTests := true, laidLooks := .later }
def LayoutBackCardSaid : Prop := Claim7.holds Tryd.pinned (.plain (OpenSpec.ofChange layoutBackSpec)) layoutBackCard

/-- THE TIED CARD OF 'quarterdaylaw10.LayoutTokens'. -/
def layoutTokensCard : Claim7 := { stood := { row := layoutTokensRow, standIns := [], harness := (true, "d3b6a84c38233c5a28c99877119b2074bb36095fb5bc3cc750ce995ebd75ff87"), looks := false }, kinds := [], alts := [], laidByText := true, laidKinds := [.data, .data, .data, .data, .listed, .data, .pinned], laidTests := true, laidLooks := .later }
def LayoutTokensCardSaid : Prop := Claim7.holds Tryd.pinned (.plain (OpenSpec.ofChange layoutTokensSpec)) layoutTokensCard

/-- THE SECOND FORM's CARD OF 'quarterdaylaw10.LayoutDoes'. -/
def layoutDoesUptoCard : Claim7 := { stood := { row := layoutDoesUptoRow, standIns := [], harness := (true, "d3b6a84c38233c5a28c99877119b2074bb36095fb5bc3cc750ce995ebd75ff87"), looks := false }, kinds := [], alts := [], laidByText := true, laidKinds := [.data, .data, .data, .data, .listed, .data, .pinned], laidTests := true, laidLooks := .later }
def LayoutDoesUptoCardSaid : Prop := Claim7.holds Tryd.pinned (.plain (OpenSpec.upto layoutDoesSpec)) layoutDoesUptoCard

/-- THE SECOND FORM's CARD OF 'quarterdaylaw10.LayoutCanon'. -/
def layoutCanonUptoCard : Claim7 := { stood := { row := layoutCanonUptoRow, standIns := [], harness := (true, "d3b6a84c38233c5a28c99877119b2074bb36095fb5bc3cc750ce995ebd75ff87"), looks := false }, kinds := [], alts := [], laidByText := true, laidKinds := [.data, .data, .data, .data, .listed, .data, .pinned], laidTests := true, laidLooks := .later }
def LayoutCanonUptoCardSaid : Prop := Claim7.holds Tryd.pinned (.plain (OpenSpec.upto layoutCanonSpec)) layoutCanonUptoCard

/-- THE SECOND FORM's CARD OF 'quarterdaylaw10.LayoutLines'. -/
def layoutLinesUptoCard : Claim7 := { stood := { row := layoutLinesUptoRow, standIns := [], harness := (true, "d3b6a84c38233c5a28c99877119b2074bb36095fb5bc3cc750ce995ebd75ff87"), looks := false }, kinds := [], alts := [], laidByText := true, laidKinds := [.data, .data, .data, .data, .listed, .data, .pinned], laidTests := true, laidLooks := .later }
def LayoutLinesUptoCardSaid : Prop := Claim7.holds Tryd.pinned (.plain (OpenSpec.upto layoutLinesSpec)) layoutLinesUptoCard

/-- THE SECOND FORM's CARD OF 'quarterdaylaw10.LayoutTwo'. -/
def layoutTwoUptoCard : Claim7 := { stood := { row := layoutTwoUptoRow, standIns := [], harness := (true, "d3b6a84c38233c5a28c99877119b2074bb36095fb5bc3cc750ce995ebd75ff87"), looks := false }, kinds := [], alts := [], laidByText := true, laidKinds := [.data, .data, .data, .data, .listed, .data, .pinned], laidTests := true, laidLooks := .later }
def LayoutTwoUptoCardSaid : Prop := Claim7.holds Tryd.pinned (.plain (OpenSpec.upto layoutTwoSpec)) layoutTwoUptoCard

/-- THE SECOND FORM's CARD OF 'quarterdaylaw10.LayoutBack'. -/
def layoutBackUptoCard : Claim7 := { stood := { row := layoutBackUptoRow, standIns := [], harness := (true, "d3b6a84c38233c5a28c99877119b2074bb36095fb5bc3cc750ce995ebd75ff87"), looks := false }, kinds := [], alts := [], laidByText := true, laidKinds := [.data, .data, .data, .data, .listed, .data, .pinned], laidTests := true, laidLooks := .later }
def LayoutBackUptoCardSaid : Prop := Claim7.holds Tryd.pinned (.plain (OpenSpec.upto layoutBackSpec)) layoutBackUptoCard

/-- THE SECOND FORM's CARD OF 'quarterdaylaw10.LayoutTokens'. -/
def layoutTokensUptoCard : Claim7 := { stood := { row := layoutTokensUptoRow, standIns := [], harness := (true, "d3b6a84c38233c5a28c99877119b2074bb36095fb5bc3cc750ce995ebd75ff87"), looks := false }, kinds := [], alts := [], laidByText := true, laidKinds := [.data, .data, .data, .data, .listed, .data, .pinned], laidTests := true, laidLooks := .later }
def LayoutTokensUptoCardSaid : Prop := Claim7.holds Tryd.pinned (.plain (OpenSpec.upto layoutTokensSpec)) layoutTokensUptoCard
end Rows
end Go.Proofs.YtaffbnjdlgcaiaaDoor
