/-
  DERIVED. GIVEN WITH THE SEED: THE CARDS: each row of YtbeciinkecmbaaaDoorRows.lean that lists a variable, with what it lists TIED to the program's text (the seventh form; the later family's looks); each row that meets fmt, with fmt's text TOLD by the authors' own Lean function (tested against real Go, not proved from fmt's source: count such statements apart). THE CARD IS WHAT COUNTS. Prove the row's statement (the work); the ties are given (YtbeciinkecmbaaaDoorTie.lean); close each card by the builder's one call (the guide's Derived/Test/ToyasCard.lean, 'card_holds'). Laid BY PROGRAM, IN A SANDBOX (cutbox-door.mjs). By AI agents, Wed Nov 11 2026. No macro, syntax, notation, axiom, sorry.
-/
import Derived.Test.YtbeciinkecmbaaaDoorRows
import GoSem.ClaimSeven
namespace Go.Proofs.YtbeciinkecmbaaaDoor
namespace Rows

/-- THE TIED CARD OF 'quarterdaylaw07.StampOrder'. -/
def stampOrderCard : Claim7 := { stood := { row := stampOrderRow, standIns := [], harness := (true, "f0c840e41e23f511b83182d9c21df6f1df7c9b8cdaa5aabd7ce08c311769e0a5"), looks := false }, kinds := [], alts := [], laidByText := true, laidKinds := [.data, .data, .data], laidTests := true, laidLooks := .later }
def StampOrderCardSaid : Prop := Claim7.holds Tryd.pinned (.plain (OpenSpec.ofChange stampOrderSpec)) stampOrderCard

/-- THE TIED CARD OF 'quarterdaylaw07.StampForm'. -/
def stampFormCard : Claim7 := { stood := { row := stampFormRow, standIns := [], harness := (true, "f0c840e41e23f511b83182d9c21df6f1df7c9b8cdaa5aabd7ce08c311769e0a5"), looks := false }, kinds := [], alts := [], laidByText := true, laidKinds := [.data, .data, .data], laidTests := true, laidLooks := .later }
def StampFormCardSaid : Prop := Claim7.holds Tryd.pinned (.plain (OpenSpec.ofChange stampFormSpec)) stampFormCard

/-- THE TIED CARD OF 'quarterdaylaw07.StampDoes'. -/
def stampDoesCard : Claim7 := { stood := { row := stampDoesRow, standIns := [], harness := (true, "f0c840e41e23f511b83182d9c21df6f1df7c9b8cdaa5aabd7ce08c311769e0a5"), looks := false }, kinds := [], alts := [], laidByText := true, laidKinds := [.data, .data, .data], laidTests := true, laidLooks := .later }
def StampDoesCardSaid : Prop := Claim7.holds Tryd.pinned (.plain (OpenSpec.ofChange stampDoesSpec)) stampDoesCard

/-- THE TIED CARD OF 'quarterdaylaw07.StampBack'. -/
def stampBackCard : Claim7 := { stood := { row := stampBackRow, standIns := [], harness := (true, "f0c840e41e23f511b83182d9c21df6f1df7c9b8cdaa5aabd7ce08c311769e0a5"), looks := false }, kinds := [], alts := [], laidByText := true, laidKinds := [.data, .data, .data], laidTests := true, laidLooks := .later }
def StampBackCardSaid : Prop := Claim7.holds Tryd.pinned (.plain (OpenSpec.ofChange stampBackSpec)) stampBackCard

/-- THE TIED CARD OF 'quarterdaylaw07.StampParts'. -/
def stampPartsCard : Claim7 := { stood := { row := stampPartsRow, standIns := [], harness := (true, "f0c840e41e23f511b83182d9c21df6f1df7c9b8cdaa5aabd7ce08c311769e0a5"), looks := false }, kinds := [], alts := [], laidByText := true, laidKinds := [.data, .data, .data], laidTests := true, laidLooks := .later }
def StampPartsCardSaid : Prop := Claim7.holds Tryd.pinned (.plain (OpenSpec.ofChange stampPartsSpec)) stampPartsCard

/-- THE SECOND FORM's CARD OF 'quarterdaylaw07.StampOrder'. -/
def stampOrderUptoCard : Claim7 := { stood := { row := stampOrderUptoRow, standIns := [], harness := (true, "f0c840e41e23f511b83182d9c21df6f1df7c9b8cdaa5aabd7ce08c311769e0a5"), looks := false }, kinds := [], alts := [], laidByText := true, laidKinds := [.data, .data, .data], laidTests := true, laidLooks := .later }
def StampOrderUptoCardSaid : Prop := Claim7.holds Tryd.pinned (.plain (OpenSpec.upto stampOrderSpec)) stampOrderUptoCard

/-- THE SECOND FORM's CARD OF 'quarterdaylaw07.StampForm'. -/
def stampFormUptoCard : Claim7 := { stood := { row := stampFormUptoRow, standIns := [], harness := (true, "f0c840e41e23f511b83182d9c21df6f1df7c9b8cdaa5aabd7ce08c311769e0a5"), looks := false }, kinds := [], alts := [], laidByText := true, laidKinds := [.data, .data, .data], laidTests := true, laidLooks := .later }
def StampFormUptoCardSaid : Prop := Claim7.holds Tryd.pinned (.plain (OpenSpec.upto stampFormSpec)) stampFormUptoCard

/-- THE SECOND FORM's CARD OF 'quarterdaylaw07.StampDoes'. -/
def stampDoesUptoCard : Claim7 := { stood := { row := stampDoesUptoRow, standIns := [], harness := (true, "f0c840e41e23f511b83182d9c21df6f1df7c9b8cdaa5aabd7ce08c311769e0a5"), looks := false }, kinds := [], alts := [], laidByText := true, laidKinds := [.data, .data, .data], laidTests := true, laidLooks := .later }
def StampDoesUptoCardSaid : Prop := Claim7.holds Tryd.pinned (.plain (OpenSpec.upto stampDoesSpec)) stampDoesUptoCard

/-- THE SECOND FORM's CARD OF 'quarterdaylaw07.StampBack'. -/
def stampBackUptoCard : Claim7 := { stood := { row := stampBackUptoRow, standIns := [], harness := (true, "f0c840e41e23f511b83182d9c21df6f1df7c9b8cdaa5aabd7ce08c311769e0a5"), looks := false }, kinds := [], alts := [], laidByText := true, laidKinds := [.data, .data, .data], laidTests := true, laidLooks := .later }
def StampBackUptoCardSaid : Prop := Claim7.holds Tryd.pinned (.plain (OpenSpec.upto stampBackSpec)) stampBackUptoCard

/-- THE SECOND FORM's CARD OF 'quarterdaylaw07.StampParts'. -/
def stampPartsUptoCard : Claim7 := { stood := { row := stampPartsUptoRow, standIns := [], harness := (true, "f0c840e41e23f511b83182d9c21df6f1df7c9b8cdaa5aabd7ce08c311769e0a5"), looks := false }, kinds := [], alts := [], laidByText := true, laidKinds := [.data, .data, .data], laidTests := true, laidLooks := .later }
def StampPartsUptoCardSaid : Prop := Claim7.holds Tryd.pinned (.plain (OpenSpec.upto stampPartsSpec)) stampPartsUptoCard
end Rows
end Go.Proofs.YtbeciinkecmbaaaDoor
