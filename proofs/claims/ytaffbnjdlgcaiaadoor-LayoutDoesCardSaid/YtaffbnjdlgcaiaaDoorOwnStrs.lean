/- Texts in a row of the call's own. -/
import Derived.Test.YtaffbnjdlgcaiaaDoorWords
import Derived.Test.YtaffbnjdlgcaiaaDoorLexSpec
set_option linter.unusedVariables false
namespace Go.Proofs.YtaffbnjdlgcaiaaDoor
open Go.RowKit

/-- Texts of a row of the call's own. -/
def OwnStrs (w : World) (base : Nat) (v : Value) (l : List Bytes) : Prop := w.ownsRow base 9 1 v l.length (l.map fun s => .string ⟨s.toArray⟩)
theorem OwnStrs.new (w : World) (base : Nat) (s : Bytes) (hb : base ≤ w.heap.size) : OwnStrs (w.alloc (.cells #[.string ⟨s.toArray⟩] 9)) base (.slice (some ⟨w.heap.size, 0, none⟩) 1 1) [s] :=
  ⟨rfl, .inr ⟨w.heap.size, 1, _, rfl, hb, heap_alloc_new w _, Nat.le_refl _, by decide, rfl, rfl⟩⟩
theorem OwnStrs.below {w w' : World} {base : Nat} {v : Value} {l : List Bytes} (h : OwnStrs w base v l) (hb : Below w.heap.size w w') : OwnStrs w' base v l := own_below h hb

end Go.Proofs.YtaffbnjdlgcaiaaDoor
