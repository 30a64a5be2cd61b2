/- Layer 11 (field): weeks. -/
import Derived.Test.YtpkhocbohhpmbaaPkR15
set_option linter.unusedVariables false
set_option linter.unusedSimpArgs false
set_option maxRecDepth 100000
namespace Go.Proofs.Ytpkhocbohhpmbaa
open Go.RowKit
theorem field_weeks (c : CalL) (w : World) : Calls Try.prog 64 #[calV c] w fun e w' => e = .returned (.bool (weeksC c)) ∧ Below w.heap.size w w' := by
  obtain ⟨nm,kind,day,month,shift,shape,p0,p1,p2,cycle,extra,first,last,policy⟩:=c
  unfold weeksC patZ
  dsimp only [calV]
  by_cases h1 : shape = 1
  · subst h1
    rw [if_pos rfl]
    exact weeks_1 kind day month shift p0 p1 p2 cycle extra first last policy nm w
  rw [if_neg h1]
  by_cases h2 : shape = 2
  · subst h2
    rw [if_pos rfl]
    exact weeks_2 kind day month shift p0 p1 p2 cycle extra first last policy nm w
  rw [if_neg h2]
  by_cases h3 : shape = 3
  · subst h3
    rw [if_pos rfl]
    exact weeks_3 kind day month shift p0 p1 p2 cycle extra first last policy nm w
  rw [if_neg h3]
  exact weeks_0 kind day month shift shape p0 p1 p2 cycle extra first last policy nm w (beq_false_of_ne h1) (beq_false_of_ne h2) (beq_false_of_ne h3)
end Go.Proofs.Ytpkhocbohhpmbaa
