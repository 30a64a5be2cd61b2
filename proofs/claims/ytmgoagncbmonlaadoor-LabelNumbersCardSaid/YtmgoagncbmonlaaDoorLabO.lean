/- Layer 18, the laws: live needs Parse; here what of LabelOrder needs no more than Print. -/
import Derived.Test.YtmgoagncbmonlaaDoorLabPr
set_option linter.unusedVariables false
namespace Go.Proofs.YtmgoagncbmonlaaDoor
open Go.RowKit

theorem writ_parts {l y i : Int} (h : Writ l y i) : ∃ k Y I : Nat, k < 5 ∧ l = (k : Int) + 1 ∧ y = Y ∧ i = I ∧ 1601 ≤ Y ∧ Y ≤ 9997 ∧ 1 ≤ I ∧ (I : Int) ≤ mst k := by
  obtain ⟨k, hk, hl, h1, h2, h3, h4⟩ := h
  obtain ⟨Y, rfl⟩ := Int.eq_ofNat_of_zero_le (show 0 ≤ y by omega)
  obtain ⟨I, rfl⟩ := Int.eq_ofNat_of_zero_le (show 0 ≤ i by omega)
  exact ⟨k, Y, I, hk, hl, rfl, rfl, by omega, by omega, by omega, h4⟩

end Go.Proofs.YtmgoagncbmonlaaDoor
