/- Laws over any program: a string as bytes; small facts on worlds. -/
import Derived.WalkKit
import Derived.Below
import Derived.Lib.ConvBytes
namespace Go.Proofs.YtmgoagncbmonlaaDoor
open Go.RowKit

theorem conv_bytes {P : Program} (w : World) (src dst e : TypeId) (s : ByteArray) (hs : P.underlying src = some .string) (hd : P.underlying dst = some (.slice e)) (he : P.underlying e = some (.int .u8)) :
    ∃ cap W, (convert src dst (.string s)).run P w = .ok (.slice (some ⟨w.heap.size, 0, none⟩) s.size cap) W ∧ Below w.heap.size w W ∧
      ∀ (j : Nat) (h : j < s.size), W.cell? ⟨w.heap.size, j, none⟩ = some (.int .u8 (s[j]'h).toNat) := by
  refine ⟨_, _, Lib.run_convert_string_bytes w src dst e s hs hd he, ⟨?_, ?_, ?_, ?_, ?_⟩, ?_⟩
  · simp [Lib.bytesWorld, World.freeze, World.alloc, World.drew, -World.alloc_eq, -World.drew_eq]
  · simp [Lib.bytesWorld, World.freeze, World.alloc, World.drew, -World.alloc_eq, -World.drew_eq]
  · simp [Lib.bytesWorld, World.freeze, World.alloc, World.drew, -World.alloc_eq, -World.drew_eq]
  · rw [Lib.bytesWorld_size]; omega
  · intro k hk; exact Lib.bytesWorld_at_old w e s k hk
  · intro j h
    rw [Lib.bytesWorld_cell w e s j h]
    have : s.data.toList.getD j 0 = s[j] := by
      rw [List.getD, List.getElem?_eq_getElem (by simpa using h)]; rfl
    rw [this]

/-- What a contract that ends in 'Below' gives of what was there. -/
theorem bcell {W w1 : World} (hb : Below W.heap.size W w1) : (∀ b o, b < W.heap.size → w1.cell? ⟨b, o, none⟩ = W.cell? ⟨b, o, none⟩) ∧ (∀ b o, b < W.heap.size → w1.frozen? ⟨b, o, none⟩ = W.frozen? ⟨b, o, none⟩) :=
  ⟨fun b o h => hb.cell (p := ⟨b, o, none⟩) h, fun b o h => hb.frozen (p := ⟨b, o, none⟩) h⟩

end Go.Proofs.YtmgoagncbmonlaaDoor
