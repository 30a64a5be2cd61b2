/- Layer 9 (tree): the reference's reader in memory; its fail. -/
import Derived.Test.YtmblooibnmahnaaTreeP4
import Derived.Test.YtmblooibnmahnaaTreeD0
import Derived.Test.YtmblooibnmahnaaAppend
import Derived.BigQuiet
set_option linter.unusedVariables false
set_option linter.unusedSimpArgs false
namespace Go.Proofs.Ytmblooibnmahnaa
open Go.RowKit
attribute [local go_sem ↓] Go.wp_at_zero Go.wp_at_succ

/-- The reader in its block. -/
def Rdr (w : World) (rb : Nat) (L : Value) (k E p e : Int) : Prop :=
  w.heap[rb]? = some (.cells #[L, .int .i64 k, .int .i64 E, .int .i64 p, .int .i64 e] 54 (0, 0))
/-- The cells of the reader that are written. -/
def RC (rb : Nat) : List (Nat × Nat) := [(rb, 1), (rb, 3), (rb, 4)]
theorem set_block {w : World} {b o : Nat} {cs : Array Value} {t : TypeId} {f : Nat × Nat} (u : Value) (h : w.heap[b]? = some (.cells cs t f)) : (w.setCell ⟨b, o, none⟩ u).heap[b]? = some (.cells (cs.setIfInBounds o u) t f) := by
  simp [World.setCell, Array.getElem?_modify, h]
theorem alloc_keeps {w : World} {b : Nat} {o : Obj} (x : Obj) (h : w.heap[b]? = some o) : (w.alloc x).heap[b]? = some o :=
  (heap_alloc_old w x (Array.getElem?_eq_some_iff.1 h).1).trans h
theorem Rdr.lt {w : World} {rb : Nat} {L : Value} {k E p e : Int} (h : Rdr w rb L k E p e) : rb < w.heap.size := (Array.getElem?_eq_some_iff.1 h).1
theorem Rdr.keep {w w' : World} {C : List (Nat × Nat)} {row : Option Nat} {rb : Nat} {L : Value} {k E p e : Int} (h : Rdr w rb L k E p e) (hs : Step w w' C row) (hx : Safe C row rb) : Rdr w' rb L k E p e :=
  (hs.same h.lt hx).trans h

set_option maxHeartbeats 2000000 in
theorem ref9_fail_none (w : World) (rb : Nat) (L : Value) (k E p a c : Int) (h : Rdr w rb L k E p 0) :
    Calls Try.prog 42 #[.pointer (some ⟨rb, 0, none⟩), .int .i64 a, .int .i64 c] w fun en w' => en = .returned (.tuple #[]) ∧ Rdr w' rb L k E a c ∧ Step w w' (RC rb) none := by
  have h4 := Joins.cell_of_block h 4
  have h3 := Joins.cell_of_block h 3
  have hf := Joins.unfrozen_of_block h
  have f3 := hf 3
  have f4 := hf 4
  have hlt := h.lt
  go_enter Try.func42, Try.ntmps42
  go_wp2_with fail
  go_end0
  refine ⟨rfl, ?_, ?_⟩
  · have := set_block (o := 4) (.int .i64 c) (set_block (o := 3) (.int .i64 a) h)
    simpa [Rdr] using this
  · unfold RC; (repeat (first | exact Step.refl _ _ _ | assumption | refine Step.drew ?_ | refine Step.alloc ?_ _ | refine Step.setCell ?_ (by first | exact Or.inr (Or.inl (by simp)) | exact Or.inl (by simp) | exact Or.inl (by simp; omega) | exact Or.inl (by omega)) _))

set_option maxHeartbeats 2000000 in
theorem ref9_fail_some (w : World) (rb : Nat) (L : Value) (k E p e a c : Int) (h : Rdr w rb L k E p e) (he : e ≠ 0) :
    Calls Try.prog 42 #[.pointer (some ⟨rb, 0, none⟩), .int .i64 a, .int .i64 c] w fun en w' => en = .returned (.tuple #[]) ∧ w' = w := by
  have h4 := Joins.cell_of_block h 4
  have hlt := h.lt
  have he' : (e == 0) = false := beq_false_of_ne he
  go_enter Try.func42, Try.ntmps42
  go_wp2_with fail
  go_end0
  exact ⟨rfl, rfl⟩

end Go.Proofs.Ytmblooibnmahnaa
