/- Layer 18 (label): the walks of forms, written. -/
import Derived.Test.YtmgoagncbmonlaaDoorLabB
import Derived.Test.YtmgoagncbmonlaaDoorLabP
set_option linter.unusedVariables false
namespace Go.Proofs.YtmgoagncbmonlaaDoor
open Go.RowKit

def formCells : Array Value := #[.string ⟨#[]⟩, .int .i64 0, .int .i64 1, .string ⟨#[45, 72]⟩, .int .i64 1, .int .i64 2, .string ⟨#[45, 81]⟩, .int .i64 1, .int .i64 4, .string ⟨#[45, 80]⟩, .int .i64 2, .int .i64 52, .string ⟨#[45, 87]⟩, .int .i64 2, .int .i64 60]
theorem label_forms (w : World) : Calls Tryd.prog 20 #[] w fun e w' => e = .returned (.slice (some ⟨w.heap.size, 0, none⟩) 5 5) ∧ w'.heap[w.heap.size]? = some (.cells formCells 49 (0, 0)) ∧ Below w.heap.size w w' := by
  go_enter Tryd.func20, Tryd.ntmps20
  go_wp2
  go_ret
  exact ⟨rfl, heap_alloc_new w _, (Below.refl _ _).alloc (Nat.le_refl _) _⟩
theorem form_at {w : World} {g : Nat} (h : w.heap[g]? = some (.cells formCells 49 (0, 0))) (k : Nat) (hk : k < 5) :
    w.cell? ⟨g, k * 3, none⟩ = some (.string ⟨(sgn k).toArray⟩) ∧ w.cell? ⟨g, k * 3 + 1, none⟩ = some (.int .i64 (dgt k)) ∧ w.cell? ⟨g, k * 3 + 2, none⟩ = some (.int .i64 (mst k)) := by
  rcases k_cases k hk with rfl | rfl | rfl | rfl | rfl <;>
    exact ⟨Joins.cell_of_block h _, Joins.cell_of_block h _, Joins.cell_of_block h _⟩

set_option maxRecDepth 100000 in
set_option maxHeartbeats 1000000 in
theorem label_written_in (k : Nat) (hk : k < 5) (y i : Int) (h1 : 1601 ≤ y) (h2 : y ≤ 9997) (h3 : 1 ≤ i) (w : World) :
    Calls Tryd.prog 19 #[.agg #[.int .i64 ((k : Int) + 1), .int .i64 y, .int .i64 i]] w fun e w' => e = .returned (.bool (decide (i ≤ mst k))) ∧ Below w.heap.size w w' := by
  have HF := Lib.hid label_forms
  have q0 : (w.alloc (.cells #[.int .i64 ((k : Int) + 1), .int .i64 y, .int .i64 i] 32)).cell? ⟨w.heap.size, 0, none⟩ = some (.int .i64 ((k : Int) + 1)) := by simp
  have q1 : (w.alloc (.cells #[.int .i64 ((k : Int) + 1), .int .i64 y, .int .i64 i] 32)).cell? ⟨w.heap.size, 1, none⟩ = some (.int .i64 y) := by simp
  have q2 : (w.alloc (.cells #[.int .i64 ((k : Int) + 1), .int .i64 y, .int .i64 i] 32)).cell? ⟨w.heap.size, 2, none⟩ = some (.int .i64 i) := by simp
  have hbW : Below w.heap.size w (w.alloc (.cells #[.int .i64 ((k : Int) + 1), .int .i64 y, .int .i64 i] 32)) := by (repeat (first | exact Below.refl _ _ | assumption | refine Below.setCell ?_ (by first | (simp; done) | (simp; omega) | omega) _ | refine Below.alloc ?_ (by first | (simp; done) | (simp; omega) | omega) _ | refine Below.drew ?_ | refine below_drewN ?_ _ | refine Below.trans ?_ (Below.mono (by assumption) (by first | (simp; done) | (simp; omega) | omega))))
  have hzW : w.heap.size < (w.alloc (.cells #[.int .i64 ((k : Int) + 1), .int .i64 y, .int .i64 i] 32)).heap.size := by simp
  have l1 : 1 ≤ (k : Int) + 1 := by omega
  have l2 : (k : Int) + 1 ≤ 5 := by omega
  have l3 : (k : Int) < 5 := by omega
  have l4 : IntKind.i64.wrap (k : Int) = k := by rw [IntKind.wrap_i64]; omega
  have l6 : IntKind.i64.wrap ((k : Int) + 1 - 1) = k := by rw [IntKind.wrap_i64]; omega
  have l5 : (0 : Int) ≤ k := by omega
  go_enter Tryd.func19, Tryd.ntmps19
  go_wp2_with fail
  generalize w.alloc (.cells #[.int .i64 ((k : Int) + 1), .int .i64 y, .int .i64 i] 32) = W at *
  have hleW : w.heap.size ≤ W.heap.size := by omega
  first | go_region_with (go_at_call 20; refine (HF.out _).mono ?_; rintro e w2 ⟨rfl, hblk, hbc⟩; obtain ⟨g0, g1, g2⟩ := form_at (g := W.heap.size) hblk k hk; have p0 := (hbc.cell (p := ⟨w.heap.size, 0, none⟩) hzW).trans q0; have p1 := (hbc.cell (p := ⟨w.heap.size, 1, none⟩) hzW).trans q1; have p2 := (hbc.cell (p := ⟨w.heap.size, 2, none⟩) hzW).trans q2) | fail
  all_goals
    go_wp2
    go_ret
    exact ⟨rfl, by first | exact hbW.trans (hbc.mono hleW) | exact (Below.drew hbW).trans (hbc.mono hleW) | exact Below.drew (hbW.trans (hbc.mono hleW)) | exact Below.drew ((Below.drew hbW).trans (hbc.mono hleW))⟩

end Go.Proofs.YtmgoagncbmonlaaDoor
