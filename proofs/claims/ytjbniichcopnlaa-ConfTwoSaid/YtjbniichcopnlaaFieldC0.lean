/- Layer 11 (field): the walk of weeks (shape 0). -/
import Derived.Test.YtjbniichcopnlaaFieldC
set_option linter.unusedVariables false
set_option linter.unusedSimpArgs false
set_option maxRecDepth 100000
namespace Go.Proofs.Ytjbniichcopnlaa
open Go.RowKit

set_option maxHeartbeats 16000000 in
theorem weeks_0 (kind day month shift shape p0 p1 p2 cycle extra first last policy : Int) (nm : Bytes) (w : World) (k1 : (shape == 1) = false) (k2 : (shape == 2) = false) (k3 : (shape == 3) = false) :
    Calls Try.prog 85 #[.agg #[.string ⟨nm.toArray⟩, .int .i64 kind, .int .i64 day, .int .i64 month, .int .i64 shift, .int .i64 shape, .int .i64 p0, .int .i64 p1, .int .i64 p2, .int .i64 cycle, .int .i64 extra, .int .i64 first, .int .i64 last, .int .i64 policy]] w fun e w' => e = .returned (.bool (false)) ∧ Below w.heap.size w w' := by
  have HB0 := Lib.hid (show Below w.heap.size w (w.alloc (.cells #[.string ⟨nm.toArray⟩, .int .i64 kind, .int .i64 day, .int .i64 month, .int .i64 shift, .int .i64 shape, .int .i64 p0, .int .i64 p1, .int .i64 p2, .int .i64 cycle, .int .i64 extra, .int .i64 first, .int .i64 last, .int .i64 policy] 31)) from (Below.refl _ _).alloc (Nat.le_refl _) _)
  have HX0 := Lib.hid (heap_alloc_new w (.cells #[.string ⟨nm.toArray⟩, .int .i64 kind, .int .i64 day, .int .i64 month, .int .i64 shift, .int .i64 shape, .int .i64 p0, .int .i64 p1, .int .i64 p2, .int .i64 cycle, .int .i64 extra, .int .i64 first, .int .i64 last, .int .i64 policy] 31))
  have hz := fun W => run_eqPat W p0 p1 p2 0 0 0
  have HM := Lib.hid (fun W => field_many shape cycle W)
  have HT := Lib.hid (fun W => field_between extra 1 (manyC shape cycle) W)
  generalize manyC shape cycle = m at *
  generalize tween extra 1 m = tw at *
  generalize hcy : decide (cycle = 0) = cz at *
  have hcz : (cycle == 0) = cz := hcy
  clear hcy
  obtain ⟨pz, hpz⟩ : ∃ b, (decide (p0 = 0) && decide (p1 = 0) && decide (p2 = 0)) = b := ⟨_, rfl⟩
  simp only [hpz] at hz
  try rw [hpz]
  clear hpz
  go_enter Try.func85, Try.ntmps85
  go_wp2_with fail
  go_quiet (fail)
  generalize hWg : World.drewN _ _ = W
  have hbW : Below w.heap.size w W := by rw [← hWg]; exact below_drewN HB0.out _
  have hWh : _ = W.heap := congrArg World.heap hWg
  have hxW := HX0.out
  rw [show (w.alloc (.cells #[.string ⟨nm.toArray⟩, .int .i64 kind, .int .i64 day, .int .i64 month, .int .i64 shift, .int .i64 shape, .int .i64 p0, .int .i64 p1, .int .i64 p2, .int .i64 cycle, .int .i64 extra, .int .i64 first, .int .i64 last, .int .i64 policy] 31)).heap = W.heap from hWh] at hxW
  have hgl : w.heap.size < W.heap.size := (Array.getElem?_eq_some_iff.1 hxW).1
  clear hWg hWh
  have y5 := Joins.cell_of_block hxW 5
  have y6 := Joins.cell_of_block hxW 6
  have y7 := Joins.cell_of_block hxW 7
  have y8 := Joins.cell_of_block hxW 8
  have y9 := Joins.cell_of_block hxW 9
  have y10 := Joins.cell_of_block hxW 10
  have HXW := Lib.hid hxW
  have HBW := Lib.hid hbW
  clear hxW hbW
  go_wp2_with fail
  go_ret
  exact ⟨rfl, HBW.out⟩

end Go.Proofs.Ytjbniichcopnlaa
