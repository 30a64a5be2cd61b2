/- Layer 18, the laws: live. -/
import Derived.Test.YtmgoagncbmonlaaDoorLabParse
set_option linter.unusedVariables false
namespace Go.Proofs.YtmgoagncbmonlaaDoor
open Go.RowKit

theorem run_eqlUnit (W : World) (a b c x y z : Int) : (binOp .eql 32 (.agg #[.int .i64 a, .int .i64 b, .int .i64 c]) (.agg #[.int .i64 x, .int .i64 y, .int .i64 z])).run Tryd.prog W = .ok (.bool (decide (a = x ∧ b = y ∧ c = z))) W := by
  rw [run_eql_struct, run_equalIn_agg W 9999 32 _ _ (by kernel_rfl) (by kernel_rfl)]
  by_cases h1 : a = x <;> by_cases h2 : b = y <;> by_cases h3 : c = z <;> (simp [go_sem, Op.eqFields, h1, h2, h3]; done)

theorem live_text : uText 4 2023 53 = [50, 48, 50, 51, 45, 87, 53, 51] := by decide
set_option maxRecDepth 100000 in
set_option maxHeartbeats 1000000 in
theorem law18_live (w : World) (ht : Tab w) :
    Calls Tryd.prog 4 #[] w fun e w' => e = .returned (.bool true) ∧ Below w.heap.size w w' := by
  have heq := run_eqlUnit
  have HP := Lib.hid (show Calls Tryd.prog 9 #[.agg #[.int .i64 5, .int .i64 2023, .int .i64 53]] w fun e w' => e = .returned (.tuple #[.string ⟨(uText 4 2023 53).toArray⟩, .int .i64 0]) ∧ Below w.heap.size w w' from label_Print_yes 4 2023 53 (by decide) (by decide) (by decide) (by decide) (by decide) w ht)
  rw [live_text] at HP
  have HQ := Lib.hid (fun W => label_Parse ⟨#[50, 48, 50, 51, 45, 87, 53, 51]⟩ W (by decide))
  have hpt := parseU_text 4 2023 53 (by decide) (by decide) (by decide) (by decide) (by decide)
  rw [live_text] at hpt
  rw [show (ByteArray.mk #[50, 48, 50, 51, 45, 87, 53, 51]).data.toList = [50, 48, 50, 51, 45, 87, 53, 51] from rfl, hpt] at HQ
  have HQ2 := Lib.hid (fun W => show Calls Tryd.prog 10 #[.string ⟨#[50, 48, 50, 51, 45, 87, 53, 51]⟩] W fun e w' => e = .returned (.tuple #[.agg #[.int .i64 5, .int .i64 2023, .int .i64 53], .int .i64 0]) ∧ Below W.heap.size W w' from HQ.out W)
  clear ht hpt HQ
  go_enter Tryd.func4, Tryd.ntmps4
  go_wp2_with fail
  refine HP.out.mono ?_
  rintro e w1 ⟨rfl, hb1⟩
  go_wp2_with fail
  refine (HQ2.out _).mono ?_
  rintro e w2 ⟨rfl, hb2⟩
  have hB := (hb1.trans (hb2.mono hb1.size)).alloc (by have := hb1.size; have := hb2.size; omega) (.cells #[.int .i64 5, .int .i64 2023, .int .i64 53] 32)
  go_wp2
  go_ret
  exact ⟨rfl, hB⟩

end Go.Proofs.YtmgoagncbmonlaaDoor
