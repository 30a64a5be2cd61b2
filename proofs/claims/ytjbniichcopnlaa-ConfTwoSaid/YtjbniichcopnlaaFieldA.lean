/- Layer 11 (field): the walks of many, between, fixed, weeks. -/
import Derived.Test.YtjbniichcopnlaaFieldSpec
import Derived.Test.YtjbniichcopnlaaTreeMem
import Derived.Laws.Closers25
import Derived.BigQuiet
import Derived.Lib.SmallJoins
import Derived.ChangeKeysEq
set_option linter.unusedVariables false
set_option linter.unusedSimpArgs false
set_option maxRecDepth 100000
namespace Go.Proofs.Ytjbniichcopnlaa
open Go.RowKit

def CalL.cells (c : CalL) : List Value := [.string ⟨c.name.toArray⟩, .int .i64 c.kind, .int .i64 c.day, .int .i64 c.month, .int .i64 c.shift, .int .i64 c.shape, .int .i64 c.p0, .int .i64 c.p1, .int .i64 c.p2, .int .i64 c.cycle, .int .i64 c.extra, .int .i64 c.first, .int .i64 c.last, .int .i64 c.policy]
def calV (c : CalL) : Value := .agg #[.string ⟨c.name.toArray⟩, .int .i64 c.kind, .int .i64 c.day, .int .i64 c.month, .int .i64 c.shift, .int .i64 c.shape, .int .i64 c.p0, .int .i64 c.p1, .int .i64 c.p2, .int .i64 c.cycle, .int .i64 c.extra, .int .i64 c.first, .int .i64 c.last, .int .i64 c.policy]

theorem field_between (n a b : Int) (w : World) : Calls Try.prog 48 #[.int .i64 n, .int .i64 a, .int .i64 b] w fun e w' => e = .returned (.bool (tween n a b)) ∧ w = w' := by
  unfold tween
  by_cases h1 : a ≤ n
  · by_cases h2 : n ≤ b
    · rw [decide_eq_true h1, decide_eq_true h2]
      go_enter Try.func48, Try.ntmps48
      go_wp2_with fail
      go_ret
      exact ⟨rfl, rfl⟩
    · rw [decide_eq_true h1, decide_eq_false h2]
      go_enter Try.func48, Try.ntmps48
      go_wp2_with fail
      go_ret
      exact ⟨rfl, rfl⟩
  · rw [decide_eq_false h1]
    go_enter Try.func48, Try.ntmps48
    go_wp2_with fail
    go_ret
    exact ⟨rfl, rfl⟩

theorem quo52 (c : Int) (h : 0 < c) : IntKind.i64.wrap (Int.tdiv 52 c) = 52 / c := by
  rw [wrap_i64_tdiv 52 c (by omega) (by omega) (by omega), Int.tdiv_eq_ediv_of_nonneg (by omega)]
theorem field_many (s c : Int) (w : World) : Calls Try.prog 93 #[.int .i64 s, .int .i64 c] w fun e w' => e = .returned (.int .i64 (manyC s c)) ∧ w = w' := by
  unfold manyC
  by_cases h2 : s = 2
  · subst h2
    rw [if_pos rfl]
    go_enter Try.func93, Try.ntmps93
    go_wp2_with fail
    go_ret
    exact ⟨rfl, rfl⟩
  rw [if_neg h2]
  have k2 : (s == 2) = false := beq_false_of_ne h2
  by_cases h3 : s = 3
  · subst h3
    by_cases hc : 0 < c
    · rw [if_pos ⟨rfl, hc⟩]
      have q := quo52 c hc
      have c0 : (c == 0) = false := beq_false_of_ne (by omega)
      have c1 : c ≠ 0 := by omega
      go_enter Try.func93, Try.ntmps93
      go_wp2_with fail
      go_ret
      exact ⟨rfl, rfl⟩
    · rw [if_neg (fun h => hc h.2), if_pos (by omega)]
      go_enter Try.func93, Try.ntmps93
      go_wp2_with fail
      go_ret
      exact ⟨rfl, rfl⟩
  · rw [if_neg (fun h => h3 h.1)]
    have k3 : (s == 3) = false := beq_false_of_ne h3
    by_cases h1 : 1 ≤ s
    · by_cases h5 : s ≤ 5
      · rw [if_pos ⟨h1, h5⟩]
        go_enter Try.func93, Try.ntmps93
        go_wp2_with fail
        go_ret
        exact ⟨rfl, rfl⟩
      · rw [if_neg (fun h => h5 h.2)]
        go_enter Try.func93, Try.ntmps93
        go_wp2_with fail
        go_ret
        exact ⟨rfl, rfl⟩
    · rw [if_neg (fun h => h1 h.1)]
      go_enter Try.func93, Try.ntmps93
      go_wp2_with fail
      go_ret
      exact ⟨rfl, rfl⟩

/-- What fixed tells. -/
def fixedR (k : Int) : CalL × Bool := if k = 3 then (nrfC, true) else if k = 4 then (broadC, true) else (calZ, false)
theorem field_fixed (k : Int) (w : World) : Calls Try.prog 77 #[.int .i64 k] w fun e w' => e = .returned (.tuple #[calV (fixedR k).1, .bool (fixedR k).2]) ∧ Below w.heap.size w w' := by
  unfold fixedR
  by_cases h3 : k = 3
  · subst h3
    rw [if_pos rfl]
    go_enter Try.func77, Try.ntmps77
    go_wp2_with fail
    refine bodyPost_ret (v := .tuple #[calV nrfC, .bool true]) (by simp [results, calV, nrfC, Try.results77, go_sem, *]) rfl ⟨rfl, ?_⟩
    (repeat (first | exact Below.refl _ _ | assumption | refine Below.setCell ?_ (by first | (simp; done) | (simp; omega) | omega) _ | refine Below.alloc ?_ (by first | (simp; done) | (simp; omega) | omega) _ | refine Below.drew ?_ | refine below_drewN ?_ _ | refine Below.trans ?_ (Below.mono (by assumption) (by first | (simp; done) | (simp; omega) | omega))))
  rw [if_neg h3]
  have k3 : (k == 3) = false := beq_false_of_ne h3
  by_cases h4 : k = 4
  · subst h4
    rw [if_pos rfl]
    go_enter Try.func77, Try.ntmps77
    go_wp2_with fail
    refine bodyPost_ret (v := .tuple #[calV broadC, .bool true]) (by simp [results, calV, broadC, Try.results77, go_sem, *]) rfl ⟨rfl, ?_⟩
    (repeat (first | exact Below.refl _ _ | assumption | refine Below.setCell ?_ (by first | (simp; done) | (simp; omega) | omega) _ | refine Below.alloc ?_ (by first | (simp; done) | (simp; omega) | omega) _ | refine Below.drew ?_ | refine below_drewN ?_ _ | refine Below.trans ?_ (Below.mono (by assumption) (by first | (simp; done) | (simp; omega) | omega))))
  rw [if_neg h4]
  have k4 : (k == 4) = false := beq_false_of_ne h4
  go_enter Try.func77, Try.ntmps77
  go_wp2_with fail
  refine bodyPost_ret (v := .tuple #[calV calZ, .bool false]) (by simp [results, calV, calZ, Try.results77, go_sem, *]) rfl ⟨rfl, ?_⟩
  (repeat (first | exact Below.refl _ _ | assumption | refine Below.setCell ?_ (by first | (simp; done) | (simp; omega) | omega) _ | refine Below.alloc ?_ (by first | (simp; done) | (simp; omega) | omega) _ | refine Below.drew ?_ | refine below_drewN ?_ _ | refine Below.trans ?_ (Below.mono (by assumption) (by first | (simp; done) | (simp; omega) | omega))))

theorem und_pat : Try.prog.underlying 29 = some (.array 3 3) := by kernel_rfl
theorem info_int : ∃ i, Try.prog.info? 3 = some i := by
  have h : (Try.prog.info? 3).isSome = true := by kernel_rfl
  exact Option.isSome_iff_exists.1 h
theorem cells_int : Try.prog.cellsOf 3 = 1 := by kernel_rfl
theorem run_eqPat (W : World) (a b c d e f : Int) : (binOp .eql 29 (.agg #[.int .i64 a, .int .i64 b, .int .i64 c]) (.agg #[.int .i64 d, .int .i64 e, .int .i64 f])).run Try.prog W = .ok (.bool (decide (a = d) && decide (b = e) && decide (c = f))) W := by
  obtain ⟨i, hi⟩ := info_int
  rw [run_eql_struct, run_equalIn_array W 9999 _ _ und_pat hi, cells_int]
  have h3 : List.range 3 = [0, 1, 2] := rfl
  rw [h3]
  by_cases h1 : a = d <;> by_cases h2 : b = e <;> by_cases h3 : c = f <;> simp [go_sem, h1, h2, h3, Op.eqItems]

end Go.Proofs.Ytjbniichcopnlaa
