/- Two tokens compared as structs. -/
import Derived.Test.YtaffbnjdlgcaiaaDoorLexW5
namespace Go.Proofs.YtaffbnjdlgcaiaaDoor
open Go.RowKit

theorem tok_eq_iff (a b : Tok) : a = b ↔ a.kind = b.kind ∧ a.pos = b.pos ∧ a.n = b.n ∧ a.s = b.s := by
  cases a; cases b; simp

set_option maxRecDepth 100000 in
theorem run_equalTok (W : World) (a b : Tok) : (Op.equalIn 10000 61 (.agg #[.int .i64 a.kind, .int .i64 a.pos, .int .i64 a.n, .string ⟨a.s.toArray⟩]) (.agg #[.int .i64 b.kind, .int .i64 b.pos, .int .i64 b.n, .string ⟨b.s.toArray⟩])).run Tryd.prog W = .ok (decide (a = b)) W := by
  rw [run_equalIn_agg W 9999 61 _ _ (by kernel_rfl) (by kernel_rfl)]
  simp only [tok_eq_iff]
  by_cases h1 : a.kind = b.kind <;> by_cases h2 : a.pos = b.pos <;> by_cases h3 : a.n = b.n <;> by_cases h4 : a.s = b.s <;>
    (simp [go_sem, Op.eqFields, h1, h2, h3, h4]; done)

theorem run_neqTok (W : World) (a b : Tok) : (binOp .neq 61 (.agg #[.int .i64 a.kind, .int .i64 a.pos, .int .i64 a.n, .string ⟨a.s.toArray⟩]) (.agg #[.int .i64 b.kind, .int .i64 b.pos, .int .i64 b.n, .string ⟨b.s.toArray⟩])).run Tryd.prog W = .ok (.bool (!decide (a = b))) W := by
  rw [run_neq_struct, run_equalTok]; rfl
theorem run_eqlTok (W : World) (a b : Tok) : (binOp .eql 61 (.agg #[.int .i64 a.kind, .int .i64 a.pos, .int .i64 a.n, .string ⟨a.s.toArray⟩]) (.agg #[.int .i64 b.kind, .int .i64 b.pos, .int .i64 b.n, .string ⟨b.s.toArray⟩])).run Tryd.prog W = .ok (.bool (decide (a = b))) W := by
  rw [run_eql_struct, run_equalTok]; rfl

end Go.Proofs.YtaffbnjdlgcaiaaDoor
