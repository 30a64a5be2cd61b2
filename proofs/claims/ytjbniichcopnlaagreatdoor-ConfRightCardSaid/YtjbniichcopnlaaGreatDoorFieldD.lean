import Derived.Test.YtjbniichcopnlaaGreatDoorFieldC
/- Layer 11 (field): calendars compared; the walks of ruled, Check, Periods. -/
set_option linter.unusedVariables false
set_option linter.unusedSimpArgs false
set_option maxRecDepth 100000
namespace Go.Proofs.YtjbniichcopnlaaGreatDoor
open Go.RowKit

theorem eqPatIn (W : World) (a b c d e f : Int) : (Op.equalIn 9999 35 (.agg #[.int .i64 a, .int .i64 b, .int .i64 c]) (.agg #[.int .i64 d, .int .i64 e, .int .i64 f])).run Tryz.prog W = .ok (decide (a = d) && decide (b = e) && decide (c = f)) W := by
  obtain ⟨i, hi⟩ := info_int
  rw [show (9999 : Nat) = 9998 + 1 from rfl, run_equalIn_array W 9998 _ _ und_pat hi, cells_int]
  have h3 : List.range 3 = [0, 1, 2] := rfl
  rw [h3]
  by_cases h1 : a = d <;> by_cases h2 : b = e <;> by_cases h3 : c = f <;> simp [go_sem, h1, h2, h3, Op.eqItems]
theorem cal_ext (a b : CalL) : a = b ↔ a.name = b.name ∧ a.kind = b.kind ∧ a.day = b.day ∧ a.month = b.month ∧ a.shift = b.shift ∧ a.shape = b.shape ∧ a.p0 = b.p0 ∧ a.p1 = b.p1 ∧ a.p2 = b.p2 ∧ a.cycle = b.cycle ∧ a.extra = b.extra ∧ a.first = b.first ∧ a.last = b.last ∧ a.policy = b.policy := by
  cases a; cases b; simp
set_option maxHeartbeats 4000000 in
theorem run_equalCal (W : World) (a b : CalL) : (Op.equalIn 10000 37 (.agg #[.string ⟨a.name.toArray⟩, .int .i64 a.kind, .int .i64 a.day, .int .i64 a.month, .int .i64 a.shift, .int .i64 a.shape, .int .i64 a.p0, .int .i64 a.p1, .int .i64 a.p2, .int .i64 a.cycle, .int .i64 a.extra, .int .i64 a.first, .int .i64 a.last, .int .i64 a.policy]) (.agg #[.string ⟨b.name.toArray⟩, .int .i64 b.kind, .int .i64 b.day, .int .i64 b.month, .int .i64 b.shift, .int .i64 b.shape, .int .i64 b.p0, .int .i64 b.p1, .int .i64 b.p2, .int .i64 b.cycle, .int .i64 b.extra, .int .i64 b.first, .int .i64 b.last, .int .i64 b.policy])).run Tryz.prog W = .ok (decide (a = b)) W := by
  rw [run_equalIn_agg W 9999 37 _ _ (by kernel_rfl) (by kernel_rfl)]
  simp only [cal_ext]
  obtain ⟨aname, akind, aday, amonth, ashift, ashape, ap0, ap1, ap2, acycle, aextra, afirst, alast, apolicy⟩ := a
  obtain ⟨bname, bkind, bday, bmonth, bshift, bshape, bp0, bp1, bp2, bcycle, bextra, bfirst, blast, bpolicy⟩ := b
  dsimp only
  by_cases h_name : aname = bname
  case neg => simp [go_sem, Op.eqFields, eqPatIn, h_name]
  subst h_name
  by_cases h_kind : akind = bkind
  case neg => simp [go_sem, Op.eqFields, eqPatIn, h_kind]
  subst h_kind
  by_cases h_day : aday = bday
  case neg => simp [go_sem, Op.eqFields, eqPatIn, h_day]
  subst h_day
  by_cases h_month : amonth = bmonth
  case neg => simp [go_sem, Op.eqFields, eqPatIn, h_month]
  subst h_month
  by_cases h_shift : ashift = bshift
  case neg => simp [go_sem, Op.eqFields, eqPatIn, h_shift]
  subst h_shift
  by_cases h_shape : ashape = bshape
  case neg => simp [go_sem, Op.eqFields, eqPatIn, h_shape]
  subst h_shape
  by_cases h_p0 : ap0 = bp0
  case neg => simp [go_sem, Op.eqFields, eqPatIn, h_p0]
  subst h_p0
  by_cases h_p1 : ap1 = bp1
  case neg => simp [go_sem, Op.eqFields, eqPatIn, h_p1]
  subst h_p1
  by_cases h_p2 : ap2 = bp2
  case neg => simp [go_sem, Op.eqFields, eqPatIn, h_p2]
  subst h_p2
  by_cases h_cycle : acycle = bcycle
  case neg => simp [go_sem, Op.eqFields, eqPatIn, h_cycle]
  subst h_cycle
  by_cases h_extra : aextra = bextra
  case neg => simp [go_sem, Op.eqFields, eqPatIn, h_extra]
  subst h_extra
  by_cases h_first : afirst = bfirst
  case neg => simp [go_sem, Op.eqFields, eqPatIn, h_first]
  subst h_first
  by_cases h_last : alast = blast
  case neg => simp [go_sem, Op.eqFields, eqPatIn, h_last]
  subst h_last
  by_cases h_policy : apolicy = bpolicy
  case neg => simp [go_sem, Op.eqFields, eqPatIn, h_policy]
  subst h_policy
  simp [go_sem, Op.eqFields, eqPatIn]
theorem run_eqCal (W : World) (a b : CalL) : (binOp .eql 37 (.agg #[.string ⟨a.name.toArray⟩, .int .i64 a.kind, .int .i64 a.day, .int .i64 a.month, .int .i64 a.shift, .int .i64 a.shape, .int .i64 a.p0, .int .i64 a.p1, .int .i64 a.p2, .int .i64 a.cycle, .int .i64 a.extra, .int .i64 a.first, .int .i64 a.last, .int .i64 a.policy]) (.agg #[.string ⟨b.name.toArray⟩, .int .i64 b.kind, .int .i64 b.day, .int .i64 b.month, .int .i64 b.shift, .int .i64 b.shape, .int .i64 b.p0, .int .i64 b.p1, .int .i64 b.p2, .int .i64 b.cycle, .int .i64 b.extra, .int .i64 b.first, .int .i64 b.last, .int .i64 b.policy])).run Tryz.prog W = .ok (.bool (decide (a = b))) W := by
  rw [run_eql_struct, run_equalCal]; rfl

end Go.Proofs.YtjbniichcopnlaaGreatDoor
