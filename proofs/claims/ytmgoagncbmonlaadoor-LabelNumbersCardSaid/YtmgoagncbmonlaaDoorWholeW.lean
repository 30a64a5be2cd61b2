/- Layer 1 (whole): the walks of Add, Sub, size, signed, Mul. -/
import Derived.Test.YtmgoagncbmonlaaDoorLabC
import Derived.Test.YtmgoagncbmonlaaDoorAmtP
set_option linter.unusedVariables false
namespace Go.Proofs.YtmgoagncbmonlaaDoor
open Go.RowKit

theorem whole_Add (a b : Int) (ha : fit a) (hb : fit b) (w : World) :
    Calls Tryd.prog 14 #[.int .i64 a, .int .i64 b] w fun e w' => e = .returned (.tuple #[.int .i64 (if fit (a + b) then a + b else 0), .int .i64 (if fit (a + b) then 0 else 2)]) ∧ w = w' := by
  have ht := add_test a b ha hb
  by_cases h : fit (a + b)
  · rw [if_pos h, if_pos h]
    have hw := wrap_fit _ h
    have hlt : ¬ (bits .and .i64 (bits .xor .i64 a (IntKind.i64.wrap (a + b))) (bits .xor .i64 b (IntKind.i64.wrap (a + b))) < 0) := fun e => ht.1 e h
    clear ht h ha hb
    rw [hw] at hlt
    go_enter Tryd.func14, Tryd.ntmps14
    go_wp2
    go_ret2
    trivial
  · rw [if_neg h, if_neg h]
    have hlt := ht.2 h
    obtain ⟨N, hN⟩ : ∃ N, N = IntKind.i64.wrap (a + b) := ⟨_, rfl⟩
    rw [← hN] at hlt
    have hw := hN.symm
    clear ht h ha hb hN
    go_enter Tryd.func14, Tryd.ntmps14
    go_wp2
    go_ret2
    trivial
theorem whole_Sub (a b : Int) (ha : fit a) (hb : fit b) (w : World) :
    Calls Tryd.prog 13 #[.int .i64 a, .int .i64 b] w fun e w' => e = .returned (.tuple #[.int .i64 (if fit (a - b) then a - b else 0), .int .i64 (if fit (a - b) then 0 else 2)]) ∧ w = w' := by
  have ht := sub_test a b ha hb
  by_cases h : fit (a - b)
  · rw [if_pos h, if_pos h]
    have hw := wrap_fit _ h
    have hlt : ¬ (bits .and .i64 (bits .xor .i64 a b) (bits .xor .i64 a (IntKind.i64.wrap (a - b))) < 0) := fun e => ht.1 e h
    clear ht h ha hb
    rw [hw] at hlt
    go_enter Tryd.func13, Tryd.ntmps13
    go_wp2
    go_ret2
    trivial
  · rw [if_neg h, if_neg h]
    have hlt := ht.2 h
    obtain ⟨N, hN⟩ : ∃ N, N = IntKind.i64.wrap (a - b) := ⟨_, rfl⟩
    rw [← hN] at hlt
    have hw := hN.symm
    clear ht h ha hb hN
    go_enter Tryd.func13, Tryd.ntmps13
    go_wp2
    go_ret2
    trivial

theorem whole_size (a : Int) (ha : fit a) (w : World) :
    Calls Tryd.prog 26 #[.int .i64 a] w fun e w' => e = .returned (.int .u64 (a.natAbs : Int)) ∧ w = w' := by
  unfold fit at ha
  by_cases h : a < 0
  · have hw : IntKind.u64.wrap (-(IntKind.u64.wrap a)) = (a.natAbs : Int) := by rw [IntKind.wrap_u64, IntKind.wrap_u64]; omega
    go_enter Tryd.func26, Tryd.ntmps26
    go_wp2
    go_ret
    exact ⟨by first | trivial | exact ret_int (by first | exact hw | (rw [← hw])) , rfl⟩
  · have hw : IntKind.u64.wrap a = (a.natAbs : Int) := by rw [IntKind.wrap_u64]; omega
    go_enter Tryd.func26, Tryd.ntmps26
    go_wp2
    go_ret
    exact ⟨by first | trivial | exact ret_int (by first | exact hw | (rw [← hw])), rfl⟩

def lim (neg : Bool) : Int := if neg then 9223372036854775808 else 9223372036854775807
theorem whole_signed (h n : Nat) (neg : Bool) (hh : h < 18446744073709551616) (hn : n < 18446744073709551616) (w : World) :
    Calls Tryd.prog 27 #[.int .u64 h, .int .u64 n, .bool neg] w fun e w' => e = .returned (.tuple #[.int .i64 (if h = 0 ∧ (n : Int) ≤ lim neg then sgI neg n else 0), .int .i64 (if h = 0 ∧ (n : Int) ≤ lim neg then 0 else 2)]) ∧ w = w' := by
  by_cases hh0 : h = 0
  · subst hh0
    by_cases hl : (n : Int) ≤ lim neg
    · rw [if_pos ⟨rfl, hl⟩, if_pos ⟨rfl, hl⟩]
      cases neg
      · have hl' : ¬ (9223372036854775807 < (n : Int)) := by simp [lim] at hl; omega
        have hw : IntKind.i64.wrap (n : Int) = n := by rw [IntKind.wrap_i64]; omega
        clear hl
        go_enter Tryd.func27, Tryd.ntmps27
        go_wp2
        go_ret2
        exact ⟨ret_ii (by first | rfl | exact hw | simp [sgI]) rfl, rfl⟩
      · have hl' : ¬ (9223372036854775808 < (n : Int)) := by simp [lim] at hl; omega
        have hw : IntKind.i64.wrap (IntKind.u64.wrap (-(n : Int))) = -(n : Int) := by rw [IntKind.wrap_i64, IntKind.wrap_u64]; omega
        clear hl
        go_enter Tryd.func27, Tryd.ntmps27
        go_wp2
        go_ret2
        exact ⟨ret_ii (by first | rfl | exact hw | simp [sgI]) rfl, rfl⟩
    · rw [if_neg (fun a => hl a.2), if_neg (fun a => hl a.2)]
      cases neg
      · have hl' : 9223372036854775807 < (n : Int) := by simp [lim] at hl; omega
        clear hl
        go_enter Tryd.func27, Tryd.ntmps27
        go_wp2
        go_ret2
        trivial
      · have hl' : 9223372036854775808 < (n : Int) := by simp [lim] at hl; omega
        clear hl
        go_enter Tryd.func27, Tryd.ntmps27
        go_wp2
        go_ret2
        trivial
  · rw [if_neg (fun a => hh0 a.1), if_neg (fun a => hh0 a.1)]
    have hp : 0 < (h : Int) := by omega
    clear hh0
    cases neg <;>
    · go_enter Tryd.func27, Tryd.ntmps27
      go_wp2
      go_ret2
      trivial

theorem mul_signed (a b : Int) : ((if a.natAbs * b.natAbs / 18446744073709551616 = 0 ∧ ((a.natAbs * b.natAbs % 18446744073709551616 : Nat) : Int) ≤ lim ((decide (a < 0)) != (decide (b < 0))) then sgI ((decide (a < 0)) != (decide (b < 0))) ((a.natAbs * b.natAbs % 18446744073709551616 : Nat) : Int) else 0) = if fit (a * b) then a * b else 0) ∧
    ((if a.natAbs * b.natAbs / 18446744073709551616 = 0 ∧ ((a.natAbs * b.natAbs % 18446744073709551616 : Nat) : Int) ≤ lim ((decide (a < 0)) != (decide (b < 0))) then (0 : Int) else 2) = if fit (a * b) then 0 else 2) := by
  have hs : a * b = sgI ((decide (a < 0)) != (decide (b < 0))) ((a.natAbs * b.natAbs : Nat) : Int) := by
    rw [Int.natCast_mul]
    by_cases h1 : a < 0 <;> by_cases h2 : b < 0 <;> simp only [h1, h2, decide_true, decide_false, bne_self_eq_false, Bool.false_bne, Bool.bne_false, sgI]
    · rw [show (a.natAbs : Int) = -a by omega, show (b.natAbs : Int) = -b by omega, Int.neg_mul_neg]; rfl
    · rw [show (a.natAbs : Int) = -a by omega, show (b.natAbs : Int) = b by omega, Int.neg_mul]; simp
    · rw [show (a.natAbs : Int) = a by omega, show (b.natAbs : Int) = -b by omega, Int.mul_neg]; simp
    · rw [show (a.natAbs : Int) = a by omega, show (b.natAbs : Int) = b by omega]; rfl
  rw [hs]
  generalize ((decide (a < 0)) != (decide (b < 0))) = g
  generalize a.natAbs * b.natAbs = p
  have hiff : (p / 18446744073709551616 = 0 ∧ ((p % 18446744073709551616 : Nat) : Int) ≤ lim g) ↔ fit (sgI g p) := by
    unfold fit sgI lim
    cases g <;> simp <;> omega
  by_cases h : fit (sgI g p)
  · rw [if_pos h, if_pos h, if_pos (hiff.2 h), if_pos (hiff.2 h)]
    have h0 := (hiff.2 h).1
    rw [Nat.mod_eq_of_lt (by omega)]
    exact ⟨rfl, rfl⟩
  · rw [if_neg h, if_neg h, if_neg (fun a => h (hiff.1 a)), if_neg (fun a => h (hiff.1 a))]
    exact ⟨rfl, rfl⟩

theorem whole_Mul (a b : Int) (ha : fit a) (hb : fit b) (w : World) :
    Calls Tryd.prog 12 #[.int .i64 a, .int .i64 b] w fun e w' => e = .returned (.tuple #[.int .i64 (if fit (a * b) then a * b else 0), .int .i64 (if fit (a * b) then 0 else 2)]) ∧ w = w' := by
  obtain ⟨m1, m2⟩ := mul_signed a b
  have hna : a.natAbs < 18446744073709551616 := by unfold fit at ha; omega
  have hnb : b.natAbs < 18446744073709551616 := by unfold fit at hb; omega
  have H1 := Lib.hid (fun W => whole_size a ha W)
  have H2 := Lib.hid (fun W => whole_size b hb W)
  have H3 := Lib.hid (fun W => Tryd.bits_Mul64 a.natAbs b.natAbs hna hnb W)
  have H4 := Lib.hid (fun W => whole_signed (a.natAbs * b.natAbs / 18446744073709551616) (a.natAbs * b.natAbs % 18446744073709551616) ((decide (a < 0)) != (decide (b < 0))) (by
    refine Nat.lt_of_le_of_lt (Nat.div_le_div_right (Nat.mul_le_mul (Nat.le_pred_of_lt hna) (Nat.le_pred_of_lt hnb))) (by decide)) (Nat.mod_lt _ (by decide)) W)
  rw [m1, m2] at H4
  generalize (if fit (a * b) then a * b else 0) = R1 at *
  generalize (if fit (a * b) then (0 : Int) else 2) = R2 at *
  clear m1 m2 ha hb
  generalize a.natAbs * b.natAbs / 18446744073709551616 = P at *
  generalize a.natAbs * b.natAbs % 18446744073709551616 = Q at *
  generalize a.natAbs = x at *
  generalize b.natAbs = y at *
  go_enter Tryd.func12, Tryd.ntmps12
  go_wp2_with fail
  refine (H1.out _).mono ?_
  rintro e w1 ⟨rfl, rfl⟩
  go_wp2_with fail
  refine (H2.out _).mono ?_
  rintro e w1 ⟨rfl, rfl⟩
  go_wp2_with fail
  refine (H3.out _).mono ?_
  rintro e w1 ⟨rfl, rfl⟩
  go_wp2_with fail
  refine (H4.out _).mono ?_
  rintro e w1 ⟨rfl, rfl⟩
  go_wp2
  go_ret2
  trivial

end Go.Proofs.YtmgoagncbmonlaaDoor
