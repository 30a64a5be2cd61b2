/- Numbers of 64 bits, in plain Lean: tests of signs by bits; sizes; what fits. No program in sight. -/
import Derived.Laws.BitsAllLaws
import Derived.Laws.BitsLemmas
namespace Go.Proofs.YtmgoagncbmonlaaDoor

theorem wrap_toInt (v : BitVec 64) : IntKind.i64.wrap (v.toNat : Int) = v.toInt := by
  rw [IntKind.wrap_i64, BitVec.toInt_eq_toNat_cond]
  have := v.isLt
  split <;> omega
theorem bits_and_toInt (x y : Int) : bits .and .i64 x y = (BitVec.ofInt 64 x &&& BitVec.ofInt 64 y).toInt := wrap_toInt _
theorem bits_xor_toInt (x y : Int) : bits .xor .i64 x y = (BitVec.ofInt 64 x ^^^ BitVec.ofInt 64 y).toInt := wrap_toInt _
theorem msb_ofInt (x : Int) (h1 : -9223372036854775808 ≤ x) (h2 : x ≤ 9223372036854775807) : (BitVec.ofInt 64 x).msb = decide (x < 0) := by
  rw [BitVec.msb_eq_toInt, BitVec.toInt_ofInt, Int.bmod_def]
  congr 1
  split <;> (apply propext; omega)
/-- (x ^ n) & (y ^ n) < 0: n has another sign than both. -/
theorem sign_test (x y p q : Int) (hx : -9223372036854775808 ≤ x ∧ x ≤ 9223372036854775807) (hy : -9223372036854775808 ≤ y ∧ y ≤ 9223372036854775807) (hp : -9223372036854775808 ≤ p ∧ p ≤ 9223372036854775807)
    (hq : -9223372036854775808 ≤ q ∧ q ≤ 9223372036854775807) :
    (bits .and .i64 (bits .xor .i64 x p) (bits .xor .i64 y q) < 0) ↔ ((x < 0 ↔ ¬ p < 0) ∧ (y < 0 ↔ ¬ q < 0)) := by
  have e : ∀ v : BitVec 64, v.toInt < 0 ↔ v.msb = true := fun v => by rw [BitVec.msb_eq_toInt]; simp
  rw [bits_and_toInt, e, BitVec.msb_and, bits_xor_toInt, bits_xor_toInt, BitVec.ofInt_toInt, BitVec.ofInt_toInt, BitVec.msb_xor, BitVec.msb_xor, msb_ofInt x hx.1 hx.2, msb_ofInt y hy.1 hy.2, msb_ofInt p hp.1 hp.2, msb_ofInt q hq.1 hq.2]
  by_cases h1 : x < 0 <;> by_cases h2 : y < 0 <;> by_cases h3 : p < 0 <;> by_cases h4 : q < 0 <;> simp [h1, h2, h3, h4]

def fit (n : Int) : Prop := -9223372036854775808 ≤ n ∧ n ≤ 9223372036854775807
instance (n : Int) : Decidable (fit n) := by unfold fit; infer_instance
theorem add_test (a b : Int) (ha : fit a) (hb : fit b) : (bits .and .i64 (bits .xor .i64 a (IntKind.i64.wrap (a + b))) (bits .xor .i64 b (IntKind.i64.wrap (a + b))) < 0) ↔ ¬ fit (a + b) := by
  unfold fit at *
  rw [sign_test _ _ _ _ ha hb (by rw [IntKind.wrap_i64]; omega) (by rw [IntKind.wrap_i64]; omega), IntKind.wrap_i64]
  omega
theorem sub_test (a b : Int) (ha : fit a) (hb : fit b) : (bits .and .i64 (bits .xor .i64 a b) (bits .xor .i64 a (IntKind.i64.wrap (a - b))) < 0) ↔ ¬ fit (a - b) := by
  unfold fit at *
  rw [sign_test _ _ _ _ ha ha hb (by rw [IntKind.wrap_i64]; omega), IntKind.wrap_i64]
  omega
theorem wrap_fit (n : Int) (h : fit n) : IntKind.i64.wrap n = n := by unfold fit at h; rw [IntKind.wrap_i64]; omega

end Go.Proofs.YtmgoagncbmonlaaDoor
