/- Layer 2 (wide), the reference's numbers, in plain Lean: digits of 16 bits. No program in sight. -/
import Derived.Test.YtmgoagncbmonlaaDoorAmtP
namespace Go.Proofs.YtmgoagncbmonlaaDoor

/-- The digit i of a number. -/
def dg (m i : Nat) : Nat := m / 65536 ^ i % 65536
theorem dg_lt (m i : Nat) : dg m i < 65536 := Nat.mod_lt _ (by omega)
theorem dg0 (m : Nat) : dg m 0 = m % 65536 := by unfold dg; omega
theorem dg1 (m : Nat) : dg m 1 = m / 65536 % 65536 := by unfold dg; omega
theorem dg2 (m : Nat) : dg m 2 = m / 4294967296 % 65536 := by unfold dg; omega
theorem dg3 (m : Nat) : dg m 3 = m / 281474976710656 % 65536 := by unfold dg; omega
theorem dg4 (m : Nat) : dg m 4 = m / 18446744073709551616 % 65536 := by unfold dg; omega
theorem dg5 (m : Nat) : dg m 5 = m / 1208925819614629174706176 % 65536 := by unfold dg; omega
theorem dg6 (m : Nat) : dg m 6 = m / 79228162514264337593543950336 % 65536 := by unfold dg; omega
theorem dg7 (m : Nat) : dg m 7 = m / 5192296858534827628530496329220096 % 65536 := by unfold dg; omega
/-- The number of eight digits. -/
def val8 (D : Nat → Nat) : Nat := D 0 + D 1 * 65536 + D 2 * 4294967296 + D 3 * 281474976710656 + D 4 * 18446744073709551616 + D 5 * 1208925819614629174706176 + D 6 * 79228162514264337593543950336 + D 7 * 5192296858534827628530496329220096
theorem val_dg (m : Nat) (h : m < 340282366920938463463374607431768211456) : val8 (dg m) = m := by
  unfold val8
  rw [dg0, dg1, dg2, dg3, dg4, dg5, dg6, dg7]
  omega
theorem dg_val (D : Nat → Nat) (h : ∀ i, i < 8 → D i < 65536) (i : Nat) (hi : i < 8) : D i = dg (val8 D) i := by
  have h0 := h 0 (by omega); have h1 := h 1 (by omega); have h2 := h 2 (by omega); have h3 := h 3 (by omega)
  have h4 := h 4 (by omega); have h5 := h 5 (by omega); have h6 := h 6 (by omega); have h7 := h 7 (by omega)
  unfold val8
  rcases (by omega : i = 0 ∨ i = 1 ∨ i = 2 ∨ i = 3 ∨ i = 4 ∨ i = 5 ∨ i = 6 ∨ i = 7) with rfl | rfl | rfl | rfl | rfl | rfl | rfl | rfl
  · rw [dg0]; omega
  · rw [dg1]; omega
  · rw [dg2]; omega
  · rw [dg3]; omega
  · rw [dg4]; omega
  · rw [dg5]; omega
  · rw [dg6]; omega
  · rw [dg7]; omega
theorem val8_lt (D : Nat → Nat) (h : ∀ i, i < 8 → D i < 65536) : val8 D < 340282366920938463463374607431768211456 := by
  have h0 := h 0 (by omega); have h1 := h 1 (by omega); have h2 := h 2 (by omega); have h3 := h 3 (by omega)
  have h4 := h 4 (by omega); have h5 := h 5 (by omega); have h6 := h 6 (by omega); have h7 := h 7 (by omega)
  unfold val8
  omega

/-! ### What put goes through -/
/-- The digits of two words. -/
theorem dg_words (h l : Nat) (hl : l < 18446744073709551616) (i : Nat) (hi : i < 4) : dg (h * 18446744073709551616 + l) i = dg l i ∧ dg (h * 18446744073709551616 + l) (4 + i) = dg h i := by
  rcases (by omega : i = 0 ∨ i = 1 ∨ i = 2 ∨ i = 3) with rfl | rfl | rfl | rfl
  · rw [dg0, dg0, dg4, dg0]; omega
  · rw [dg1, dg1, dg5, dg1]; omega
  · rw [dg2, dg2, dg6, dg2]; omega
  · rw [dg3, dg3, dg7, dg3]; omega
/-- A word, the lowest i digits taken off. -/
def off (x i : Nat) : Nat := x / 65536 ^ i
theorem off_zero (x : Nat) : off x 0 = x := by unfold off; omega
theorem off_succ (x i : Nat) : off x (i + 1) = off x i / 65536 := by unfold off; rw [Nat.pow_succ, Nat.div_div_eq_div_mul]
theorem off_mod (x i : Nat) : off x i % 65536 = dg x i := rfl
theorem off_le (x i : Nat) : off x i ≤ x := Nat.div_le_self _ _
theorem off_up (x i : Nat) : off x (i + 1) * 65536 + dg x i = off x i := by rw [off_succ, ← off_mod]; omega
theorem off_4 (x : Nat) (h : x < 18446744073709551616) : off x 4 = 0 := by unfold off; omega
theorem dg_low (m i : Nat) (hi : i < 4) : dg m i = dg (m % 18446744073709551616) i := by
  have := (dg_words (m / 18446744073709551616) (m % 18446744073709551616) (by omega) i hi).1
  rwa [Nat.div_add_mod'] at this
theorem dg_high (m i : Nat) (hi : i < 4) : dg m (4 + i) = dg (m / 18446744073709551616) i := by
  have := (dg_words (m / 18446744073709551616) (m % 18446744073709551616) (by omega) i hi).2
  rwa [Nat.div_add_mod'] at this

/-! ### cmp, plus -/
def cmpN (a b : Nat) : Int := if a < b then -1 else if b < a then 1 else 0
/-- The digits above i are the same. -/
theorem cmp_step (a b i : Nat) (h : off a (i + 1) = off b (i + 1)) : (dg a i < dg b i → a < b) ∧ (dg b i < dg a i → b < a) ∧ (dg a i = dg b i → off a i = off b i) := by
  have ha := off_up a i
  have hb := off_up b i
  have key : ∀ x y : Nat, off x i < off y i → x < y := fun x y hxy => by
    rcases Nat.lt_or_ge x y with h' | h'
    · exact h'
    · exact absurd (Nat.div_le_div_right (c := 65536 ^ i) h') (by unfold off at hxy; omega)
  exact ⟨fun hd => key a b (by omega), fun hd => key b a (by omega), fun hd => by omega⟩
/-- The carry ahead of the digit i. -/
def carry (a b : Nat) (i : Nat) : Nat := (a % 65536 ^ i + b % 65536 ^ i) / 65536 ^ i
theorem mod_pow_succ (a i : Nat) : a % 65536 ^ (i + 1) = a % 65536 ^ i + dg a i * 65536 ^ i := by
  unfold dg
  rw [Nat.pow_succ, Nat.mod_mul]
  rw [Nat.mul_comm (65536 ^ i)]
theorem carry_le (a b i : Nat) : carry a b i ≤ 1 := by
  unfold carry
  have hp : 0 < 65536 ^ i := Nat.pow_pos (by omega)
  have h1 := Nat.mod_lt a hp
  have h2 := Nat.mod_lt b hp
  have : (a % 65536 ^ i + b % 65536 ^ i) / 65536 ^ i < 2 := by
    rw [Nat.div_lt_iff_lt_mul hp]; omega
  omega
theorem carry_zero (a b : Nat) : carry a b 0 = 0 := by unfold carry; simp; omega
theorem add_digit (a b i : Nat) : dg (a + b) i = (carry a b i + dg a i + dg b i) % 65536 ∧ carry a b (i + 1) = (carry a b i + dg a i + dg b i) / 65536 := by
  have hp : 0 < 65536 ^ i := Nat.pow_pos (by omega)
  have ha := Nat.div_add_mod a (65536 ^ i)
  have hb := Nat.div_add_mod b (65536 ^ i)
  have e1 : (a + b) / 65536 ^ i = carry a b i + a / 65536 ^ i + b / 65536 ^ i := by
    unfold carry
    have : a + b = (a % 65536 ^ i + b % 65536 ^ i) + (a / 65536 ^ i + b / 65536 ^ i) * 65536 ^ i := by
      rw [Nat.add_mul, Nat.mul_comm (a / _), Nat.mul_comm (b / _)]; omega
    rw [this, Nat.add_mul_div_right _ _ hp]; omega
  refine ⟨?_, ?_⟩
  · unfold dg
    rw [e1]
    omega
  · unfold carry
    rw [mod_pow_succ, mod_pow_succ, Nat.pow_succ, ← Nat.div_div_eq_div_mul]
    congr 1
    have : a % 65536 ^ i + dg a i * 65536 ^ i + (b % 65536 ^ i + dg b i * 65536 ^ i) = (a % 65536 ^ i + b % 65536 ^ i) + (dg a i + dg b i) * 65536 ^ i := by rw [Nat.add_mul]; omega
    rw [this, Nat.add_mul_div_right _ _ hp]
    omega
theorem carry_8 (a b : Nat) (h : a + b < 340282366920938463463374607431768211456) : carry a b 8 = 0 := by unfold carry; omega
/-- What is lacking ahead of the digit i. -/
def lack (a b : Nat) (i : Nat) : Nat := if a % 65536 ^ i < b % 65536 ^ i then 1 else 0
theorem lack_le (a b i : Nat) : lack a b i ≤ 1 := by unfold lack; split <;> omega
theorem lack_zero (a b : Nat) : lack a b 0 = 0 := by unfold lack; simp [Nat.mod_one]
theorem sub_digit (a b i : Nat) (hab : b ≤ a) (hi : i < 8) : dg (a - b) i = (dg a i + 65536 - dg b i - lack a b i) % 65536 ∧ lack a b (i + 1) = 1 - (dg a i + 65536 - dg b i - lack a b i) / 65536 := by
  unfold lack
  rcases (by omega : i = 0 ∨ i = 1 ∨ i = 2 ∨ i = 3 ∨ i = 4 ∨ i = 5 ∨ i = 6 ∨ i = 7) with rfl | rfl | rfl | rfl | rfl | rfl | rfl | rfl
  · rw [dg0, dg0, dg0]; constructor <;> (repeat' split) <;> omega
  · rw [dg1, dg1, dg1]; constructor <;> (repeat' split) <;> omega
  · rw [dg2, dg2, dg2]; constructor <;> (repeat' split) <;> omega
  · rw [dg3, dg3, dg3]; constructor <;> (repeat' split) <;> omega
  · rw [dg4, dg4, dg4]; constructor <;> (repeat' split) <;> omega
  · rw [dg5, dg5, dg5]; constructor <;> (repeat' split) <;> omega
  · rw [dg6, dg6, dg6]; constructor <;> (repeat' split) <;> omega
  · rw [dg7, dg7, dg7]; constructor <;> (repeat' split) <;> omega

/-! ### Mul: what stands in the digits -/
def mulF (x y i j : Nat) : Nat := x % 65536 ^ i * y + dg x i * (y % 65536 ^ j) * 65536 ^ i
theorem mulF_start (x y : Nat) : mulF x y 0 0 = 0 := by unfold mulF; simp [Nat.mod_one]
theorem mulF_row (x y i : Nat) (hy : y < 18446744073709551616) : mulF x y i 4 = mulF x y (i + 1) 0 := by
  unfold mulF
  rw [mod_pow_succ x i, show y % 65536 ^ 4 = y by omega, show y % 65536 ^ 0 = 0 by simp [Nat.mod_one], Nat.add_mul, Nat.mul_zero, Nat.zero_mul, Nat.add_zero]
  congr 1
  rw [Nat.mul_assoc, Nat.mul_comm y, Nat.mul_assoc]
theorem mulF_end (x y : Nat) (hx : x < 18446744073709551616) : mulF x y 4 0 = x * y := by
  unfold mulF
  rw [show x % 65536 ^ 4 = x by omega]; simp [Nat.mod_one]
theorem mulF_step (x y i j : Nat) : mulF x y i (j + 1) = mulF x y i j + dg x i * dg y j * 65536 ^ (i + j) := by
  unfold mulF
  rw [mod_pow_succ y j, Nat.mul_add, Nat.add_mul, Nat.add_assoc]
  congr 2
  rw [Nat.pow_add, ← Nat.mul_assoc, Nat.mul_assoc (dg x i * dg y j), Nat.mul_comm (65536 ^ j)]

/-! ### Wides -/
def wHi (v : Int) : Int := v / 18446744073709551616
def wLo (v : Int) : Int := v % 18446744073709551616
/-- A number of a sign and a size. -/
def sgN (b : Bool) (m : Nat) : Int := if b then -(m : Int) else m

end Go.Proofs.YtmgoagncbmonlaaDoor
