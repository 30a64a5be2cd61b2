/- Decimal digits, in plain Lean: so many of a number; texts of digits read. No program in sight. -/
import Derived.Test.YtmgoagncbmonlaaDoorLexLem
import Derived.Lib.ItoaNum
namespace Go.Proofs.YtmgoagncbmonlaaDoor

/-- So many last digits of a number. -/
def digitsL : Nat → Nat → Bytes
  | _, 0 => []
  | n, m + 1 => digitsL (n / 10) m ++ [UInt8.ofNat (48 + n % 10)]
theorem digitsL_len : ∀ (m n : Nat), (digitsL n m).length = m
  | 0, _ => rfl
  | m + 1, n => by simp [digitsL, digitsL_len m]
theorem digitsL_dec : ∀ (m n : Nat), Lib.nDigits n = m → digitsL n m = Lib.decDigits n := by
  intro m
  induction m with
  | zero => intro n h; have := Lib.nDigits_pos n; omega
  | succ m ih =>
    intro n h
    by_cases h10 : n < 10
    · rw [Lib.decDigits_one h10]
      rw [Lib.nDigits_small h10] at h
      have : m = 0 := by omega
      subst this
      simp [digitsL, Nat.mod_eq_of_lt h10]
    · rw [Lib.nDigits_big h10] at h
      rw [digitsL, ih (n / 10) (by omega)]
      conv => rhs; rw [Lib.decDigits, dif_neg h10]
theorem digitsL_pad : ∀ (m n : Nat), Lib.nDigits n ≤ m → digitsL n (m + 1) = 48 :: digitsL n m := by
  intro m
  induction m with
  | zero => intro n h; have := Lib.nDigits_pos n; omega
  | succ m ih =>
    intro n h
    by_cases h10 : n < 10
    · have e : ∀ k, digitsL 0 (k + 1) = 48 :: digitsL 0 k := by
        intro k
        induction k with
        | zero => rfl
        | succ k ihk =>
          show digitsL (0 / 10) (k + 1) ++ [UInt8.ofNat (48 + 0 % 10)] = 48 :: (digitsL (0 / 10) k ++ [UInt8.ofNat (48 + 0 % 10)])
          rw [Nat.zero_div, ihk]
          rfl
      rw [digitsL, show n / 10 = 0 by omega, e m, List.cons_append]
      show _ = 48 :: (digitsL (n / 10) m ++ _)
      rw [show n / 10 = 0 by omega]
    · rw [Lib.nDigits_big h10] at h
      rw [digitsL, ih (n / 10) (by omega), List.cons_append]
      rfl
theorem ofNat_dig (k : Nat) (h : k < 10) : (UInt8.ofNat (48 + k)).toNat = 48 + k := by simp; omega
theorem dig_isDigit (k : Nat) (h : k < 10) : isDigit (UInt8.ofNat (48 + k)) = true := by rw [isDigit_iff, ofNat_dig k h]; omega
theorem digitsL_all : ∀ (m n : Nat), (digitsL n m).all isDigit = true
  | 0, _ => rfl
  | m + 1, n => by rw [digitsL, List.all_append, digitsL_all m, List.all_cons, dig_isDigit (n % 10) (by omega), List.all_nil]; rfl
theorem digitsL_num : ∀ (m n : Nat), n < 10 ^ m → numL (digitsL n m) = n
  | 0, n, h => by have : n = 0 := by simpa using h
                  subst this; rfl
  | m + 1, n, h => by
    rw [digitsL, numL_snoc, digitsL_num m (n / 10) (by rw [Nat.pow_succ] at h; omega), ofNat_dig (n % 10) (by omega)]
    omega
/-- Digits are those of their number. -/
theorem digits_of_num : ∀ (m : Nat) (l : Bytes), l.length = m → l.all isDigit = true → digitsL (numL l).toNat m = l := by
  intro m
  induction m with
  | zero => intro l h _; rw [List.eq_nil_of_length_eq_zero h]; rfl
  | succ m ih =>
    intro l hl hall
    have hn : l ≠ [] := by intro h; rw [h] at hl; simp at hl
    obtain ⟨r, c, rfl⟩ : ∃ r c, l = r ++ [c] := ⟨l.dropLast, l.getLast hn, (List.dropLast_concat_getLast hn).symm⟩
    rw [List.all_append, Bool.and_eq_true] at hall
    have hc := (isDigit_iff c).1 (by simpa using hall.2)
    have hnb := numL_bound r hall.1
    obtain ⟨z, hz⟩ := Int.eq_ofNat_of_zero_le hnb.1
    have h1 := ih r (by simpa using hl) hall.1
    rw [hz, Int.toNat_natCast] at h1
    rw [numL_snoc, hz]
    have e : ((z : Int) * 10 + ((c.toNat : Int) - 48)).toNat = z * 10 + (c.toNat - 48) := by omega
    have e1 : (z * 10 + (c.toNat - 48)) / 10 = z := by omega
    have e2 : (z * 10 + (c.toNat - 48)) % 10 = c.toNat - 48 := by omega
    have hcv : UInt8.ofNat (48 + (c.toNat - 48)) = c := by
      rw [show 48 + (c.toNat - 48) = c.toNat by omega]; simp
    rw [e, digitsL, e1, e2, h1, hcv]

end Go.Proofs.YtmgoagncbmonlaaDoor
