/- The order of texts, in plain Lean. -/
import Derived.Test.YtmgoagncbmonlaaDoorDigits
import Derived.WalkKit
set_option linter.unusedVariables false
namespace Go.Proofs.YtmgoagncbmonlaaDoor
open Go.RowKit
/-! ### The order of texts -/
theorem less_app : ∀ (p q u v : Bytes), p.length = q.length → Op.bytesLess (p ++ u) (q ++ v) = (Op.bytesLess p q || (decide (p = q) && Op.bytesLess u v))
  | [], [], u, v, _ => by simp [Op.bytesLess]
  | a :: p, b :: q, u, v, h => by
    have ih := less_app p q u v (by simpa using h)
    rw [List.cons_append, List.cons_append, Op.bytesLess, Op.bytesLess, ih]
    by_cases hab : a = b
    · subst hab; simp
    · have : (a == b) = false := by simpa using hab
      simp [this, hab]
  | [], _ :: _, _, _, h => by simp at h
  | _ :: _, [], _, _, h => by simp at h
theorem less_self : ∀ l : Bytes, Op.bytesLess l l = false
  | [] => rfl
  | a :: l => by rw [Op.bytesLess, less_self l]; simp
theorem digitsL_inj (m x y : Nat) (hx : x < 10 ^ m) (hy : y < 10 ^ m) (h : digitsL x m = digitsL y m) : x = y := by
  have a := digitsL_num m x hx
  have b := digitsL_num m y hy
  rw [h, b] at a
  omega
theorem dig_lt (a b : Nat) (ha : a < 10) (hb : b < 10) : Op.bytesLess [UInt8.ofNat (48 + a)] [UInt8.ofNat (48 + b)] = decide (a < b) := by
  have e1 := ofNat_dig a ha
  have e2 := ofNat_dig b hb
  have : (UInt8.ofNat (48 + a) < UInt8.ofNat (48 + b)) ↔ a < b := by rw [UInt8.lt_iff_toNat_lt, e1, e2]; omega
  simp only [Op.bytesLess, Bool.and_false, Bool.or_false, this]
theorem less_digits : ∀ (m x y : Nat), x < 10 ^ m → y < 10 ^ m → Op.bytesLess (digitsL x m) (digitsL y m) = decide (x < y)
  | 0, x, y, hx, hy => by
    have : x = 0 := by simpa using hx
    have : y = 0 := by simpa using hy
    subst x y; rfl
  | m + 1, x, y, hx, hy => by
    rw [Nat.pow_succ] at hx hy
    rw [digitsL, digitsL, less_app _ _ _ _ (by rw [digitsL_len, digitsL_len]), less_digits m _ _ (by omega) (by omega), dig_lt _ _ (by omega) (by omega)]
    by_cases he : x / 10 = y / 10
    · rw [he]
      simp only [decide_true, Bool.true_and, Nat.lt_irrefl, decide_false, Bool.false_or]
      rw [decide_eq_decide]; omega
    · have hn : digitsL (x / 10) m ≠ digitsL (y / 10) m := fun h => he (digitsL_inj m _ _ (by omega) (by omega) h)
      rw [decide_eq_false hn, Bool.false_and, Bool.or_false, decide_eq_decide]; omega
theorem less_mid (p q s u v : Bytes) (x y : Bool) (h : p.length = q.length) (hp : Op.bytesLess p q = x) : Op.bytesLess (p ++ (s ++ u)) (q ++ (s ++ v)) = (x || (decide (p = q) && Op.bytesLess u v)) := by
  rw [less_app p q _ _ h, hp, less_app s s u v rfl, less_self]; simp
theorem str_lss (S T : Bytes) (b : Bool) (h : Op.bytesLess S T = b) : Op.bytesLess (ByteArray.mk S.toArray).toList (ByteArray.mk T.toArray).toList = b := by
  rw [ba_toList, ba_toList, ba_mk, ba_mk]; exact h

end Go.Proofs.YtmgoagncbmonlaaDoor
