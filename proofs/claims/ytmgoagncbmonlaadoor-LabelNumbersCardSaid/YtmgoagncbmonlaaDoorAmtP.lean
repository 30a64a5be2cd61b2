/- Layer 18 (label), in plain Lean: numbers. No program in sight. -/
import Derived.Test.YtmgoagncbmonlaaDoorLabP
import Derived.Test.YtmgoagncbmonlaaDoorWholeP
namespace Go.Proofs.YtmgoagncbmonlaaDoor
open Go.RowKit

def sgI (neg : Bool) (n : Int) : Int := if neg then -n else n
/-- Digits, read. -/
def digsR (neg : Bool) (ds : Bytes) : Int × Int := if ds.all isDigit = false then (0, 5) else if fit (sgI neg (numL ds)) then (sgI neg (numL ds), 0) else (0, 2)
def isNeg (s : Bytes) : Bool := decide (s.head? = some 45)
def bodyL (s : Bytes) : Bytes := if isNeg s then s.drop 1 else s
def amountL (s : Bytes) : Int × Int := if bodyL s = [] ∨ ((bodyL s).head? = some 48 ∧ s ≠ [48]) then (0, 5) else digsR (isNeg s) (bodyL s)
def smallL (s : Bytes) : Int × Int := if (amountL s).2 ≠ 0 then (0, (amountL s).2) else if (amountL s).1 < -999999999 ∨ 999999999 < (amountL s).1 then (0, 2) else amountL s

theorem numL_take_nn (l : Bytes) (h : l.all isDigit = true) : 0 ≤ numL l := (numL_bound l h).1

/-- What the loop over the digits goes over. -/
theorem amt_data (neg : Bool) (s : ByteArray) : ∃ (x U : Nat → Int) (ok : Nat → Prop), (∀ k (h : k < s.size), x k = (s[k].toNat : Int) ∧ 0 ≤ x k ∧ x k ≤ 255) ∧ U 0 = 0 ∧ ok 0 ∧
    (∀ k, k < s.size → ok k → 48 ≤ x k → x k ≤ 57 → ok (k + 1) ∧ U (k + 1) = U k * 10 + sgI neg (x k - 48) ∧ (¬ fit (U k) → ¬ fit (U (k + 1))) ∧ (¬ fit (U k * 10) → ¬ fit (U (k + 1)))) ∧
    (∀ k, k < s.size → ¬ (48 ≤ x k ∧ x k ≤ 57) → digsR neg s.data.toList = (0, 5)) ∧ (ok s.size → digsR neg s.data.toList = if fit (U s.size) then (U s.size, 0) else (0, 2)) := by
  refine ⟨fun k => if h : k < s.size then (s[k].toNat : Int) else 0, fun k => sgI neg (numL (s.data.toList.take k)), fun k => (s.data.toList.take k).all isDigit = true, fun k h => ?_, by cases neg <;> rfl, rfl, fun k h hk h1 h2 => ?_, fun k h hn => ?_, fun h => ?_⟩
  · dsimp only
    rw [dif_pos h]
    have := s[k].toNat_lt
    exact ⟨rfl, by omega, by omega⟩
  · dsimp only at h1 h2 ⊢
    rw [dif_pos h] at h1 h2 ⊢
    have hd : isDigit s[k] = true := (isDigit_iff s[k]).2 (by omega)
    have hnn := numL_take_nn _ hk
    refine ⟨by rw [ba_take_snoc s k h, List.all_append, hk]; simp [hd], ?_, ?_, ?_⟩
    · rw [ba_take_snoc s k h, numL_snoc]; unfold sgI; cases neg <;> simp <;> omega
    · rw [ba_take_snoc s k h, numL_snoc]; unfold sgI fit; cases neg <;> simp <;> omega
    · rw [ba_take_snoc s k h, numL_snoc]; unfold sgI fit; cases neg <;> simp <;> omega
  · dsimp only at hn
    rw [dif_pos h] at hn
    have hd : isDigit s[k] = false := by
      cases hq : isDigit s[k]
      · rfl
      · exact absurd (by have := (isDigit_iff s[k]).1 hq; omega) hn
    unfold digsR
    rw [if_pos (by rw [← List.take_append_drop k s.data.toList, List.all_append, ba_drop_cons s k h, List.all_cons, hd]; simp)]
  · have he : s.data.toList.take s.size = s.data.toList := by rw [← ba_len, List.take_length]
    dsimp only at h ⊢
    rw [he] at h
    unfold digsR
    rw [if_neg (by rw [h]; simp)]
    simp only [he]

/-! ### A number's digits -/
def recDec (x : Nat) : Bytes := if _h : x = 0 then [] else recDec (x / 10) ++ [UInt8.ofNat (48 + x % 10)]
decreasing_by omega
theorem recDec_zero : recDec 0 = [] := by rw [recDec, dif_pos rfl]
theorem recDec_pos (x : Nat) (h : x ≠ 0) : recDec x = recDec (x / 10) ++ [UInt8.ofNat (48 + x % 10)] := by rw [recDec, dif_neg h]
theorem recDec_all (x : Nat) : (recDec x).all isDigit = true := by
  induction x using Nat.strongRecOn with
  | ind x ih =>
    by_cases h : x = 0
    · subst h; rw [recDec_zero]; rfl
    · rw [recDec_pos x h, List.all_append, ih (x / 10) (by omega), List.all_cons, dig_isDigit (x % 10) (by omega), List.all_nil]; rfl
theorem recDec_num (x : Nat) : numL (recDec x) = x := by
  induction x using Nat.strongRecOn with
  | ind x ih =>
    by_cases h : x = 0
    · subst h; rw [recDec_zero]; rfl
    · rw [recDec_pos x h, numL_snoc, ih (x / 10) (by omega), ofNat_dig (x % 10) (by omega)]; omega
theorem recDec_ne (x : Nat) (h : x ≠ 0) : recDec x ≠ [] := by rw [recDec_pos x h]; simp
theorem recDec_head (x : Nat) (h : x ≠ 0) : ∃ c r, recDec x = c :: r ∧ isDigit c = true ∧ c ≠ 48 := by
  induction x using Nat.strongRecOn with
  | ind x ih =>
    rw [recDec_pos x h]
    by_cases h1 : x / 10 = 0
    · rw [h1, recDec_zero]
      refine ⟨_, [], rfl, dig_isDigit (x % 10) (by omega), fun e => ?_⟩
      have := congrArg UInt8.toNat e
      rw [ofNat_dig (x % 10) (by omega)] at this
      simp at this
      omega
    · obtain ⟨c, r, e, h2, h3⟩ := ih (x / 10) (by omega) h1
      exact ⟨c, r ++ [_], by rw [e]; rfl, h2, h3⟩
theorem numL_lo (l : Bytes) : ∀ a : Int, 0 ≤ a → l.all isDigit = true → a * 10 ^ l.length ≤ l.foldl (fun n c => n * 10 + ((c.toNat : Int) - 48)) a := by
  induction l with
  | nil => intro a ha _; simp
  | cons c l ih =>
    intro a ha h
    simp only [List.all_cons, Bool.and_eq_true] at h
    have h3 := (isDigit_iff c).1 h.1
    have h1 := ih (a * 10 + ((c.toNat : Int) - 48)) (by omega) h.2
    simp only [List.foldl_cons, List.length_cons]
    refine Int.le_trans ?_ h1
    rw [Int.pow_succ, Int.mul_comm (10 ^ l.length) 10, ← Int.mul_assoc]
    exact Int.mul_le_mul_of_nonneg_right (by omega) (Int.pow_nonneg (by omega))
theorem numL_ge (c : UInt8) (r : Bytes) (hc : isDigit c = true) (h0 : c ≠ 48) (hr : r.all isDigit = true) : (10 : Int) ^ r.length ≤ numL (c :: r) := by
  have h1 := (isDigit_iff c).1 hc
  have h2 : (c.toNat : Int) ≠ 48 := fun e => h0 (UInt8.toNat_inj.1 (by show c.toNat = 48; omega))
  have hp : (0 : Int) < 10 ^ r.length := by have : (0 : Nat) < 10 ^ r.length := Nat.pow_pos (by omega)
                                            exact_mod_cast this
  have h3 := numL_lo r ((c.toNat : Int) - 48) (by omega) hr
  have h4 : numL (c :: r) = r.foldl (fun n c => n * 10 + ((c.toNat : Int) - 48)) ((c.toNat : Int) - 48) := by
    show (c :: r).foldl _ 0 = _
    rw [List.foldl_cons]; congr 1; omega
  rw [h4]
  refine Int.le_trans ?_ h3
  have : (1 : Int) * 10 ^ r.length ≤ ((c.toNat : Int) - 48) * 10 ^ r.length := Int.mul_le_mul_of_nonneg_right (by omega) (by omega)
  omega
theorem recDec_len (x : Nat) (h : x ≤ 9223372036854775808) : (recDec x).length ≤ 19 := by
  by_cases h0 : x = 0
  · subst h0; rw [recDec_zero]; decide
  · obtain ⟨c, r, e, h1, h2⟩ := recDec_head x h0
    have ha := recDec_all x
    have hn := recDec_num x
    rw [e] at ha hn ⊢
    rw [List.all_cons, h1] at ha
    have := numL_ge c r h1 h2 (by simpa using ha)
    rw [List.length_cons]
    rcases Nat.lt_or_ge 18 r.length with h5 | h5
    · have h6 : (10 : Nat) ^ 19 ≤ 10 ^ r.length := Nat.pow_le_pow_right (by omega) h5
      have h7 : (10 : Int) ^ 19 ≤ 10 ^ r.length := by exact_mod_cast h6
      omega
    · omega

theorem digit_ne45 (c : UInt8) (h : isDigit c = true) : c ≠ 45 := fun e => by subst e; exact absurd h (by decide)
/-- A text that begins with a digit that is no nought. -/
theorem amt_pos (c : UInt8) (r : Bytes) (h1 : isDigit c = true) (h2 : c ≠ 48) : amountL (c :: r) = digsR false (c :: r) := by
  have hn : isNeg (c :: r) = false := by unfold isNeg; simp [digit_ne45 c h1]
  unfold amountL bodyL
  rw [hn]
  simp [h2]
theorem amt_neg (c : UInt8) (r : Bytes) (h2 : c ≠ 48) : amountL (45 :: c :: r) = digsR true (c :: r) := by
  unfold amountL bodyL
  simp [isNeg, h2]
theorem amt_nought (c : UInt8) (r : Bytes) : amountL (48 :: c :: r) = (0, 5) := by
  unfold amountL bodyL
  simp [isNeg]
theorem amt_nought_neg (r : Bytes) : amountL (45 :: 48 :: r) = (0, 5) := by
  unfold amountL bodyL
  simp [isNeg]
theorem digs_ok (neg : Bool) (l : Bytes) (h : l.all isDigit = true) (hf : fit (sgI neg (numL l))) : digsR neg l = (sgI neg (numL l), 0) := by
  unfold digsR; rw [if_neg (by rw [h]; simp), if_pos hf]
theorem digs_over (neg : Bool) (l : Bytes) (h : l.all isDigit = true) (hf : ¬ fit (sgI neg (numL l))) : digsR neg l = (0, 2) := by
  unfold digsR; rw [if_neg (by rw [h]; simp), if_neg hf]
theorem digs_bad (neg : Bool) (l : Bytes) (h : l.all isDigit = false) : digsR neg l = (0, 5) := by
  unfold digsR; rw [if_pos h]

/-- The text of a number, and the one with a nought ahead. -/
def decL (n : Int) : Bytes := if n = 0 then [48] else if n < 0 then 45 :: recDec n.natAbs else recDec n.natAbs
def badL (n : Int) : Bytes := if n = 0 then [45, 48] else if n < 0 then 45 :: 48 :: recDec n.natAbs else 48 :: recDec n.natAbs
theorem amt_dec (n : Int) (h : fit n) : amountL (decL n) = (n, 0) := by
  unfold decL
  by_cases h0 : n = 0
  · subst h0; rw [if_pos rfl]; decide
  · rw [if_neg h0]
    obtain ⟨c, r, e, h1, h2⟩ := recDec_head n.natAbs (by omega)
    have ha := recDec_all n.natAbs
    have hn := recDec_num n.natAbs
    by_cases hneg : n < 0
    · rw [if_pos hneg, e, amt_neg c r h2, ← e, digs_ok true _ ha (by rw [hn]; unfold sgI fit at *; simp; omega), hn]
      unfold sgI
      congr 1
      simp; omega
    · rw [if_neg hneg, e, amt_pos c r h1 h2, ← e, digs_ok false _ ha (by rw [hn]; unfold sgI fit at *; simp; omega), hn]
      unfold sgI
      congr 1
      simp; omega
theorem amt_bad (n : Int) : amountL (badL n) = (0, 5) := by
  unfold badL
  by_cases h0 : n = 0
  · rw [if_pos h0]; decide
  · rw [if_neg h0]
    obtain ⟨c, r, e, h1, h2⟩ := recDec_head n.natAbs (by omega)
    by_cases hneg : n < 0
    · rw [if_pos hneg, amt_nought_neg]
    · rw [if_neg hneg, e, amt_nought]
theorem amt_tail (n : Int) (x : UInt8) (hx : isDigit x = false) : amountL (decL n ++ [x]) = (0, 5) := by
  unfold decL
  by_cases h0 : n = 0
  · rw [if_pos h0]; exact amt_nought x []
  · rw [if_neg h0]
    obtain ⟨c, r, e, h1, h2⟩ := recDec_head n.natAbs (by omega)
    have hb : ((c :: r) ++ [x]).all isDigit = false := by rw [List.all_append]; simp [hx]
    by_cases hneg : n < 0
    · rw [if_pos hneg, e]
      show amountL (45 :: c :: (r ++ [x])) = _
      rw [amt_neg c _ h2]
      exact digs_bad _ _ hb
    · rw [if_neg hneg, e]
      show amountL (c :: (r ++ [x])) = _
      rw [amt_pos c _ h1 h2]
      exact digs_bad _ _ hb
theorem decL_len (n : Int) (h : fit n) : (decL n).length ≤ 20 := by
  unfold fit at h
  have := recDec_len n.natAbs (by omega)
  unfold decL
  split
  · decide
  · split
    · rw [List.length_cons]; omega
    · omega
/-- A number with 20 digits at the least. -/
theorem amt_long (x j : Nat) (h0 : x ≠ 0) (hl : 20 ≤ (recDec x).length + j) : amountL (recDec x ++ List.replicate j 55) = (0, 2) ∧ amountL (45 :: (recDec x ++ List.replicate j 55)) = (0, 2) ∧ amountL (recDec x ++ List.replicate j 55 ++ [120]) = (0, 5) := by
  obtain ⟨c, r, e, h1, h2⟩ := recDec_head x h0
  have ha := recDec_all x
  rw [e] at ha hl ⊢
  have hr : r.all isDigit = true := by simpa [h1] using ha
  have hrj : (r ++ List.replicate j 55).all isDigit = true := by
    rw [List.all_append, hr, List.all_eq_true.2 (fun y hy => by rw [List.eq_of_mem_replicate hy]; decide)]; rfl
  have hall : (c :: (r ++ List.replicate j 55)).all isDigit = true := by rw [List.all_cons, h1, hrj]; rfl
  have hge := numL_ge c (r ++ List.replicate j 55) h1 h2 hrj
  have h6 : (10 : Nat) ^ 19 ≤ 10 ^ (r ++ List.replicate j 55).length := Nat.pow_le_pow_right (by omega) (by rw [List.length_append, List.length_replicate]; simp at hl; omega)
  have h7 : (10 : Int) ^ 19 ≤ 10 ^ (r ++ List.replicate j 55).length := by exact_mod_cast h6
  have hbig : (10000000000000000000 : Int) ≤ numL (c :: (r ++ List.replicate j 55)) := by
    have : (10 : Int) ^ 19 = 10000000000000000000 := by decide
    omega
  simp only [List.cons_append]
  refine ⟨?_, ?_, ?_⟩
  · rw [amt_pos c _ h1 h2]; exact digs_over _ _ hall (by unfold sgI fit; simp; omega)
  · rw [amt_neg c _ h2]; exact digs_over _ _ hall (by unfold sgI fit; simp; omega)
  · rw [amt_pos c _ h1 h2]
    exact digs_bad _ _ (by rw [← List.cons_append, List.all_append]; simp [isDigit])

end Go.Proofs.YtmgoagncbmonlaaDoor
