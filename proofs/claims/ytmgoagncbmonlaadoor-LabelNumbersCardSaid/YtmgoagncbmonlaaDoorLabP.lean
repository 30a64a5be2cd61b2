/- Layer 18 (label), in plain Lean: a unit's text, and what is read. No program in sight. -/
import Derived.Test.YtmgoagncbmonlaaDoorLess
namespace Go.Proofs.YtmgoagncbmonlaaDoor
open Go.RowKit

def sgn : Nat → Bytes | 0 => [] | 1 => [45, 72] | 2 => [45, 81] | 3 => [45, 80] | _ => [45, 87]
def dgt : Nat → Nat | 0 => 0 | 1 => 1 | 2 => 1 | 3 => 2 | _ => 2
def mst : Nat → Int | 0 => 1 | 1 => 2 | 2 => 4 | 3 => 52 | _ => 60
/-- A unit that can be written: of the level k + 1. -/
def Writ (l y i : Int) : Prop := ∃ k : Nat, k < 5 ∧ l = k + 1 ∧ 1601 ≤ y ∧ y ≤ 9997 ∧ 1 ≤ i ∧ i ≤ mst k
def uText (k y i : Nat) : Bytes := digitsL y 4 ++ sgn k ++ digitsL i (dgt k)
theorem k_cases (k : Nat) (h : k < 5) : k = 0 ∨ k = 1 ∨ k = 2 ∨ k = 3 ∨ k = 4 := by omega
theorem mst_lt (k : Nat) (h : k < 5) (i : Nat) (hi : (i : Int) ≤ mst k) (h1 : 1 ≤ i) : (k = 0 ∧ i = 1) ∨ (0 < k ∧ i < 10 ^ dgt k) := by
  rcases k_cases k h with rfl | rfl | rfl | rfl | rfl <;> simp [mst, dgt] at * <;> omega
/-- Two units of a level: the lesser one is written as the lesser text. -/
theorem less_uText (k y i y' i' : Nat) (hk : k < 5) (hy : y ≤ 9997) (hy' : y' ≤ 9997) (h1 : 1 ≤ i) (h1' : 1 ≤ i') (hi : (i : Int) ≤ mst k) (hi' : (i' : Int) ≤ mst k) :
    Op.bytesLess (uText k y i) (uText k y' i') = decide (y < y' ∨ y = y' ∧ i < i') := by
  unfold uText
  simp only [List.append_assoc]
  rw [less_mid _ _ _ _ _ _ true (by rw [digitsL_len, digitsL_len]) (less_digits 4 y y' (by omega) (by omega))]
  have e1 : digitsL y 4 = digitsL y' 4 ↔ y = y' := ⟨digitsL_inj 4 y y' (by omega) (by omega), fun h => by rw [h]⟩
  have e2 : Op.bytesLess (digitsL i (dgt k)) (digitsL i' (dgt k)) = decide (i < i') := by
    rcases mst_lt k hk i hi h1 with ⟨rfl, rfl⟩ | ⟨hk0, hb⟩
    · rcases mst_lt 0 hk i' hi' h1' with ⟨_, rfl⟩ | ⟨h0, _⟩
      · decide
      · omega
    · rcases mst_lt k hk i' hi' h1' with ⟨rfl, _⟩ | ⟨_, hb'⟩
      · omega
      · exact less_digits _ i i' hb hb'
  rw [e2]
  simp only [e1]
  rw [Bool.eq_iff_iff]
  simp
theorem uText_inj (k y i y' i' : Nat) (hk : k < 5) (hy : y ≤ 9997) (hy' : y' ≤ 9997) (h1 : 1 ≤ i) (h1' : 1 ≤ i') (hi : (i : Int) ≤ mst k) (hi' : (i' : Int) ≤ mst k) : uText k y i = uText k y' i' ↔ y = y' ∧ i = i' := by
  constructor
  · intro h
    have a := less_uText k y i y' i' hk hy hy' h1 h1' hi hi'
    have b := less_uText k y' i' y i hk hy' hy h1' h1 hi' hi
    rw [h, less_self] at a
    rw [h, less_self] at b
    have a' := of_decide_eq_false a.symm
    have b' := of_decide_eq_false b.symm
    omega
  · rintro ⟨rfl, rfl⟩; rfl


/-! ### What is read -/
def mt (k : Nat) (s : Bytes) : Bool := decide (s.length = 4 + (sgn k).length + dgt k) && decide ((s.drop 4).take (sgn k).length = sgn k)
def parseK (k : Nat) (s : Bytes) : Int × Int × Int × Int :=
  if (s.take 4).all isDigit = true ∧ (s.drop (4 + (sgn k).length)).all isDigit = true then
    (if 1601 ≤ numL (s.take 4) ∧ numL (s.take 4) ≤ 9997 ∧ 1 ≤ (if k = 0 then 1 else numL (s.drop (4 + (sgn k).length))) ∧ (if k = 0 then 1 else numL (s.drop (4 + (sgn k).length))) ≤ mst k
      then ((k : Int) + 1, numL (s.take 4), (if k = 0 then 1 else numL (s.drop (4 + (sgn k).length))), 0) else (0, 0, 0, 13))
  else (0, 0, 0, 5)
def parseFrom (s : Bytes) : Nat → Nat → Int × Int × Int × Int
  | _, 0 => (0, 0, 0, 5)
  | k, m + 1 => if mt k s then parseK k s else parseFrom s (k + 1) m
def parseU (s : Bytes) : Int × Int × Int × Int := parseFrom s 0 5
theorem parseFrom_step (s : Bytes) (k : Nat) (h : k < 5) : parseFrom s k (5 - k) = if mt k s then parseK k s else parseFrom s (k + 1) (5 - (k + 1)) := by
  have : 5 - k = (5 - (k + 1)) + 1 := by omega
  rw [this]; rfl
theorem uText_parts (k y i : Nat) : (uText k y i).take 4 = digitsL y 4 ∧ (uText k y i).drop 4 = sgn k ++ digitsL i (dgt k) ∧ (uText k y i).drop (4 + (sgn k).length) = digitsL i (dgt k) ∧ (uText k y i).length = 4 + (sgn k).length + dgt k := by
  have h4 := digitsL_len 4 y
  have e : (uText k y i).drop 4 = sgn k ++ digitsL i (dgt k) := by
    unfold uText
    rw [List.append_assoc, List.drop_append_of_le_length (by omega), List.drop_eq_nil_of_le (by omega)]; rfl
  refine ⟨?_, e, ?_, ?_⟩
  · unfold uText
    rw [List.append_assoc, List.take_append_of_le_length (by omega), List.take_of_length_le (by omega)]
  · rw [← List.drop_drop, e, List.drop_append_of_le_length (by omega), List.drop_eq_nil_of_le (by omega)]; rfl
  · simp [uText, digitsL_len]; omega
theorem mt_text (j k y i : Nat) (hk : k < 5) (hj : j < 5) : mt j (uText k y i) = decide (j = k) := by
  obtain ⟨_, e, _, hl⟩ := uText_parts k y i
  unfold mt
  rw [e, hl]
  have hd := digitsL_len (dgt k) i
  rcases k_cases k hk with rfl | rfl | rfl | rfl | rfl <;> rcases k_cases j hj with rfl | rfl | rfl | rfl | rfl <;> simp [sgn, dgt]
theorem parseFrom_text (k y i : Nat) (hk : k < 5) : ∀ m j : Nat, j + m = 5 → j ≤ k → parseFrom (uText k y i) j m = parseK k (uText k y i)
  | 0, j, h, hj => by omega
  | m + 1, j, h, hj => by
    rw [parseFrom, mt_text j k y i hk (by omega)]
    by_cases e : j = k
    · subst e; rw [if_pos (by simp)]
    · rw [if_neg (by simpa using e)]
      exact parseFrom_text k y i hk m (j + 1) (by omega) (by omega)
/-- What is written is read. -/
theorem parseU_text (k y i : Nat) (hk : k < 5) (h1 : 1601 ≤ y) (h2 : y ≤ 9997) (h3 : 1 ≤ i) (h4 : (i : Int) ≤ mst k) : parseU (uText k y i) = ((k : Int) + 1, (y : Int), (i : Int), 0) := by
  unfold parseU
  rw [parseFrom_text k y i hk 5 0 rfl (Nat.zero_le _)]
  obtain ⟨e1, _, e2, _⟩ := uText_parts k y i
  unfold parseK
  rw [e1, e2, digitsL_num 4 y (by omega), if_pos ⟨digitsL_all _ _, digitsL_all _ _⟩]
  rcases mst_lt k hk i h4 h3 with ⟨rfl, rfl⟩ | ⟨hk0, hb⟩
  · simp only [if_true]
    rw [if_pos ⟨by omega, by omega, by omega, by decide⟩]; rfl
  · rw [digitsL_num _ i hb]
    simp only [if_neg (show ¬ k = 0 by omega)]
    rw [if_pos ⟨by omega, by omega, by omega, h4⟩]
theorem parseK_back (k : Nat) (hk : k < 5) (s : Bytes) (hm : mt k s = true) (h : (parseK k s).2.2.2 = 0) :
    ∃ y i : Nat, 1601 ≤ y ∧ y ≤ 9997 ∧ 1 ≤ i ∧ (i : Int) ≤ mst k ∧ s = uText k y i ∧ parseK k s = ((k : Int) + 1, (y : Int), (i : Int), 0) := by
  unfold mt at hm
  rw [Bool.and_eq_true, decide_eq_true_eq, decide_eq_true_eq] at hm
  obtain ⟨hl, hs⟩ := hm
  unfold parseK at h ⊢
  by_cases hd : (s.take 4).all isDigit = true ∧ (s.drop (4 + (sgn k).length)).all isDigit = true
  · rw [if_pos hd] at h ⊢
    by_cases hw : 1601 ≤ numL (s.take 4) ∧ numL (s.take 4) ≤ 9997 ∧ 1 ≤ (if k = 0 then 1 else numL (s.drop (4 + (sgn k).length))) ∧ (if k = 0 then 1 else numL (s.drop (4 + (sgn k).length))) ≤ mst k
    · rw [if_pos hw] at h ⊢
      have c1 := digits_of_num 4 (s.take 4) (by rw [List.length_take]; omega) hd.1
      have c2 := digits_of_num (dgt k) (s.drop (4 + (sgn k).length)) (by rw [List.length_drop]; omega) hd.2
      have b2 := numL_bound _ hd.2
      have hsp : s = s.take 4 ++ sgn k ++ s.drop (4 + (sgn k).length) := by
        conv => lhs; rw [← List.take_append_drop 4 s, ← List.take_append_drop (sgn k).length (s.drop 4), hs, List.drop_drop]
        rw [List.append_assoc]
      rcases Nat.eq_zero_or_pos k with rfl | hk0
      · refine ⟨(numL (s.take 4)).toNat, 1, by omega, by omega, by omega, by decide, ?_, ?_⟩
        · unfold uText
          rw [c1]
          have : s.drop (4 + (sgn 0).length) = [] := List.eq_nil_of_length_eq_zero (by rw [List.length_drop, hl]; simp [dgt])
          conv => lhs; rw [hsp, this]
          rfl
        · simp only [if_true]
          congr 2
          omega
      · have hn : ¬ k = 0 := by omega
        simp only [if_neg hn] at hw ⊢
        refine ⟨(numL (s.take 4)).toNat, (numL (s.drop (4 + (sgn k).length))).toNat, by omega, by omega, by omega, by omega, ?_, ?_⟩
        · unfold uText
          rw [c1, c2]
          exact hsp
        · congr 2
          · omega
          · congr 1; omega
    · rw [if_neg hw] at h; simp at h
  · rw [if_neg hd] at h; simp at h
theorem parseFrom_back (s : Bytes) : ∀ m j : Nat, j + m = 5 → (parseFrom s j m).2.2.2 = 0 → ∃ k y i : Nat, k < 5 ∧ 1601 ≤ y ∧ y ≤ 9997 ∧ 1 ≤ i ∧ (i : Int) ≤ mst k ∧ s = uText k y i ∧ parseFrom s j m = ((k : Int) + 1, (y : Int), (i : Int), 0)
  | 0, j, _, h => by simp [parseFrom] at h
  | m + 1, j, hj, h => by
    rw [parseFrom] at h ⊢
    by_cases e : mt j s = true
    · rw [if_pos e] at h ⊢
      obtain ⟨y, i, h1, h2, h3, h4, h5, h6⟩ := parseK_back j (by omega) s e h
      exact ⟨j, y, i, by omega, h1, h2, h3, h4, h5, h6⟩
    · rw [if_neg e] at h ⊢
      exact parseFrom_back s m (j + 1) (by omega) h
/-- What is read is written so. -/
theorem parseU_back (s : Bytes) (h : (parseU s).2.2.2 = 0) : ∃ k y i : Nat, k < 5 ∧ 1601 ≤ y ∧ y ≤ 9997 ∧ 1 ≤ i ∧ (i : Int) ≤ mst k ∧ s = uText k y i ∧ parseU s = ((k : Int) + 1, (y : Int), (i : Int), 0) :=
  parseFrom_back s 5 0 rfl h
theorem parseK_err (k : Nat) (s : Bytes) (h : (parseK k s).2.2.2 ≠ 0) : parseK k s = (0, 0, 0, 5) ∨ parseK k s = (0, 0, 0, 13) := by
  unfold parseK at h ⊢
  by_cases h1 : (s.take 4).all isDigit = true ∧ (s.drop (4 + (sgn k).length)).all isDigit = true
  · rw [if_pos h1] at h ⊢
    by_cases h2 : 1601 ≤ numL (s.take 4) ∧ numL (s.take 4) ≤ 9997 ∧ 1 ≤ (if k = 0 then 1 else numL (s.drop (4 + (sgn k).length))) ∧ (if k = 0 then 1 else numL (s.drop (4 + (sgn k).length))) ≤ mst k
    · rw [if_pos h2] at h; simp at h
    · rw [if_neg h2]; exact .inr rfl
  · rw [if_neg h1]; exact .inl rfl
theorem parseFrom_err (s : Bytes) : ∀ m j : Nat, (parseFrom s j m).2.2.2 ≠ 0 → parseFrom s j m = (0, 0, 0, 5) ∨ parseFrom s j m = (0, 0, 0, 13)
  | 0, j, _ => .inl rfl
  | m + 1, j, h => by
    rw [parseFrom] at h ⊢
    by_cases e : mt j s = true
    · rw [if_pos e] at h ⊢; exact parseK_err j s h
    · rw [if_neg e] at h ⊢; exact parseFrom_err s m (j + 1) h

end Go.Proofs.YtmgoagncbmonlaaDoor
