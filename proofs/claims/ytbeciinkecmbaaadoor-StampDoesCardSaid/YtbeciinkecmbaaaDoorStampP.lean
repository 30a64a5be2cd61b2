/- Layer 7 (stamp), in plain Lean: a day's texts, and what is read. No program in sight. -/
import Derived.Test.YtbeciinkecmbaaaDoorCivil
import Derived.Test.YtbeciinkecmbaaaDoorDigits
import Derived.WalkKit
namespace Go.Proofs.YtbeciinkecmbaaaDoor

def dText (y m d : Nat) : Bytes := digitsL y 4 ++ [45] ++ digitsL m 2 ++ [45] ++ digitsL d 2
def iText (y w d : Nat) : Bytes := digitsL y 4 ++ [45, 87] ++ digitsL w 2 ++ [45] ++ digitsL d 1
theorem dText_len (y m d : Nat) : (dText y m d).length = 10 := by simp [dText, digitsL_len]
theorem iText_len (y w d : Nat) : (iText y w d).length = 10 := by simp [iText, digitsL_len]

/-- A text as a form: a digit for each '#', else the same byte. -/
def likeF : Bytes → Bytes → Bool
  | [], [] => true
  | f :: fs, c :: cs => (if f = 35 then isDigit c else decide (c = f)) && likeF fs cs
  | _, _ => false
theorem likeF_len : ∀ (f s : Bytes), likeF f s = true → s.length = f.length
  | [], [], _ => rfl
  | f :: fs, c :: cs, h => by
    simp only [likeF, Bool.and_eq_true] at h
    simp [likeF_len fs cs h.2]
  | [], _ :: _, h => by simp [likeF] at h
  | _ :: _, [], h => by simp [likeF] at h
theorem likeF_append : ∀ (f g s t : Bytes), f.length = s.length → likeF (f ++ g) (s ++ t) = (likeF f s && likeF g t)
  | [], g, [], t, _ => rfl
  | f :: fs, g, c :: cs, t, h => by
    rw [List.cons_append, List.cons_append, likeF, likeF, likeF_append fs g cs t (by simpa using h), Bool.and_assoc]
  | [], _, _ :: _, _, h => by simp at h
  | _ :: _, _, [], _, h => by simp at h

/-- One digit more. -/
def bump (l : List Int) (x : Int) : List Int := l.dropLast ++ [l.getLastD 0 * 10 + x]
/-- The numbers of a text that is as a form. -/
def numsGo : Bytes → Bytes → List Int → Bool → Option (List Int)
  | [], [], l, _ => some l
  | f :: fs, c :: cs, l, op => if f ≠ 35 then (if c ≠ f then none else numsGo fs cs l false) else if isDigit c = false then none else numsGo fs cs (bump (if op then l else l ++ [0]) ((c.toNat : Int) - 48)) true
  | _, _, _, _ => none
theorem numsGo_none : ∀ (f s : Bytes) (l : List Int) (op : Bool), likeF f s = false → numsGo f s l op = none
  | [], [], _, _, h => by simp [likeF] at h
  | f :: fs, c :: cs, l, op, h => by
    simp only [likeF, Bool.and_eq_false_iff] at h
    rw [numsGo]
    by_cases h35 : f = 35
    · rw [if_pos h35] at h
      rw [if_neg (by simpa using h35)]
      cases hd : isDigit c
      · rw [if_pos rfl]
      · rw [if_neg (by simp)]
        rw [hd] at h
        exact numsGo_none fs cs _ _ (by simpa using h)
    · rw [if_neg h35] at h
      rw [if_pos h35]
      by_cases hc : c = f
      · rw [if_neg (by simpa using hc)]
        exact numsGo_none fs cs _ _ (by simpa [hc] using h)
      · rw [if_pos hc]
  | [], _ :: _, _, _, _ => rfl
  | _ :: _, [], _, _, _ => rfl

def formD : Bytes := [35, 35, 35, 35, 45, 35, 35, 45, 35, 35]
def formI : Bytes := [35, 35, 35, 35, 45, 87, 35, 35, 45, 35]

theorem list10 (s : Bytes) (h : s.length = 10) : ∃ a b c d e f g i j k, s = [a, b, c, d, e, f, g, i, j, k] := by
  match s, h with
  | [a, b, c, d, e, f, g, i, j, k], _ => exact ⟨a, b, c, d, e, f, g, i, j, k, rfl⟩

theorem nums_D (s : Bytes) : numsGo formD s [] false = if likeF formD s then some [numL (s.take 4), numL ((s.drop 5).take 2), numL (s.drop 8)] else none := by
  cases h : likeF formD s
  · rw [if_neg (by simp)]; exact numsGo_none _ _ _ _ h
  · rw [if_pos rfl]
    obtain ⟨a, b, c, d, e, f, g, i, j, k, rfl⟩ := list10 s (likeF_len _ _ h)
    simp [likeF, formD] at h
    obtain ⟨h1, h2, h3, h4, rfl, h6, h7, rfl, h9, h10⟩ := h
    simp [numsGo, formD, bump, numL, h1, h2, h3, h4, h6, h7, h9, h10]
theorem nums_I (s : Bytes) : numsGo formI s [] false = if likeF formI s then some [numL (s.take 4), numL ((s.drop 6).take 2), numL (s.drop 9)] else none := by
  cases h : likeF formI s
  · rw [if_neg (by simp)]; exact numsGo_none _ _ _ _ h
  · rw [if_pos rfl]
    obtain ⟨a, b, c, d, e, f, g, i, j, k, rfl⟩ := list10 s (likeF_len _ _ h)
    simp [likeF, formI] at h
    obtain ⟨h1, h2, h3, h4, rfl, rfl, h7, h8, rfl, h10⟩ := h
    simp [numsGo, formI, bump, numL, h1, h2, h3, h4, h7, h8, h10]

instance (n y w d : Int) : Decidable (IsoIs n y w d) := by unfold IsoIs; infer_instance
instance (y m d : Int) : Decidable (vld y m d) := by unfold vld; infer_instance

def dayN (y m d : Int) : Int × Int := if vld y m d then (num y m d, 0) else (0, 4)
def isoN (y w d : Int) : Int × Int :=
  if 0 ≤ fst' y + 7 * (w - 1) + d - 1 ∧ fst' y + 7 * (w - 1) + d - 1 < 3068037 ∧ IsoIs (fst' y + 7 * (w - 1) + d - 1) y w d then (fst' y + 7 * (w - 1) + d - 1, 0) else (0, 4)
theorem isoN_of (n y w d : Int) (h0 : 0 ≤ n) (h1 : n < 3068037) (h : IsoIs n y w d) : isoN y w d = (n, 0) := by
  have e := iso_day n y w d h0 h1 h
  unfold isoN
  rw [← e, if_pos ⟨h0, h1, h⟩]
theorem isoN_no (y w d : Int) (h : ∀ n, 0 ≤ n → n < 3068037 → ¬ IsoIs n y w d) : isoN y w d = (0, 4) := by
  unfold isoN
  rw [if_neg (fun ⟨a, b, c⟩ => h _ a b c)]
theorem isoN_cases (y w d : Int) : (∃ n, 0 ≤ n ∧ n < 3068037 ∧ IsoIs n y w d ∧ isoN y w d = (n, 0)) ∨ ((∀ n, 0 ≤ n → n < 3068037 → ¬ IsoIs n y w d) ∧ isoN y w d = (0, 4)) := by
  by_cases h : ∃ n, 0 ≤ n ∧ n < 3068037 ∧ IsoIs n y w d
  · obtain ⟨n, a, b, c⟩ := h
    exact .inl ⟨n, a, b, c, isoN_of n y w d a b c⟩
  · have h' : ∀ n, 0 ≤ n → n < 3068037 → ¬ IsoIs n y w d := fun n a b c => h ⟨n, a, b, c⟩
    exact .inr ⟨h', isoN_no y w d h'⟩

def parseD (s : Bytes) : Int × Int := if likeF formD s then dayN (numL (s.take 4)) (numL ((s.drop 5).take 2)) (numL (s.drop 8)) else (0, 5)
def parseI (s : Bytes) : Int × Int := if likeF formI s then isoN (numL (s.take 4)) (numL ((s.drop 6).take 2)) (numL (s.drop 9)) else (0, 5)

/-! ### Texts of a day, one by one -/
theorem dg4 (y : Nat) : digitsL y 4 = [UInt8.ofNat (48 + y / 10 / 10 / 10 % 10), UInt8.ofNat (48 + y / 10 / 10 % 10), UInt8.ofNat (48 + y / 10 % 10), UInt8.ofNat (48 + y % 10)] := rfl
theorem dg2 (y : Nat) : digitsL y 2 = [UInt8.ofNat (48 + y / 10 % 10), UInt8.ofNat (48 + y % 10)] := rfl
theorem dg1 (y : Nat) : digitsL y 1 = [UInt8.ofNat (48 + y % 10)] := rfl
theorem likeF_digits : ∀ (m n : Nat), likeF (List.replicate m 35) (digitsL n m) = true := by
  intro m
  induction m with
  | zero => intro n; rfl
  | succ m ih =>
    intro n
    rw [digitsL, List.replicate_succ', likeF_append _ _ _ _ (by rw [List.length_replicate, digitsL_len]), ih (n / 10)]
    simp only [likeF, if_true, dig_isDigit (n % 10) (by omega), Bool.and_self]
theorem dText_like (y m d : Nat) : likeF formD (dText y m d) = true := by
  have e : formD = List.replicate 4 35 ++ [45] ++ List.replicate 2 35 ++ [45] ++ List.replicate 2 35 := rfl
  rw [e, dText]
  repeat rw [likeF_append _ _ _ _ (by simp [digitsL_len])]
  simp only [likeF_digits]
  decide
theorem iText_like (y w d : Nat) : likeF formI (iText y w d) = true := by
  have e : formI = List.replicate 4 35 ++ [45, 87] ++ List.replicate 2 35 ++ [45] ++ List.replicate 1 35 := rfl
  rw [e, iText]
  repeat rw [likeF_append _ _ _ _ (by simp [digitsL_len])]
  simp only [likeF_digits]
  decide
theorem dText_parts (y m d : Nat) : (dText y m d).take 4 = digitsL y 4 ∧ ((dText y m d).drop 5).take 2 = digitsL m 2 ∧ (dText y m d).drop 8 = digitsL d 2 := by
  simp only [dText, dg4, dg2]
  exact ⟨rfl, rfl, rfl⟩
theorem iText_parts (y w d : Nat) : (iText y w d).take 4 = digitsL y 4 ∧ ((iText y w d).drop 6).take 2 = digitsL w 2 ∧ (iText y w d).drop 9 = digitsL d 1 := by
  simp only [iText, dg4, dg2, dg1]
  exact ⟨rfl, rfl, rfl⟩
theorem parseD_text (y m d : Nat) (hy : y < 10000) (hm : m < 100) (hd : d < 100) : parseD (dText y m d) = dayN y m d := by
  obtain ⟨h1, h2, h3⟩ := dText_parts y m d
  unfold parseD
  rw [if_pos (dText_like y m d), h1, h2, h3, digitsL_num 4 y hy, digitsL_num 2 m hm, digitsL_num 2 d hd]
theorem parseI_text (y w d : Nat) (hy : y < 10000) (hw : w < 100) (hd : d < 10) : parseI (iText y w d) = isoN y w d := by
  obtain ⟨h1, h2, h3⟩ := iText_parts y w d
  unfold parseI
  rw [if_pos (iText_like y w d), h1, h2, h3, digitsL_num 4 y hy, digitsL_num 2 w hw, digitsL_num 1 d hd]

theorem all_of_like4 {a b c d : UInt8} (h1 : isDigit a = true) (h2 : isDigit b = true) (h3 : isDigit c = true) (h4 : isDigit d = true) : [a, b, c, d].all isDigit = true := by simp [h1, h2, h3, h4]
/-- A text as the form is the text of its numbers. -/
theorem like_dText (s : Bytes) (h : likeF formD s = true) : ∃ y m d : Nat, y < 10000 ∧ m < 100 ∧ d < 100 ∧ s = dText y m d := by
  obtain ⟨a, b, c, d, e, f, g, i, j, k, rfl⟩ := list10 s (likeF_len _ _ h)
  simp [likeF, formD] at h
  obtain ⟨h1, h2, h3, h4, rfl, h6, h7, rfl, h9, h10⟩ := h
  have a1 : [a, b, c, d].all isDigit = true := by simp [h1, h2, h3, h4]
  have a2 : [f, g].all isDigit = true := by simp [h6, h7]
  have a3 : [j, k].all isDigit = true := by simp [h9, h10]
  have b1 := numL_bound _ a1
  have b2 := numL_bound _ a2
  have b3 := numL_bound _ a3
  have c1 := digits_of_num 4 _ rfl a1
  have c2 := digits_of_num 2 _ rfl a2
  have c3 := digits_of_num 2 _ rfl a3
  simp only [List.length_cons, List.length_nil] at b1 b2 b3
  refine ⟨(numL [a, b, c, d]).toNat, (numL [f, g]).toNat, (numL [j, k]).toNat, by omega, by omega, by omega, ?_⟩
  rw [dText, c1, c2, c3]
  rfl
theorem like_iText (s : Bytes) (h : likeF formI s = true) : ∃ y w d : Nat, y < 10000 ∧ w < 100 ∧ d < 10 ∧ s = iText y w d := by
  obtain ⟨a, b, c, d, e, f, g, i, j, k, rfl⟩ := list10 s (likeF_len _ _ h)
  simp [likeF, formI] at h
  obtain ⟨h1, h2, h3, h4, rfl, rfl, h7, h8, rfl, h10⟩ := h
  have a1 : [a, b, c, d].all isDigit = true := by simp [h1, h2, h3, h4]
  have a2 : [g, i].all isDigit = true := by simp [h7, h8]
  have a3 : [k].all isDigit = true := by simp [h10]
  have b1 := numL_bound _ a1
  have b2 := numL_bound _ a2
  have b3 := numL_bound _ a3
  have c1 := digits_of_num 4 _ rfl a1
  have c2 := digits_of_num 2 _ rfl a2
  have c3 := digits_of_num 1 _ rfl a3
  simp only [List.length_cons, List.length_nil] at b1 b2 b3
  refine ⟨(numL [a, b, c, d]).toNat, (numL [g, i]).toNat, (numL [k]).toNat, by omega, by omega, by omega, ?_⟩
  rw [iText, c1, c2, c3]
  rfl
theorem parse_both (s : Bytes) : (parseD s).2 ≠ 0 ∨ (parseI s).2 ≠ 0 := by
  unfold parseD parseI
  cases h : likeF formD s
  · left; simp
  · cases h2 : likeF formI s
    · right; simp
    · exfalso
      obtain ⟨a, b, c, d, e, f, g, i, j, k, rfl⟩ := list10 s (likeF_len _ _ h)
      simp [likeF, formD] at h
      simp [likeF, formI] at h2
      obtain ⟨_, _, _, _, _, h6, _⟩ := h
      obtain ⟨_, _, _, _, _, rfl, _⟩ := h2
      cases h6
/-- What is read is written so. -/
theorem parseD_back (s : Bytes) (h : (parseD s).2 = 0) : ∃ y m d : Nat, vld y m d ∧ (parseD s).1 = num y m d ∧ s = dText y m d := by
  cases hl : likeF formD s
  · unfold parseD at h; rw [hl] at h; simp at h
  · obtain ⟨y, m, d, hy, hm, hd, rfl⟩ := like_dText s hl
    rw [parseD_text y m d hy hm hd] at h ⊢
    unfold dayN at h ⊢
    split at h
    · rename_i hv; rw [if_pos hv]; exact ⟨y, m, d, hv, rfl, rfl⟩
    · simp at h
theorem parseI_back (s : Bytes) (h : (parseI s).2 = 0) : ∃ y w d : Nat, 0 ≤ (parseI s).1 ∧ (parseI s).1 < 3068037 ∧ IsoIs (parseI s).1 y w d ∧ s = iText y w d := by
  cases hl : likeF formI s
  · unfold parseI at h; rw [hl] at h; simp at h
  · obtain ⟨y, w, d, hy, hw, hd, rfl⟩ := like_iText s hl
    rw [parseI_text y w d hy hw hd] at h ⊢
    rcases isoN_cases y w d with ⟨n, a, b, c, e⟩ | ⟨_, e⟩
    · rw [e]; exact ⟨y, w, d, a, b, c, rfl⟩
    · rw [e] at h; simp at h

end Go.Proofs.YtbeciinkecmbaaaDoor
