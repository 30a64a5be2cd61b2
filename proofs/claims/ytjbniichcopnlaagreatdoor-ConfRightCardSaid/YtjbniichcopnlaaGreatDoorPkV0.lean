import Derived.Laws.StructEq
section
/- Layer 8 (lex), in plain Lean: names, numbers, tokens, cutting. No program in sight. -/
namespace Go.Proofs.YtjbniichcopnlaaGreatDoor

abbrev Bytes := List UInt8

def isLetter (c : UInt8) : Bool := 97 ≤ c && c ≤ 122
def isDigit (c : UInt8) : Bool := 48 ≤ c && c ≤ 57
def isInner (c : UInt8) : Bool := isLetter c || isDigit c || c == 45
def isBlank (c : UInt8) : Bool := c == 32 || c == 9 || c == 10
def notEol (c : UInt8) : Bool := c != 10

/-- How many bytes from the first one on are such. -/
def runL (p : UInt8 → Bool) (l : Bytes) : Nat := (l.takeWhile p).length

/-- A sign's kind; 0: it is none. -/
def signK (c : UInt8) : Int := if c = 123 then 3 else if c = 125 then 4 else if c = 59 then 5 else 0

/-- A name. -/
def nameL (l : Bytes) : Bool :=
  match l with
  | [] => false
  | c :: _ => decide (l.length ≤ 16) && isLetter c && l.all isInner

structure Tok where
  kind : Int
  pos : Int
  n : Int
  s : Bytes
  deriving DecidableEq, Repr

def numL (l : Bytes) : Int := l.foldl (fun n c => n * 10 + ((c.toNat : Int) - 48)) 0

/-- What a number that stands first is: how far, and why not; or it, and how long. -/
def numberL (l : Bytes) : Int × Nat × Int :=
  let many := runL isDigit l
  if many > 9 then (0, 0, 6)
  else if l.head? = some 48 ∧ many > 1 then (0, 0, 5)
  else if (l[many]?).any isInner then (0, many, 5)
  else (numL (l.take many), many, 0)

/-- The token that stands first (its place aside), how long, or how far, and the error. -/
def tokenL (l : Bytes) (cnt : Nat) : Tok × Nat × Int :=
  match l with
  | [] => (⟨0, 0, 0, []⟩, 0, 5)
  | c :: _ =>
    if signK c = 0 ∧ isLetter c = false ∧ isDigit c = false then (⟨0, 0, 0, []⟩, 0, 5)
    else if cnt = 8192 then (⟨0, 0, 0, []⟩, 0, 6)
    else if signK c ≠ 0 then (⟨signK c, 0, 0, []⟩, 1, 0)
    else if isDigit c then (⟨2, 0, (numberL l).1, []⟩, (numberL l).2.1, (numberL l).2.2)
    else if runL isInner l > 16 then (⟨0, 0, 0, []⟩, 0, 6)
    else (⟨1, 0, 0, l.take (runL isInner l)⟩, runL isInner l, 0)

structure CutRes where
  toks : List Tok
  pos : Nat
  err : Int
  deriving DecidableEq, Repr

def CutRes.cons (t : Tok) (r : CutRes) : CutRes := if r.err = 0 then ⟨t :: r.toks, 0, 0⟩ else r

/-- The text from 'pos' on, 'cnt' tokens ahead of it; in a remark; 'j' bytes to be passed over. -/
def cutM : Bool → Nat → Nat → Nat → Bytes → CutRes
  | _, _, _, _, [] => ⟨[], 0, 0⟩
  | rem, j + 1, pos, cnt, _ :: r => cutM rem j (pos + 1) cnt r
  | true, 0, pos, cnt, c :: r => cutM (notEol c) 0 (pos + 1) cnt r
  | false, 0, pos, cnt, c :: r =>
    if isBlank c then cutM false 0 (pos + 1) cnt r
    else if c = 35 then cutM true 0 (pos + 1) cnt r
    else
      let t := tokenL (c :: r) cnt
      if t.2.2 ≠ 0 then ⟨[], pos + t.2.1, t.2.2⟩
      else .cons { t.1 with pos := pos } (cutM false (t.2.1 - 1) (pos + 1) (cnt + 1) r)

def cutL (l : Bytes) : CutRes := if l.length > 65536 then ⟨[], 0, 6⟩ else cutM false 0 0 0 l

example : cutL [97, 32, 49, 50, 59] = ⟨[⟨1, 0, 0, [97]⟩, ⟨2, 2, 12, []⟩, ⟨5, 4, 0, []⟩], 0, 0⟩ := by decide
end Go.Proofs.YtjbniichcopnlaaGreatDoor
end

section
/- Layer 8 (lex): small facts on bytes, in plain Lean. -/
namespace Go.Proofs.YtjbniichcopnlaaGreatDoor

theorem ba_ext {a b : ByteArray} (h : a.data.toList = b.data.toList) : a = b := by
  cases a; cases b; simp only at h; congr; exact Array.toList_inj.1 h
theorem ba_toList (s : ByteArray) : s.toList = s.data.toList := ByteArray.toList_eq s
theorem ba_len (s : ByteArray) : s.data.toList.length = s.size := by simp
theorem ba_get (s : ByteArray) (k : Nat) (h : k < s.size) : s.data.toList[k]'(by simpa using h) = s[k] := rfl
theorem ba_get? (s : ByteArray) (k : Nat) (h : k < s.size) : s.data.toList[k]? = some s[k] := by
  rw [List.getElem?_eq_getElem (by simpa using h)]; rfl
theorem ba_extract (s : ByteArray) (a b : Nat) : (s.extract a b).data.toList = (s.data.toList.take b).drop a := by
  simp [ByteArray.data_extract, Array.toList_extract, List.drop_take]
theorem ba_from (s : ByteArray) (a : Nat) : (s.extract a s.size).data.toList = s.data.toList.drop a := by
  rw [ba_extract, List.take_of_length_le (by simp)]
theorem ba_to (s : ByteArray) (b : Nat) : (s.extract 0 b).data.toList = s.data.toList.take b := by
  rw [ba_extract, List.drop_zero]
theorem ba_mk (l : Bytes) : (ByteArray.mk l.toArray).data.toList = l := by simp
theorem ba_mk_toList (s : ByteArray) : ByteArray.mk s.data.toList.toArray = s := by cases s; simp
theorem ba_drop_cons (s : ByteArray) (k : Nat) (h : k < s.size) : s.data.toList.drop k = s[k] :: s.data.toList.drop (k + 1) := by
  rw [List.drop_eq_getElem_cons (by simpa using h)]; rfl
theorem ba_drop_nil (s : ByteArray) (k : Nat) (h : s.size ≤ k) : s.data.toList.drop k = [] := List.drop_eq_nil_of_le (by simpa using h)
theorem ba_take_snoc (s : ByteArray) (k : Nat) (h : k < s.size) : s.data.toList.take (k + 1) = s.data.toList.take k ++ [s[k]] := by
  rw [List.take_succ_eq_append_getElem (by simpa using h)]; rfl

theorem runL_le (p : UInt8 → Bool) (l : Bytes) : runL p l ≤ l.length := (List.takeWhile_sublist _).length_le

theorem runL_cons (p : UInt8 → Bool) (c : UInt8) (l : Bytes) : runL p (c :: l) = if p c then runL p l + 1 else 0 := by
  unfold runL; by_cases h : p c <;> simp [h]

theorem runL_step (p : UInt8 → Bool) : ∀ (l : Bytes) (k : Nat) (h : k < l.length), k ≤ runL p l →
    (p l[k] = true → k + 1 ≤ runL p l) ∧ (p l[k] = false → runL p l = k)
  | [], k, h, _ => absurd h (by simp)
  | c :: l, 0, h, _ => by rw [runL_cons]; by_cases hc : p c <;> simp [hc]
  | c :: l, k + 1, h, hk => by
    rw [runL_cons] at hk ⊢
    by_cases hc : p c
    · simp only [hc, if_true] at hk ⊢
      have := runL_step p l k (by simpa using h) (by omega)
      simp only [List.getElem_cons_succ]
      exact ⟨fun h => by have := this.1 h; omega, fun h => by have := this.2 h; omega⟩
    · simp [hc] at hk

theorem runL_ba (p : UInt8 → Bool) (s : ByteArray) (k : Nat) (h : k < s.size) (hk : k ≤ runL p s.data.toList) :
    (p s[k] = true → k + 1 ≤ runL p s.data.toList) ∧ (p s[k] = false → runL p s.data.toList = k) :=
  runL_step p s.data.toList k (by simpa using h) hk

theorem runL_all (p : UInt8 → Bool) : ∀ (l : Bytes), (l.take (runL p l)).all p = true
  | [] => rfl
  | c :: l => by
    rw [runL_cons]
    by_cases hc : p c
    · simp [hc]
      have := runL_all p l
      simpa using this
    · simp [hc]

theorem runL_head (p : UInt8 → Bool) (c : UInt8) (l : Bytes) (h : p c = true) : 0 < runL p (c :: l) := by rw [runL_cons, if_pos h]; omega

theorem runL_mem (p : UInt8 → Bool) (l : Bytes) (i : Nat) (h : i < runL p l) : p (l[i]'(Nat.lt_of_lt_of_le h (runL_le p l))) = true := by
  have h1 := runL_all p l
  rw [List.all_eq_true] at h1
  refine h1 _ ?_
  rw [List.mem_take_iff_getElem]
  exact ⟨i, by have := runL_le p l; omega, rfl⟩

theorem isDigit_iff (c : UInt8) : isDigit c = true ↔ 48 ≤ c.toNat ∧ c.toNat ≤ 57 := by
  simp [isDigit, UInt8.le_iff_toNat_le]
theorem isLetter_iff (c : UInt8) : isLetter c = true ↔ 97 ≤ c.toNat ∧ c.toNat ≤ 122 := by
  simp [isLetter, UInt8.le_iff_toNat_le]
theorem u8_eq (c d : UInt8) : (c == d) = decide (c.toNat = d.toNat) := by
  rw [Bool.eq_iff_iff]; simp [UInt8.toNat_inj]
theorem u8_eq' (c d : UInt8) : (c == d) = ((c.toNat : Int) == (d.toNat : Int)) := by
  rw [Bool.eq_iff_iff]; simp [← UInt8.toNat_inj]; omega

theorem numL_snoc (l : Bytes) (c : UInt8) : numL (l ++ [c]) = numL l * 10 + ((c.toNat : Int) - 48) := by simp [numL, List.foldl_append]

theorem numL_go (l : Bytes) : ∀ a : Int, 0 ≤ a → l.all isDigit = true →
    0 ≤ l.foldl (fun n c => n * 10 + ((c.toNat : Int) - 48)) a ∧ l.foldl (fun n c => n * 10 + ((c.toNat : Int) - 48)) a < (a + 1) * 10 ^ l.length := by
  induction l with
  | nil => intro a ha _; simp; omega
  | cons c l ih =>
    intro a ha h
    simp only [List.all_cons, Bool.and_eq_true] at h
    have h3 := (isDigit_iff c).1 h.1
    obtain ⟨h1, h2⟩ := ih (a * 10 + ((c.toNat : Int) - 48)) (by omega) h.2
    simp only [List.foldl_cons, List.length_cons]
    refine ⟨h1, Int.lt_of_lt_of_le h2 ?_⟩
    rw [Int.pow_succ, Int.mul_comm (10 ^ l.length) 10, ← Int.mul_assoc]
    refine Int.mul_le_mul_of_nonneg_right (by omega) (Int.pow_nonneg (by omega))

theorem numL_bound (l : Bytes) (h : l.all isDigit = true) : 0 ≤ numL l ∧ numL l < 10 ^ l.length := by
  have := numL_go l 0 (by omega) h
  simpa [numL] using this

/-- How many blanks, and bytes of remarks, stand first. -/
def freeM : Bool → Bytes → Nat
  | _, [] => 0
  | true, c :: r => 1 + freeM (notEol c) r
  | false, c :: r => if isBlank c then 1 + freeM false r else if c = 35 then 1 + freeM true r else 0

theorem freeM_le : ∀ (b : Bool) (l : Bytes), freeM b l ≤ l.length
  | _, [] => by simp [freeM]
  | true, c :: r => by have := freeM_le (notEol c) r; simp only [freeM, List.length_cons]; omega
  | false, c :: r => by
    have h1 := freeM_le false r
    have h2 := freeM_le true r
    simp only [freeM, List.length_cons]
    repeat' split
    all_goals omega

/-- A remark ends at a line's end, or the text's. -/
theorem freeM_true : ∀ (l : Bytes), freeM true l = runL notEol l + freeM false (l.drop (runL notEol l))
  | [] => by simp [freeM, runL]
  | c :: r => by
    rw [runL_cons, freeM]
    by_cases h : notEol c = true
    · rw [if_pos h, h, List.drop_succ_cons, freeM_true r]; omega
    · have hb : isBlank c = true := by
        simp only [notEol, bne_iff_ne, ne_eq, Classical.not_not] at h
        subst h; rfl
      simp only [h]
      simp [freeM, hb]

theorem freeM_hash (r : Bytes) : freeM false (35 :: r) = runL notEol (35 :: r) + freeM false ((35 :: r).drop (runL notEol (35 :: r))) := by
  have h1 : isBlank 35 = false := rfl
  have h2 : notEol 35 = true := rfl
  rw [runL_cons, if_pos h2, List.drop_succ_cons]
  show (if isBlank 35 then 1 + freeM false r else if (35 : UInt8) = 35 then 1 + freeM true r else 0) = _
  rw [h1, if_neg (by simp), if_pos rfl, freeM_true]
  omega


theorem freeM_free : ∀ (b : Bool) (l : Bytes), freeM false (l.drop (freeM b l)) = 0
  | _, [] => by simp [freeM]
  | true, c :: r => by simp only [freeM]; rw [Nat.add_comm, List.drop_succ_cons]; exact freeM_free _ r
  | false, c :: r => by
    simp only [freeM]
    split
    · rw [Nat.add_comm, List.drop_succ_cons]; exact freeM_free _ r
    · split
      · rw [Nat.add_comm, List.drop_succ_cons]; exact freeM_free _ r
      · rename_i h1 h2
        simp [freeM, h1, h2]

theorem free_head (c : UInt8) (r : Bytes) (h : freeM false (c :: r) = 0) : isBlank c = false ∧ c ≠ 35 := by
  simp only [freeM] at h
  split at h
  · omega
  · split at h
    · omega
    · rename_i h1 h2; exact ⟨by simpa using h1, h2⟩

theorem cutM_nil (b : Bool) (j pos cnt : Nat) : cutM b j pos cnt [] = ⟨[], 0, 0⟩ := by cases b <;> cases j <;> rfl

theorem cutM_free : ∀ (b : Bool) (pos cnt : Nat) (l : Bytes), cutM b 0 pos cnt l = cutM false 0 (pos + freeM b l) cnt (l.drop (freeM b l))
  | _, pos, cnt, [] => by rw [cutM_nil]; simp [freeM, cutM_nil]
  | true, pos, cnt, c :: r => by
    have ih := cutM_free (notEol c) (pos + 1) cnt r
    simp only [freeM]
    rw [Nat.add_comm 1, List.drop_succ_cons]
    show cutM (notEol c) 0 (pos + 1) cnt r = _
    rw [ih, Nat.add_assoc, Nat.add_comm 1]
  | false, pos, cnt, c :: r => by
    by_cases h1 : isBlank c = true
    · have ih := cutM_free false (pos + 1) cnt r
      have e1 : freeM false (c :: r) = 1 + freeM false r := by simp [freeM, h1]
      have e2 : cutM false 0 pos cnt (c :: r) = cutM false 0 (pos + 1) cnt r := by simp [cutM, h1]
      rw [e1, e2, ih, Nat.add_comm 1, List.drop_succ_cons, Nat.add_assoc, Nat.add_comm 1]
    · by_cases h2 : c = 35
      · have ih := cutM_free true (pos + 1) cnt r
        have e1 : freeM false (c :: r) = 1 + freeM true r := by rw [freeM, if_neg h1, if_pos h2]
        have e2 : cutM false 0 pos cnt (c :: r) = cutM true 0 (pos + 1) cnt r := by rw [cutM, if_neg h1, if_pos h2]
        rw [e1, e2, ih, Nat.add_comm 1, List.drop_succ_cons, Nat.add_assoc, Nat.add_comm 1]
      · have e1 : freeM false (c :: r) = 0 := by simp [freeM, h1, h2]
        rw [e1]; rfl

theorem cutM_skip : ∀ (j pos cnt : Nat) (l : Bytes), j ≤ l.length → cutM false j pos cnt l = cutM false 0 (pos + j) cnt (l.drop j)
  | 0, pos, cnt, l, _ => rfl
  | j + 1, pos, cnt, [], h => absurd h (by simp)
  | j + 1, pos, cnt, c :: r, h => by
    show cutM false j (pos + 1) cnt r = _
    rw [cutM_skip j (pos + 1) cnt r (by simpa using h), List.drop_succ_cons, Nat.add_assoc, Nat.add_comm 1]

theorem numberL_len (l : Bytes) : (numberL l).2.1 ≤ l.length := by
  unfold numberL
  have := runL_le isDigit l
  dsimp only
  repeat' split
  all_goals simp
  all_goals omega

theorem tokenL_len (l : Bytes) (cnt : Nat) (h : l ≠ []) : (tokenL l cnt).2.1 ≤ l.length ∧ ((tokenL l cnt).2.2 = 0 → 1 ≤ (tokenL l cnt).2.1) ∧ (tokenL l cnt).1.pos = 0 := by
  cases l with
  | nil => exact absurd rfl h
  | cons c r =>
    have h1 := numberL_len (c :: r)
    have h2 := runL_le isInner (c :: r)
    unfold tokenL
    dsimp only
    split
    · simp
    split
    · simp
    split
    · simp
    split
    · rename_i hd
      refine ⟨h1, fun he => ?_, rfl⟩
      have hm : 0 < runL isDigit (c :: r) := runL_head _ _ _ hd
      unfold numberL at he ⊢
      dsimp only at he ⊢
      split at he
      · simp at he
      split at he
      · simp at he
      split at he
      · simp at he
      rename_i a1 a2 a3
      rw [if_neg a1, if_neg a2, if_neg a3]
      exact hm
    · split
      · simp
      · rename_i a1 a2 a3 a4 a5
        refine ⟨h2, fun _ => ?_, rfl⟩
        have hl : isLetter c = true := by
          cases hl : isLetter c
          · exact absurd ⟨by simpa using a3, hl, by simpa using a4⟩ a1
          · rfl
        exact runL_head _ _ _ (by simp [isInner, hl])

theorem cutM_tok (pos cnt : Nat) (l : Bytes) (h : l ≠ []) (hf : freeM false l = 0) : cutM false 0 pos cnt l =
    if (tokenL l cnt).2.2 ≠ 0 then ⟨[], pos + (tokenL l cnt).2.1, (tokenL l cnt).2.2⟩
    else .cons { (tokenL l cnt).1 with pos := pos } (cutM false 0 (pos + (tokenL l cnt).2.1) (cnt + 1) (l.drop (tokenL l cnt).2.1)) := by
  obtain ⟨hlen, h1, _⟩ := tokenL_len l cnt h
  cases l with
  | nil => exact absurd rfl h
  | cons c r =>
    obtain ⟨hb, h35⟩ := free_head c r hf
    show (if isBlank c then _ else if c = 35 then _ else _) = _
    rw [hb, if_neg (by simp), if_neg h35]
    dsimp only
    split
    · rfl
    · rename_i he
      have h1' := h1 (by simpa using he)
      obtain ⟨j, hj⟩ : ∃ j, (tokenL (c :: r) cnt).2.1 = j + 1 := ⟨_, (Nat.sub_add_cancel h1').symm⟩
      rw [hj, Nat.add_sub_cancel, List.drop_succ_cons, cutM_skip j (pos + 1) (cnt + 1) r (by rw [hj] at hlen; simpa using hlen), Nat.add_assoc, Nat.add_comm 1]

def CutRes.pre (acc : List Tok) (r : CutRes) : CutRes := if r.err = 0 then ⟨acc ++ r.toks, 0, 0⟩ else r
theorem CutRes.pre_cons (acc : List Tok) (t : Tok) (r : CutRes) : (CutRes.cons t r).pre acc = r.pre (acc ++ [t]) := by
  unfold CutRes.cons CutRes.pre
  by_cases h : r.err = 0 <;> simp [h]
theorem cutM_err : ∀ (b : Bool) (j pos cnt : Nat) (l : Bytes), ((cutM b j pos cnt l).err = 0 → (cutM b j pos cnt l).pos = 0) ∧ ((cutM b j pos cnt l).err ≠ 0 → (cutM b j pos cnt l).toks = [])
  | _, _, _, _, [] => by simp [cutM_nil]
  | b, j + 1, pos, cnt, c :: r => by cases b <;> exact cutM_err _ j (pos + 1) cnt r
  | true, 0, pos, cnt, c :: r => cutM_err (notEol c) 0 (pos + 1) cnt r
  | false, 0, pos, cnt, c :: r => by
    have h1 := cutM_err false 0 (pos + 1) cnt r
    have h2 := cutM_err true 0 (pos + 1) cnt r
    have h3 := cutM_err false ((tokenL (c :: r) cnt).2.1 - 1) (pos + 1) (cnt + 1) r
    simp only [cutM]
    split
    · exact h1
    split
    · exact h2
    split
    · rename_i h; simp [h]
    · unfold CutRes.cons
      split
      · simp
      · exact h3
theorem cutM_pre_nil (b : Bool) (j pos cnt : Nat) (l : Bytes) : (cutM b j pos cnt l).pre [] = cutM b j pos cnt l := by
  unfold CutRes.pre
  have := cutM_err b j pos cnt l
  split
  · rename_i h
    have h2 := this.1 h
    cases hc : cutM b j pos cnt l
    rw [hc] at h h2
    simp only at h h2
    subst h; subst h2
    rfl
  · rfl

theorem tokenL_def (c : UInt8) (r : Bytes) (cnt : Nat) : tokenL (c :: r) cnt =
    (if signK c = 0 ∧ isLetter c = false ∧ isDigit c = false then (⟨0, 0, 0, []⟩, 0, 5)
    else if cnt = 8192 then (⟨0, 0, 0, []⟩, 0, 6)
    else if signK c ≠ 0 then (⟨signK c, 0, 0, []⟩, 1, 0)
    else if isDigit c then (⟨2, 0, (numberL (c :: r)).1, []⟩, (numberL (c :: r)).2.1, (numberL (c :: r)).2.2)
    else if runL isInner (c :: r) > 16 then (⟨0, 0, 0, []⟩, 0, 6)
    else (⟨1, 0, 0, (c :: r).take (runL isInner (c :: r))⟩, runL isInner (c :: r), 0) : Tok × Nat × Int) := rfl

theorem sign_other (c : UInt8) (h : signK c ≠ 0) : isLetter c = false ∧ isDigit c = false := by
  unfold signK at h
  split at h
  · rename_i e; subst e; exact ⟨rfl, rfl⟩
  split at h
  · rename_i e; subst e; exact ⟨rfl, rfl⟩
  split at h
  · rename_i e; subst e; exact ⟨rfl, rfl⟩
  · exact absurd rfl h

theorem letter_digit (c : UInt8) (h : isLetter c = true) : isDigit c = false := by
  have h1 := (isLetter_iff c).1 h
  cases hd : isDigit c
  · rfl
  · have := (isDigit_iff c).1 hd; omega

theorem runL_at (p : UInt8 → Bool) (s : ByteArray) (k j : Nat) (h : k + j < s.size) (hj : j ≤ runL p (s.data.toList.drop k)) :
    (p s[k + j] = true → j + 1 ≤ runL p (s.data.toList.drop k)) ∧ (p s[k + j] = false → runL p (s.data.toList.drop k) = j) := by
  have hl : j < (s.data.toList.drop k).length := by rw [List.length_drop, ba_len]; omega
  have := runL_step p (s.data.toList.drop k) j hl hj
  rw [List.getElem_drop] at this
  exact this

theorem blank_iff (c : UInt8) : isBlank c = true ↔ (c.toNat : Int) = 32 ∨ (c.toNat : Int) = 9 ∨ (c.toNat : Int) = 10 := by
  simp only [isBlank, u8_eq', Bool.or_eq_true, beq_iff_eq]
  have e1 : ((32 : UInt8).toNat : Int) = 32 := rfl
  have e2 : ((9 : UInt8).toNat : Int) = 9 := rfl
  have e3 : ((10 : UInt8).toNat : Int) = 10 := rfl
  rw [e1, e2, e3]
  omega

theorem hash_iff (c : UInt8) : c = 35 ↔ (c.toNat : Int) = 35 := by
  rw [← UInt8.toNat_inj]
  have e1 : (35 : UInt8).toNat = 35 := rfl
  omega

theorem eol_iff (c : UInt8) : notEol c = false ↔ (c.toNat : Int) = 10 := by
  have e3 : ((10 : UInt8).toNat : Int) = 10 := rfl
  simp only [notEol, bne_eq_false_iff_eq, ← UInt8.toNat_inj]
  have e1 : (10 : UInt8).toNat = 10 := rfl
  omega

theorem cutM_blank (s : ByteArray) (k cnt : Nat) (h : k < s.size) (hb : isBlank s[k] = true) : cutM false 0 k cnt (s.data.toList.drop k) = cutM false 0 (k + 1) cnt (s.data.toList.drop (k + 1)) := by
  rw [ba_drop_cons s k h, cutM, if_pos hb]

theorem cutM_hash (s : ByteArray) (k cnt : Nat) (h : k < s.size) (hb : s[k] = 35) : cutM false 0 k cnt (s.data.toList.drop k) = cutM true 0 k cnt (s.data.toList.drop k) := by
  rw [ba_drop_cons s k h, hb]
  rfl

theorem cutM_rem (s : ByteArray) (k cnt : Nat) (h : k < s.size) : cutM true 0 k cnt (s.data.toList.drop k) = cutM (notEol s[k]) 0 (k + 1) cnt (s.data.toList.drop (k + 1)) := by
  rw [ba_drop_cons s k h]
  rfl

theorem cutM_eol (s : ByteArray) (k cnt : Nat) (h : k < s.size) (he : notEol s[k] = false) : cutM true 0 k cnt (s.data.toList.drop k) = cutM false 0 k cnt (s.data.toList.drop k) := by
  rw [cutM_rem s k cnt h, he, cutM_blank s k cnt h]
  rw [blank_iff]; exact .inr (.inr ((eol_iff _).1 he))

theorem cutM_end (b : Bool) (s : ByteArray) (k cnt : Nat) (h : s.size ≤ k) : cutM b 0 k cnt (s.data.toList.drop k) = ⟨[], 0, 0⟩ := by
  rw [ba_drop_nil s k h, cutM_nil]

theorem tokenL_at (s : ByteArray) (k cnt : Nat) (h : k < s.size) : tokenL (s.data.toList.drop k) cnt =
    (if signK s[k] = 0 ∧ isLetter s[k] = false ∧ isDigit s[k] = false then (⟨0, 0, 0, []⟩, 0, 5)
    else if cnt = 8192 then (⟨0, 0, 0, []⟩, 0, 6)
    else if signK s[k] ≠ 0 then (⟨signK s[k], 0, 0, []⟩, 1, 0)
    else if isDigit s[k] then (⟨2, 0, (numberL (s.data.toList.drop k)).1, []⟩, (numberL (s.data.toList.drop k)).2.1, (numberL (s.data.toList.drop k)).2.2)
    else if runL isInner (s.data.toList.drop k) > 16 then (⟨0, 0, 0, []⟩, 0, 6)
    else (⟨1, 0, 0, (s.data.toList.drop k).take (runL isInner (s.data.toList.drop k))⟩, runL isInner (s.data.toList.drop k), 0) : Tok × Nat × Int) := by
  rw [ba_drop_cons s k h]
  exact tokenL_def _ _ _

theorem free0 (s : ByteArray) (k : Nat) (h : k < s.size) (hb : ¬ isBlank s[k] = true) (h35 : ¬ s[k] = 35) : freeM false (s.data.toList.drop k) = 0 := by
  rw [ba_drop_cons s k h, freeM, if_neg hb, if_neg h35]

theorem class3 (c : UInt8) (h : ¬ (signK c = 0 ∧ isLetter c = false ∧ isDigit c = false)) :
    (signK c ≠ 0 ∧ isLetter c = false ∧ isDigit c = false) ∨ (signK c = 0 ∧ isLetter c = true ∧ isDigit c = false) ∨ (signK c = 0 ∧ isLetter c = false ∧ isDigit c = true) := by
  by_cases hK : signK c = 0
  · cases hL : isLetter c
    · cases hD : isDigit c
      · exact absurd ⟨hK, hL, hD⟩ h
      · exact .inr (.inr ⟨hK, rfl, rfl⟩)
    · exact .inr (.inl ⟨hK, rfl, letter_digit c hL⟩)
  · have := sign_other c hK
    exact .inl ⟨hK, this⟩

theorem CutRes.pre_err (acc : List Tok) (p : Nat) (e : Int) (h : e ≠ 0) : (CutRes.mk [] p e).pre acc = ⟨[], p, e⟩ := by
  unfold CutRes.pre; rw [if_neg h]

theorem numL_lt (l : Bytes) (k : Nat) (h : l.all isDigit = true) (h9 : l.length ≤ 9) : 0 ≤ numL (l.take k) ∧ numL (l.take k) ≤ 999999999 := by
  have h1 := numL_bound (l.take k) (by
    rw [List.all_eq_true] at h ⊢
    exact fun x hx => h x (List.mem_of_mem_take hx))
  have h2 : (l.take k).length ≤ 9 := by rw [List.length_take]; omega
  have h3 : (10 : Int) ^ (l.take k).length ≤ 10 ^ 9 := by
    have : ∀ n : Nat, n ≤ 9 → (10 : Int) ^ n ≤ 10 ^ 9 := by decide
    exact this _ h2
  omega

theorem num_at (s : ByteArray) (k m : Nat) (hm : m = runL isDigit (s.data.toList.drop k)) (h9 : m ≤ 9) :
    ∃ N : Nat → Int, N 0 = 0 ∧ N m = numL ((s.data.toList.drop k).take m) ∧ (∀ q, 0 ≤ N q ∧ N q ≤ 999999999) ∧
      ∀ q (h : k + q < s.size), q < m → 48 ≤ (s[k + q].toNat : Int) ∧ (s[k + q].toNat : Int) ≤ 57 ∧ N (q + 1) = N q * 10 + ((s[k + q].toNat : Int) - 48) := by
  have hall := runL_all isDigit (s.data.toList.drop k)
  rw [← hm] at hall
  obtain ⟨t, ht⟩ : ∃ t, t = (s.data.toList.drop k).take m := ⟨_, rfl⟩
  rw [← ht] at hall
  have htl : t.length ≤ m := by rw [ht, List.length_take]; omega
  refine ⟨fun q => numL (t.take q), by simp [numL], ?_, fun q => numL_lt t q hall (by omega), fun q h hq => ?_⟩
  · dsimp only; rw [← ht, List.take_of_length_le htl]
  · have hlen : q < t.length := by rw [ht, List.length_take, List.length_drop, ba_len]; omega
    have hg : t[q] = s[k + q] := by
      subst ht
      rw [List.getElem_take, List.getElem_drop]; rfl
    have hd := (isDigit_iff _).1 ((List.all_eq_true.1 hall) (t[q]) (List.getElem_mem _))
    rw [hg] at hd
    refine ⟨by omega, by omega, ?_⟩
    show numL (t.take (q + 1)) = numL (t.take q) * 10 + _
    rw [List.take_succ_eq_append_getElem hlen, numL_snoc, hg]

theorem extract_at (s : ByteArray) (k m : Nat) : s.extract k (k + m) = ⟨((s.data.toList.drop k).take m).toArray⟩ := by
  apply ba_ext
  rw [ba_extract, List.drop_take, Nat.add_sub_cancel_left]

theorem numberL_at (s : ByteArray) (k m : Nat) (h : k < s.size) (hm : m = runL isDigit (s.data.toList.drop k)) : numberL (s.data.toList.drop k) =
    if m > 9 then (0, 0, 6) else if (s[k].toNat : Int) = 48 ∧ m > 1 then (0, 0, 5)
    else if (if h : k + m < s.size then isInner s[k + m] else false) then (0, m, 5) else (numL ((s.data.toList.drop k).take m), m, 0) := by
  have h1 : ((s.data.toList.drop k).head? = some 48) ↔ (s[k].toNat : Int) = 48 := by
    rw [ba_drop_cons s k h]
    simp only [List.head?_cons, Option.some.injEq, ← UInt8.toNat_inj]
    have : (48 : UInt8).toNat = 48 := rfl
    omega
  have h2 : (((s.data.toList.drop k)[m]?).any isInner) = if h : k + m < s.size then isInner s[k + m] else false := by
    rw [List.getElem?_drop]
    by_cases hh : k + m < s.size
    · rw [dif_pos hh, ba_get? s _ hh]; rfl
    · rw [dif_neg hh, List.getElem?_eq_none (by rw [ba_len]; omega)]; rfl
  unfold numberL
  rw [← hm]
  simp only [h1, h2]

theorem cutM_digit (s : ByteArray) (k cnt m : Nat) (h : k < s.size) (hb : ¬ isBlank s[k] = true) (h35 : ¬ s[k] = 35) (hK : signK s[k] = 0) (hD : isDigit s[k] = true) (hc : cnt ≠ 8192) (hm : m = runL isDigit (s.data.toList.drop k)) :
    cutM false 0 k cnt (s.data.toList.drop k) = if m > 9 then ⟨[], k, 6⟩ else if (s[k].toNat : Int) = 48 ∧ m > 1 then ⟨[], k, 5⟩
      else if (if h : k + m < s.size then isInner s[k + m] else false) then ⟨[], k + m, 5⟩
      else .cons ⟨2, k, numL ((s.data.toList.drop k).take m), []⟩ (cutM false 0 (k + m) (cnt + 1) (s.data.toList.drop (k + m))) := by
  have hne : s.data.toList.drop k ≠ [] := by rw [ba_drop_cons s k h]; simp
  have htd := tokenL_at s k cnt h
  rw [if_neg (by simp [hD]), if_neg hc, if_neg (by simp [hK]), if_pos hD, numberL_at s k m h hm] at htd
  rw [cutM_tok k cnt _ hne (free0 s k h hb h35), htd, List.drop_drop]
  by_cases h9 : m > 9
  · simp [h9]
  by_cases hz : (s[k].toNat : Int) = 48 ∧ m > 1
  · simp only [h9, hz, if_false]; simp
  by_cases hi : (if h : k + m < s.size then isInner s[k + m] else false) = true
  · simp only [h9, hz, hi, if_true, if_false]; simp
  · simp only [h9, hz, hi, if_false]; simp

theorem cutM_len : ∀ (b : Bool) (j pos cnt : Nat) (l : Bytes), (cutM b j pos cnt l).toks.length ≤ l.length
  | _, _, _, _, [] => by simp [cutM_nil]
  | b, j + 1, pos, cnt, c :: r => by
    have := cutM_len b j (pos + 1) cnt r
    cases b <;> (show (cutM _ j (pos + 1) cnt r).toks.length ≤ _; simp only [List.length_cons]; omega)
  | true, 0, pos, cnt, c :: r => by
    have := cutM_len (notEol c) 0 (pos + 1) cnt r
    show (cutM _ 0 (pos + 1) cnt r).toks.length ≤ _
    simp only [List.length_cons]; omega
  | false, 0, pos, cnt, c :: r => by
    have h1 := cutM_len false 0 (pos + 1) cnt r
    have h2 := cutM_len true 0 (pos + 1) cnt r
    have h3 := cutM_len false ((tokenL (c :: r) cnt).2.1 - 1) (pos + 1) (cnt + 1) r
    simp only [cutM, List.length_cons]
    split
    · omega
    split
    · omega
    split
    · simp
    · unfold CutRes.cons
      split
      · simp only [List.length_cons]; omega
      · omega

theorem cutL_len (l : Bytes) : (cutL l).toks.length ≤ l.length := by
  unfold cutL
  split
  · simp
  · exact cutM_len _ _ _ _ _

end Go.Proofs.YtjbniichcopnlaaGreatDoor
end

section
/- Layer 8 (lex): the plain laws: texts one behind the other, blanks put in, what stands ahead of an error. No program in sight. -/
namespace Go.Proofs.YtjbniichcopnlaaGreatDoor

/-- No run of a name or a number goes on into v. -/
def stops (v : Bytes) : Prop := ∀ c, v.head? = some c → isInner c = false

theorem inner_of_digit (c : UInt8) (h : isDigit c = true) : isInner c = true := by simp [isInner, h]

theorem runL_stop (p : UInt8 → Bool) (hp : ∀ c, p c = true → isInner c = true) : ∀ (u v : Bytes), stops v → runL p (u ++ v) = runL p u
  | [], [], _ => rfl
  | [], c :: v, h => by
    have := h c rfl
    rw [List.nil_append, runL_cons]
    cases hc : p c
    · rfl
    · rw [hp c hc] at this; cases this
  | c :: u, v, h => by
    rw [List.cons_append, runL_cons, runL_cons, runL_stop p hp u v h]

theorem any_stop (u v : Bytes) (m : Nat) (h : stops v) (hm : m ≤ u.length) : ((u ++ v)[m]?).any isInner = (u[m]?).any isInner := by
  by_cases hlt : m < u.length
  · rw [List.getElem?_append_left hlt]
  · obtain rfl : m = u.length := by omega
    rw [List.getElem?_append_right (Nat.le_refl _), Nat.sub_self, List.getElem?_eq_none (Nat.le_refl _), ← List.head?_eq_getElem?]
    cases hv : v.head? with
    | none => rfl
    | some c => simp [h c hv]

theorem numberL_stop (u v : Bytes) (hu : u ≠ []) (h : stops v) : numberL (u ++ v) = numberL u := by
  have h1 := runL_stop isDigit inner_of_digit u v h
  have h2 := runL_le isDigit u
  unfold numberL
  rw [h1]
  dsimp only
  rw [any_stop u v _ h h2, List.take_append_of_le_length h2]
  have : (u ++ v).head? = u.head? := by cases u with | nil => exact absurd rfl hu | cons c u => rfl
  rw [this]

theorem tokenL_stop (u v : Bytes) (cnt : Nat) (hu : u ≠ []) (h : stops v) : tokenL (u ++ v) cnt = tokenL u cnt := by
  cases u with
  | nil => exact absurd rfl hu
  | cons c u =>
    have h1 := numberL_stop (c :: u) v hu h
    have h2 := runL_stop isInner (fun _ h => h) (c :: u) v h
    have h3 := runL_le isInner (c :: u)
    rw [List.cons_append, tokenL_def, tokenL_def, ← List.cons_append, h1, h2, List.take_append_of_le_length h3]

theorem runL_take (p : UInt8 → Bool) : ∀ (l : Bytes) (q : Nat), runL p l ≤ q → runL p (l.take q) = runL p l
  | [], q, _ => by simp
  | c :: l, q, h => by
    rw [runL_cons] at h ⊢
    cases hc : p c
    · cases q with
      | zero => simp [runL]
      | succ q => rw [List.take_succ_cons, runL_cons, hc]; rfl
    · rw [hc, if_pos rfl] at h
      cases q with
      | zero => omega
      | succ q => rw [List.take_succ_cons, runL_cons, hc, if_pos rfl, if_pos rfl, runL_take p l q (by omega)]

theorem getElem?_take (l : Bytes) (q m : Nat) : (l.take q)[m]? = if m < q then l[m]? else none := by
  rw [List.getElem?_take]

theorem numberL_take (l : Bytes) (q : Nat) (hq : runL isDigit l ≤ q) (h0 : 0 < q) (h : (numberL l).2.2 = 0) : numberL (l.take q) = numberL l := by
  have h1 := runL_take isDigit l q hq
  have h2 : (l.take q).head? = l.head? := by
    cases l with
    | nil => simp
    | cons c l => cases q with
      | zero => omega
      | succ q => simp
  unfold numberL at h ⊢
  rw [h1, h2]
  dsimp only at h ⊢
  split at h
  · simp at h
  split at h
  · simp at h
  split at h
  · simp at h
  rename_i a1 a2 a3
  rw [if_neg a1, if_neg a2, if_neg a1, if_neg a2, if_neg a3, if_neg ?_, List.take_take, Nat.min_eq_left hq]
  rw [getElem?_take]
  split
  · exact a3
  · simp

theorem tokenL_take (l : Bytes) (cnt q : Nat) (hl : l ≠ []) (he : (tokenL l cnt).2.2 = 0) (hq : (tokenL l cnt).2.1 ≤ q) : tokenL (l.take q) cnt = tokenL l cnt := by
  have hlen := tokenL_len l cnt hl
  have h1 := hlen.2.1 he
  cases l with
  | nil => exact absurd rfl hl
  | cons c l =>
    cases q with
    | zero => omega
    | succ q =>
      rw [List.take_succ_cons, tokenL_def, tokenL_def, ← List.take_succ_cons]
      rw [tokenL_def] at he hq
      split
      · rfl
      rename_i a1
      rw [if_neg a1] at he hq
      split
      · rfl
      rename_i a2
      rw [if_neg a2] at he hq
      split
      · rfl
      rename_i a3
      rw [if_neg a3] at he hq
      split
      · rename_i a4
        rw [if_pos a4] at he hq
        have hr : runL isDigit (c :: l) ≤ q + 1 := by
          have : (numberL (c :: l)).2.1 = runL isDigit (c :: l) := by
            unfold numberL at he ⊢
            dsimp only at he ⊢
            split at he
            · simp at he
            split at he
            · simp at he
            split at he
            · simp at he
            rename_i b1 b2 b3
            rw [if_neg b1, if_neg b2, if_neg b3]
          rw [← this]; exact hq
        rw [numberL_take (c :: l) (q + 1) hr (by omega) he]
      · rename_i a4
        rw [if_neg a4] at he hq
        split at he
        · simp at he
        rename_i a5
        rw [if_neg a5] at hq
        have h2 := runL_take isInner (c :: l) (q + 1) hq
        rw [h2, if_neg a5, if_neg a5, List.take_take, Nat.min_eq_left hq]

theorem cutM_all : ∀ (b : Bool) (j pos cnt : Nat) (l : Bytes), l.length ≤ j → cutM b j pos cnt l = ⟨[], 0, 0⟩
  | b, j, pos, cnt, [], _ => cutM_nil b j pos cnt
  | b, 0, pos, cnt, c :: r, h => by simp at h
  | b, j + 1, pos, cnt, c :: r, h => by
    have := cutM_all b j (pos + 1) cnt r (by simpa using h)
    cases b <;> exact this

/-! ### Two texts, one behind the other, a line's end between -/
theorem cutM_app : ∀ (b : Bool) (j pos cnt : Nat) (u t : Bytes), j ≤ u.length →
    cutM b j pos cnt (u ++ 10 :: t) = if (cutM b j pos cnt u).err = 0 then (cutM false 0 (pos + u.length + 1) (cnt + (cutM b j pos cnt u).toks.length) t).pre (cutM b j pos cnt u).toks else cutM b j pos cnt u
  | b, j, pos, cnt, [], t, h => by
    obtain rfl : j = 0 := by simpa using h
    rw [cutM_nil]
    simp only [if_true, List.length_nil, Nat.add_zero, List.nil_append, cutM_pre_nil]
    cases b
    · rw [cutM, if_pos (by rfl)]
    · rw [cutM]; rfl
  | b, j + 1, pos, cnt, c :: r, t, h => by
    have ih := cutM_app b j (pos + 1) cnt r t (by simpa using h)
    have e1 : ∀ l, cutM b (j + 1) pos cnt (c :: l) = cutM b j (pos + 1) cnt l := fun l => by cases b <;> rfl
    rw [List.cons_append, e1, e1, ih, List.length_cons]
    have : pos + 1 + r.length + 1 = pos + (r.length + 1) + 1 := by omega
    rw [this]
  | true, 0, pos, cnt, c :: r, t, h => by
    have ih := cutM_app (notEol c) 0 (pos + 1) cnt r t (Nat.zero_le _)
    rw [List.cons_append]
    show cutM (notEol c) 0 (pos + 1) cnt (r ++ 10 :: t) = if (cutM (notEol c) 0 (pos + 1) cnt r).err = 0 then (cutM false 0 _ _ t).pre (cutM (notEol c) 0 (pos + 1) cnt r).toks else cutM (notEol c) 0 (pos + 1) cnt r
    rw [ih, List.length_cons]
    have : pos + 1 + r.length + 1 = pos + (r.length + 1) + 1 := by omega
    rw [this]
    rfl
  | false, 0, pos, cnt, c :: r, t, h => by
    have hn : pos + 1 + r.length + 1 = pos + (r.length + 1) + 1 := by omega
    by_cases hb : isBlank c = true
    · have ih := cutM_app false 0 (pos + 1) cnt r t (Nat.zero_le _)
      have e1 : ∀ l, cutM false 0 pos cnt (c :: l) = cutM false 0 (pos + 1) cnt l := fun l => by rw [cutM, if_pos hb]
      rw [List.cons_append, e1, e1, ih, List.length_cons, hn]
    by_cases h35 : c = 35
    · have ih := cutM_app true 0 (pos + 1) cnt r t (Nat.zero_le _)
      have e1 : ∀ l, cutM false 0 pos cnt (c :: l) = cutM true 0 (pos + 1) cnt l := fun l => by rw [cutM, if_neg hb, if_pos h35]
      rw [List.cons_append, e1, e1, ih, List.length_cons, hn]
    have hs : stops (10 :: t) := fun x hx => by simp at hx; subst hx; rfl
    have ht := tokenL_stop (c :: r) (10 :: t) cnt (by simp) hs
    rw [List.cons_append] at ht
    have e1 : ∀ l, cutM false 0 pos cnt (c :: l) = if (tokenL (c :: l) cnt).2.2 ≠ 0 then ⟨[], pos + (tokenL (c :: l) cnt).2.1, (tokenL (c :: l) cnt).2.2⟩
        else .cons { (tokenL (c :: l) cnt).1 with pos := pos } (cutM false ((tokenL (c :: l) cnt).2.1 - 1) (pos + 1) (cnt + 1) l) := fun l => by rw [cutM, if_neg hb, if_neg h35]
    rw [List.cons_append, e1, e1, ht]
    by_cases he : (tokenL (c :: r) cnt).2.2 ≠ 0
    · rw [if_pos he, if_pos he, if_neg he]
    · rw [if_neg he, if_neg he]
      have hl := tokenL_len (c :: r) cnt (by simp)
      have ih := cutM_app false ((tokenL (c :: r) cnt).2.1 - 1) (pos + 1) (cnt + 1) r t (by have := hl.1; simp only [List.length_cons] at this; omega)
      rw [ih, List.length_cons]
      unfold CutRes.cons
      by_cases hr : (cutM false ((tokenL (c :: r) cnt).2.1 - 1) (pos + 1) (cnt + 1) r).err = 0
      · simp only [hr, if_true, List.length_cons]
        have e2 : pos + 1 + r.length + 1 = pos + (r.length + 1) + 1 := by omega
        have e3 : cnt + 1 + (cutM false ((tokenL (c :: r) cnt).2.1 - 1) (pos + 1) (cnt + 1) r).toks.length = cnt + ((cutM false ((tokenL (c :: r) cnt).2.1 - 1) (pos + 1) (cnt + 1) r).toks.length + 1) := by omega
        rw [e2, e3]
        unfold CutRes.pre
        split
        · simp
        · rfl
      · simp only [hr, if_false]

/-! ### Places moved; how many tokens stand ahead -/
def CutRes.shift (d : Nat) (r : CutRes) : CutRes := ⟨r.toks.map fun t => { t with pos := t.pos + d }, if r.err = 0 then 0 else r.pos + d, r.err⟩

theorem cons_shift (t : Tok) (d : Nat) (r : CutRes) : (CutRes.cons t r).shift d = CutRes.cons { t with pos := t.pos + d } (r.shift d) := by
  unfold CutRes.cons CutRes.shift
  by_cases h : r.err = 0 <;> simp [h]

theorem cutM_shift (d : Nat) : ∀ (b : Bool) (j pos cnt : Nat) (l : Bytes), cutM b j (pos + d) cnt l = (cutM b j pos cnt l).shift d
  | b, j, pos, cnt, [] => by rw [cutM_nil, cutM_nil]; rfl
  | b, j + 1, pos, cnt, c :: r => by
    have ih := cutM_shift d b j (pos + 1) cnt r
    have e1 : ∀ p, cutM b (j + 1) p cnt (c :: r) = cutM b j (p + 1) cnt r := fun p => by cases b <;> rfl
    rw [e1, e1, ← ih]; congr 1; omega
  | true, 0, pos, cnt, c :: r => by
    have ih := cutM_shift d (notEol c) 0 (pos + 1) cnt r
    show cutM (notEol c) 0 (pos + d + 1) cnt r = (cutM (notEol c) 0 (pos + 1) cnt r).shift d
    rw [← ih]; congr 1; omega
  | false, 0, pos, cnt, c :: r => by
    have hp : pos + d + 1 = pos + 1 + d := by omega
    rw [cutM, cutM]
    split
    · rw [hp]; exact cutM_shift d false 0 (pos + 1) cnt r
    split
    · rw [hp]; exact cutM_shift d true 0 (pos + 1) cnt r
    dsimp only
    split
    · rename_i h
      unfold CutRes.shift
      simp only [h, if_false, List.map_nil, CutRes.mk.injEq, true_and, and_true]
      omega
    · rw [cons_shift, hp, cutM_shift d false _ (pos + 1) (cnt + 1) r]
      simp

theorem tokenL_cnt (l : Bytes) (a b : Nat) (ha : a ≠ 8192) (hb : b ≠ 8192) : tokenL l a = tokenL l b := by
  cases l with
  | nil => rfl
  | cons c r => rw [tokenL_def, tokenL_def, if_neg ha, if_neg hb]

theorem cutM_cnt : ∀ (b : Bool) (j pos x y : Nat) (l : Bytes), x + l.length ≤ 8192 → y + l.length ≤ 8192 → cutM b j pos x l = cutM b j pos y l
  | b, j, pos, x, y, [], _, _ => by rw [cutM_nil, cutM_nil]
  | b, j + 1, pos, x, y, c :: r, hx, hy => by
    simp only [List.length_cons] at hx hy
    have ih := cutM_cnt b j (pos + 1) x y r (by omega) (by omega)
    cases b <;> exact ih
  | true, 0, pos, x, y, c :: r, hx, hy => by
    simp only [List.length_cons] at hx hy
    exact cutM_cnt (notEol c) 0 (pos + 1) x y r (by omega) (by omega)
  | false, 0, pos, x, y, c :: r, hx, hy => by
    simp only [List.length_cons] at hx hy
    rw [cutM, cutM, tokenL_cnt (c :: r) x y (by omega) (by omega)]
    split
    · exact cutM_cnt false 0 (pos + 1) x y r (by omega) (by omega)
    split
    · exact cutM_cnt true 0 (pos + 1) x y r (by omega) (by omega)
    dsimp only
    split
    · rfl
    · rw [cutM_cnt false _ (pos + 1) (x + 1) (y + 1) r (by omega) (by omega)]

/-! ### What stands ahead of an error -/
theorem cutM_before : ∀ (b : Bool) (j pos cnt : Nat) (l : Bytes), (cutM b j pos cnt l).err ≠ 0 →
    ∃ q, (cutM b j pos cnt l).pos = pos + q ∧ j ≤ q ∧ q < l.length ∧ (cutM b j pos cnt (l.take q)).err = 0
  | b, j, pos, cnt, [], h => by rw [cutM_nil] at h; exact absurd rfl h
  | b, j + 1, pos, cnt, c :: r, h => by
    have e1 : ∀ l, cutM b (j + 1) pos cnt (c :: l) = cutM b j (pos + 1) cnt l := fun l => by cases b <;> rfl
    rw [e1] at h
    obtain ⟨q, h1, h2, h3, h4⟩ := cutM_before b j (pos + 1) cnt r h
    exact ⟨q + 1, by rw [e1, h1]; omega, by omega, by simpa using h3, by rw [List.take_succ_cons, e1]; exact h4⟩
  | true, 0, pos, cnt, c :: r, h => by
    obtain ⟨q, h1, h2, h3, h4⟩ := cutM_before (notEol c) 0 (pos + 1) cnt r h
    exact ⟨q + 1, by show (cutM (notEol c) 0 (pos + 1) cnt r).pos = _; rw [h1]; omega, by omega, by simpa using h3, by rw [List.take_succ_cons]; exact h4⟩
  | false, 0, pos, cnt, c :: r, h => by
    by_cases hb : isBlank c = true
    · have e1 : ∀ l, cutM false 0 pos cnt (c :: l) = cutM false 0 (pos + 1) cnt l := fun l => by rw [cutM, if_pos hb]
      rw [e1] at h
      obtain ⟨q, h1, h2, h3, h4⟩ := cutM_before false 0 (pos + 1) cnt r h
      exact ⟨q + 1, by rw [e1, h1]; omega, by omega, by simpa using h3, by rw [List.take_succ_cons, e1]; exact h4⟩
    by_cases h35 : c = 35
    · have e1 : ∀ l, cutM false 0 pos cnt (c :: l) = cutM true 0 (pos + 1) cnt l := fun l => by rw [cutM, if_neg hb, if_pos h35]
      rw [e1] at h
      obtain ⟨q, h1, h2, h3, h4⟩ := cutM_before true 0 (pos + 1) cnt r h
      exact ⟨q + 1, by rw [e1, h1]; omega, by omega, by simpa using h3, by rw [List.take_succ_cons, e1]; exact h4⟩
    have e1 : ∀ l, cutM false 0 pos cnt (c :: l) = if (tokenL (c :: l) cnt).2.2 ≠ 0 then ⟨[], pos + (tokenL (c :: l) cnt).2.1, (tokenL (c :: l) cnt).2.2⟩
        else .cons { (tokenL (c :: l) cnt).1 with pos := pos } (cutM false ((tokenL (c :: l) cnt).2.1 - 1) (pos + 1) (cnt + 1) l) := fun l => by rw [cutM, if_neg hb, if_neg h35]
    by_cases he : (tokenL (c :: r) cnt).2.2 ≠ 0
    · rw [e1, if_pos he]
      by_cases h0 : (tokenL (c :: r) cnt).2.1 = 0
      · exact ⟨0, by rw [h0], Nat.le_refl _, by simp, by rw [List.take_zero, cutM_nil]⟩
      · -- a number with a letter behind it
        rw [tokenL_def] at he h0
        have hx : ¬(signK c = 0 ∧ isLetter c = false ∧ isDigit c = false) ∧ cnt ≠ 8192 ∧ signK c = 0 ∧ isDigit c = true := by
          split at he
          · rename_i a; rw [if_pos a] at h0; exact absurd rfl h0
          rename_i a1
          rw [if_neg a1] at h0
          split at he
          · rename_i a; rw [if_pos a] at h0; exact absurd rfl h0
          rename_i a2
          rw [if_neg a2] at h0
          split at he
          · rename_i a; exact absurd rfl he
          rename_i a3
          rw [if_neg a3] at h0
          split at he
          · rename_i a4; exact ⟨a1, a2, by simpa using a3, a4⟩
          rename_i a4
          rw [if_neg a4] at h0
          split at he
          · rename_i a; rw [if_pos a] at h0; exact absurd rfl h0
          · exact absurd rfl he
        obtain ⟨a1, a2, a3, a4⟩ := hx
        have htd : ∀ l, tokenL (c :: l) cnt = (⟨2, 0, (numberL (c :: l)).1, []⟩, (numberL (c :: l)).2.1, (numberL (c :: l)).2.2) := fun l => by
          rw [tokenL_def, if_neg a1, if_neg a2, if_neg (by simp [a3]), if_pos a4]
        rw [← tokenL_def, htd] at he h0
        dsimp only at he h0
        obtain ⟨m, hm⟩ : ∃ m, m = runL isDigit (c :: r) := ⟨_, rfl⟩
        have hnum : m ≤ 9 ∧ ¬((c :: r).head? = some 48 ∧ m > 1) ∧ ((c :: r)[m]?).any isInner = true ∧ (numberL (c :: r)).2.1 = m := by
          unfold numberL at h0 he ⊢
          rw [← hm] at h0 he ⊢
          dsimp only at h0 he ⊢
          split at h0
          · exact absurd rfl h0
          rename_i b1
          rw [if_neg b1] at he
          split at h0
          · exact absurd rfl h0
          rename_i b2
          rw [if_neg b2] at he
          split at he
          · rename_i b3
            exact ⟨by omega, b2, b3, by rw [if_neg b1, if_neg b2, if_pos b3]⟩
          · exact absurd rfl he
        obtain ⟨b1, b2, b3, b4⟩ := hnum
        have hml : m < (c :: r).length := by
          rcases Nat.lt_or_ge m (c :: r).length with h | h
          · exact h
          · rw [List.getElem?_eq_none h] at b3; cases b3
        have hm0 : 0 < m := by rw [hm]; exact runL_head _ _ _ a4
        have hrt : runL isDigit ((c :: r).take m) = m := by rw [runL_take _ _ _ (by omega), ← hm]
        obtain ⟨m', rfl⟩ : ∃ m', m = m' + 1 := ⟨m - 1, by omega⟩
        have hnt : (numberL ((c :: r).take (m' + 1))).2 = (m' + 1, 0) := by
          unfold numberL
          rw [hrt]
          dsimp only
          rw [if_neg (by omega), if_neg ?_, if_neg ?_]
          · rw [List.getElem?_eq_none (by rw [List.length_take]; omega)]; simp
          · rw [List.take_succ_cons]; exact b2
        refine ⟨m' + 1, by rw [htd]; dsimp only; rw [b4], by omega, hml, ?_⟩
        rw [List.take_succ_cons, e1, htd, ← List.take_succ_cons]
        dsimp only
        rw [hnt]
        dsimp only
        rw [if_neg (by simp), cutM_all false _ _ _ _ (by rw [List.length_take]; omega)]
        rfl
    · have hl := tokenL_len (c :: r) cnt (by simp)
      rw [e1, if_neg he] at h ⊢
      have he0 : (tokenL (c :: r) cnt).2.2 = 0 := by simpa using he
      have hw := hl.2.1 he0
      have hr : (cutM false ((tokenL (c :: r) cnt).2.1 - 1) (pos + 1) (cnt + 1) r).err ≠ 0 := by
        unfold CutRes.cons at h
        split at h
        · exact absurd rfl h
        · exact h
      obtain ⟨q, h1, h2, h3, h4⟩ := cutM_before false ((tokenL (c :: r) cnt).2.1 - 1) (pos + 1) (cnt + 1) r hr
      have htk := tokenL_take (c :: r) cnt (q + 1) (by simp) he0 (by omega)
      rw [List.take_succ_cons] at htk
      refine ⟨q + 1, ?_, by omega, by simpa using h3, ?_⟩
      · unfold CutRes.cons; rw [if_neg hr, h1]; omega
      · rw [List.take_succ_cons, e1, htk, if_neg he]
        unfold CutRes.cons
        rw [h4]; rfl

/-! ### A text cut at a token: whatever stands there then -/
theorem pre_pre (a b : List Tok) (r : CutRes) : (r.pre b).pre a = r.pre (a ++ b) := by
  unfold CutRes.pre
  by_cases h : r.err = 0 <;> simp [h]

theorem cons_eq_pre (t : Tok) (r : CutRes) : CutRes.cons t r = if r.err = 0 then r.pre [t] else r := by
  unfold CutRes.cons CutRes.pre
  by_cases h : r.err = 0 <;> simp [h]

theorem cons_pre (t : Tok) (a : List Tok) (r : CutRes) : CutRes.cons t (r.pre a) = r.pre (t :: a) := by
  unfold CutRes.cons CutRes.pre
  by_cases h : r.err = 0 <;> simp [h]

theorem cutM_split : ∀ (b : Bool) (j pos cnt : Nat) (l : Bytes) (i : Nat) (t : Tok), (cutM b j pos cnt l).err = 0 → (cutM b j pos cnt l).toks[i]? = some t →
    ∃ q : Nat, t.pos = ((pos + q : Nat) : Int) ∧ j ≤ q ∧ q ≤ l.length ∧
      ∀ v, v = l.drop q ∨ stops v → cutM b j pos cnt (l.take q ++ v) = (cutM false 0 (pos + q) (cnt + i) v).pre ((cutM b j pos cnt l).toks.take i)
  | b, j, pos, cnt, [], i, t, _, h => by rw [cutM_nil] at h; simp at h
  | b, j + 1, pos, cnt, c :: r, i, t, he, h => by
    have e1 : ∀ l, cutM b (j + 1) pos cnt (c :: l) = cutM b j (pos + 1) cnt l := fun l => by cases b <;> rfl
    rw [e1] at h he
    obtain ⟨q, h1, h2, h3, h4⟩ := cutM_split b j (pos + 1) cnt r i t he h
    refine ⟨q + 1, by rw [h1]; omega, by omega, by simpa using h3, fun v hv => ?_⟩
    rw [List.take_succ_cons, List.cons_append, e1, e1, h4 v (by simpa using hv)]
    have : pos + 1 + q = pos + (q + 1) := by omega
    rw [this]
  | true, 0, pos, cnt, c :: r, i, t, he, h => by
    have e1 : ∀ l, cutM true 0 pos cnt (c :: l) = cutM (notEol c) 0 (pos + 1) cnt l := fun l => rfl
    rw [e1] at h he
    obtain ⟨q, h1, h2, h3, h4⟩ := cutM_split (notEol c) 0 (pos + 1) cnt r i t he h
    refine ⟨q + 1, by rw [h1]; omega, by omega, by simpa using h3, fun v hv => ?_⟩
    rw [List.take_succ_cons, List.cons_append, e1, e1, h4 v (by simpa using hv)]
    have : pos + 1 + q = pos + (q + 1) := by omega
    rw [this]
  | false, 0, pos, cnt, c :: r, i, t, he, h => by
    by_cases hb : isBlank c = true
    · have e1 : ∀ l, cutM false 0 pos cnt (c :: l) = cutM false 0 (pos + 1) cnt l := fun l => by rw [cutM, if_pos hb]
      rw [e1] at h he
      obtain ⟨q, h1, h2, h3, h4⟩ := cutM_split false 0 (pos + 1) cnt r i t he h
      refine ⟨q + 1, by rw [h1]; omega, by omega, by simpa using h3, fun v hv => ?_⟩
      rw [List.take_succ_cons, List.cons_append, e1, e1, h4 v (by simpa using hv)]
      have : pos + 1 + q = pos + (q + 1) := by omega
      rw [this]
    by_cases h35 : c = 35
    · have e1 : ∀ l, cutM false 0 pos cnt (c :: l) = cutM true 0 (pos + 1) cnt l := fun l => by rw [cutM, if_neg hb, if_pos h35]
      rw [e1] at h he
      obtain ⟨q, h1, h2, h3, h4⟩ := cutM_split true 0 (pos + 1) cnt r i t he h
      refine ⟨q + 1, by rw [h1]; omega, by omega, by simpa using h3, fun v hv => ?_⟩
      rw [List.take_succ_cons, List.cons_append, e1, e1, h4 v (by simpa using hv)]
      have : pos + 1 + q = pos + (q + 1) := by omega
      rw [this]
    have e1 : ∀ l, cutM false 0 pos cnt (c :: l) = if (tokenL (c :: l) cnt).2.2 ≠ 0 then ⟨[], pos + (tokenL (c :: l) cnt).2.1, (tokenL (c :: l) cnt).2.2⟩
        else .cons { (tokenL (c :: l) cnt).1 with pos := pos } (cutM false ((tokenL (c :: l) cnt).2.1 - 1) (pos + 1) (cnt + 1) l) := fun l => by rw [cutM, if_neg hb, if_neg h35]
    rw [e1] at h he
    by_cases ht : (tokenL (c :: r) cnt).2.2 ≠ 0
    · rw [if_pos ht] at he; exact absurd he ht
    rw [if_neg ht] at h he
    have ht0 : (tokenL (c :: r) cnt).2.2 = 0 := by simpa using ht
    have hw := (tokenL_len (c :: r) cnt (by simp)).2.1 ht0
    have hr : (cutM false ((tokenL (c :: r) cnt).2.1 - 1) (pos + 1) (cnt + 1) r).err = 0 := by
      unfold CutRes.cons at he
      split at he
      · assumption
      · exact he
    have hc : CutRes.cons { (tokenL (c :: r) cnt).1 with pos := (pos : Int) } (cutM false ((tokenL (c :: r) cnt).2.1 - 1) (pos + 1) (cnt + 1) r) = ⟨{ (tokenL (c :: r) cnt).1 with pos := (pos : Int) } :: (cutM false ((tokenL (c :: r) cnt).2.1 - 1) (pos + 1) (cnt + 1) r).toks, 0, 0⟩ := by
      unfold CutRes.cons; rw [if_pos hr]
    rw [hc] at h
    cases i with
    | zero =>
      simp only [List.getElem?_cons_zero, Option.some.injEq] at h
      refine ⟨0, by rw [← h]; rfl, Nat.le_refl _, Nat.zero_le _, fun v _ => ?_⟩
      rw [List.take_zero, List.take_zero, List.nil_append, cutM_pre_nil]; rfl
    | succ i =>
      simp only [List.getElem?_cons_succ] at h
      obtain ⟨q, h1, h2, h3, h4⟩ := cutM_split false ((tokenL (c :: r) cnt).2.1 - 1) (pos + 1) (cnt + 1) r i t hr h
      refine ⟨q + 1, by rw [h1]; omega, by omega, by simpa using h3, fun v hv => ?_⟩
      have htv : tokenL (c :: (r.take q ++ v)) cnt = tokenL (c :: r) cnt := by
        rcases hv with rfl | hv
        · rw [List.drop_succ_cons, List.take_append_drop]
        · have s1 := tokenL_stop (c :: r.take q) v cnt (by simp) hv
          have s2 := tokenL_take (c :: r) cnt (q + 1) (by simp) ht0 (by omega)
          rw [List.take_succ_cons] at s2
          rw [← s2, ← s1]; rfl
      rw [List.take_succ_cons, List.cons_append, e1, e1, htv, if_neg ht, if_neg ht, hc, h4 v (by simpa using hv), cons_pre, List.take_succ_cons]
      have a1 : pos + 1 + q = pos + (q + 1) := by omega
      have a2 : cnt + 1 + i = cnt + (i + 1) := by omega
      rw [a1, a2]

/-! ### Names -/
theorem cutM_names : ∀ (b : Bool) (j pos cnt : Nat) (l : Bytes), ∀ t ∈ (cutM b j pos cnt l).toks, t.kind = 1 → nameL t.s = true
  | b, j, pos, cnt, [], t, h, _ => by rw [cutM_nil] at h; simp at h
  | b, j + 1, pos, cnt, c :: r, t, h, hk => by
    have e1 : cutM b (j + 1) pos cnt (c :: r) = cutM b j (pos + 1) cnt r := by cases b <;> rfl
    rw [e1] at h
    exact cutM_names b j (pos + 1) cnt r t h hk
  | true, 0, pos, cnt, c :: r, t, h, hk => cutM_names (notEol c) 0 (pos + 1) cnt r t h hk
  | false, 0, pos, cnt, c :: r, t, h, hk => by
    rw [cutM] at h
    split at h
    · exact cutM_names false 0 (pos + 1) cnt r t h hk
    split at h
    · exact cutM_names true 0 (pos + 1) cnt r t h hk
    dsimp only at h
    split at h
    · simp at h
    · rename_i he
      unfold CutRes.cons at h
      split at h
      · simp only [List.mem_cons] at h
        rcases h with rfl | h
        · simp only at hk ⊢
          rw [tokenL_def] at hk he ⊢
          split at hk
          · simp at hk
          rename_i a1
          rw [if_neg a1] at he ⊢
          split at hk
          · simp at hk
          rename_i a2
          rw [if_neg a2] at he ⊢
          split at hk
          · simp only at hk; unfold signK at hk; repeat' split at hk
            all_goals simp at hk
          rename_i a3
          rw [if_neg a3] at he ⊢
          split at hk
          · simp at hk
          rename_i a4
          rw [if_neg a4] at he ⊢
          split at hk
          · simp at hk
          rename_i a5
          rw [if_neg a5]
          have hl : isLetter c = true := by
            cases hl : isLetter c
            · exact absurd ⟨by simpa using a3, hl, by simpa using a4⟩ a1
            · rfl
          have hin : isInner c = true := by simp [isInner, hl]
          have hall := runL_all isInner (c :: r)
          have hlen : ((c :: r).take (runL isInner (c :: r))).length ≤ 16 := by rw [List.length_take]; omega
          obtain ⟨m, hm⟩ : ∃ m, runL isInner (c :: r) = m + 1 := ⟨runL isInner (c :: r) - 1, by have := runL_head isInner c r hin; omega⟩
          rw [hm] at hall hlen ⊢
          rw [List.take_succ_cons] at hall hlen ⊢
          simp only [nameL, Bool.and_eq_true, decide_eq_true_eq]
          exact ⟨⟨hlen, hl⟩, hall⟩
        · exact cutM_names false _ (pos + 1) (cnt + 1) r t h hk
      · exact cutM_names false _ (pos + 1) (cnt + 1) r t h hk

theorem runL_whole (p : UInt8 → Bool) : ∀ l : Bytes, l.all p = true → runL p l = l.length
  | [], _ => rfl
  | c :: r, h => by
    simp only [List.all_cons, Bool.and_eq_true] at h
    rw [runL_cons, if_pos h.1, runL_whole p r h.2]; rfl

theorem letter_sign (c : UInt8) (h : isLetter c = true) : signK c = 0 := by
  by_cases hk : signK c = 0
  · exact hk
  · have := (sign_other c hk).1; rw [h] at this; cases this

theorem letter_blank (c : UInt8) (h : isLetter c = true) : isBlank c = false ∧ c ≠ 35 := by
  have h1 := (isLetter_iff c).1 h
  constructor
  · cases hb : isBlank c
    · rfl
    · have := (blank_iff c).1 hb; omega
  · intro hc; have := (hash_iff c).1 hc; omega

/-- A text is a name just if it is one token, a name, and nothing else. -/
theorem names_law (l : Bytes) (hl : l.length ≤ 65536) : nameL l = decide ((cutL l).err = 0 ∧ (cutL l).toks = [⟨1, 0, 0, l⟩]) := by
  unfold cutL
  rw [if_neg (by omega)]
  rw [Bool.eq_iff_iff, decide_eq_true_eq]
  constructor
  · intro hn
    cases l with
    | nil => cases hn
    | cons c r =>
      simp only [nameL, Bool.and_eq_true, decide_eq_true_eq] at hn
      obtain ⟨⟨h16, hlt⟩, hall⟩ := hn
      have hr := runL_whole isInner (c :: r) hall
      have hb := letter_blank c hlt
      have htd : tokenL (c :: r) 0 = (⟨1, 0, 0, c :: r⟩, (c :: r).length, 0) := by
        rw [tokenL_def, if_neg (by simp [hlt]), if_neg (by decide), if_neg (by simp [letter_sign c hlt]), if_neg (by simp [letter_digit c hlt]), hr, if_neg (by omega), List.take_length]
      rw [cutM, if_neg (by simp [hb.1]), if_neg hb.2, htd]
      dsimp only
      rw [if_neg (by simp), cutM_all false _ _ _ _ (by simp)]
      exact ⟨rfl, rfl⟩
  · rintro ⟨_, h⟩
    exact cutM_names false 0 0 0 l ⟨1, 0, 0, l⟩ (by rw [h]; simp) rfl

end Go.Proofs.YtjbniichcopnlaaGreatDoor
end

section
/- Layer 9 (tree), in plain Lean: items, and how tokens are read as items. No program in sight. -/
namespace Go.Proofs.YtjbniichcopnlaaGreatDoor

structure WordL where
  num : Bool
  n : Int
  s : Bytes
  pos : Int
  deriving DecidableEq, Repr

inductive NodeL where
  | mk (name : Bytes) (pos : Int) (words : List WordL) (block : Bool) (kids : List NodeL)

def NodeL.name : NodeL → Bytes | .mk n _ _ _ _ => n
def NodeL.pos : NodeL → Int | .mk _ p _ _ _ => p
def NodeL.words : NodeL → List WordL | .mk _ _ w _ _ => w
def NodeL.block : NodeL → Bool | .mk _ _ _ b _ => b
def NodeL.kids : NodeL → List NodeL | .mk _ _ _ _ k => k

/-- A block that is open: its name, place, words, and what stands in it so far. -/
structure FrameL where
  name : Bytes
  pos : Int
  words : List WordL
  kids : List NodeL
/-- An item that is read. -/
structure ItemL where
  name : Bytes
  pos : Int
  words : List WordL

def FrameL.add (f : FrameL) (n : NodeL) : FrameL := { f with kids := f.kids ++ [n] }
def FrameL.node (f : FrameL) : NodeL := .mk f.name f.pos f.words true f.kids
def ItemL.node (i : ItemL) : NodeL := .mk i.name i.pos i.words false []

inductive StepR where
  | bad (e : Int)
  | fine (fs : List FrameL) (it : Option ItemL)

/-- A token where an item begins, or a block ends. -/
def beginT (fs : List FrameL) (t : Tok) : StepR :=
  if t.kind = 1 then .fine fs (some ⟨t.s, t.pos, []⟩)
  else if t.kind = 4 then (match fs with | f :: g :: r => .fine (g.add f.node :: r) none | _ => .bad 5)
  else .bad 5

/-- A token within an item. -/
def goT (fs : List FrameL) (i : ItemL) (t : Tok) : StepR :=
  if t.kind = 1 ∨ t.kind = 2 then (if i.words.length = 8 then .bad 6 else .fine fs (some { i with words := i.words ++ [⟨decide (t.kind = 2), t.n, t.s, t.pos⟩] }))
  else if t.kind = 5 then (match fs with | f :: r => .fine (f.add i.node :: r) none | [] => .bad 5)
  else if t.kind = 3 then (if fs.length = 7 then .bad 7 else .fine (⟨i.name, i.pos, i.words, []⟩ :: fs) none)
  else .bad 5

def stepT (fs : List FrameL) (it : Option ItemL) (t : Tok) : StepR :=
  match it with
  | none => beginT fs t
  | some i => goT fs i t

structure ParseRes where
  nodes : List NodeL
  pos : Int
  err : Int

def endT (E : Int) : List FrameL → Option ItemL → ParseRes
  | [f], none => ⟨f.kids, 0, 0⟩
  | _, _ => ⟨[], E, 5⟩

def parseT (E : Int) : List FrameL → Option ItemL → List Tok → ParseRes
  | fs, it, [] => endT E fs it
  | fs, it, t :: ts =>
    match stepT fs it t with
    | .bad e => ⟨[], t.pos, e⟩
    | .fine fs' it' => parseT E fs' it' ts

def rootF : FrameL := ⟨[], 0, [], []⟩
def treeL (s : Bytes) : ParseRes :=
  if (cutL s).err ≠ 0 then ⟨[], (cutL s).pos, (cutL s).err⟩ else parseT s.length [rootF] none (cutL s).toks

/-! ### What may be; how deep; the same; few -/
def wordOk (w : WordL) : Bool := if w.num then decide (w.s = []) && decide (0 ≤ w.n) && decide (w.n ≤ 999999999) else decide (w.n = 0) && nameL w.s

mutual
def checkN (d : Nat) : NodeL → Int
  | .mk nm _ ws b ks => if (!ws.all wordOk || !nameL nm || decide (8 < ws.length) || (!b && decide (0 < ks.length))) = true then 1 else if b = true ∧ d = 6 then 7 else checkL (d + 1) ks
def checkL (d : Nat) : List NodeL → Int
  | [] => 0
  | n :: r => if checkN d n ≠ 0 then checkN d n else checkL d r
end

mutual
def deepN : NodeL → Nat
  | .mk _ _ _ b ks => deepL ks + (if b then 1 else 0)
def deepL : List NodeL → Nat
  | [] => 0
  | n :: r => max (deepN n) (deepL r)
end

def sameW (v w : WordL) : Bool := (v.num == w.num) && decide (v.n = w.n) && decide (v.s = w.s)
def sameWs : List WordL → List WordL → Bool
  | [], [] => true
  | v :: l, w :: m => sameW v w && sameWs l m
  | _, _ => false

mutual
def sameN : NodeL → NodeL → Bool
  | .mk n1 _ w1 b1 k1, .mk n2 _ w2 b2 k2 => sameWs w1 w2 && decide (n1 = n2) && (b1 == b2) && sameNs k1 k2
def sameNs : List NodeL → List NodeL → Bool
  | [], [] => true
  | x :: l, y :: m => sameN x y && sameNs l m
  | _, _ => false
end

mutual
def leftN (most : Int) (deep : Int) : NodeL → Int
  | .mk _ _ ws _ ks => if most < 0 ∨ 20 < ws.length then -1 else leftL (most - 1) (deep - 1) ks
def leftL (most : Int) (deep : Int) : List NodeL → Int
  | [] => most
  | n :: r => if deep = 0 then -1 else leftGo most deep (n :: r)
def leftGo (most : Int) (deep : Int) : List NodeL → Int
  | [] => most
  | n :: r => leftGo (leftN most deep n) deep r
end

end Go.Proofs.YtjbniichcopnlaaGreatDoor
end

section
/- Layer 11 (field), in plain Lean: calendars, what may be, and how a block is read. No program in sight. -/
namespace Go.Proofs.YtjbniichcopnlaaGreatDoor

structure CalL where
  name : Bytes
  kind : Int
  day : Int
  month : Int
  shift : Int
  shape : Int
  p0 : Int
  p1 : Int
  p2 : Int
  cycle : Int
  extra : Int
  first : Int
  last : Int
  policy : Int
  deriving DecidableEq
def calZ : CalL := ⟨[], 0, 0, 0, 0, 0, 0, 0, 0, 0, 0, 0, 0, 0⟩

def days : List Bytes := [[109, 111, 110], [116, 117, 101], [119, 101, 100], [116, 104, 117], [102, 114, 105], [115, 97, 116], [115, 117, 110]]
def mons : List Bytes := [[106, 97, 110], [102, 101, 98], [109, 97, 114], [97, 112, 114], [109, 97, 121], [106, 117, 110], [106, 117, 108], [97, 117, 103], [115, 101, 112], [111, 99, 116], [110, 111, 118], [100, 101, 99]]
def endsL : List Bytes := [[108, 97, 115, 116], [110, 101, 97, 114], [110, 114, 102], [98, 114, 111, 97, 100, 99, 97, 115, 116], [105, 115, 111], [109, 111, 110, 116, 104]]
def pols : List Bytes := [[115, 116, 97, 114, 116], [115, 104, 105, 102, 116], [100, 114, 111, 112], [99, 108, 97, 109, 112]]
def shifts : List Bytes := [[108, 97, 115, 116], [102, 105, 114, 115, 116]]
def keysL : List Bytes := [[101, 110, 100], [112, 101, 114, 105, 111, 100, 115], [110, 97, 109, 101, 100], [112, 97, 121], [101, 120, 116, 114, 97], [115, 101, 114, 118, 101], [99, 111, 109, 112, 97, 114, 101]]
def b_end : Bytes := [101, 110, 100]
def b_periods : Bytes := [112, 101, 114, 105, 111, 100, 115]
def b_named : Bytes := [110, 97, 109, 101, 100]
def b_pay : Bytes := [112, 97, 121]
def b_extra : Bytes := [101, 120, 116, 114, 97]
def b_serve : Bytes := [115, 101, 114, 118, 101]
def b_compare : Bytes := [99, 111, 109, 112, 97, 114, 101]
def b_calendar : Bytes := [99, 97, 108, 101, 110, 100, 97, 114]

/-- Where a word stands among names, from 1 on; 0: nowhere. -/
def posL : List Bytes → Bytes → Int
  | [], _ => 0
  | a :: r, s => if a = s then 1 else if posL r s = 0 then 0 else posL r s + 1
def placeW (l : List Bytes) (w : WordL) : Int := if w.num then 0 else posL l w.s

def tween (n a b : Int) : Bool := decide (a ≤ n) && decide (n ≤ b)
def manyC (shape cycle : Int) : Int := if shape = 2 then 13 else if shape = 3 ∧ 0 < cycle then 52 / cycle else if 1 ≤ shape ∧ shape ≤ 5 then 12 else 0
def patOk (a b c : Int) : Bool := (decide (a = 4) && decide (b = 4) && decide (c = 5)) || (decide (a = 4) && decide (b = 5) && decide (c = 4)) || (decide (a = 5) && decide (b = 4) && decide (c = 4))
def patZ (c : CalL) : Bool := decide (c.p0 = 0) && decide (c.p1 = 0) && decide (c.p2 = 0)
def cycOk (n : Int) : Bool := decide (n = 1) || decide (n = 2) || decide (n = 4)
/-- Whether a shape of weeks may be. -/
def weeksC (c : CalL) : Bool :=
  if c.shape = 1 then patOk c.p0 c.p1 c.p2 && decide (c.cycle = 0) && tween c.extra 1 (manyC c.shape c.cycle)
  else if c.shape = 2 then patZ c && decide (c.cycle = 0) && tween c.extra 1 (manyC c.shape c.cycle)
  else if c.shape = 3 then patZ c && cycOk c.cycle && tween c.extra 1 (manyC c.shape c.cycle)
  else false
def nrfC : CalL := ⟨[], 3, 6, 1, 1, 1, 4, 5, 4, 0, 12, 0, 0, 0⟩
def broadC : CalL := ⟨[], 4, 7, 12, 0, 4, 0, 0, 0, 0, 12, 0, 0, 0⟩
def fixedC (kind : Int) : Option CalL := if kind = 3 then some nrfC else if kind = 4 then some broadC else none
/-- Whether the rule, and the shape, may be. -/
def ruledC (c : CalL) : Bool :=
  match fixedC c.kind with
  | some f => decide (c = { f with name := c.name, first := c.first, last := c.last, policy := c.policy })
  | none =>
    if !tween c.month 1 12 || !tween c.shift 0 1 then false
    else if c.kind = 1 ∨ c.kind = 2 then tween c.day 1 7 && weeksC c
    else if c.kind = 5 then decide (c.day = 7) && decide (c.month = 12) && decide (c.shift = 0) && weeksC c
    else if c.kind = 6 then decide (c.day = 0) && decide (c.shape = 5) && patZ c && decide (c.cycle = 0) && decide (c.extra = 0)
    else false
def servedC (c : CalL) : Bool := decide (1602 ≤ c.first) && decide (c.last ≤ 9996) && decide (c.first ≤ c.last) && decide (c.last - c.first < 400)
def policyC (c : CalL) : Bool := tween c.policy 1 4 && (decide (c.policy = 4) == decide (c.kind = 6))
/-- Whether a calendar may be. -/
def okC (c : CalL) : Bool := servedC c && policyC c && nameL c.name && ruledC c
def periodsC (c : CalL) : Int := if okC c then manyC c.shape c.cycle else 0
def errC (c : CalL) : Int := if okC c then 0 else 1

/-! ### A block read -/
/-- What an end's words say; whether they may be. -/
def endK (nm : Bytes) (w : List WordL) : CalL × Bool :=
  let k := placeW endsL (w.headD ⟨false, 0, [], 0⟩)
  match fixedC k with
  | some f => ({ f with name := nm }, decide (w.length = 1))
  | none =>
    if k = 5 then ({ calZ with name := nm, kind := k, day := 7, month := 12 }, decide (w.length = 1))
    else if k = 6 ∧ w.length = 2 then
      let m := placeW mons (w.getD 1 ⟨false, 0, [], 0⟩)
      ({ calZ with name := nm, kind := k, shape := 5, month := m }, decide (0 < m))
    else if 0 < k ∧ k < 3 ∧ w.length = 3 then
      let d := placeW days (w.getD 1 ⟨false, 0, [], 0⟩)
      let m := placeW mons (w.getD 2 ⟨false, 0, [], 0⟩)
      ({ calZ with name := nm, kind := k, day := d, month := m }, decide (0 < d) && decide (0 < m))
    else ({ calZ with name := nm, kind := k }, false)
/-- What another key's words say; whether they may be. -/
def keyK (key : Bytes) (c : CalL) (w : List WordL) : CalL × Bool :=
  let w0 := w.headD ⟨false, 0, [], 0⟩
  if key = b_periods then
    if w.all (·.num) then
      (if w.length = 1 then ({ c with shape := 2 }, decide (w0.n = 4))
       else if w.length = 3 then
         let b := (w.getD 1 ⟨false, 0, [], 0⟩).n
         let d := (w.getD 2 ⟨false, 0, [], 0⟩).n
         ({ c with shape := 1, p0 := w0.n, p1 := b, p2 := d }, patOk w0.n b d)
       else (c, false))
    else (c, false)
  else if key = b_named then
    let k := placeW shifts w0
    ({ c with shift := k - 1 }, decide (0 < k) && decide (w.length = 1))
  else if key = b_pay then ({ c with shape := 3, cycle := w0.n }, decide (w.length = 1) && w0.num && cycOk w0.n)
  else if key = b_extra then ({ c with extra := w0.n }, decide (w.length = 1) && w0.num && tween w0.n 1 52)
  else if key = b_serve then
    (if w.all (·.num) ∧ w.length = 2 then ({ c with first := w0.n, last := (w.getD 1 ⟨false, 0, [], 0⟩).n }, true) else (c, false))
  else
    let p := placeW pols w0
    ({ c with policy := p }, decide (0 < p) && decide (w.length = 1))
def putK (key : Bytes) (c : CalL) (w : List WordL) : CalL × Bool := if key = b_end then endK c.name w else keyK key c w

/-- Whether a key stands with an end. -/
def standsC (kind : Int) (key : Bytes) : Bool :=
  if key = b_named then decide (kind ≠ 3) && decide (kind ≠ 4) && decide (kind ≠ 5)
  else if key = b_periods ∨ key = b_pay ∨ key = b_extra then decide (kind ≠ 3) && decide (kind ≠ 4) && decide (kind ≠ 6)
  else true

structure CalR where
  cal : CalL
  at_ : Int
  err : Int
/-- Each item looked at by itself: the first that may not be; else what the end says, if there is one. -/
def formedL (nm : Bytes) : List Bytes → Option CalL → List NodeL → (Int × Int) ⊕ (Option CalL)
  | _, c, [] => .inr c
  | seen, c, k :: r =>
    if !keysL.contains k.name then .inl (k.pos, 8)
    else if seen.contains k.name then .inl (k.pos, 9)
    else if k.block || k.words.isEmpty || !(putK k.name { calZ with name := nm } k.words).2 then .inl (k.pos, 5)
    else formedL nm (seen ++ [k.name]) (if k.name = b_end then some (putK k.name { calZ with name := nm } k.words).1 else c) r
/-- The first key that does not stand with the end, or is the second shape. -/
def fitsL (kind : Int) : List Bytes → List NodeL → Option (Int × Int)
  | _, [] => none
  | seen, k :: r =>
    if !standsC kind k.name then some (k.pos, 8)
    else if (k.name = b_periods ∧ b_pay ∈ seen) ∨ (k.name = b_pay ∧ b_periods ∈ seen) then some (k.pos, 9)
    else fitsL kind (seen ++ [k.name]) r
def missL (kind : Int) (have_ : List Bytes) : Bool :=
  [b_named, b_periods, b_extra, b_serve, b_compare].any fun k => standsC kind k && !(have_.contains k || (decide (k = b_periods) && have_.contains b_pay))
def putAll (c : CalL) (l : List NodeL) : CalL := l.foldl (fun c k => if k.name = b_end then c else (keyK k.name c k.words).1) c
def readBlock (n : NodeL) : CalR :=
  let nm := (n.words.headD ⟨false, 0, [], 0⟩).s
  match formedL nm [] none n.kids with
  | .inl (p, e) => ⟨calZ, p, e⟩
  | .inr none => ⟨calZ, n.pos, 10⟩
  | .inr (some c) =>
    match fitsL c.kind [] n.kids with
    | some (p, e) => ⟨calZ, p, e⟩
    | none =>
      if missL c.kind (n.kids.map NodeL.name) then ⟨calZ, n.pos, 10⟩
      else if okC (putAll c n.kids) then ⟨putAll c n.kids, 0, 0⟩ else ⟨calZ, n.pos, 1⟩
def readC (n : NodeL) : CalR :=
  if checkL 0 [n] ≠ 0 then ⟨calZ, 0, 1⟩
  else if n.name ≠ b_calendar ∨ n.block = false ∨ n.words.length ≠ 1 ∨ (n.words.headD ⟨false, 0, [], 0⟩).num = true then ⟨calZ, n.pos, 5⟩
  else readBlock n

end Go.Proofs.YtjbniichcopnlaaGreatDoor
end

section
/- Layer 12 (conf), in plain Lean: calendars that may be, a text read as calendars, one looked up. No program in sight. -/
namespace Go.Proofs.YtjbniichcopnlaaGreatDoor

/-- Calendars that may be, behind those of the names seen. -/
def confGo : List Bytes → List CalL → Int
  | _, [] => 0
  | seen, c :: r => if errC c ≠ 0 then errC c else if seen.contains c.name then 9 else confGo (seen ++ [c.name]) r
def confC (l : List CalL) : Int := if 32 < l.length then 6 else confGo [] l

structure ConfR where
  cals : List CalL
  pos : Int
  err : Int
/-- Items read as calendars, behind those that were read. -/
def readGo : List CalL → List NodeL → ConfR
  | out, [] => ⟨out, 0, 0⟩
  | out, n :: r =>
    if out.length = 32 then ⟨[], n.pos, 6⟩
    else if (readC n).err ≠ 0 then ⟨[], (readC n).at_, (readC n).err⟩
    else if (out.map CalL.name).contains (readC n).cal.name then ⟨[], n.pos, 9⟩
    else readGo (out ++ [(readC n).cal]) r
def confRead (s : Bytes) : ConfR := if (treeL s).err ≠ 0 then ⟨[], (treeL s).pos, (treeL s).err⟩ else readGo [] (treeL s).nodes

def findGo (name : Bytes) : List CalL → CalL × Int
  | [] => (calZ, 13)
  | c :: r => if c.name = name then (c, 0) else findGo name r
def findC (l : List CalL) (name : Bytes) : CalL × Int := if confC l ≠ 0 then (calZ, confC l) else findGo name l

theorem readGo_done (out : List CalL) : readGo out [] = ⟨out, 0, 0⟩ := rfl
theorem readGo_long (out : List CalL) (n : NodeL) (r : List NodeL) (h : out.length = 32) : readGo out (n :: r) = ⟨[], n.pos, 6⟩ := by rw [readGo, if_pos h]
theorem readGo_bad (out : List CalL) (n : NodeL) (r : List NodeL) (h : out.length ≠ 32) (h1 : (readC n).err ≠ 0) : readGo out (n :: r) = ⟨[], (readC n).at_, (readC n).err⟩ := by rw [readGo, if_neg h, if_pos h1]
theorem readGo_twice (out : List CalL) (n : NodeL) (r : List NodeL) (h : out.length ≠ 32) (h1 : (readC n).err = 0) (h2 : (out.map CalL.name).contains (readC n).cal.name = true) : readGo out (n :: r) = ⟨[], n.pos, 9⟩ := by
  rw [readGo, if_neg h, if_neg (by simp [h1]), if_pos h2]
theorem readGo_on (out : List CalL) (n : NodeL) (r : List NodeL) (h : out.length ≠ 32) (h1 : (readC n).err = 0) (h2 : (out.map CalL.name).contains (readC n).cal.name = false) : readGo out (n :: r) = readGo (out ++ [(readC n).cal]) r := by
  rw [readGo, if_neg h, if_neg (by simp [h1]), if_neg (by rw [h2]; decide)]
end Go.Proofs.YtjbniichcopnlaaGreatDoor
end

section
/- Items without their places, in plain Lean. -/
namespace Go.Proofs.YtjbniichcopnlaaGreatDoor

/-! ### Items without their places -/
def zW (w : WordL) : WordL := { w with pos := 0 }
mutual
def zN : NodeL → NodeL
  | .mk nm _ ws b ks => .mk nm 0 (ws.map zW) b (zNs ks)
def zNs : List NodeL → List NodeL
  | [] => []
  | n :: r => zN n :: zNs r
end
theorem zNs_append : ∀ l m : List NodeL, zNs (l ++ m) = zNs l ++ zNs m
  | [], m => rfl
  | n :: r, m => by simp only [List.cons_append, zNs, zNs_append r m]
theorem zNs_len : ∀ l : List NodeL, (zNs l).length = l.length
  | [] => rfl
  | n :: r => by simp only [zNs, List.length_cons, zNs_len r]
theorem words_okz (ws : List WordL) : (ws.map zW).all wordOk = ws.all wordOk := by
  induction ws with
  | nil => rfl
  | cons w r ih =>
    simp only [List.map_cons, List.all_cons]
    rw [ih]; rfl
mutual
theorem check_zN : ∀ (n : NodeL) (d : Nat), checkN d (zN n) = checkN d n
  | .mk nm p ws b ks, d => by simp only [zN, checkN, words_okz ws, List.length_map, zNs_len, check_z ks (d + 1)]
theorem check_z : ∀ (l : List NodeL) (d : Nat), checkL d (zNs l) = checkL d l
  | [], _ => rfl
  | n :: r, d => by simp only [zNs, checkL, check_zN n d, check_z r d]
end

end Go.Proofs.YtjbniichcopnlaaGreatDoor
end
