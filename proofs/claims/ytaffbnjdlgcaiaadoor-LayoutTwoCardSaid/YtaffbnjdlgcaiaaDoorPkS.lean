import Derived.Test.YtaffbnjdlgcaiaaDoorLayC
import Derived.Test.YtaffbnjdlgcaiaaDoorLayD
import Derived.Test.YtaffbnjdlgcaiaaDoorTreeR1
import Derived.Test.YtaffbnjdlgcaiaaDoorAppend
import Derived.LoopTactic
section
/- Layer 10 (layout), plain laws: the lines of what is written; a text with two blanks more in each line. No program in sight. -/
namespace Go.Proofs.YtaffbnjdlgcaiaaDoor

/-! ### Bytes of a line -/
theorem inner_facts (c : UInt8) (h : isInner c = true) : c ≠ 10 ∧ c ≠ 32 ∧ c ≠ 9 ∧ c ≠ 35 ∧ c ≠ 123 ∧ c ≠ 125 ∧ c ≠ 59 := by
  refine ⟨?_, ?_, ?_, ?_, ?_, ?_, ?_⟩ <;> (rintro rfl; revert h; decide)
/-- No two blanks behind one another, no tab, no remark. -/
def clean : Bytes → Prop
  | [] => True
  | [c] => c ≠ 9 ∧ c ≠ 35
  | c :: d :: r => ¬(c = 32 ∧ d = 32) ∧ c ≠ 9 ∧ c ≠ 35 ∧ clean (d :: r)
theorem clean_inner (c : UInt8) (r : Bytes) (hc : isInner c = true) (h : clean r) : clean (c :: r) := by
  obtain ⟨h1, h2, h3, h4, _⟩ := inner_facts c hc
  cases r with
  | nil => exact ⟨h3, h4⟩
  | cons d r => exact ⟨fun h => h2 h.1, h3, h4, h⟩
theorem clean_all : ∀ (u r : Bytes), u.all isInner = true → clean r → clean (u ++ r)
  | [], r, _, h => h
  | c :: u, r, hu, h => by
    simp only [List.all_cons, Bool.and_eq_true] at hu
    exact clean_inner c (u ++ r) hu.1 (clean_all u r hu.2 h)
theorem clean_blank (c : UInt8) (r : Bytes) (hc : c ≠ 32) (h : clean (c :: r)) : clean (32 :: c :: r) := ⟨fun h => hc h.2, by decide, by decide, h⟩

theorem digit_inner (u : Bytes) (h : u.all isDigit = true) : u.all isInner = true := by
  rw [List.all_eq_true] at h ⊢
  exact fun c hc => inner_of_digit c (h c hc)
theorem wordB_inner (w : WordL) (h : wordOk w = true) : (wordB w).all isInner = true ∧ wordB w ≠ [] := by
  obtain ⟨h1, _⟩ := word_text w h
  obtain ⟨nu, n, s, p⟩ := w
  unfold wordOk at h
  cases nu
  · simp only [Bool.false_eq_true, if_false, Bool.and_eq_true, decide_eq_true_eq] at h
    have hn := h.2
    unfold nameL at hn
    cases s with
    | nil => simp at hn
    | cons c r =>
      simp only [Bool.and_eq_true] at hn
      exact ⟨by simpa [wordB] using hn.2, by simp [wordB]⟩
  · simp only [if_true, Bool.and_eq_true, decide_eq_true_eq] at h
    obtain ⟨⟨_, h2⟩, h3⟩ := h
    obtain ⟨u, rfl⟩ := Int.eq_ofNat_of_zero_le h2
    have hi : wordB ⟨true, (u : Int), s, p⟩ = Lib.decDigits u := by
      show Lib.itoa (u : Int) = _
      rw [Lib.itoa, if_neg (by omega), Int.toNat_natCast]
    rw [hi]
    exact ⟨digit_inner _ (dec_digits 8 u (by omega)).1, dec_ne u⟩

/-- What stands in a line behind its margin: it begins with no blank. -/
def bodyOk (u : Bytes) : Prop := clean u ∧ (∃ c r, u = c :: r ∧ c ≠ 32) ∧ ∀ c ∈ u, c ≠ 10
theorem tail_clean (e : Bytes) (he : clean e) (hne : ∀ c ∈ e, c ≠ 10) : ∀ ws : List WordL, ws.all wordOk = true → clean (Lib.joinTail [32] (ws.map wordB) ++ e) ∧ (∀ c ∈ Lib.joinTail [32] (ws.map wordB) ++ e, c ≠ 10)
  | [], _ => ⟨by simpa [Lib.joinTail] using he, by simpa [Lib.joinTail] using hne⟩
  | w :: ws, h => by
    simp only [List.all_cons, Bool.and_eq_true] at h
    obtain ⟨h1, h2⟩ := tail_clean e he hne ws h.2
    obtain ⟨h3, h4⟩ := wordB_inner w h.1
    have heq : Lib.joinTail [32] ((w :: ws).map wordB) ++ e = 32 :: (wordB w ++ (Lib.joinTail [32] (ws.map wordB) ++ e)) := by rw [List.map_cons, joinTail_cons]; simp
    rw [heq]
    have hall : ∀ c ∈ wordB w, c ≠ 10 := fun c hc => (inner_facts c (List.all_eq_true.1 h3 c hc)).1
    refine ⟨?_, ?_⟩
    · have hcl := clean_all (wordB w) _ h3 h1
      cases hw : wordB w with
      | nil => exact absurd hw h4
      | cons c r =>
        rw [hw] at hcl h3
        simp only [List.all_cons, Bool.and_eq_true] at h3
        exact clean_blank c _ (inner_facts c h3.1).2.1 hcl
    · intro c hc
      simp only [List.mem_cons, List.mem_append] at hc
      rcases hc with rfl | hc | hc | hc
      · decide
      · exact hall c hc
      · exact h2 c (by simp [hc])
      · exact h2 c (by simp [hc])
theorem name_parts (nm : Bytes) (h : nameL nm = true) : ∃ c r, nm = c :: r ∧ isInner c = true ∧ nm.all isInner = true := by
  unfold nameL at h
  cases nm with
  | nil => simp at h
  | cons c r =>
    simp only [Bool.and_eq_true] at h
    exact ⟨c, r, rfl, by have := h.2; simp only [List.all_cons, Bool.and_eq_true] at this; exact this.1, h.2⟩
theorem body_words (nm : Bytes) (ws : List WordL) (e : Bytes) (hn : nameL nm = true) (hw : ws.all wordOk = true) (he : clean e) (hne : ∀ c ∈ e, c ≠ 10) : bodyOk (Lib.join (nm :: ws.map wordB) [32] ++ e) := by
  obtain ⟨h1, h2⟩ := tail_clean e he hne ws hw
  obtain ⟨c, r, rfl, h3, h4⟩ := name_parts nm hn
  have heq : Lib.join ((c :: r) :: ws.map wordB) [32] ++ e = (c :: r) ++ (Lib.joinTail [32] (ws.map wordB) ++ e) := by rw [Lib.join_cons, List.append_assoc]
  rw [heq]
  refine ⟨clean_all _ _ h4 h1, ⟨c, _, rfl, (inner_facts c h3).2.1⟩, fun x hx => ?_⟩
  rcases List.mem_append.1 hx with hx | hx
  · exact (inner_facts x (List.all_eq_true.1 h4 x hx)).1
  · exact h2 x hx

/-! ### Each line is as it may be -/
/-- A line at so many open blocks, and how many are open behind it. -/
structure LineP (d : Int) (ln : Bytes) (d' : Int) : Prop where
  ex : ∃ (mg : Nat) (u : Bytes) (last : UInt8) (dd : Int), ln = List.replicate mg 32 ++ u ∧ bodyOk u ∧ u.getLast? = some last ∧ dd = (if last = 125 then d - 1 else d) ∧ (mg : Int) = 2 * dd ∧ (last = 125 ∨ last = 123 ∨ last = 59) ∧ d' = (if last = 123 then dd + 1 else dd)
inductive Scan : Int → Bytes → Bytes → Prop
  | done : Scan 0 [] []
  | more {d : Int} {ln r : Bytes} {c : UInt8} : c ≠ 10 → Scan d (ln ++ [c]) r → Scan d ln (c :: r)
  | line {d d' : Int} {ln r : Bytes} : LineP d ln d' → Scan d' [] r → Scan d ln (10 :: r)
theorem scan_app {d : Int} : ∀ (u ln r : Bytes), (∀ c ∈ u, c ≠ 10) → Scan d (ln ++ u) r → Scan d ln (u ++ r)
  | [], ln, r, _, h => by simpa using h
  | c :: u, ln, r, hu, h => by
    refine Scan.more (hu c (by simp)) (scan_app u (ln ++ [c]) r (fun x hx => hu x (by simp [hx])) ?_)
    simpa using h
theorem scan_line (d : Int) (k : Nat) (u : Bytes) (d' : Int) (rest : Bytes) (hu : bodyOk u) (hp : LineP d (List.replicate k 32 ++ u) d') (h : Scan d' [] rest) : Scan d [] (List.replicate k 32 ++ (u ++ (10 :: rest))) := by
  have := scan_app (d := d) (List.replicate k 32 ++ u) [] (10 :: rest) (fun c hc => by
    rcases List.mem_append.1 hc with hc | hc
    · rw [List.mem_replicate] at hc; rw [hc.2]; decide
    · exact hu.2.2 c hc) (by rw [List.nil_append]; exact Scan.line hp h)
  simpa using this

mutual
theorem scan_node : ∀ (n : NodeL) (d : Nat) (rest : Bytes), checkN d n = 0 → Scan d [] rest → Scan d [] (printN d n ++ rest)
  | .mk nm p ws b ks, d, rest, h, hr => by
    obtain ⟨h1, h2⟩ := check_head d nm p ws b ks h
    obtain ⟨_, _, _, h6⟩ := check_parts d nm p ws b ks h
    cases b
    · have hb := body_words nm ws [59] h2 h1 ⟨by decide, by decide⟩ (by decide)
      have := scan_line d (2 * d) (Lib.join (nm :: ws.map wordB) [32] ++ [59]) d rest hb ⟨2 * d, _, 59, d, rfl, hb, by simp, by simp, by omega, by simp, by simp⟩ hr
      simpa [printN, lineB] using this
    · have hb := body_words nm ws [32, 123] h2 h1 ⟨by decide, by decide, by decide, by decide, by decide⟩ (by decide)
      have hc : bodyOk [125] := ⟨⟨by decide, by decide⟩, ⟨125, [], rfl, by decide⟩, by decide⟩
      have h3 := scan_line ((d : Int) + 1) (2 * d) [125] d rest hc ⟨2 * d, _, 125, d, rfl, hc, by simp, by simp, by omega, by simp, by simp⟩ hr
      have h4 := scan_nodes ks (d + 1) _ h6 (by simpa using h3)
      have h5 := scan_line d (2 * d) (Lib.join (nm :: ws.map wordB) [32] ++ [32, 123]) ((d : Int) + 1) _ hb ⟨2 * d, _, 123, d, rfl, hb, by simp, by simp, by omega, by simp, by simp⟩ (by simpa using h4)
      simpa [printN, lineB, Lib.join_nil] using h5
theorem scan_nodes : ∀ (l : List NodeL) (d : Nat) (rest : Bytes), checkL d l = 0 → Scan d [] rest → Scan d [] (printL d l ++ rest)
  | [], d, rest, _, hr => by simpa [printL] using hr
  | n :: r, d, rest, h, hr => by
    obtain ⟨h1, h2⟩ := checkL_cons d n r h
    have := scan_node n d (printL d r ++ rest) h1 (scan_nodes r d rest h2 hr)
    simpa [printL] using this
end
theorem canon_scan (s : Bytes) (h : (canonL s).2.2 = 0) : Scan 0 [] (canonL s).1 := by
  unfold canonL at h ⊢
  by_cases he : (treeL s).err ≠ 0
  · rw [if_pos he] at h; exact absurd h he
  rw [if_neg he] at h ⊢
  simp only at h ⊢
  obtain ⟨h1, _, _, h4⟩ := lay_ok _ h
  rw [h4]
  have := scan_nodes (treeL s).nodes 0 [] h1 Scan.done
  simpa using this

/-! ### Two blanks more in each line -/
def indB : Bool → Bytes → Bytes
  | _, [] => []
  | true, c :: r => 32 :: 32 :: c :: indB (c == 10) r
  | false, c :: r => c :: indB (c == 10) r
theorem ind_false : ∀ (u r : Bytes), (∀ c ∈ u, c ≠ 10) → indB false (u ++ r) = u ++ indB false r
  | [], r, _ => rfl
  | c :: u, r, h => by
    have hc : (c == 10) = false := beq_false_of_ne (h c (by simp))
    rw [List.cons_append, indB, hc, ind_false u r (fun x hx => h x (by simp [hx]))]
    rfl
theorem ind_line (u r : Bytes) (hu : ∀ c ∈ u, c ≠ 10) (hne : u ≠ []) : indB true (u ++ (10 :: r)) = 32 :: 32 :: u ++ 10 :: indB true r := by
  cases u with
  | nil => exact absurd rfl hne
  | cons c u =>
    have hc : (c == 10) = false := beq_false_of_ne (hu c (by simp))
    rw [List.cons_append, indB, hc, ind_false u _ (fun x hx => hu x (by simp [hx])), indB]
    rfl
theorem ind_lineB (d : Nat) (ws : List Bytes) (e r : Bytes) (hu : ∀ c ∈ Lib.join ws [32] ++ e, c ≠ 10) (hne : e ≠ []) : indB true (lineB d ws e ++ r) = lineB (d + 1) ws e ++ indB true r := by
  have h1 := ind_line (List.replicate (2 * d) 32 ++ (Lib.join ws [32] ++ e)) r (fun c hc => by
    rcases List.mem_append.1 hc with hc | hc
    · rw [List.mem_replicate] at hc; rw [hc.2]; decide
    · exact hu c hc) (by simp [hne])
  have e1 : lineB d ws e ++ r = (List.replicate (2 * d) 32 ++ (Lib.join ws [32] ++ e)) ++ (10 :: r) := by simp [lineB]
  rw [e1, h1]
  simp [lineB, show 2 * (d + 1) = 2 * d + 1 + 1 by omega, List.replicate_succ]
mutual
theorem ind_node : ∀ (n : NodeL) (d d' : Nat) (r : Bytes), checkN d' n = 0 → indB true (printN d n ++ r) = printN (d + 1) n ++ indB true r
  | .mk nm p ws b ks, d, d', r, h => by
    obtain ⟨h1, h2⟩ := check_head d' nm p ws b ks h
    obtain ⟨_, _, _, h6⟩ := check_parts d' nm p ws b ks h
    cases b
    · have hb := body_words nm ws [59] h2 h1 ⟨by decide, by decide⟩ (by decide)
      simp only [printN, Bool.false_eq_true, if_false]
      exact ind_lineB d _ _ r hb.2.2 (by decide)
    · have hb := body_words nm ws [32, 123] h2 h1 ⟨by decide, by decide, by decide, by decide, by decide⟩ (by decide)
      simp only [printN, if_true, List.append_assoc]
      rw [ind_lineB d _ _ _ hb.2.2 (by decide), ind_nodes ks (d + 1) (d' + 1) _ h6, ind_lineB d [] [125] r (by simp [Lib.join_nil]) (by decide)]
theorem ind_nodes : ∀ (l : List NodeL) (d d' : Nat) (r : Bytes), checkL d' l = 0 → indB true (printL d l ++ r) = printL (d + 1) l ++ indB true r
  | [], d, d', r, _ => rfl
  | n :: l, d, d', r, h => by
    obtain ⟨h1, h2⟩ := checkL_cons d' n l h
    simp only [printL, List.append_assoc]
    rw [ind_node n d d' _ h1, ind_nodes l d d' r h2]
end

/-! ### Items behind one another, and in a block -/
theorem checkL_app (d : Nat) : ∀ l m : List NodeL, checkL d (l ++ m) = if checkL d l ≠ 0 then checkL d l else checkL d m
  | [], m => by simp [checkL]
  | n :: r, m => by
    simp only [List.cons_append, checkL, checkL_app d r m]
    by_cases h : checkN d n ≠ 0
    · simp [h]
    · have h0 : checkN d n = 0 := by simpa using h
      simp [h0]
theorem ndL_app : ∀ l m : List NodeL, ndL (l ++ m) = ndL l + ndL m
  | [], m => by simp [ndL]
  | n :: r, m => by simp only [List.cons_append, ndL, ndL_app r m]; omega
theorem deepN_le (n : NodeL) (d : Nat) (hd : d ≤ 6) (h : checkN d n = 0) : deepN n + d ≤ 6 := by
  have := deep_le [n] d hd (by simp [checkL, h])
  simp only [deepL] at this
  omega
def dpI (a d : Nat) : Int := if a + d = 6 then 7 else 0
theorem dpI_yes {a d : Nat} (h : a + d = 6) : dpI a d = 7 := by unfold dpI; rw [if_pos h]
theorem dpI_no {a d : Nat} (h : ¬ a + d = 6) : dpI a d = 0 := by unfold dpI; rw [if_neg h]
mutual
theorem deeper_n : ∀ (n : NodeL) (d : Nat), d < 6 → checkN d n = 0 → checkN (d + 1) n = dpI (deepN n) d
  | .mk nm p ws b ks, d, hd, h => by
    obtain ⟨h1, h2⟩ := check_head d nm p ws b ks h
    obtain ⟨h3, h4, h5, h6⟩ := check_parts d nm p ws b ks h
    have hz : (!ws.all wordOk || !nameL nm || decide (8 < ws.length) || (!b && decide (0 < ks.length))) = false := by
      rw [h1, h2]
      cases b
      · rw [h4 rfl]; simp; omega
      · simp; omega
    simp only [checkN, hz, Bool.false_eq_true, if_false]
    cases b
    · rw [h4 rfl]
      simp [checkL]
      rw [dpI_no (by simp [deepN, deepL]; omega)]
    · simp only [true_and]
      have hdn : deepN (.mk nm p ws true ks) = deepL ks + 1 := by simp [deepN]
      rw [hdn]
      by_cases h55 : d + 1 = 6
      · have := deep_le ks (d + 1) (by omega) h6
        rw [if_pos h55, dpI_yes (by omega)]
      · rw [if_neg h55, deeper_l ks (d + 1) (by omega) h6]
        by_cases hx : deepL ks + (d + 1) = 6
        · rw [dpI_yes hx, dpI_yes (by omega)]
        · rw [dpI_no hx, dpI_no (by omega)]
theorem deeper_l : ∀ (l : List NodeL) (d : Nat), d < 6 → checkL d l = 0 → checkL (d + 1) l = dpI (deepL l) d
  | [], d, hd, h => by
    rw [dpI_no (by simp [deepL]; omega)]
    simp [checkL]
  | n :: r, d, hd, h => by
    obtain ⟨h1, h2⟩ := checkL_cons d n r h
    have a1 := deepN_le n d (by omega) h1
    have a2 := deep_le r d (by omega) h2
    have e1 := deeper_n n d hd h1
    have e2 := deeper_l r d hd h2
    have e3 : deepL (n :: r) = max (deepN n) (deepL r) := by simp [deepL]
    have m1 : deepN n ≤ max (deepN n) (deepL r) := Nat.le_max_left _ _
    have m2 : deepL r ≤ max (deepN n) (deepL r) := Nat.le_max_right _ _
    have m3 : max (deepN n) (deepL r) = deepN n ∨ max (deepN n) (deepL r) = deepL r := by
      rcases Nat.le_total (deepN n) (deepL r) with hle | hle
      · exact Or.inr (Nat.max_eq_right hle)
      · exact Or.inl (Nat.max_eq_left hle)
    rw [e3]
    generalize max (deepN n) (deepL r) = M at m1 m2 m3 ⊢
    simp only [checkL, e1, e2]
    by_cases hx : deepN n + d = 6
    · rw [dpI_yes hx, if_pos (by decide), dpI_yes (by omega)]
    · rw [dpI_no hx]
      simp only [ne_eq, not_true_eq_false, if_false]
      by_cases hy : deepL r + d = 6
      · rw [dpI_yes hy, dpI_yes (by omega)]
      · rw [dpI_no hy, dpI_no (by omega)]
end

/-- Of two lists, one behind the other, what Print tells. -/
theorem lay_two (l m : List NodeL) (hl : ndL l ≤ 60) (hm : ndL m ≤ 60) :
    ((layL l).2 ≠ 0 → layL (l ++ m) = ([], (layL l).2)) ∧ ((layL l).2 = 0 → (layL m).2 ≠ 0 → layL (l ++ m) = ([], (layL m).2)) ∧
    ((layL l).2 = 0 → (layL m).2 = 0 → layL (l ++ m) = ((layL l).1 ++ (layL m).1, 0)) := by
  obtain ⟨a1, a2, a3⟩ := few_lay l 60 (by omega) hl
  obtain ⟨b1, b2, b3⟩ := few_lay m 60 (by omega) hm
  obtain ⟨c1, c2, c3⟩ := few_lay (l ++ m) 120 (by omega) (by rw [ndL_app]; omega)
  rw [checkL_app] at c1
  refine ⟨fun h => ?_, fun h h' => ?_, fun h h' => ?_⟩
  · rw [a1] at h
    rw [if_pos h, ← a1] at c1
    rw [← a1] at h
    exact Prod.ext (c2 (by rw [c1]; exact h)) c1
  · rw [a1] at h
    rw [if_neg (by simp [h]), ← b1] at c1
    exact Prod.ext (c2 (by rw [c1]; exact h')) c1
  · have h0 := h
    have h1 := h'
    rw [a1] at h
    rw [b1] at h'
    rw [if_neg (by simp [h]), h'] at c1
    rw [c3 c1, a3 h0, b3 h1, printL_append]
/-- In a block they are written with two blanks more, or they stand too deep. -/
theorem lay_block (l : List NodeL) (hl : ndL l ≤ 60) (h : (layL l).2 = 0) :
    (deepL l = 6 → layL [.mk [120] 0 [] true l] = ([], 7)) ∧ (deepL l ≠ 6 → layL [.mk [120] 0 [] true l] = ([120, 32, 123, 10] ++ indB true (layL l).1 ++ [125, 10], 0)) := by
  obtain ⟨a1, a2, a3⟩ := few_lay l 60 (by omega) hl
  obtain ⟨c1, c2, c3⟩ := few_lay [.mk [120] 0 [] true l] 120 (by omega) (by simp [ndL, ndN]; omega)
  have hc : checkL 0 l = 0 := by rw [← a1]; exact h
  have hx : checkL 0 [.mk [120] 0 [] true l] = checkL 1 l := by
    have hn : checkN 0 (.mk [120] 0 [] true l) = checkL 1 l := by
      have hz : (!([] : List WordL).all wordOk || !nameL [120] || decide (8 < ([] : List WordL).length) || (!true && decide (0 < l.length))) = false := by simp; decide
      simp only [checkN, hz, Bool.false_eq_true, if_false]
      rw [if_neg (by simp)]
    have hl1 : checkL 0 [NodeL.mk [120] 0 [] true l] = if checkN 0 (.mk [120] 0 [] true l) ≠ 0 then checkN 0 (.mk [120] 0 [] true l) else 0 := by simp only [checkL]
    rw [hl1, hn]
    by_cases h1 : checkL 1 l = 0
    · rw [h1]; simp
    · rw [if_pos h1]
  have hd := deeper_l l 0 (by omega) hc
  rw [hx, hd] at c1
  refine ⟨fun h6 => ?_, fun h6 => ?_⟩
  · rw [dpI_yes (by omega)] at c1
    exact Prod.ext (c2 (by rw [c1]; decide)) c1
  · rw [dpI_no (by omega)] at c1
    rw [c3 c1, a3 h]
    have hi := ind_nodes l 0 0 [] hc
    rw [List.append_nil] at hi
    rw [hi]
    simp [printL, printN, lineB, Lib.join_cons, Lib.join_nil, Lib.joinTail, indB]

end Go.Proofs.YtaffbnjdlgcaiaaDoor
end

section
/- The law LayoutTwo walked: it answers true at any items. -/
set_option linter.unusedVariables false
set_option linter.unusedSimpArgs false
namespace Go.Proofs.YtaffbnjdlgcaiaaDoor
open Go.RowKit

theorem info_nodeL : (Tryd.prog.info? 38).map (fun i => (i.zero, i.size, i.bytes)) = some (some (.agg #[.string ⟨#[]⟩, .int .i64 0, .slice none 0 0, .bool false, .slice none 0 0]), 5, 80) := by kernel_rfl
theorem nodeOk_one {w : World} {M : Nat → Prop} {n : NodeL} {cs : List Value} (h : NodeOk w M n cs) : ∀ u ∈ cs, u.oneCell' = true := by
  obtain ⟨nm, p, ws, b, ks⟩ := n
  simp only [NodeOk] at h
  obtain ⟨Aw, cw, Ak, ck, kcs, rfl, _⟩ := h
  intro u hu
  simp only [List.mem_cons, List.not_mem_nil, or_false] at hu
  rcases hu with rfl | rfl | rfl | rfl | rfl <;> rfl
theorem nodesOk_one {w : World} {M : Nat → Prop} : ∀ {l : List NodeL} {cs : List Value}, NodesOk w M l cs → ∀ u ∈ cs, u.oneCell' = true
  | [], cs, h => by simp only [NodesOk] at h; subst h; intro u hu; simp at hu
  | n :: r, cs, h => by
    simp only [NodesOk] at h
    obtain ⟨a, b, rfl, h1, h2⟩ := h
    intro u hu
    rcases List.mem_append.1 hu with hu | hu
    · exact nodeOk_one h1 u hu
    · exact nodesOk_one h2 u hu
theorem own_row_reads {w : World} {base size n : Nat} {e : TypeId} {v : Value} {xs : List Value} (h : w.ownsRow base e size v n xs) : ∃ A cap, v = .slice A n cap ∧ NilOk A cap ∧ ReadsM w (· < w.heap.size) size A n xs := by
  rcases h.2 with ⟨rfl, hn⟩ | ⟨g, cap, cur, rfl, hb, hg, h1, h2, h3, h4⟩
  · subst hn
    exact ⟨none, 0, rfl, fun _ => rfl, ⟨h.1, fun h => absurd h (by omega)⟩⟩
  · refine ⟨some ⟨g, 0, none⟩, cap, rfl, (fun h => by cases h), ⟨h.1, fun _ => ⟨_, rfl, (Array.getElem?_eq_some_iff.1 hg).1, fun j u hu => ?_⟩⟩⟩
    have hz : (⟨g, 0, none⟩ : Addr).add j = ⟨g, j, none⟩ := by unfold Addr.add; split <;> simp_all
    rw [hz, Joins.cell_of_block hg j]
    have hj := (List.getElem?_eq_some_iff.1 hu).1
    rw [← h4] at hu hj
    rw [List.getElem?_take_of_lt (by rw [List.length_take] at hj; omega)] at hu
    simpa using hu
/-- Items put behind a row of the call's own that holds items. -/
def RowNodes (w : World) (base : Nat) (v : Value) (l : List NodeL) : Prop := ∃ kcs, w.ownsRow base 38 5 v l.length kcs ∧ NodesOk w (· < base) l kcs
theorem RowNodes.nil (w : World) (base : Nat) : RowNodes w base (.slice none 0 0) [] := ⟨[], World.ownsRow_nil _ _ _ _, by simp only [NodesOk]⟩
theorem wpList_behindG {w : World} {ops : Array Oper} {rest : List Oper} {o : Oper} {a : Act} {Q : Exit → Act → World → Prop} (hgd : o.guard = none) (s x : Operand)
    (ho : o.op = .call { callee := .builtin .append, args := #[s, x], argTypes := #[22, 22] }) (base : Nat) (v : Value) (l m : List NodeL) (hs : a.eval s = v) (hown : RowNodes w base v l)
    (A : Option Addr) (c : Nat) (hx : a.eval x = .slice A m.length c) (hm : ROk w base A m) (hnil : NilOk A c) (hnm : l.length + m.length ≤ 100000) (hbase : base ≤ w.heap.size)
    (h : ∀ v' w', RowNodes w' base v' (l ++ m) → Below base w w' → wpList Tryd.prog ops Q rest (a.put o.dst v') w') : wpList Tryd.prog ops Q (o :: rest) a w := by
  obtain ⟨j0, hj0, hy0, hy1, hy2⟩ := info_parts info_nodeL
  obtain ⟨kcs, h1, h2⟩ := hown
  obtain ⟨mcs, h3, h4⟩ := hm
  obtain ⟨v', w', hrun, h5, h6⟩ := run_append_reads (P := Tryd.prog) (w := w) base 22 o.type 38 j0 _ 5 80 Tryd.underlying22 hj0 hy0 hy1 hy2 rfl (by decide) v l.length kcs h1 A m.length c base mcs h3.reads hnil (nodesOk_one h4) (by unfold maxLen; omega) (by omega) hbase
  have hb : Below base w w' := (Below.refl base w).grown h6 hbase (fun k hk => (h1.lt k hk).1)
  refine wpList_append_run s x 22 ho (by simp [Region.wanted, hgd]) v _ hs hx o.type rfl v' w' hrun (h v' w' ⟨kcs ++ mcs, ?_, ?_⟩ hb)
  · rw [List.length_append]; exact h5
  · exact NodesOk.append (NodesOk.keep (fun _ h => h) (fun p hp => hb.cell hp) _ _ h2) (NodesOk.keep (fun _ h => h) (fun p hp => hb.cell hp) _ _ h4)
theorem RowNodes.rok {w : World} {base : Nat} {v : Value} {l : List NodeL} (h : RowNodes w base v l) (hb : base ≤ w.heap.size) : ∃ A c, v = .slice A l.length c ∧ ROk w w.heap.size A l := by
  obtain ⟨kcs, h1, h2⟩ := h
  obtain ⟨A, c, rfl, _, hr⟩ := own_row_reads h1
  exact ⟨A, c, rfl, kcs, hr, NodesOk.keep (fun _ h => Nat.lt_of_lt_of_le h hb) (fun _ _ => rfl) _ _ h2⟩
/-- The block's own row. -/
theorem rok_block1 {w : World} {A : Option Addr} {l : List NodeL} {c : Nat} (h : ROk w w.heap.size A l) (hnil : NilOk A c) :
    ROk (w.alloc (.cells #[.string ⟨#[120]⟩, .int .i64 0, .slice none 0 0, .bool true, .slice A l.length c] 38)) (w.alloc (.cells #[.string ⟨#[120]⟩, .int .i64 0, .slice none 0 0, .bool true, .slice A l.length c] 38)).heap.size (some ⟨w.heap.size, 0, none⟩) [.mk [120] 0 [] true l] := by
  have hb : Below w.heap.size w (w.alloc (.cells #[.string ⟨#[120]⟩, .int .i64 0, .slice none 0 0, .bool true, .slice A l.length c] 38)) := (Below.refl _ _).alloc (Nat.le_refl _) _
  obtain ⟨kcs, h1, h2⟩ := (h.below hb).wide hb.size
  refine ⟨[.string ⟨#[120]⟩, .int .i64 0, .slice none 0 0, .bool true, .slice A l.length c], ⟨rfl, fun _ => ⟨_, rfl, by simp, ?_⟩⟩, NodesOk.one ?_⟩
  · exact cells_new w [.string ⟨#[120]⟩, .int .i64 0, .slice none 0 0, .bool true, .slice A l.length c] 38 w.heap.size rfl
  · simp only [NodeOk]
    exact ⟨none, 0, A, c, kcs, rfl, fun _ => rfl, hnil, ReadsM.nil _ _ _ _, h1, h2⟩

theorem ba_push (S T : ByteArray) (q : Nat) (h : q < T.size) : (S ++ T.extract q (q + 1)).data.toList = S.data.toList ++ [T[q]] := by
  rw [ByteArray.data_append, Array.toList_append, ba_extract, ba_take_snoc T q h, List.drop_append, List.drop_of_length_le (by simp; exact Nat.min_le_left _ _)]
  simp
  rw [Nat.min_eq_left (Nat.le_of_lt h), Nat.sub_self]
  rfl
theorem ba_app (a b : Bytes) : (⟨(a ++ b).toArray⟩ : ByteArray) = ⟨a.toArray⟩ ++ ⟨b.toArray⟩ := ba_ext (by rw [ByteArray.data_append]; simp)
theorem ind_cons (f : Bool) (c : UInt8) (r : Bytes) : indB f (c :: r) = (if f then [32, 32, c] else [c]) ++ indB (c == 10) r := by cases f <;> rfl
theorem ind_len : ∀ (f : Bool) (r : Bytes), (indB f r).length ≤ 3 * r.length
  | _, [] => by simp [indB]
  | true, c :: r => by
    have := ind_len (c == 10) r
    simp only [indB, List.length_cons]; omega
  | false, c :: r => by
    have := ind_len (c == 10) r
    simp only [indB, List.length_cons]; omega
theorem fit_app : ∀ l m : List NodeL, fitNs l → fitNs m → fitNs (l ++ m)
  | [], m, _, h => h
  | n :: r, m, h1, h2 => ⟨h1.1, fit_app r m h1.2 h2⟩
theorem cnt_app : ∀ l m : List NodeL, cntL (l ++ m) = cntL l + cntL m
  | [], m => by simp [cntL]
  | n :: r, m => by simp only [List.cons_append, cntL, cnt_app r m]; omega
theorem lay_len (l : List NodeL) (m : Nat) (hm : m ≤ 300) (h : ndL l ≤ m) : (layL l).1.length ≤ 190 * m := by
  obtain ⟨a1, a2, a3⟩ := few_lay l m hm h
  by_cases he : (layL l).2 = 0
  · rw [a3 he]
    have := (printL_nd l 0 (by rw [← a1]; exact he) (by omega)).1
    simp only
    omega
  · rw [a2 he]; simp

set_option maxRecDepth 100000 in
set_option maxHeartbeats 8000000 in
theorem walk_LayoutTwo (w : World) (ht : Tab w) (hsp : SpaceTab w) (A : Option Addr) (c : Nat) (l : List NodeL) (hnl : NilOk A c) (hok : ROk w w.heap.size A l) (hlen : l.length ≤ maxLen) (hfit : fitNs l)
    (A' : Option Addr) (c' : Nat) (m : List NodeL) (hnl' : NilOk A' c') (hok' : ROk w w.heap.size A' m) (hlen' : m.length ≤ maxLen) (hfit' : fitNs m) :
    Calls Tryd.prog 6 #[.slice A l.length c, .slice A' m.length c'] w fun e w' => e = .returned (.bool true) ∧ Below w.heap.size w w' := by
  have HV := Lib.hid (law10_live w ht hsp)
  have hg1 := hsp.lt
  have hg2 := ht.lt
  have HT := Lib.hid ht
  have HS := Lib.hid hsp
  have HOK := Lib.hid hok
  have HOK' := Lib.hid hok'
  have HNL := Lib.hid hnl
  have HNL' := Lib.hid hnl'
  obtain ⟨a1, a2, a3⟩ := left_geL l 40 12 (by omega)
  obtain ⟨b1, b2, b3⟩ := left_geL m 40 12 (by omega)
  have HFew := Lib.hid (fun W (hb : Below w.heap.size w W) => ref9_FewG l A c W w.heap.size 40 (by omega) (by omega) hlen hfit hb.size (HOK.out.below hb))
  have HFew' := Lib.hid (fun W (hb : Below w.heap.size w W) => ref9_FewG m A' c' W w.heap.size 40 (by omega) (by omega) hlen' hfit' hb.size (HOK'.out.below hb))
  by_cases hf : 0 ≤ leftL 40 12 l
  case neg =>
    rw [decide_eq_false hf] at HFew
    clear ht hsp hok hok' hnl hnl' hfit hfit' hlen hlen' a1 a2 a3 b1 b2 b3 hf
    go_enter Tryd.func6, Tryd.ntmps6
    go_wp2_with fail
    refine HV.out.mono ?_
    rintro e w1 ⟨rfl, hb1⟩
    have HB1 := Lib.hid hb1
    clear hb1
    go_wp2_with fail
    refine (HFew.out _ HB1.out).mono ?_
    rintro e w2 ⟨rfl, hb2⟩
    have HB2 := Lib.hid (HB1.out.trans (hb2.mono HB1.out.size))
    clear hb2
    go_wp2_with fail
    go_ret
    exact ⟨rfl, HB2.out⟩
  rw [decide_eq_true hf] at HFew
  by_cases hf' : 0 ≤ leftL 40 12 m
  case neg =>
    rw [decide_eq_false hf'] at HFew'
    clear ht hsp hok hok' hnl hnl' hfit hfit' hlen hlen' a1 a2 a3 b1 b2 b3 hf hf'
    go_enter Tryd.func6, Tryd.ntmps6
    go_wp2_with fail
    refine HV.out.mono ?_
    rintro e w1 ⟨rfl, hb1⟩
    have HB1 := Lib.hid hb1
    clear hb1
    go_wp2_with fail
    refine (HFew.out _ HB1.out).mono ?_
    rintro e w2 ⟨rfl, hb2⟩
    have HB2 := Lib.hid (HB1.out.trans (hb2.mono HB1.out.size))
    clear hb2
    go_wp2_with fail
    refine (HFew'.out _ HB2.out).mono ?_
    rintro e w3 ⟨rfl, hb3⟩
    have HB3 := Lib.hid (HB2.out.trans (hb3.mono HB2.out.size))
    clear hb3
    go_wp2_with fail
    go_ret
    exact ⟨rfl, HB3.out⟩
  rw [decide_eq_true hf'] at HFew'
  obtain ⟨f1, f2⟩ := a3 hf
  obtain ⟨f3, f4⟩ := b3 hf'
  have hnd := left_ndL l 40 12 (by omega) hf
  have hnd' := left_ndL m 40 12 (by omega) hf'
  obtain ⟨t1, t2, t3⟩ := lay_two l m (by omega) (by omega)
  obtain ⟨z1, z2⟩ : True ∧ True := ⟨trivial, trivial⟩
  have hblk := lay_block l (by omega)
  obtain ⟨y1, y2, y3⟩ := few_lay l 60 (by omega) (by omega)
  obtain ⟨y1', y2', y3'⟩ := few_lay m 60 (by omega) (by omega)
  have hcnt : cntL l ≤ 5000 := by omega
  have hcnt' : cntL m ≤ 5000 := by omega
  have hll : l.length ≤ 5000 := Nat.le_trans (cntL_len l) hcnt
  have hll' : m.length ≤ 5000 := Nat.le_trans (cntL_len m) hcnt'
  have hl1 := lay_len l 60 (by omega) (by omega)
  have hl2 := lay_len m 60 (by omega) (by omega)
  have hfitb : fitNs [.mk [120] 0 [] true l] := ⟨⟨by decide, by decide, by simp, hlen, hfit⟩, trivial⟩
  have HPR := Lib.hid (fun W (hb : Below w.heap.size w W) => layout_Print l A c W (by omega) ((HOK.out.below hb).wide hb.size) hfit (HT.out.below hb) (HS.out.below hb) (by have := hb.size; omega) (by have := hb.size; omega))
  have HPR' := Lib.hid (fun W (hb : Below w.heap.size w W) => layout_Print m A' c' W (by omega) ((HOK'.out.below hb).wide hb.size) hfit' (HT.out.below hb) (HS.out.below hb) (by have := hb.size; omega) (by have := hb.size; omega))
  have hpc := (fun W (hb : Below w.heap.size w W) A9 c9 (h : ROk W W.heap.size A9 (l ++ m)) => layout_Print (l ++ m) A9 c9 W (by rw [cnt_app]; omega) h (fit_app l m hfit hfit') (HT.out.below hb) (HS.out.below hb) (by have := hb.size; omega) (by have := hb.size; omega))
  simp only [List.length_append] at hpc
  have HPC := Lib.hid hpc
  clear hpc
  have HPB := Lib.hid (fun W (hb : Below w.heap.size w W) A9 c9 (h : ROk W W.heap.size A9 [.mk [120] 0 [] true l]) => layout_Print [.mk [120] 0 [] true l] A9 c9 W (by simp only [cntL, cntN, List.length_nil]; omega) h hfitb (HT.out.below hb) (HS.out.below hb) (by have := hb.size; omega) (by have := hb.size; omega))
  have HDP := Lib.hid (fun W (hb : Below w.heap.size w W) => tree_Deep (cntL l + 1) l A c W w.heap.size (by omega) (by omega) hb.size (HOK.out.below hb))
  have hdpl := deepL_cnt l
  generalize layL l = Y at *
  generalize layL m = Y' at *
  generalize layL (l ++ m) = C at *
  generalize layL [.mk [120] 0 [] true l] = D at *
  obtain ⟨a, e⟩ := Y
  obtain ⟨b, f⟩ := Y'
  obtain ⟨cc, g⟩ := C
  obtain ⟨dd, h⟩ := D
  simp only at t1 t2 t3 hblk y1 y2 y3 y1' y2' y3' hl1 hl2 HPR HPR' HPC HPB
  obtain ⟨SA, hSA⟩ : ∃ SA : ByteArray, SA = ⟨a.toArray⟩ := ⟨_, rfl⟩
  obtain ⟨SB, hSB⟩ : ∃ SB : ByteArray, SB = ⟨b.toArray⟩ := ⟨_, rfl⟩
  obtain ⟨SC, hSC⟩ : ∃ SC : ByteArray, SC = ⟨cc.toArray⟩ := ⟨_, rfl⟩
  obtain ⟨SD, hSD⟩ : ∃ SD : ByteArray, SD = ⟨dd.toArray⟩ := ⟨_, rfl⟩
  rw [← hSA] at HPR
  rw [← hSB] at HPR'
  rw [← hSC] at HPC
  rw [← hSD] at HPB
  have hSAs : SA.size ≤ 11400 := by rw [← ba_len, hSA]; simpa using hl1
  have hSBs : SB.size ≤ 11400 := by rw [← ba_len, hSB]; simpa using hl2
  have HAd := Lib.hid (show SA.data.toList = a by rw [hSA])
  have HCx := Lib.hid (show e ≠ 0 → SC = ⟨#[]⟩ ∧ g = e from fun hx => by
    have := t1 hx
    simp only [Prod.mk.injEq] at this
    rw [hSC, this.1]; exact ⟨rfl, this.2⟩)
  have HCy := Lib.hid (show e = 0 → f ≠ 0 → SC = ⟨#[]⟩ ∧ g = f from fun hx hy => by
    have := t2 hx hy
    simp only [Prod.mk.injEq] at this
    rw [hSC, this.1]; exact ⟨rfl, this.2⟩)
  have HCz := Lib.hid (show e = 0 → f = 0 → SC = SA ++ SB ∧ g = 0 from fun hx hy => by
    have := t3 hx hy
    simp only [Prod.mk.injEq] at this
    rw [hSC, this.1, ba_app, ← hSA, ← hSB]; exact ⟨rfl, this.2⟩)
  have HDx := Lib.hid (show e = 0 → deepL l = 6 → SD = ⟨#[]⟩ ∧ h = 7 from fun hx hy => by
    have := (hblk hx).1 hy
    simp only [Prod.mk.injEq] at this
    rw [hSD, this.1]; exact ⟨rfl, this.2⟩)
  have HDy := Lib.hid (show e = 0 → deepL l ≠ 6 → ∃ SW : ByteArray, SW.data.toList = [120, 32, 123, 10] ++ indB true SA.data.toList ∧ SD = SW ++ ⟨#[125, 10]⟩ ∧ h = 0 from fun hx hy => by
    have := (hblk hx).2 hy
    simp only [Prod.mk.injEq] at this
    refine ⟨⟨([120, 32, 123, 10] ++ indB true a).toArray⟩, by rw [HAd.out], ?_, this.2⟩
    rw [hSD, this.1, ba_app])
  clear ht hsp hok hok' hnl hnl' hfit hfit' hlen hlen' a1 a2 a3 b1 b2 b3 hf hf' f1 f2 f3 f4 hnd hnd' t1 t2 t3 z1 z2 hblk y1 y2 y3 y1' y2' y3' hl1 hl2 hfitb hSA hSB hSC hSD hcnt hcnt'
  go_enter Tryd.func6, Tryd.ntmps6
  go_wp2_with fail
  refine HV.out.mono ?_
  rintro e1 w1 ⟨rfl, hb1⟩
  have HB1 := Lib.hid hb1
  clear hb1
  go_wp2_with fail
  refine (HFew.out _ HB1.out).mono ?_
  rintro e2 w2 ⟨rfl, hb2⟩
  have HB2 := Lib.hid (HB1.out.trans (hb2.mono HB1.out.size))
  clear hb2
  go_wp2_with fail
  refine (HFew'.out _ HB2.out).mono ?_
  rintro e3 w3 ⟨rfl, hb3⟩
  have HB3 := Lib.hid (HB2.out.trans (hb3.mono HB2.out.size))
  clear hb3
  go_wp2_with fail
  refine (HPR.out _ HB3.out).mono ?_
  rintro e4 w4 ⟨rfl, hb4⟩
  have HB4 := Lib.hid (HB3.out.trans (hb4.mono HB3.out.size))
  clear hb4
  go_wp2_with fail
  refine (HPR'.out _ HB4.out).mono ?_
  rintro e5 w5 ⟨rfl, hb5⟩
  have HB5 := Lib.hid (HB4.out.trans (hb5.mono HB4.out.size))
  clear hb5
  go_wp2_with (first
    | (at_builtin; have hq := HR6; go_loud (refine wpList_behindG rfl _ _ rfl w5.heap.size v6 l m rfl HR6.out A' c' rfl ((HOK'.out.below (HB5.out.trans (HB6.out.mono HB5.out.size))).wide HB5.out.size) HNL'.out (by omega) (by have := HB6.out.size; omega) ?_); intro v7 w7 hr7 hb7; have hb57 := HB6.out.trans hb7; obtain ⟨A9, c9, hv9, hr9⟩ := hr7.rok hb57.size; subst hv9; have HB7 := Lib.hid (HB5.out.trans (hb57.mono HB5.out.size)); have HR7 := Lib.hid hr9; clear hr7 hb7 hb57 hr9)
    | (at_builtin; go_loud (refine wpList_behindG rfl _ _ rfl w5.heap.size (.slice none 0 0) [] l rfl (RowNodes.nil _ _) A c rfl ((HOK.out.below HB5.out).wide HB5.out.size) HNL.out (by simp; omega) (Nat.le_refl _) ?_); intro v6 w6 hr6 hb6; have HR6 := Lib.hid (show RowNodes w6 w5.heap.size v6 l from hr6); have HB6 := Lib.hid hb6; clear hr6 hb6)
    | fail)
  refine (HPC.out w7 HB7.out A9 c9 HR7.out).mono ?_
  rintro e8 w8 ⟨rfl, hb8⟩
  have HB8 := Lib.hid (HB7.out.trans (hb8.mono HB7.out.size))
  clear hb8
  by_cases he : e = 0
  case neg =>
    obtain ⟨hc1, hc2⟩ := HCx.out he
    have hne : (e == 0) = false := beq_false_of_ne he
    have HE := Lib.hid he
    subst hc1 hc2
    clear he
    go_wp2_with fail
    go_ret
    exact ⟨by first | rfl | exact ret_bool (by simp), HB8.out⟩
  subst he
  by_cases hf : f = 0
  case neg =>
    obtain ⟨hc1, hc2⟩ := HCy.out rfl hf
    have hne : (f == 0) = false := beq_false_of_ne hf
    have HE := Lib.hid hf
    subst hc1 hc2
    clear hf
    go_wp2_with fail
    go_ret
    exact ⟨by first | rfl | exact ret_bool (by simp), HB8.out⟩
  subst hf
  obtain ⟨hc1, hc2⟩ := HCz.out rfl rfl
  subst hc1 hc2
  go_wp2_with fail
  have hbk := (Below.refl w8.heap.size w8).alloc (Nat.le_refl _) (.cells #[.string ⟨#[120]⟩, .int .i64 0, .slice none 0 0, .bool true, .slice A l.length c] 38)
  have hrk := rok_block1 (w := w8) (A := A) (l := l) (c := c) ((HOK.out.below HB8.out).wide HB8.out.size) HNL.out
  have hB9 := HB8.out.trans (hbk.mono HB8.out.size)
  refine (HPB.out _ hB9 (some ⟨w8.heap.size, 0, none⟩) 1 hrk).mono ?_
  rintro e9 w9 ⟨rfl, hb9⟩
  have HB9 := Lib.hid (hB9.trans (hb9.mono hB9.size))
  clear hbk hrk hB9 hb9
  go_wp2_with fail
  refine (HDP.out w9 HB9.out).mono ?_
  rintro e10 w10 ⟨rfl, hb10⟩
  have HB10 := Lib.hid (HB9.out.trans (hb10.mono HB9.out.size))
  clear hb10
  by_cases h6 : deepL l = 6
  · obtain ⟨hd1, hd2⟩ := HDx.out (by trivial) h6
    subst hd1 hd2
    have hd6 : ((deepL l : Int) == 6) = true := by rw [h6]; rfl
    clear h6
    go_wp2_with fail
    go_ret
    exact ⟨by first | rfl | exact ret_bool (by simp), HB10.out⟩
  obtain ⟨SW, hw1, hd1, hd2⟩ := HDy.out (by trivial) h6
  subst hd1 hd2
  have hd6 : ((deepL l : Int) == 6) = false := beq_false_of_ne (by omega)
  have hSW : SW.size ≤ 50000 := by
    have h1 := ind_len true SA.data.toList
    rw [← ba_len, hw1, List.length_append]
    rw [ba_len] at h1
    simp only [List.length_cons, List.length_nil]
    omega
  have HW1 := Lib.hid hw1
  clear h6 hw1
  go_wp2_with fail
  go_loop [13, 14, 89] (fun wv fv iv => ∃ (Wt : ByteArray) (fr : Bool) (q : Nat), wv = .string Wt ∧ fv = .bool fr ∧ iv = .int .i64 q ∧ q ≤ SA.size ∧ Wt.size ≤ 3 * q + 4 ∧ Wt.data.toList ++ indB fr (SA.data.toList.drop q) = SW.data.toList) (fun _ _ iv => SA.size - (intOf iv).toNat)
  case atStart => exact ⟨⟨#[120, 32, 123, 10]⟩, true, 0, rfl, rfl, rfl, Nat.zero_le _, by decide, by rw [HW1.out]; rfl⟩
  case round =>
    obtain ⟨Wt, fr, q, rfl, rfl, rfl, hq, hWs, hinv⟩ := hrel
    by_cases hlt : q < SA.size
    · rw [ba_drop_cons SA q hlt, ind_cons] at hinv
      have hqi : (q : Int) < SA.size := by omega
      have w1f : IntKind.i64.wrap ((q : Int) + 1) = (q : Int) + 1 := by rw [IntKind.wrap_i64]; omega
      have hb10 : (SA[q] == 10) = ((SA[q].toNat : Int) == 10) := by
        rw [Bool.eq_iff_iff, beq_iff_eq, beq_iff_eq, ← UInt8.toNat_inj]
        have : (10 : UInt8).toNat = 10 := rfl
        omega
      rw [hb10] at hinv
      have HIN := Lib.hid hinv
      have hWs2 : Wt.size ≤ 40000 := by omega
      clear hinv hb10
      cases fr
      · go_wp2_with fail
        have hpu := ba_push Wt SA q hlt
        refine ⟨⟨_, _, q + 1, rfl, rfl, by go_num, by omega, ?_, ?_⟩, by simp [intOf]; omega⟩
        · rw [← ba_len, hpu, List.length_append, ba_len]; simp; omega
        · rw [hpu]
          have := HIN.out
          simp only [Bool.false_eq_true, if_false] at this
          rw [← this, List.append_assoc]
      · go_wp2_with fail
        have hpu := ba_push (Wt ++ ⟨#[32, 32]⟩) SA q hlt
        have hpw : (Wt ++ ⟨#[32, 32]⟩ : ByteArray).data.toList = Wt.data.toList ++ [32, 32] := by rw [ByteArray.data_append]; simp
        refine ⟨⟨_, _, q + 1, rfl, rfl, by go_num, by omega, ?_, ?_⟩, by simp [intOf]; omega⟩
        · rw [← ba_len, hpu, hpw, List.length_append, List.length_append, ba_len]; simp; omega
        · rw [hpu, hpw]
          have := HIN.out
          simp only [if_true] at this
          rw [← this]
          simp
    · have hqq : q = SA.size := by omega
      have hqi : ¬ (q : Int) < SA.size := by omega
      rw [hqq, ba_drop_nil SA SA.size (Nat.le_refl _)] at hinv
      have hWS : Wt = SW := ba_ext (by rw [← hinv]; cases fr <;> simp [indB])
      subst hWS
      clear hinv hqq
      go_wp2_with fail
      go_ret
      exact ⟨by first | rfl | exact ret_bool (by simp), HB10.out⟩

end Go.Proofs.YtaffbnjdlgcaiaaDoor
end
