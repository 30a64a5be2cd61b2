/- Layer 10 (layout), plain laws: the lines of what is written; a text with two blanks more in each line. No program in sight. -/
import Derived.Test.YtaffbnjdlgcaiaaDoorLayC
namespace Go.Proofs.YtaffbnjdlgcaiaaDoor

/-! ### Bytes of a line -/
theorem inner_facts (c : UInt8) (h : isInner c = true) : c ≠ 10 ∧ c ≠ 32 ∧ c ≠ 9 ∧ c ≠ 35 ∧ c ≠ 123 ∧ c ≠ 125 ∧ c ≠ 59 := by
  refine ⟨?_, ?_, ?_, ?_, ?_, ?_, ?_⟩ <;> (rintro rfl; revert h; decide)
/-- No two blanks behind one another, no tab, no remark. -/
def clean : Bytes → Prop
  | [] => True
  | [c] => c ≠ 9 ∧ c ≠ 35
  | c :: d :: r => ¬(c = 32 ∧ d = 32) ∧ c ≠ 9 ∧ c ≠ 35 ∧ clean (d :: r)
theorem clean_inner (c : UInt8) (r : Bytes) (hc : isInner c = true) (h : clean r) : clean (c :: r) := by
  obtain ⟨h1, h2, h3, h4, _⟩ := inner_facts c hc
  cases r with
  | nil => exact ⟨h3, h4⟩
  | cons d r => exact ⟨fun h => h2 h.1, h3, h4, h⟩
theorem clean_all : ∀ (u r : Bytes), u.all isInner = true → clean r → clean (u ++ r)
  | [], r, _, h => h
  | c :: u, r, hu, h => by
    simp only [List.all_cons, Bool.and_eq_true] at hu
    exact clean_inner c (u ++ r) hu.1 (clean_all u r hu.2 h)
theorem clean_blank (c : UInt8) (r : Bytes) (hc : c ≠ 32) (h : clean (c :: r)) : clean (32 :: c :: r) := ⟨fun h => hc h.2, by decide, by decide, h⟩

theorem digit_inner (u : Bytes) (h : u.all isDigit = true) : u.all isInner = true := by
  rw [List.all_eq_true] at h ⊢
  exact fun c hc => inner_of_digit c (h c hc)
theorem wordB_inner (w : WordL) (h : wordOk w = true) : (wordB w).all isInner = true ∧ wordB w ≠ [] := by
  obtain ⟨h1, _⟩ := word_text w h
  obtain ⟨nu, n, s, p⟩ := w
  unfold wordOk at h
  cases nu
  · simp only [Bool.false_eq_true, if_false, Bool.and_eq_true, decide_eq_true_eq] at h
    have hn := h.2
    unfold nameL at hn
    cases s with
    | nil => simp at hn
    | cons c r =>
      simp only [Bool.and_eq_true] at hn
      exact ⟨by simpa [wordB] using hn.2, by simp [wordB]⟩
  · simp only [if_true, Bool.and_eq_true, decide_eq_true_eq] at h
    obtain ⟨⟨_, h2⟩, h3⟩ := h
    obtain ⟨u, rfl⟩ := Int.eq_ofNat_of_zero_le h2
    have hi : wordB ⟨true, (u : Int), s, p⟩ = Lib.decDigits u := by
      show Lib.itoa (u : Int) = _
      rw [Lib.itoa, if_neg (by omega), Int.toNat_natCast]
    rw [hi]
    exact ⟨digit_inner _ (dec_digits 8 u (by omega)).1, dec_ne u⟩

/-- What stands in a line behind its margin: it begins with no blank. -/
def bodyOk (u : Bytes) : Prop := clean u ∧ (∃ c r, u = c :: r ∧ c ≠ 32) ∧ ∀ c ∈ u, c ≠ 10
theorem tail_clean (e : Bytes) (he : clean e) (hne : ∀ c ∈ e, c ≠ 10) : ∀ ws : List WordL, ws.all wordOk = true → clean (Lib.joinTail [32] (ws.map wordB) ++ e) ∧ (∀ c ∈ Lib.joinTail [32] (ws.map wordB) ++ e, c ≠ 10)
  | [], _ => ⟨by simpa [Lib.joinTail] using he, by simpa [Lib.joinTail] using hne⟩
  | w :: ws, h => by
    simp only [List.all_cons, Bool.and_eq_true] at h
    obtain ⟨h1, h2⟩ := tail_clean e he hne ws h.2
    obtain ⟨h3, h4⟩ := wordB_inner w h.1
    have heq : Lib.joinTail [32] ((w :: ws).map wordB) ++ e = 32 :: (wordB w ++ (Lib.joinTail [32] (ws.map wordB) ++ e)) := by rw [List.map_cons, joinTail_cons]; simp
    rw [heq]
    have hall : ∀ c ∈ wordB w, c ≠ 10 := fun c hc => (inner_facts c (List.all_eq_true.1 h3 c hc)).1
    refine ⟨?_, ?_⟩
    · have hcl := clean_all (wordB w) _ h3 h1
      cases hw : wordB w with
      | nil => exact absurd hw h4
      | cons c r =>
        rw [hw] at hcl h3
        simp only [List.all_cons, Bool.and_eq_true] at h3
        exact clean_blank c _ (inner_facts c h3.1).2.1 hcl
    · intro c hc
      simp only [List.mem_cons, List.mem_append] at hc
      rcases hc with rfl | hc | hc | hc
      · decide
      · exact hall c hc
      · exact h2 c (by simp [hc])
      · exact h2 c (by simp [hc])
theorem name_parts (nm : Bytes) (h : nameL nm = true) : ∃ c r, nm = c :: r ∧ isInner c = true ∧ nm.all isInner = true := by
  unfold nameL at h
  cases nm with
  | nil => simp at h
  | cons c r =>
    simp only [Bool.and_eq_true] at h
    exact ⟨c, r, rfl, by have := h.2; simp only [List.all_cons, Bool.and_eq_true] at this; exact this.1, h.2⟩
theorem body_words (nm : Bytes) (ws : List WordL) (e : Bytes) (hn : nameL nm = true) (hw : ws.all wordOk = true) (he : clean e) (hne : ∀ c ∈ e, c ≠ 10) : bodyOk (Lib.join (nm :: ws.map wordB) [32] ++ e) := by
  obtain ⟨h1, h2⟩ := tail_clean e he hne ws hw
  obtain ⟨c, r, rfl, h3, h4⟩ := name_parts nm hn
  have heq : Lib.join ((c :: r) :: ws.map wordB) [32] ++ e = (c :: r) ++ (Lib.joinTail [32] (ws.map wordB) ++ e) := by rw [Lib.join_cons, List.append_assoc]
  rw [heq]
  refine ⟨clean_all _ _ h4 h1, ⟨c, _, rfl, (inner_facts c h3).2.1⟩, fun x hx => ?_⟩
  rcases List.mem_append.1 hx with hx | hx
  · exact (inner_facts x (List.all_eq_true.1 h4 x hx)).1
  · exact h2 x hx

/-! ### Each line is as it may be -/
/-- A line at so many open blocks, and how many are open behind it. -/
structure LineP (d : Int) (ln : Bytes) (d' : Int) : Prop where
  ex : ∃ (mg : Nat) (u : Bytes) (last : UInt8) (dd : Int), ln = List.replicate mg 32 ++ u ∧ bodyOk u ∧ u.getLast? = some last ∧ dd = (if last = 125 then d - 1 else d) ∧ (mg : Int) = 2 * dd ∧ (last = 125 ∨ last = 123 ∨ last = 59) ∧ d' = (if last = 123 then dd + 1 else dd)
inductive Scan : Int → Bytes → Bytes → Prop
  | done : Scan 0 [] []
  | more {d : Int} {ln r : Bytes} {c : UInt8} : c ≠ 10 → Scan d (ln ++ [c]) r → Scan d ln (c :: r)
  | line {d d' : Int} {ln r : Bytes} : LineP d ln d' → Scan d' [] r → Scan d ln (10 :: r)
theorem scan_app {d : Int} : ∀ (u ln r : Bytes), (∀ c ∈ u, c ≠ 10) → Scan d (ln ++ u) r → Scan d ln (u ++ r)
  | [], ln, r, _, h => by simpa using h
  | c :: u, ln, r, hu, h => by
    refine Scan.more (hu c (by simp)) (scan_app u (ln ++ [c]) r (fun x hx => hu x (by simp [hx])) ?_)
    simpa using h
theorem scan_line (d : Int) (k : Nat) (u : Bytes) (d' : Int) (rest : Bytes) (hu : bodyOk u) (hp : LineP d (List.replicate k 32 ++ u) d') (h : Scan d' [] rest) : Scan d [] (List.replicate k 32 ++ (u ++ (10 :: rest))) := by
  have := scan_app (d := d) (List.replicate k 32 ++ u) [] (10 :: rest) (fun c hc => by
    rcases List.mem_append.1 hc with hc | hc
    · rw [List.mem_replicate] at hc; rw [hc.2]; decide
    · exact hu.2.2 c hc) (by rw [List.nil_append]; exact Scan.line hp h)
  simpa using this

mutual
theorem scan_node : ∀ (n : NodeL) (d : Nat) (rest : Bytes), checkN d n = 0 → Scan d [] rest → Scan d [] (printN d n ++ rest)
  | .mk nm p ws b ks, d, rest, h, hr => by
    obtain ⟨h1, h2⟩ := check_head d nm p ws b ks h
    obtain ⟨_, _, _, h6⟩ := check_parts d nm p ws b ks h
    cases b
    · have hb := body_words nm ws [59] h2 h1 ⟨by decide, by decide⟩ (by decide)
      have := scan_line d (2 * d) (Lib.join (nm :: ws.map wordB) [32] ++ [59]) d rest hb ⟨2 * d, _, 59, d, rfl, hb, by simp, by simp, by omega, by simp, by simp⟩ hr
      simpa [printN, lineB] using this
    · have hb := body_words nm ws [32, 123] h2 h1 ⟨by decide, by decide, by decide, by decide, by decide⟩ (by decide)
      have hc : bodyOk [125] := ⟨⟨by decide, by decide⟩, ⟨125, [], rfl, by decide⟩, by decide⟩
      have h3 := scan_line ((d : Int) + 1) (2 * d) [125] d rest hc ⟨2 * d, _, 125, d, rfl, hc, by simp, by simp, by omega, by simp, by simp⟩ hr
      have h4 := scan_nodes ks (d + 1) _ h6 (by simpa using h3)
      have h5 := scan_line d (2 * d) (Lib.join (nm :: ws.map wordB) [32] ++ [32, 123]) ((d : Int) + 1) _ hb ⟨2 * d, _, 123, d, rfl, hb, by simp, by simp, by omega, by simp, by simp⟩ (by simpa using h4)
      simpa [printN, lineB, Lib.join_nil] using h5
theorem scan_nodes : ∀ (l : List NodeL) (d : Nat) (rest : Bytes), checkL d l = 0 → Scan d [] rest → Scan d [] (printL d l ++ rest)
  | [], d, rest, _, hr => by simpa [printL] using hr
  | n :: r, d, rest, h, hr => by
    obtain ⟨h1, h2⟩ := checkL_cons d n r h
    have := scan_node n d (printL d r ++ rest) h1 (scan_nodes r d rest h2 hr)
    simpa [printL] using this
end
theorem canon_scan (s : Bytes) (h : (canonL s).2.2 = 0) : Scan 0 [] (canonL s).1 := by
  unfold canonL at h ⊢
  by_cases he : (treeL s).err ≠ 0
  · rw [if_pos he] at h; exact absurd h he
  rw [if_neg he] at h ⊢
  simp only at h ⊢
  obtain ⟨h1, _, _, h4⟩ := lay_ok _ h
  rw [h4]
  have := scan_nodes (treeL s).nodes 0 [] h1 Scan.done
  simpa using this

/-! ### Two blanks more in each line -/
def indB : Bool → Bytes → Bytes
  | _, [] => []
  | true, c :: r => 32 :: 32 :: c :: indB (c == 10) r
  | false, c :: r => c :: indB (c == 10) r
theorem ind_false : ∀ (u r : Bytes), (∀ c ∈ u, c ≠ 10) → indB false (u ++ r) = u ++ indB false r
  | [], r, _ => rfl
  | c :: u, r, h => by
    have hc : (c == 10) = false := beq_false_of_ne (h c (by simp))
    rw [List.cons_append, indB, hc, ind_false u r (fun x hx => h x (by simp [hx]))]
    rfl
theorem ind_line (u r : Bytes) (hu : ∀ c ∈ u, c ≠ 10) (hne : u ≠ []) : indB true (u ++ (10 :: r)) = 32 :: 32 :: u ++ 10 :: indB true r := by
  cases u with
  | nil => exact absurd rfl hne
  | cons c u =>
    have hc : (c == 10) = false := beq_false_of_ne (hu c (by simp))
    rw [List.cons_append, indB, hc, ind_false u _ (fun x hx => hu x (by simp [hx])), indB]
    rfl
theorem ind_lineB (d : Nat) (ws : List Bytes) (e r : Bytes) (hu : ∀ c ∈ Lib.join ws [32] ++ e, c ≠ 10) (hne : e ≠ []) : indB true (lineB d ws e ++ r) = lineB (d + 1) ws e ++ indB true r := by
  have h1 := ind_line (List.replicate (2 * d) 32 ++ (Lib.join ws [32] ++ e)) r (fun c hc => by
    rcases List.mem_append.1 hc with hc | hc
    · rw [List.mem_replicate] at hc; rw [hc.2]; decide
    · exact hu c hc) (by simp [hne])
  have e1 : lineB d ws e ++ r = (List.replicate (2 * d) 32 ++ (Lib.join ws [32] ++ e)) ++ (10 :: r) := by simp [lineB]
  rw [e1, h1]
  simp [lineB, show 2 * (d + 1) = 2 * d + 1 + 1 by omega, List.replicate_succ]
mutual
theorem ind_node : ∀ (n : NodeL) (d d' : Nat) (r : Bytes), checkN d' n = 0 → indB true (printN d n ++ r) = printN (d + 1) n ++ indB true r
  | .mk nm p ws b ks, d, d', r, h => by
    obtain ⟨h1, h2⟩ := check_head d' nm p ws b ks h
    obtain ⟨_, _, _, h6⟩ := check_parts d' nm p ws b ks h
    cases b
    · have hb := body_words nm ws [59] h2 h1 ⟨by decide, by decide⟩ (by decide)
      simp only [printN, Bool.false_eq_true, if_false]
      exact ind_lineB d _ _ r hb.2.2 (by decide)
    · have hb := body_words nm ws [32, 123] h2 h1 ⟨by decide, by decide, by decide, by decide, by decide⟩ (by decide)
      simp only [printN, if_true, List.append_assoc]
      rw [ind_lineB d _ _ _ hb.2.2 (by decide), ind_nodes ks (d + 1) (d' + 1) _ h6, ind_lineB d [] [125] r (by simp [Lib.join_nil]) (by decide)]
theorem ind_nodes : ∀ (l : List NodeL) (d d' : Nat) (r : Bytes), checkL d' l = 0 → indB true (printL d l ++ r) = printL (d + 1) l ++ indB true r
  | [], d, d', r, _ => rfl
  | n :: l, d, d', r, h => by
    obtain ⟨h1, h2⟩ := checkL_cons d' n l h
    simp only [printL, List.append_assoc]
    rw [ind_node n d d' _ h1, ind_nodes l d d' r h2]
end

/-! ### Items behind one another, and in a block -/
theorem checkL_app (d : Nat) : ∀ l m : List NodeL, checkL d (l ++ m) = if checkL d l ≠ 0 then checkL d l else checkL d m
  | [], m => by simp [checkL]
  | n :: r, m => by
    simp only [List.cons_append, checkL, checkL_app d r m]
    by_cases h : checkN d n ≠ 0
    · simp [h]
    · have h0 : checkN d n = 0 := by simpa using h
      simp [h0]
theorem ndL_app : ∀ l m : List NodeL, ndL (l ++ m) = ndL l + ndL m
  | [], m => by simp [ndL]
  | n :: r, m => by simp only [List.cons_append, ndL, ndL_app r m]; omega
theorem deepN_le (n : NodeL) (d : Nat) (hd : d ≤ 6) (h : checkN d n = 0) : deepN n + d ≤ 6 := by
  have := deep_le [n] d hd (by simp [checkL, h])
  simp only [deepL] at this
  omega
def dpI (a d : Nat) : Int := if a + d = 6 then 7 else 0
theorem dpI_yes {a d : Nat} (h : a + d = 6) : dpI a d = 7 := by unfold dpI; rw [if_pos h]
theorem dpI_no {a d : Nat} (h : ¬ a + d = 6) : dpI a d = 0 := by unfold dpI; rw [if_neg h]
mutual
theorem deeper_n : ∀ (n : NodeL) (d : Nat), d < 6 → checkN d n = 0 → checkN (d + 1) n = dpI (deepN n) d
  | .mk nm p ws b ks, d, hd, h => by
    obtain ⟨h1, h2⟩ := check_head d nm p ws b ks h
    obtain ⟨h3, h4, h5, h6⟩ := check_parts d nm p ws b ks h
    have hz : (!ws.all wordOk || !nameL nm || decide (8 < ws.length) || (!b && decide (0 < ks.length))) = false := by
      rw [h1, h2]
      cases b
      · rw [h4 rfl]; simp; omega
      · simp; omega
    simp only [checkN, hz, Bool.false_eq_true, if_false]
    cases b
    · rw [h4 rfl]
      simp [checkL]
      rw [dpI_no (by simp [deepN, deepL]; omega)]
    · simp only [true_and]
      have hdn : deepN (.mk nm p ws true ks) = deepL ks + 1 := by simp [deepN]
      rw [hdn]
      by_cases h55 : d + 1 = 6
      · have := deep_le ks (d + 1) (by omega) h6
        rw [if_pos h55, dpI_yes (by omega)]
      · rw [if_neg h55, deeper_l ks (d + 1) (by omega) h6]
        by_cases hx : deepL ks + (d + 1) = 6
        · rw [dpI_yes hx, dpI_yes (by omega)]
        · rw [dpI_no hx, dpI_no (by omega)]
theorem deeper_l : ∀ (l : List NodeL) (d : Nat), d < 6 → checkL d l = 0 → checkL (d + 1) l = dpI (deepL l) d
  | [], d, hd, h => by
    rw [dpI_no (by simp [deepL]; omega)]
    simp [checkL]
  | n :: r, d, hd, h => by
    obtain ⟨h1, h2⟩ := checkL_cons d n r h
    have a1 := deepN_le n d (by omega) h1
    have a2 := deep_le r d (by omega) h2
    have e1 := deeper_n n d hd h1
    have e2 := deeper_l r d hd h2
    have e3 : deepL (n :: r) = max (deepN n) (deepL r) := by simp [deepL]
    have m1 : deepN n ≤ max (deepN n) (deepL r) := Nat.le_max_left _ _
    have m2 : deepL r ≤ max (deepN n) (deepL r) := Nat.le_max_right _ _
    have m3 : max (deepN n) (deepL r) = deepN n ∨ max (deepN n) (deepL r) = deepL r := by
      rcases Nat.le_total (deepN n) (deepL r) with hle | hle
      · exact Or.inr (Nat.max_eq_right hle)
      · exact Or.inl (Nat.max_eq_left hle)
    rw [e3]
    generalize max (deepN n) (deepL r) = M at m1 m2 m3 ⊢
    simp only [checkL, e1, e2]
    by_cases hx : deepN n + d = 6
    · rw [dpI_yes hx, if_pos (by decide), dpI_yes (by omega)]
    · rw [dpI_no hx]
      simp only [ne_eq, not_true_eq_false, if_false]
      by_cases hy : deepL r + d = 6
      · rw [dpI_yes hy, dpI_yes (by omega)]
      · rw [dpI_no hy, dpI_no (by omega)]
end

/-- Of two lists, one behind the other, what Print tells. -/
theorem lay_two (l m : List NodeL) (hl : ndL l ≤ 60) (hm : ndL m ≤ 60) :
    ((layL l).2 ≠ 0 → layL (l ++ m) = ([], (layL l).2)) ∧ ((layL l).2 = 0 → (layL m).2 ≠ 0 → layL (l ++ m) = ([], (layL m).2)) ∧
    ((layL l).2 = 0 → (layL m).2 = 0 → layL (l ++ m) = ((layL l).1 ++ (layL m).1, 0)) := by
  obtain ⟨a1, a2, a3⟩ := few_lay l 60 (by omega) hl
  obtain ⟨b1, b2, b3⟩ := few_lay m 60 (by omega) hm
  obtain ⟨c1, c2, c3⟩ := few_lay (l ++ m) 120 (by omega) (by rw [ndL_app]; omega)
  rw [checkL_app] at c1
  refine ⟨fun h => ?_, fun h h' => ?_, fun h h' => ?_⟩
  · rw [a1] at h
    rw [if_pos h, ← a1] at c1
    rw [← a1] at h
    exact Prod.ext (c2 (by rw [c1]; exact h)) c1
  · rw [a1] at h
    rw [if_neg (by simp [h]), ← b1] at c1
    exact Prod.ext (c2 (by rw [c1]; exact h')) c1
  · have h0 := h
    have h1 := h'
    rw [a1] at h
    rw [b1] at h'
    rw [if_neg (by simp [h]), h'] at c1
    rw [c3 c1, a3 h0, b3 h1, printL_append]
/-- In a block they are written with two blanks more, or they stand too deep. -/
theorem lay_block (l : List NodeL) (hl : ndL l ≤ 60) (h : (layL l).2 = 0) :
    (deepL l = 6 → layL [.mk [120] 0 [] true l] = ([], 7)) ∧ (deepL l ≠ 6 → layL [.mk [120] 0 [] true l] = ([120, 32, 123, 10] ++ indB true (layL l).1 ++ [125, 10], 0)) := by
  obtain ⟨a1, a2, a3⟩ := few_lay l 60 (by omega) hl
  obtain ⟨c1, c2, c3⟩ := few_lay [.mk [120] 0 [] true l] 120 (by omega) (by simp [ndL, ndN]; omega)
  have hc : checkL 0 l = 0 := by rw [← a1]; exact h
  have hx : checkL 0 [.mk [120] 0 [] true l] = checkL 1 l := by
    have hn : checkN 0 (.mk [120] 0 [] true l) = checkL 1 l := by
      have hz : (!([] : List WordL).all wordOk || !nameL [120] || decide (8 < ([] : List WordL).length) || (!true && decide (0 < l.length))) = false := by simp; decide
      simp only [checkN, hz, Bool.false_eq_true, if_false]
      rw [if_neg (by simp)]
    have hl1 : checkL 0 [NodeL.mk [120] 0 [] true l] = if checkN 0 (.mk [120] 0 [] true l) ≠ 0 then checkN 0 (.mk [120] 0 [] true l) else 0 := by simp only [checkL]
    rw [hl1, hn]
    by_cases h1 : checkL 1 l = 0
    · rw [h1]; simp
    · rw [if_pos h1]
  have hd := deeper_l l 0 (by omega) hc
  rw [hx, hd] at c1
  refine ⟨fun h6 => ?_, fun h6 => ?_⟩
  · rw [dpI_yes (by omega)] at c1
    exact Prod.ext (c2 (by rw [c1]; decide)) c1
  · rw [dpI_no (by omega)] at c1
    rw [c3 c1, a3 h]
    have hi := ind_nodes l 0 0 [] hc
    rw [List.append_nil] at hi
    rw [hi]
    simp [printL, printN, lineB, Lib.join_cons, Lib.join_nil, Lib.joinTail, indB]

end Go.Proofs.YtaffbnjdlgcaiaaDoor
