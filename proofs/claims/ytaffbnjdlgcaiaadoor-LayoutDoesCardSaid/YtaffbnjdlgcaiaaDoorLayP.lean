/- Layer 10 (layout), in plain Lean: how items are written, and that what is written is cut into the items' tokens. No program in sight. -/
import Derived.Test.YtaffbnjdlgcaiaaDoorCutP
import Derived.Test.YtaffbnjdlgcaiaaDoorTreeR0
namespace Go.Proofs.YtaffbnjdlgcaiaaDoor

def wordB (w : WordL) : Bytes := if w.num then Lib.itoa w.n else w.s
def lineB (d : Nat) (ws : List Bytes) (e : Bytes) : Bytes := List.replicate (2 * d) 32 ++ (Lib.join ws [32] ++ (e ++ [10]))

mutual
def printN (d : Nat) : NodeL → Bytes
  | .mk nm _ ws b ks => if b then lineB d (nm :: ws.map wordB) [32, 123] ++ (printL (d + 1) ks ++ lineB d [] [125]) else lineB d (nm :: ws.map wordB) [59]
def printL (d : Nat) : List NodeL → Bytes
  | [] => []
  | n :: r => printN d n ++ printL d r
end

/-- What Print tells. -/
def layL (l : List NodeL) : Bytes × Int :=
  if checkL 0 l ≠ 0 then ([], checkL 0 l) else if 8192 < (flatL l).length ∨ 65536 < (printL 0 l).length then ([], 6) else (printL 0 l, 0)
/-- What Canon tells. -/
def canonL (s : Bytes) : Bytes × Int × Int :=
  if (treeL s).err ≠ 0 then ([], (treeL s).pos, (treeL s).err) else ((layL (treeL s).nodes).1, 0, (layL (treeL s).nodes).2)

theorem printL_append (d : Nat) : ∀ l m : List NodeL, printL d (l ++ m) = printL d l ++ printL d m
  | [], m => by simp [printL]
  | n :: r, m => by simp only [List.cons_append, printL, printL_append d r m, List.append_assoc]

/-! ### The tokens of a word -/
theorem word_text (w : WordL) (h : wordOk w = true) : textL (wordT w) = (wordB w, true) ∧ (wordT w).bare = wordT w := by
  obtain ⟨nu, n, s, p⟩ := w
  unfold wordOk at h
  cases nu
  · simp only [Bool.false_eq_true, if_false, Bool.and_eq_true, decide_eq_true_eq] at h
    obtain ⟨rfl, h⟩ := h
    simp [wordT, textL, wordB, Tok.bare, h]
  · simp only [if_true, Bool.and_eq_true, decide_eq_true_eq] at h
    obtain ⟨⟨rfl, h1⟩, h2⟩ := h
    simp [wordT, textL, wordB, Tok.bare, h1, h2]

/-! ### Texts that are cut into tokens, whatever stands behind -/
/-- .. behind which something stands that ends a name. -/
def CutsS (u : Bytes) (ts : List Tok) : Prop := ∀ (pos cnt : Nat) (v : Bytes), cnt + ts.length ≤ 8192 → stops v →
  ∃ ps, ps.map Tok.bare = ts ∧ cutM false 0 pos cnt (u ++ v) = (cutM false 0 (pos + u.length) (cnt + ts.length) v).pre ps
/-- .. whatever. -/
def Cuts0 (u : Bytes) (ts : List Tok) : Prop := ∀ (pos cnt : Nat) (v : Bytes), cnt + ts.length ≤ 8192 →
  ∃ ps, ps.map Tok.bare = ts ∧ cutM false 0 pos cnt (u ++ v) = (cutM false 0 (pos + u.length) (cnt + ts.length) v).pre ps

theorem pre_nil (r : CutRes) (h : r.err = 0 → r.pos = 0) : r.pre [] = r := by
  unfold CutRes.pre
  by_cases he : r.err = 0
  · rw [if_pos he]
    obtain ⟨a, b, c⟩ := r
    simp only at he h
    subst he
    rw [h rfl]
    rfl
  · rw [if_neg he]
theorem pre_nil_cut (pos cnt : Nat) (v : Bytes) : (cutM false 0 pos cnt v).pre [] = cutM false 0 pos cnt v := pre_nil _ (cutM_err false 0 pos cnt v).1

theorem Cuts0.s {u : Bytes} {ts : List Tok} (h : Cuts0 u ts) : CutsS u ts := fun pos cnt v hc _ => h pos cnt v hc
theorem Cuts0.app {u u' : Bytes} {ts ts' : List Tok} (h : Cuts0 u ts) (h' : Cuts0 u' ts') : Cuts0 (u ++ u') (ts ++ ts') := by
  intro pos cnt v hc
  rw [List.length_append] at hc
  obtain ⟨ps, e1, e2⟩ := h pos cnt (u' ++ v) (by omega)
  obtain ⟨qs, e3, e4⟩ := h' (pos + u.length) (cnt + ts.length) v (by omega)
  refine ⟨ps ++ qs, by rw [List.map_append, e1, e3], ?_⟩
  rw [List.append_assoc, e2, e4, pre_pre, List.length_append, List.length_append, Nat.add_assoc, Nat.add_assoc]
theorem Cuts0.appS {u u' : Bytes} {ts ts' : List Tok} (h : Cuts0 u ts) (h' : CutsS u' ts') : CutsS (u ++ u') (ts ++ ts') := by
  intro pos cnt v hc hv
  rw [List.length_append] at hc
  obtain ⟨ps, e1, e2⟩ := h pos cnt (u' ++ v) (by omega)
  obtain ⟨qs, e3, e4⟩ := h' (pos + u.length) (cnt + ts.length) v (by omega) hv
  refine ⟨ps ++ qs, by rw [List.map_append, e1, e3], ?_⟩
  rw [List.append_assoc, e2, e4, pre_pre, List.length_append, List.length_append, Nat.add_assoc, Nat.add_assoc]
/-- A text that begins with what ends a name. -/
def halts (u : Bytes) : Prop := ∃ c r, u = c :: r ∧ isInner c = false
theorem halts.stops {u : Bytes} (h : halts u) (v : Bytes) : Go.Proofs.YtaffbnjdlgcaiaaDoor.stops (u ++ v) := by
  obtain ⟨c, r, rfl, hc⟩ := h
  intro c' h'
  simp only [List.cons_append, List.head?_cons, Option.some.injEq] at h'
  subst h'
  exact hc
theorem halts.app {u : Bytes} (h : halts u) (v : Bytes) : halts (u ++ v) := by
  obtain ⟨c, r, rfl, hc⟩ := h
  exact ⟨c, r ++ v, rfl, hc⟩
theorem CutsS.app {u u' : Bytes} {ts ts' : List Tok} (h : CutsS u ts) (h' : CutsS u' ts') (hu : halts u') : CutsS (u ++ u') (ts ++ ts') := by
  intro pos cnt v hc hv
  rw [List.length_append] at hc
  obtain ⟨ps, e1, e2⟩ := h pos cnt (u' ++ v) (by omega) (hu.stops v)
  obtain ⟨qs, e3, e4⟩ := h' (pos + u.length) (cnt + ts.length) v (by omega) hv
  refine ⟨ps ++ qs, by rw [List.map_append, e1, e3], ?_⟩
  rw [List.append_assoc, e2, e4, pre_pre, List.length_append, List.length_append, Nat.add_assoc, Nat.add_assoc]
theorem CutsS.app0 {u u' : Bytes} {ts ts' : List Tok} (h : CutsS u ts) (h' : Cuts0 u' ts') (hu : halts u') : Cuts0 (u ++ u') (ts ++ ts') := by
  intro pos cnt v hc
  rw [List.length_append] at hc
  obtain ⟨ps, e1, e2⟩ := h pos cnt (u' ++ v) (by omega) (hu.stops v)
  obtain ⟨qs, e3, e4⟩ := h' (pos + u.length) (cnt + ts.length) v (by omega)
  refine ⟨ps ++ qs, by rw [List.map_append, e1, e3], ?_⟩
  rw [List.append_assoc, e2, e4, pre_pre, List.length_append, List.length_append, Nat.add_assoc, Nat.add_assoc]

theorem cuts_nil : Cuts0 [] [] := fun pos cnt v _ => ⟨[], rfl, by rw [pre_nil_cut]; rfl⟩
theorem cuts_blank (c : UInt8) (hc : isBlank c = true) : Cuts0 [c] [] := fun pos cnt v _ => ⟨[], rfl, by
  rw [pre_nil_cut]
  show cutM false 0 pos cnt (c :: v) = _
  rw [cutM, if_pos hc]
  rfl⟩
theorem cuts_blanks : ∀ k : Nat, Cuts0 (List.replicate k 32) []
  | 0 => cuts_nil
  | k + 1 => by
    have := (cuts_blank 32 rfl).app (cuts_blanks k)
    simpa [List.replicate_succ] using this
theorem cuts_tok (t : Tok) (h : (textL t).2 = true) : CutsS (textL t).1 [t.bare] := by
  intro pos cnt v hc hv
  simp only [List.length_cons, List.length_nil] at hc
  refine ⟨[{ t.bare with pos := pos }], rfl, ?_⟩
  rw [cut_text t pos cnt v (by omega) h hv, cons_eq_pre]
  unfold CutRes.pre
  by_cases he : (cutM false 0 (pos + (textL t).1.length) (cnt + 1) v).err = 0
  · rw [if_pos he]; simp [he]
  · rw [if_neg he]; simp [he]
theorem cuts_sign (t : Tok) (u : Bytes) (h : textL t = (u, true)) (hb : t.bare = t) : CutsS u [t] := by
  have := cuts_tok t (by rw [h])
  rwa [h, hb] at this

theorem halts_tail (xs : List Bytes) (u : Bytes) (hu : halts u) : halts (Lib.joinTail [32] xs ++ u) := by
  cases xs with
  | nil => simpa [Lib.joinTail] using hu
  | cons x r => exact ⟨32, x ++ (Lib.joinTail [32] r) ++ u, by simp [Lib.joinTail], rfl⟩
theorem joinTail_cons (x : Bytes) (r : List Bytes) : Lib.joinTail [32] (x :: r) = [32] ++ (x ++ Lib.joinTail [32] r) := by simp [Lib.joinTail]
/-- Words, each with a blank ahead, and an end that ends a name. -/
theorem cuts_words (u : Bytes) (us : List Tok) (hu : halts u) (hc : Cuts0 u us) : ∀ ws : List WordL, ws.all wordOk = true → Cuts0 (Lib.joinTail [32] (ws.map wordB) ++ u) (ws.map wordT ++ us)
  | [], _ => by simpa [Lib.joinTail] using hc
  | w :: ws, h => by
    simp only [List.all_cons, Bool.and_eq_true] at h
    obtain ⟨h1, h2⟩ := word_text w h.1
    have hw := cuts_sign (wordT w) (wordB w) h1 h2
    have hr := cuts_words u us hu hc ws h.2
    have := (cuts_blank 32 rfl).app (hw.app0 hr (halts_tail _ u hu))
    rw [List.map_cons, joinTail_cons, List.map_cons]
    simpa [List.append_assoc] using this
theorem name_text (nm : Bytes) (h : nameL nm = true) : textL ⟨1, 0, 0, nm⟩ = (nm, true) ∧ (⟨1, 0, 0, nm⟩ : Tok).bare = ⟨1, 0, 0, nm⟩ := by
  simp [textL, Tok.bare, h]
theorem cuts_line (d : Nat) (nm : Bytes) (ws : List WordL) (e : Bytes) (es : List Tok) (hn : nameL nm = true) (hw : ws.all wordOk = true) (he : halts e) (hc : CutsS e es) :
    Cuts0 (lineB d (nm :: ws.map wordB) e) (⟨1, 0, 0, nm⟩ :: (ws.map wordT ++ es)) := by
  obtain ⟨h1, h2⟩ := name_text nm hn
  have hnm := cuts_sign _ nm h1 h2
  have hend := hc.app0 (cuts_blank 10 rfl) ⟨10, [], rfl, rfl⟩
  rw [List.append_nil] at hend
  have := (cuts_blanks (2 * d)).app (hnm.app0 (cuts_words _ es (he.app [10]) hend ws hw) (halts_tail _ _ (he.app [10])))
  unfold lineB
  rw [Lib.join_cons]
  simpa [List.append_assoc] using this

theorem check_head (d : Nat) (nm : Bytes) (p : Int) (ws : List WordL) (b : Bool) (ks : List NodeL) (h : checkN d (.mk nm p ws b ks) = 0) : ws.all wordOk = true ∧ nameL nm = true := by
  simp only [checkN] at h
  by_cases h1 : (!ws.all wordOk || !nameL nm || decide (8 < ws.length) || (!b && decide (0 < ks.length))) = true
  · rw [if_pos h1] at h; simp at h
  · simp only [Bool.not_eq_true, Bool.or_eq_false_iff, Bool.not_eq_false'] at h1
    exact ⟨by simpa using h1.1.1.1, by simpa using h1.1.1.2⟩

mutual
theorem cuts_node : ∀ (n : NodeL) (d : Nat), checkN d n = 0 → Cuts0 (printN d n) (flatN n)
  | .mk nm p ws b ks, d, h => by
    obtain ⟨h1, h2⟩ := check_head d nm p ws b ks h
    obtain ⟨_, _, _, h3⟩ := check_parts d nm p ws b ks h
    cases b
    · simp only [printN, flatN, Bool.false_eq_true, if_false]
      exact cuts_line d nm ws [59] [⟨5, 0, 0, []⟩] h2 h1 ⟨59, [], rfl, rfl⟩ (cuts_sign ⟨5, 0, 0, []⟩ [59] rfl rfl)
    · simp only [printN, flatN, if_true]
      have a1 := cuts_line d nm ws [32, 123] [⟨3, 0, 0, []⟩] h2 h1 ⟨32, [123], rfl, rfl⟩ ((cuts_blank 32 rfl).appS (cuts_sign ⟨3, 0, 0, []⟩ [123] rfl rfl))
      have a2 := cuts_nodes ks (d + 1) h3
      have a3 : Cuts0 (lineB d [] [125]) [⟨4, 0, 0, []⟩] := by
        have := (cuts_blanks (2 * d)).app ((cuts_sign ⟨4, 0, 0, []⟩ [125] rfl rfl).app0 (cuts_blank 10 rfl) ⟨10, [], rfl, rfl⟩)
        simpa [lineB, Lib.join_nil] using this
      have := a1.app (a2.app a3)
      simpa [List.append_assoc] using this
theorem cuts_nodes : ∀ (l : List NodeL) (d : Nat), checkL d l = 0 → Cuts0 (printL d l) (flatL l)
  | [], _, _ => by simpa only [printL, flatL] using cuts_nil
  | n :: r, d, h => by
    obtain ⟨h1, h2⟩ := checkL_cons d n r h
    simp only [printL, flatL]
    exact (cuts_node n d h1).app (cuts_nodes r d h2)
end

/-- What is written is cut into the items' tokens. -/
theorem print_cut (l : List NodeL) (h : checkL 0 l = 0) (h1 : (flatL l).length ≤ 8192) (h2 : (printL 0 l).length ≤ 65536) :
    (cutL (printL 0 l)).err = 0 ∧ (cutL (printL 0 l)).pos = 0 ∧ (cutL (printL 0 l)).toks.map Tok.bare0 = flatL l := by
  obtain ⟨ps, e1, e2⟩ := cuts_nodes l 0 h 0 0 [] (by omega)
  unfold cutL
  rw [if_neg (by omega)]
  rw [List.append_nil] at e2
  rw [e2, cutM_nil]
  refine ⟨rfl, rfl, ?_⟩
  show (ps ++ []).map Tok.bare0 = flatL l
  rw [List.append_nil]
  exact e1

theorem lay_ok (l : List NodeL) (h : (layL l).2 = 0) : checkL 0 l = 0 ∧ (flatL l).length ≤ 8192 ∧ (printL 0 l).length ≤ 65536 ∧ layL l = (printL 0 l, 0) := by
  unfold layL at h ⊢
  by_cases hc : checkL 0 l = 0
  · rw [if_neg (by simp [hc])] at h ⊢
    by_cases hl : 8192 < (flatL l).length ∨ 65536 < (printL 0 l).length
    · rw [if_pos hl] at h; simp at h
    · rw [if_neg hl]
      exact ⟨hc, by omega, by omega, rfl⟩
  · rw [if_pos hc] at h
    exact absurd h hc

end Go.Proofs.YtaffbnjdlgcaiaaDoor
