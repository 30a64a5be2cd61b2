/- Layer 9 (tree), plain laws. No program in sight. -/
import Derived.Test.YtjbniichcopnlaaTreeSpec
namespace Go.Proofs.Ytjbniichcopnlaa

/-! ### What Cut tells -/
/-- A token that Cut could tell, its place aside. -/
def tokOk (t : Tok) : Bool :=
  if t.kind = 1 then nameL t.s && decide (t.n = 0)
  else if t.kind = 2 then decide (0 ≤ t.n) && decide (t.n ≤ 999999999) && decide (t.s = [])
  else (decide (t.kind = 3) || decide (t.kind = 4) || decide (t.kind = 5)) && decide (t.n = 0) && decide (t.s = [])

theorem numberL_ok (u : Bytes) (h : (numberL u).2.2 = 0) : 0 ≤ (numberL u).1 ∧ (numberL u).1 ≤ 999999999 := by
  unfold numberL at h ⊢
  dsimp only at h ⊢
  split at h
  · simp at h
  split at h
  · simp at h
  split at h
  · simp at h
  rename_i a1 a2 a3
  rw [if_neg a1, if_neg a2, if_neg a3]
  have hall := runL_all isDigit u
  have hb := numL_lt (u.take (runL isDigit u)) (runL isDigit u) hall (by rw [List.length_take]; omega)
  rw [List.take_take, Nat.min_self] at hb
  exact hb

theorem tokenL_ok (l : Bytes) (cnt : Nat) (hl : l ≠ []) (he : (tokenL l cnt).2.2 = 0) (p : Int) : tokOk { (tokenL l cnt).1 with pos := p } = true := by
  cases l with
  | nil => exact absurd rfl hl
  | cons c r =>
    rw [tokenL_def] at he ⊢
    split at he
    · simp at he
    rename_i a1
    rw [if_neg a1]
    split at he
    · simp at he
    rename_i a2
    rw [if_neg a2]
    split at he
    · rename_i a3
      rw [if_pos a3]
      unfold signK at a3 ⊢
      by_cases h1 : c = 123
      · subst h1; rfl
      by_cases h2 : c = 125
      · subst h2; rfl
      by_cases h3 : c = 59
      · subst h3; rfl
      rw [if_neg h1, if_neg h2, if_neg h3] at a3
      exact absurd rfl a3
    rename_i a3
    rw [if_neg a3]
    split at he
    · rename_i a4
      rw [if_pos a4]
      obtain ⟨h1, h2⟩ := numberL_ok (c :: r) he
      simp [tokOk, h1, h2]
    rename_i a4
    rw [if_neg a4]
    split at he
    · simp at he
    rename_i a5
    rw [if_neg a5]
    have hlt : isLetter c = true := by
      cases hl : isLetter c
      · exact absurd ⟨by simpa using a3, hl, by simpa using a4⟩ a1
      · rfl
    have hin : isInner c = true := by simp [isInner, hlt]
    have hall := runL_all isInner (c :: r)
    have hlen : ((c :: r).take (runL isInner (c :: r))).length ≤ 16 := by rw [List.length_take]; omega
    obtain ⟨m, hm⟩ : ∃ m, runL isInner (c :: r) = m + 1 := ⟨runL isInner (c :: r) - 1, by have := runL_head isInner c r hin; omega⟩
    rw [hm] at hall hlen ⊢
    rw [List.take_succ_cons] at hall hlen ⊢
    simp only [tokOk, if_true, nameL, decide_true, Bool.and_true, hlt, hall, Bool.and_self, decide_eq_true hlen]

theorem cutM_tokOk : ∀ (b : Bool) (j pos cnt : Nat) (l : Bytes), ∀ t ∈ (cutM b j pos cnt l).toks, tokOk t = true
  | b, j, pos, cnt, [], t, h => by rw [cutM_nil] at h; simp at h
  | b, j + 1, pos, cnt, c :: r, t, h => by
    have e1 : cutM b (j + 1) pos cnt (c :: r) = cutM b j (pos + 1) cnt r := by cases b <;> rfl
    rw [e1] at h
    exact cutM_tokOk b j (pos + 1) cnt r t h
  | true, 0, pos, cnt, c :: r, t, h => cutM_tokOk (notEol c) 0 (pos + 1) cnt r t h
  | false, 0, pos, cnt, c :: r, t, h => by
    rw [cutM] at h
    split at h
    · exact cutM_tokOk false 0 (pos + 1) cnt r t h
    split at h
    · exact cutM_tokOk true 0 (pos + 1) cnt r t h
    dsimp only at h
    split at h
    · simp at h
    · rename_i he
      have he0 : (tokenL (c :: r) cnt).2.2 = 0 := by simpa using he
      unfold CutRes.cons at h
      split at h
      · simp only [List.mem_cons] at h
        rcases h with rfl | h
        · exact tokenL_ok (c :: r) cnt (by simp) he0 _
        · exact cutM_tokOk false _ (pos + 1) (cnt + 1) r t h
      · exact cutM_tokOk false _ (pos + 1) (cnt + 1) r t h

theorem cutL_tokOk (s : Bytes) : ∀ t ∈ (cutL s).toks, tokOk t = true := by
  unfold cutL
  split
  · intro t h; simp at h
  · exact cutM_tokOk _ _ _ _ _

/-- Each token's place lies within the text. -/
theorem cutM_posLt : ∀ (b : Bool) (j pos cnt : Nat) (l : Bytes), ∀ t ∈ (cutM b j pos cnt l).toks, (pos : Int) ≤ t.pos ∧ t.pos < pos + l.length
  | b, j, pos, cnt, [], t, h => by rw [cutM_nil] at h; simp at h
  | b, j + 1, pos, cnt, c :: r, t, h => by
    have e1 : cutM b (j + 1) pos cnt (c :: r) = cutM b j (pos + 1) cnt r := by cases b <;> rfl
    rw [e1] at h
    have := cutM_posLt b j (pos + 1) cnt r t h
    rw [List.length_cons]; omega
  | true, 0, pos, cnt, c :: r, t, h => by
    have := cutM_posLt (notEol c) 0 (pos + 1) cnt r t h
    rw [List.length_cons]; omega
  | false, 0, pos, cnt, c :: r, t, h => by
    rw [cutM] at h
    split at h
    · have := cutM_posLt false 0 (pos + 1) cnt r t h
      rw [List.length_cons]; omega
    split at h
    · have := cutM_posLt true 0 (pos + 1) cnt r t h
      rw [List.length_cons]; omega
    dsimp only at h
    split at h
    · simp at h
    · unfold CutRes.cons at h
      split at h
      · simp only [List.mem_cons] at h
        rcases h with rfl | h
        · simp only [List.length_cons]; omega
        · have := cutM_posLt false _ (pos + 1) (cnt + 1) r t h
          rw [List.length_cons]; omega
      · have := cutM_posLt false _ (pos + 1) (cnt + 1) r t h
        rw [List.length_cons]; omega

theorem cutL_posLt (s : Bytes) : ∀ t ∈ (cutL s).toks, 0 ≤ t.pos ∧ t.pos < s.length := by
  unfold cutL
  split
  · intro t h; simp at h
  · intro t h; have := cutM_posLt _ _ _ _ _ t h; omega

/-! ### The tokens of items -/
/-- A token without its place. -/
def Tok.bare0 (t : Tok) : Tok := { t with pos := 0 }
def wordT (w : WordL) : Tok := if w.num then ⟨2, 0, w.n, []⟩ else ⟨1, 0, 0, w.s⟩
mutual
def flatN : NodeL → List Tok
  | .mk nm _ ws b ks => ⟨1, 0, 0, nm⟩ :: (ws.map wordT ++ (if b then ⟨3, 0, 0, []⟩ :: (flatL ks ++ [⟨4, 0, 0, []⟩]) else [⟨5, 0, 0, []⟩]))
def flatL : List NodeL → List Tok
  | [] => []
  | n :: r => flatN n ++ flatL r
end
theorem flatL_append : ∀ (l m : List NodeL), flatL (l ++ m) = flatL l ++ flatL m
  | [], m => by simp [flatL]
  | n :: r, m => by simp only [List.cons_append, flatL, flatL_append r m, List.append_assoc]

/-- The tokens that open a block, and those that stand in it so far. -/
def flatF : List FrameL → List Tok
  | [] => []
  | [f] => flatL f.kids
  | f :: g :: r => flatF (g :: r) ++ (⟨1, 0, 0, f.name⟩ :: (f.words.map wordT ++ [⟨3, 0, 0, []⟩])) ++ flatL f.kids
def flatI : Option ItemL → List Tok
  | none => []
  | some i => ⟨1, 0, 0, i.name⟩ :: i.words.map wordT

theorem flatF_add (f : FrameL) (r : List FrameL) (n : NodeL) : flatF (f.add n :: r) = flatF (f :: r) ++ flatN n := by
  cases r with
  | nil => simp [flatF, FrameL.add, flatL_append, flatL]
  | cons g r => simp [flatF, FrameL.add, flatL_append, flatL]

/-- A token that is read is told by what is read. -/
theorem step_flat (fs : List FrameL) (it : Option ItemL) (t : Tok) (fs' : List FrameL) (it' : Option ItemL) (hne : fs ≠ []) (ht : tokOk t = true) (h : stepT fs it t = .fine fs' it') :
    flatF fs' ++ flatI it' = flatF fs ++ flatI it ++ [t.bare0] ∧ fs' ≠ [] := by
  obtain ⟨K, P, N, S⟩ := t
  cases it with
  | none =>
    simp only [stepT, beginT] at h
    split at h
    · rename_i h1
      simp only [StepR.fine.injEq] at h
      obtain ⟨rfl, rfl⟩ := h
      subst h1
      simp only [tokOk, if_true, Bool.and_eq_true, decide_eq_true_eq] at ht
      obtain ⟨_, rfl⟩ := ht
      exact ⟨by simp [flatI, Tok.bare0], hne⟩
    split at h
    · rename_i h1
      subst h1
      split at h
      · rename_i f g r
        simp only [StepR.fine.injEq] at h
        obtain ⟨rfl, rfl⟩ := h
        simp only [tokOk] at ht
        simp at ht
        obtain ⟨rfl, rfl⟩ := ht
        refine ⟨?_, by simp⟩
        rw [flatF_add]
        simp [flatF, flatI, FrameL.node, flatN, Tok.bare0]
      · cases h
    · cases h
  | some i =>
    simp only [stepT, goT] at h
    split at h
    · rename_i h1
      split at h
      · cases h
      simp only [StepR.fine.injEq] at h
      obtain ⟨rfl, rfl⟩ := h
      refine ⟨?_, hne⟩
      rcases h1 with h1 | h1
      · have h1 : K = 1 := h1
        subst h1
        simp only [tokOk, if_true, Bool.and_eq_true, decide_eq_true_eq] at ht
        obtain ⟨_, rfl⟩ := ht
        simp [flatI, Tok.bare0, wordT]
      · have h1 : K = 2 := h1
        subst h1
        simp only [tokOk] at ht
        simp at ht
        obtain ⟨_, rfl⟩ := ht
        simp [flatI, Tok.bare0, wordT]
    rename_i h12
    split at h
    · rename_i h1
      have h1 : K = 5 := h1
      subst h1
      simp only [tokOk] at ht
      simp at ht
      obtain ⟨rfl, rfl⟩ := ht
      split at h
      · simp only [StepR.fine.injEq] at h
        obtain ⟨rfl, rfl⟩ := h
        refine ⟨?_, by simp⟩
        rw [flatF_add]
        simp [flatI, ItemL.node, flatN, Tok.bare0]
      · cases h
    split at h
    · rename_i h1
      have h1 : K = 3 := h1
      subst h1
      simp only [tokOk] at ht
      simp at ht
      obtain ⟨rfl, rfl⟩ := ht
      split at h
      · cases h
      simp only [StepR.fine.injEq] at h
      obtain ⟨rfl, rfl⟩ := h
      refine ⟨?_, by simp⟩
      cases fs with
      | nil => exact absurd rfl hne
      | cons g r => simp [flatF, flatI, flatL, Tok.bare0]
    · cases h

theorem parse_flat (E : Int) (hE : 0 ≤ E) : ∀ (ts : List Tok) (fs : List FrameL) (it : Option ItemL), fs ≠ [] → (∀ t ∈ ts, tokOk t = true) → (parseT E fs it ts).err = 0 → (∀ e, ∀ f i t, stepT f i t = .bad e → e ≠ 0) →
    flatL (parseT E fs it ts).nodes = flatF fs ++ flatI it ++ ts.map Tok.bare0 ∧ (parseT E fs it ts).pos = 0
  | [], fs, it, hne, _, h, _ => by
    unfold parseT at h ⊢
    unfold endT at h ⊢
    split at h
    · simp [flatF, flatI]
    · simp at h
  | t :: ts, fs, it, hne, hok, h, hbad => by
    unfold parseT at h ⊢
    split at h
    · rename_i e he
      exact absurd h (hbad e _ _ _ he)
    · rename_i fs' it' he
      obtain ⟨h1, h2⟩ := step_flat fs it t fs' it' hne (hok t (by simp)) he
      obtain ⟨h3, h4⟩ := parse_flat E hE ts fs' it' h2 (fun t ht => hok t (by simp [ht])) h hbad
      refine ⟨?_, h4⟩
      rw [h3, h1]
      simp

theorem step_bad (e : Int) (fs : List FrameL) (it : Option ItemL) (t : Tok) (h : stepT fs it t = .bad e) : e = 5 ∨ e = 6 ∨ e = 7 := by
  cases it with
  | none =>
    simp only [stepT, beginT] at h
    repeat' split at h
    all_goals first | (cases h; simp; done) | cases h
  | some i =>
    simp only [stepT, goT] at h
    repeat' split at h
    all_goals first | (cases h; simp; done) | cases h
theorem step_bad0 (e : Int) (fs : List FrameL) (it : Option ItemL) (t : Tok) (h : stepT fs it t = .bad e) : e ≠ 0 := by
  have := step_bad e fs it t h; omega

theorem treeL_err0 (s : Bytes) (h : (treeL s).err = 0) : (cutL s).err = 0 ∧ treeL s = parseT s.length [rootF] none (cutL s).toks := by
  unfold treeL at h ⊢
  split at h
  · rename_i he; exact absurd h he
  · rename_i he; rw [if_neg he]; exact ⟨by simpa using he, rfl⟩

/-- The tokens of what is told are those of the text. -/
theorem tokens_law (s : Bytes) (h : (treeL s).err = 0) : (cutL s).err = 0 ∧ (treeL s).pos = 0 ∧ flatL (treeL s).nodes = (cutL s).toks.map Tok.bare0 := by
  obtain ⟨h1, h2⟩ := treeL_err0 s h
  rw [h2] at h ⊢
  obtain ⟨h3, h4⟩ := parse_flat s.length (by omega) (cutL s).toks [rootF] none (by simp) (cutL_tokOk s) h step_bad0
  refine ⟨h1, h4, ?_⟩
  rw [h3]
  simp [flatF, flatI, rootF, flatL]

/-- An error is told within the text, and nothing else. -/
theorem parse_err (E : Int) : ∀ (ts : List Tok) (fs : List FrameL) (it : Option ItemL), (parseT E fs it ts).err ≠ 0 → (parseT E fs it ts).nodes = [] ∧ ((parseT E fs it ts).pos = E ∨ ∃ t ∈ ts, (parseT E fs it ts).pos = t.pos)
  | [], fs, it, h => by
    unfold parseT at h ⊢
    unfold endT at h ⊢
    split at h
    · simp at h
    · exact ⟨rfl, .inl rfl⟩
  | t :: ts, fs, it, h => by
    unfold parseT at h ⊢
    split at h
    · exact ⟨rfl, .inr ⟨t, by simp, rfl⟩⟩
    · obtain ⟨h1, h2⟩ := parse_err E ts _ _ h
      refine ⟨h1, ?_⟩
      rcases h2 with h2 | ⟨u, hu, h2⟩
      · exact .inl h2
      · exact .inr ⟨u, by simp [hu], h2⟩

theorem tree_err (s : Bytes) (hs : s.length ≤ 65536) (h : (treeL s).err ≠ 0) : (treeL s).nodes = [] ∧ 0 ≤ (treeL s).pos ∧ (treeL s).pos ≤ s.length := by
  unfold treeL at h ⊢
  by_cases he : (cutL s).err ≠ 0
  · rw [if_pos he]
    unfold cutL at he ⊢
    rw [if_neg (by omega)] at he ⊢
    obtain ⟨q, h1, _, h3, _⟩ := cutM_before false 0 0 0 s he
    exact ⟨rfl, by simp only; omega, by simp only; omega⟩
  · rw [if_neg he] at h ⊢
    obtain ⟨h1, h2⟩ := parse_err s.length _ _ _ h
    refine ⟨h1, ?_⟩
    rcases h2 with h2 | ⟨u, hu, h2⟩
    · omega
    · have := cutL_posLt s u hu; omega

end Go.Proofs.Ytjbniichcopnlaa
