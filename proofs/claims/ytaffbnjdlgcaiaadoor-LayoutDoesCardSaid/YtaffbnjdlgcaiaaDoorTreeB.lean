/- Layer 9, in plain Lean: items in a block. -/
import Derived.Test.YtaffbnjdlgcaiaaDoorTreeT
import Derived.Test.YtaffbnjdlgcaiaaDoorTreeR1
namespace Go.Proofs.YtaffbnjdlgcaiaaDoor

theorem cut_head (s : Bytes) : cutM false 0 0 0 (120 :: 32 :: 55 :: 32 :: 123 :: s) = .cons ⟨1, 0, 0, [120]⟩ (.cons ⟨2, 2, 7, []⟩ (.cons ⟨3, 4, 0, []⟩ (cutM false 0 5 3 s))) := by
  have t1 : tokenL (120 :: 32 :: 55 :: 32 :: 123 :: s) 0 = (⟨1, 0, 0, [120]⟩, 1, 0) := rfl
  have t2 : tokenL (55 :: 32 :: 123 :: s) 1 = (⟨2, 0, 7, []⟩, 1, 0) := rfl
  have t3 : tokenL (123 :: s) 2 = (⟨3, 0, 0, []⟩, 1, 0) := rfl
  rw [cutM, if_neg (by decide), if_neg (by decide)]
  simp only [t1, ne_eq, not_true_eq_false, if_false, Nat.sub_self]
  rw [cutM, if_pos (by decide), cutM, if_neg (by decide), if_neg (by decide)]
  simp only [t2, ne_eq, not_true_eq_false, if_false, Nat.sub_self]
  rw [cutM, if_pos (by decide), cutM, if_neg (by decide), if_neg (by decide)]
  simp only [t3, ne_eq, not_true_eq_false, if_false, Nat.sub_self]
  rfl

/-- The tokens of a text in a block. -/
theorem cut_block (s : Bytes) (hs : s.length ≤ 200) (he : (cutL s).err = 0) :
    cutL (120 :: 32 :: 55 :: 32 :: 123 :: (s ++ [10, 125])) = ⟨⟨1, 0, 0, [120]⟩ :: ⟨2, 2, 7, []⟩ :: ⟨3, 4, 0, []⟩ :: ((cutL s).toks.map (sT 5) ++ [⟨4, ((s.length + 6 : Nat) : Int), 0, []⟩]), 0, 0⟩ := by
  have e : cutL s = cutM false 0 0 0 s := by unfold cutL; rw [if_neg (by omega)]
  have e3 : cutL (120 :: 32 :: 55 :: 32 :: 123 :: (s ++ [10, 125])) = cutM false 0 0 0 (120 :: 32 :: 55 :: 32 :: 123 :: (s ++ [10, 125])) := by unfold cutL; rw [if_neg (by simp; omega)]
  have hlen := cutM_len false 0 0 0 s
  rw [e] at he ⊢
  have h1 : cutM false 0 5 3 s = (cutM false 0 0 0 s).shift 5 := by
    rw [cutM_cnt false 0 5 3 0 s (by omega) (by omega)]
    have := cutM_shift 5 false 0 0 0 s
    rwa [Nat.zero_add] at this
  have h2 : (cutM false 0 5 3 s) = ⟨(cutM false 0 0 0 s).toks.map (sT 5), 0, 0⟩ := by
    rw [h1]
    unfold CutRes.shift
    rw [if_pos he, he]
    rfl
  have t4 : ∀ p c : Nat, c ≠ 8192 → cutM false 0 p c [125] = ⟨[⟨4, p, 0, []⟩], 0, 0⟩ := by
    intro p c hc
    have t : tokenL [125] c = (⟨4, 0, 0, []⟩, 1, 0) := by
      rw [tokenL_cnt [125] c 0 hc (by decide)]; rfl
    rw [cutM, if_neg (by decide), if_neg (by decide)]
    simp only [t, ne_eq, not_true_eq_false, if_false]
    rfl
  have hq : cutM false 0 5 3 (s ++ [10, 125]) = ⟨(cutM false 0 0 0 s).toks.map (sT 5) ++ [⟨4, ((s.length + 6 : Nat) : Int), 0, []⟩], 0, 0⟩ := by
    have := cutM_app false 0 5 3 s [125] (Nat.zero_le _)
    rw [show s ++ 10 :: [125] = s ++ [10, 125] from rfl] at this
    rw [this, h2, if_pos rfl, t4 _ _ (by simp; omega)]
    unfold CutRes.pre
    simp
    omega
  rw [e3, cut_head, hq]
  unfold CutRes.cons
  simp

/-! ### Tokens that are read, and where one stands then -/
def runT : List FrameL → Option ItemL → List Tok → Option (List FrameL × Option ItemL)
  | fs, it, [] => some (fs, it)
  | fs, it, t :: ts => match stepT fs it t with | .bad _ => none | .fine fs' it' => runT fs' it' ts
theorem parse_run (E : Int) : ∀ (ts us : List Tok) (fs : List FrameL) (it : Option ItemL) (r : List FrameL × Option ItemL), runT fs it ts = some r → parseT E fs it (ts ++ us) = parseT E r.1 r.2 us
  | [], us, fs, it, r, h => by
    rw [runT, Option.some.injEq] at h
    subst h
    rfl
  | t :: ts, us, fs, it, r, h => by
    rw [runT] at h
    rw [List.cons_append, parseT]
    cases hst : stepT fs it t with
    | bad e => rw [hst] at h; cases h
    | fine fs' it' =>
      rw [hst] at h
      exact parse_run E ts us fs' it' r h
theorem run_none (E : Int) : ∀ (ts : List Tok) (fs : List FrameL) (it : Option ItemL), runT fs it ts = none → ∃ t ∈ ts, (parseT E fs it ts).pos = t.pos ∧ (parseT E fs it ts).err ≠ 0
  | [], fs, it, h => by simp [runT] at h
  | t :: ts, fs, it, h => by
    rw [runT] at h
    rw [parseT]
    cases hst : stepT fs it t with
    | bad e => exact ⟨t, by simp, rfl, step_bad0 e fs it t hst⟩
    | fine fs' it' =>
      rw [hst] at h
      obtain ⟨u, hu, h2⟩ := run_none E ts fs' it' h
      exact ⟨u, by simp [hu], h2⟩

/-- How deep blocks stand, those that are open counted. -/
def depF : List FrameL → Nat
  | [] => 0
  | f :: r => max (deepL f.kids + r.length) (depF r)
theorem deepL_app : ∀ l m : List NodeL, deepL (l ++ m) = max (deepL l) (deepL m)
  | [], m => by simp [deepL]
  | n :: r, m => by simp only [List.cons_append, deepL, deepL_app r m]; omega
theorem depF_len (fs : List FrameL) : fs.length ≤ depF fs + 1 := by
  cases fs with
  | nil => simp
  | cons f r => simp only [depF, List.length_cons]; omega
theorem step_dep (fs : List FrameL) (it : Option ItemL) (t : Tok) (fs' : List FrameL) (it' : Option ItemL) (h : stepT fs it t = .fine fs' it') : depF fs' = max (depF fs) (fs'.length - 1) := by
  obtain ⟨tk, tp, tn, ts⟩ := t
  have hlen := depF_len fs
  cases it with
  | none =>
    rw [stepT_none] at h
    split at h
    · simp only [StepR.fine.injEq] at h
      obtain ⟨rfl, rfl⟩ := h
      omega
    split at h
    · split at h
      · rename_i f g r
        simp only [StepR.fine.injEq] at h
        obtain ⟨rfl, rfl⟩ := h
        simp only [depF, FrameL.add, deepL_app, deepL, FrameL.node, deepN, List.length_cons, if_true]
        omega
      · cases h
    · cases h
  | some i =>
    rw [stepT_some] at h
    split at h
    · split at h
      · cases h
      simp only [StepR.fine.injEq] at h
      obtain ⟨rfl, rfl⟩ := h
      omega
    split at h
    · split at h
      · simp only [StepR.fine.injEq] at h
        obtain ⟨rfl, rfl⟩ := h
        simp only [depF, FrameL.add, deepL_app, deepL, ItemL.node, deepN, List.length_cons] at hlen ⊢
        simp
        omega
      · cases h
    split at h
    · split at h
      · cases h
      simp only [StepR.fine.injEq] at h
      obtain ⟨rfl, rfl⟩ := h
      simp only [depF, deepL, List.length_cons]
      omega
    · cases h
theorem run_dep : ∀ (ts : List Tok) (fs : List FrameL) (it : Option ItemL) (r : List FrameL × Option ItemL), runT fs it ts = some r → depF fs ≤ depF r.1
  | [], fs, it, r, h => by
    rw [runT, Option.some.injEq] at h
    subst h
    exact Nat.le_refl _
  | t :: ts, fs, it, r, h => by
    rw [runT] at h
    cases hst : stepT fs it t with
    | bad e => rw [hst] at h; cases h
    | fine fs' it' =>
      rw [hst] at h
      have h1 := run_dep ts fs' it' r h
      have h2 := step_dep fs it t fs' it' hst
      omega

theorem step_len (fs : List FrameL) (it : Option ItemL) (t : Tok) (fs' : List FrameL) (it' : Option ItemL) (h : stepT fs it t = .fine fs' it') : fs'.length ≤ fs.length + 1 := by
  obtain ⟨tk, tp, tn, ts⟩ := t
  cases it with
  | none =>
    rw [stepT_none] at h
    split at h
    · simp only [StepR.fine.injEq] at h
      obtain ⟨rfl, rfl⟩ := h
      omega
    split at h
    · split at h
      · simp only [StepR.fine.injEq] at h
        obtain ⟨rfl, rfl⟩ := h
        simp only [List.length_cons]; omega
      · cases h
    · cases h
  | some i =>
    rw [stepT_some] at h
    split at h
    · split at h
      · cases h
      simp only [StepR.fine.injEq] at h
      obtain ⟨rfl, rfl⟩ := h
      omega
    split at h
    · split at h
      · simp only [StepR.fine.injEq] at h
        obtain ⟨rfl, rfl⟩ := h
        simp only [List.length_cons]; omega
      · cases h
    split at h
    · split at h
      · cases h
      simp only [StepR.fine.injEq] at h
      obtain ⟨rfl, rfl⟩ := h
      simp only [List.length_cons]; omega
    · cases h

/-- The frames moved by five, the outermost one being the block. -/
def sX : List FrameL → List FrameL
  | [] => []
  | [f] => [⟨[120], 0, [⟨true, 7, [], 2⟩], sNs 5 f.kids⟩, rootF]
  | f :: g :: r => sF 5 f :: sX (g :: r)
theorem sX_len : ∀ fs : List FrameL, fs ≠ [] → (sX fs).length = fs.length + 1
  | [], h => absurd rfl h
  | [f], _ => rfl
  | f :: g :: r, _ => by simp only [sX, List.length_cons]; rw [sX_len (g :: r) (by simp)]; rfl
theorem sX_add (g : FrameL) (r : List FrameL) (n : NodeL) : sX (g.add n :: r) = (match sX (g :: r) with | h :: q => h.add (sN 5 n) :: q | [] => []) := by
  cases r with
  | nil => simp [sX, FrameL.add, sNs_append, sNs]
  | cons x r => simp [sX, FrameL.add, sF, sNs_append, sNs]
theorem sX_cons (g : FrameL) (r : List FrameL) : ∃ h q, sX (g :: r) = h :: q ∧ q ≠ [] := by
  rcases hq : sX (g :: r) with _ | ⟨h, q⟩
  · have := sX_len (g :: r) (by simp); rw [hq] at this; simp at this
  · refine ⟨h, q, rfl, ?_⟩
    rintro rfl
    have := sX_len (g :: r) (by simp); rw [hq] at this; simp at this

theorem step_block (fs : List FrameL) (it : Option ItemL) (t : Tok) (fs' : List FrameL) (it' : Option ItemL) (hne : fs ≠ []) (h : stepT fs it t = .fine fs' it') :
    stepT (sX fs) (it.map (sI 5)) (sT 5 t) = if fs'.length = 7 ∧ fs.length = 6 then .bad 7 else .fine (sX fs') (it'.map (sI 5)) := by
  obtain ⟨tk, tp, tn, ts⟩ := t
  rw [show sT 5 ⟨tk, tp, tn, ts⟩ = ⟨tk, tp + 5, tn, ts⟩ from rfl]
  cases it with
  | none =>
    simp only [Option.map_none, stepT_none] at h ⊢
    by_cases h1 : tk = 1
    · rw [if_pos h1] at h ⊢
      simp only [StepR.fine.injEq] at h
      obtain ⟨rfl, rfl⟩ := h
      rw [if_neg (by omega)]
      rfl
    · rw [if_neg h1] at h ⊢
      by_cases h4 : tk = 4
      · rw [if_pos h4] at h ⊢
        rcases fs with _ | ⟨x, _ | ⟨y, r⟩⟩
        · cases h
        · cases h
        · simp only [StepR.fine.injEq] at h
          obtain ⟨rfl, rfl⟩ := h
          rw [if_neg (by simp only [List.length_cons]; omega)]
          simp only [sX]
          have hb := sX_add y r x.node
          obtain ⟨h, q, e, _⟩ := sX_cons y r
          rw [e] at hb ⊢
          simp only at hb ⊢
          rw [hb]; rfl
      · rw [if_neg h4] at h
        cases h
  | some i =>
    simp only [Option.map_some, stepT_some] at h ⊢
    by_cases h12 : tk = 1 ∨ tk = 2
    · rw [if_pos h12] at h ⊢
      by_cases h8 : i.words.length = 8
      · rw [if_pos h8] at h; cases h
      · rw [if_neg h8] at h
        rw [if_neg (by simpa [sI] using h8)]
        simp only [StepR.fine.injEq] at h
        obtain ⟨rfl, rfl⟩ := h
        rw [if_neg (by omega)]
        simp [sI, sW]
    · rw [if_neg h12] at h ⊢
      by_cases h5 : tk = 5
      · rw [if_pos h5] at h ⊢
        rcases fs with _ | ⟨y, r⟩
        · exact absurd rfl hne
        · simp only [StepR.fine.injEq] at h
          obtain ⟨rfl, rfl⟩ := h
          rw [if_neg (by simp only [List.length_cons]; omega)]
          have hb := sX_add y r i.node
          obtain ⟨h, q, e, _⟩ := sX_cons y r
          rw [e] at hb ⊢
          simp only at hb ⊢
          rw [hb]; rfl
      · rw [if_neg h5] at h ⊢
        by_cases h3 : tk = 3
        · rw [if_pos h3] at h ⊢
          rw [sX_len fs hne]
          by_cases h7 : fs.length = 7
          · rw [if_pos h7] at h; cases h
          · rw [if_neg h7] at h
            simp only [StepR.fine.injEq] at h
            obtain ⟨rfl, rfl⟩ := h
            by_cases h6 : fs.length = 6
            · rw [if_pos (by omega), if_pos ⟨by simp only [List.length_cons]; omega, h6⟩]
            · rw [if_neg (by omega), if_neg (by omega)]
              rcases fs with _ | ⟨y, r⟩
              · exact absurd rfl hne
              · simp [sX, sF, sI, sNs]
        · rw [if_neg h3] at h; cases h

theorem run_block (E : Int) : ∀ (ts us : List Tok) (fs : List FrameL) (it : Option ItemL) (r : List FrameL × Option ItemL), fs ≠ [] → (∀ t ∈ ts, 0 ≤ t.pos) → depF fs ≤ 5 → runT fs it ts = some r →
    (depF r.1 ≤ 5 → runT (sX fs) (it.map (sI 5)) (ts.map (sT 5)) = some (sX r.1, r.2.map (sI 5))) ∧ (6 ≤ depF r.1 → ∃ p, 4 < p ∧ parseT E (sX fs) (it.map (sI 5)) (ts.map (sT 5) ++ us) = ⟨[], p, 7⟩)
  | [], us, fs, it, r, hne, _, hd, h => by
    rw [runT, Option.some.injEq] at h
    subst h
    exact ⟨fun _ => rfl, fun h => by simp only at h; omega⟩
  | t :: ts, us, fs, it, r, hne, hpos, hd, h => by
    rw [runT] at h
    cases hst : stepT fs it t with
    | bad e => rw [hst] at h; cases h
    | fine fs' it' =>
      rw [hst] at h
      have hb := step_block fs it t fs' it' hne hst
      have hdp := step_dep fs it t fs' it' hst
      have hrd := run_dep ts fs' it' r h
      have hne' := open_step.step_ne hne hst
      have hlf := depF_len fs
      rw [List.map_cons, List.cons_append, runT, parseT, hb]
      by_cases h6 : depF fs' ≤ 5
      · have hlf' := depF_len fs'
        rw [if_neg (by omega)]
        exact run_block E ts us fs' it' r hne' (fun u hu => hpos u (by simp [hu])) h6 h
      · refine ⟨fun h5 => by omega, fun _ => ?_⟩
        have hl7 : fs'.length = 7 ∧ fs.length = 6 := by
          have := step_len fs it t fs' it' hst
          omega
        rw [if_pos hl7]
        have := hpos t (by simp)
        exact ⟨t.pos + 5, by omega, rfl⟩

def blockT (s : Bytes) : Bytes := 120 :: 32 :: 55 :: 32 :: 123 :: (s ++ [10, 125])

/-- The head of the block, then the tokens. -/
theorem parse_head (E : Int) (ts : List Tok) : parseT E [rootF] none (⟨1, 0, 0, [120]⟩ :: ⟨2, 2, 7, []⟩ :: ⟨3, 4, 0, []⟩ :: ts) = parseT E (sX [rootF]) ((none : Option ItemL).map (sI 5)) ts := rfl

theorem block_tree (s : Bytes) (hs : s.length ≤ 200) :
    ((treeL s).err ≠ 0 → (treeL (blockT s)).err ≠ 0 ∨ (treeL s).pos < s.length) ∧
    ((treeL s).err = 0 → deepL (treeL s).nodes = 6 → ∃ p, 4 < p ∧ treeL (blockT s) = ⟨[], p, 7⟩) ∧
    ((treeL s).err = 0 → deepL (treeL s).nodes ≠ 6 → treeL (blockT s) = ⟨[.mk [120] 0 [⟨true, 7, [], 2⟩] true (sNs 5 (treeL s).nodes)], 0, 0⟩ ∧ (cutL (blockT s)).toks.length ≤ 400) := by
  by_cases hce : (cutL s).err = 0
  · have hT : treeL s = parseT s.length [rootF] none (cutL s).toks := by unfold treeL; rw [if_neg (by simp [hce])]
    have hcb := cut_block s hs hce
    have hlen := cutL_len s
    have hpl := cutL_posLt s
    have hB : treeL (blockT s) = parseT (blockT s).length (sX [rootF]) ((none : Option ItemL).map (sI 5)) ((cutL s).toks.map (sT 5) ++ [⟨4, ((s.length + 6 : Nat) : Int), 0, []⟩]) := by
      rw [← parse_head]
      unfold treeL
      rw [show cutL (blockT s) = _ from hcb, if_neg (by simp)]
    have hcl : (cutL (blockT s)).toks.length ≤ 400 := by
      rw [show cutL (blockT s) = _ from hcb]
      simp
      omega
    cases hrun : runT [rootF] none (cutL s).toks with
    | none =>
      obtain ⟨t, ht, h1, h2⟩ := run_none s.length _ _ _ hrun
      rw [← hT] at h1 h2
      have := hpl t ht
      refine ⟨fun _ => Or.inr (by omega), fun h => absurd h h2, fun h => absurd h h2⟩
    | some r =>
      obtain ⟨fs, it⟩ := r
      have hp := parse_run s.length (cutL s).toks [] [rootF] none (fs, it) hrun
      rw [List.append_nil, ← hT] at hp
      obtain ⟨hA, hC⟩ := run_block (blockT s).length (cutL s).toks [⟨4, ((s.length + 6 : Nat) : Int), 0, []⟩] [rootF] none (fs, it) (by simp) (fun t ht => (hpl t ht).1) (by simp [depF, rootF, deepL]) hrun
      rw [← hB] at hC
      simp only at hA hC hp
      have hmain : depF fs ≤ 5 → treeL (blockT s) = parseT (blockT s).length (sX fs) (it.map (sI 5)) [⟨4, ((s.length + 6 : Nat) : Int), 0, []⟩] := by
        intro h5
        rw [hB, parse_run _ _ _ _ _ _ (hA h5)]
      rcases fs with _ | ⟨f, _ | ⟨g, q⟩⟩
      · -- no frame
        have he : (treeL s).err = 5 := by rw [hp]; cases it <;> rfl
        refine ⟨fun _ => Or.inl ?_, fun h => by omega, fun h => by omega⟩
        rw [hmain (by simp [depF])]
        cases it <;> simp [parseT, stepT_none, stepT_some, sX]
      · cases it with
        | some i =>
          have he : (treeL s).err = 5 := by rw [hp]; rfl
          refine ⟨fun _ => Or.inl ?_, fun h => by omega, fun h => by omega⟩
          by_cases h5 : depF [f] ≤ 5
          · rw [hmain h5]
            simp [parseT, stepT_some]
          · obtain ⟨p, _, h⟩ := hC (by omega)
            rw [h]; simp
        | none =>
          have he : treeL s = ⟨f.kids, 0, 0⟩ := by rw [hp]; rfl
          have hd : depF [f] = deepL f.kids := by simp [depF]
          refine ⟨fun h => absurd (by rw [he]) h, fun _ h6 => ?_, fun _ h6 => ⟨?_, hcl⟩⟩
          · rw [he] at h6
            simp only at h6
            exact hC (by omega)
          · have hr := deep_le (treeL s).nodes 0 (by omega) (right_law s (by omega) (by rw [he])).1
            rw [he] at h6 hr
            simp only at h6 hr
            rw [hmain (by omega), he]
            simp [parseT, stepT_none, sX, endT, FrameL.add, rootF, FrameL.node]
      · have he : (treeL s).err = 5 := by rw [hp]; cases it <;> rfl
        refine ⟨fun _ => Or.inl ?_, fun h => by omega, fun h => by omega⟩
        by_cases h5 : depF (f :: g :: q) ≤ 5
        · rw [hmain h5]
          obtain ⟨h, q', e, hq⟩ := sX_cons g q
          cases it with
          | some i => simp [parseT, stepT_some]
          | none =>
            rcases q' with _ | ⟨y, q'⟩
            · exact absurd rfl hq
            · simp [parseT, stepT_none, sX, e, endT]
        · obtain ⟨p, _, h⟩ := hC (by omega)
          rw [h]; simp
  · have hT : treeL s = ⟨[], (cutL s).pos, (cutL s).err⟩ := by unfold treeL; rw [if_pos hce]
    refine ⟨fun _ => Or.inr ?_, fun h => absurd (by rw [hT] at h; exact h) hce, fun h => absurd (by rw [hT] at h; exact h) hce⟩
    rw [hT]
    simp only
    have e : cutL s = cutM false 0 0 0 s := by unfold cutL; rw [if_neg (by omega)]
    rw [e] at hce ⊢
    obtain ⟨q, h1, _, h3, h4⟩ := cutM_before false 0 0 0 s hce
    omega

end Go.Proofs.YtaffbnjdlgcaiaaDoor
