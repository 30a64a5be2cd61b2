import Derived.Test.YtjbniichcopnlaaGreatDoorPkV12
import Derived.Test.YtjbniichcopnlaaGreatDoorPkV34
import Derived.Test.YtjbniichcopnlaaGreatDoorPkV0
section
/- Layer 9, in plain Lean: two texts, one behind the other. -/
namespace Go.Proofs.YtjbniichcopnlaaGreatDoor

def sW (d : Int) (w : WordL) : WordL := { w with pos := w.pos + d }
mutual
def sN (d : Int) : NodeL → NodeL
  | .mk nm p ws b ks => .mk nm (p + d) (ws.map (sW d)) b (sNs d ks)
def sNs (d : Int) : List NodeL → List NodeL
  | [] => []
  | n :: r => sN d n :: sNs d r
end
theorem sNs_append (d : Int) : ∀ l m : List NodeL, sNs d (l ++ m) = sNs d l ++ sNs d m
  | [], m => rfl
  | n :: r, m => by simp only [List.cons_append, sNs, sNs_append d r m]
def sF (d : Int) (f : FrameL) : FrameL := ⟨f.name, f.pos + d, f.words.map (sW d), sNs d f.kids⟩
def sI (d : Int) (i : ItemL) : ItemL := ⟨i.name, i.pos + d, i.words.map (sW d)⟩
def sT (d : Int) (t : Tok) : Tok := { t with pos := t.pos + d }
/-- The frames moved, the outermost one being behind a's items. -/
def sB (d : Int) (a : FrameL) : List FrameL → List FrameL
  | [] => []
  | [f] => [⟨a.name, a.pos, a.words, a.kids ++ sNs d f.kids⟩]
  | f :: g :: r => sF d f :: sB d a (g :: r)
theorem sB_len (d : Int) (a : FrameL) : ∀ fs : List FrameL, (sB d a fs).length = fs.length
  | [] => rfl
  | [f] => rfl
  | f :: g :: r => by simp only [sB, List.length_cons, sB_len d a (g :: r)]
theorem sB_add (d : Int) (a : FrameL) (g : FrameL) (r : List FrameL) (n : NodeL) : sB d a (g.add n :: r) = (match sB d a (g :: r) with | h :: q => h.add (sN d n) :: q | [] => []) := by
  cases r with
  | nil => simp [sB, FrameL.add, sNs_append, sNs]
  | cons x r => simp [sB, FrameL.add, sF, sNs_append, sNs]

def okB (fs : List FrameL) : Prop := fs.getLast? = none ∨ ∃ f, fs.getLast? = some f
theorem stepT_none (fs : List FrameL) (tk p n : Int) (s : Bytes) : stepT fs none ⟨tk, p, n, s⟩ = (if tk = 1 then .fine fs (some ⟨s, p, []⟩) else if tk = 4 then (match fs with | f :: g :: r => .fine (g.add f.node :: r) none | _ => .bad 5) else .bad 5) := rfl
theorem stepT_some (fs : List FrameL) (i : ItemL) (tk p n : Int) (s : Bytes) : stepT fs (some i) ⟨tk, p, n, s⟩ = (if tk = 1 ∨ tk = 2 then (if i.words.length = 8 then .bad 6 else .fine fs (some ⟨i.name, i.pos, i.words ++ [⟨decide (tk = 2), n, s, p⟩]⟩)) else if tk = 5 then (match fs with | f :: r => .fine (f.add i.node :: r) none | [] => .bad 5) else if tk = 3 then (if fs.length = 7 then .bad 7 else .fine (⟨i.name, i.pos, i.words, []⟩ :: fs) none) else .bad 5) := rfl
theorem step_shift (d : Int) (a : FrameL) (fs : List FrameL) (it : Option ItemL) (t : Tok) (hne : fs ≠ []) :
    stepT (sB d a fs) (it.map (sI d)) (sT d t) = (match stepT fs it t with | .bad e => .bad e | .fine fs' it' => .fine (sB d a fs') (it'.map (sI d))) := by
  obtain ⟨tk, tp, tn, ts⟩ := t
  rw [show sT d ⟨tk, tp, tn, ts⟩ = ⟨tk, tp + d, tn, ts⟩ from rfl]
  cases it with
  | none =>
    simp only [Option.map_none, stepT_none]
    by_cases h1 : tk = 1
    · rw [if_pos h1, if_pos h1]; rfl
    · rw [if_neg h1, if_neg h1]
      by_cases h4 : tk = 4
      · rw [if_pos h4, if_pos h4]
        rcases fs with _ | ⟨x, _ | ⟨y, r⟩⟩
        · rfl
        · rfl
        · simp only [sB]
          have hb := sB_add d a y r x.node
          rcases hq : sB d a (y :: r) with _ | ⟨h, q⟩
          · have := sB_len d a (y :: r); rw [hq] at this; simp at this
          · rw [hq] at hb
            simp only at hb ⊢
            rw [hb]; rfl
      · rw [if_neg h4, if_neg h4]
  | some i =>
    simp only [Option.map_some, stepT_some]
    by_cases h12 : tk = 1 ∨ tk = 2
    · rw [if_pos h12, if_pos h12]
      by_cases h8 : i.words.length = 8
      · rw [if_pos h8, if_pos (by simpa [sI] using h8)]
      · rw [if_neg h8, if_neg (by simpa [sI] using h8)]
        simp [sI, sW]
    · rw [if_neg h12, if_neg h12]
      by_cases h5 : tk = 5
      · rw [if_pos h5, if_pos h5]
        rcases fs with _ | ⟨y, r⟩
        · exact absurd rfl hne
        · have hb := sB_add d a y r i.node
          rcases hq : sB d a (y :: r) with _ | ⟨h, q⟩
          · have := sB_len d a (y :: r); rw [hq] at this; simp at this
          · rw [hq] at hb
            simp only at hb ⊢
            rw [hb]; rfl
      · rw [if_neg h5, if_neg h5]
        by_cases h3 : tk = 3
        · rw [if_pos h3, if_pos h3, sB_len]
          by_cases h7 : fs.length = 7
          · rw [if_pos h7, if_pos h7]
          · rw [if_neg h7, if_neg h7]
            rcases fs with _ | ⟨y, r⟩
            · exact absurd rfl hne
            · simp [sB, sF, sI, sNs]
        · rw [if_neg h3, if_neg h3]

theorem parse_shift (d : Int) (a : FrameL) (E : Int) : ∀ (ts : List Tok) (fs : List FrameL) (it : Option ItemL), fs ≠ [] →
    parseT (E + d) (sB d a fs) (it.map (sI d)) (ts.map (sT d)) =
      if (parseT E fs it ts).err = 0 then ⟨a.kids ++ sNs d (parseT E fs it ts).nodes, 0, 0⟩ else ⟨[], (parseT E fs it ts).pos + d, (parseT E fs it ts).err⟩
  | [], fs, it, hne => by
    simp only [List.map_nil, parseT]
    rcases fs with _ | ⟨f, _ | ⟨g, r⟩⟩
    · exact absurd rfl hne
    · cases it <;> simp [sB, endT]
    · have : ∃ x y q, sB d a (f :: g :: r) = x :: y :: q := by
        rcases hq : sB d a (g :: r) with _ | ⟨h, q⟩
        · have := sB_len d a (g :: r); rw [hq] at this; simp at this
        · exact ⟨sF d f, h, q, by simp only [sB]; rw [hq]⟩
      obtain ⟨x, y, q, e⟩ := this
      rw [e]
      cases it <;> simp [endT]
  | t :: ts, fs, it, hne => by
    rw [List.map_cons, parseT, step_shift d a fs it t hne, parseT]
    cases hst : stepT fs it t with
    | bad e =>
      have := step_bad0 e fs it t hst
      simp [this, sT]
    | fine fs' it' =>
      simp only
      exact parse_shift d a E ts fs' it' (open_step.step_ne hne hst)

theorem parse_app (E E' : Int) : ∀ (ts us : List Tok) (fs : List FrameL) (it : Option ItemL), (parseT E fs it ts).err = 0 →
    ∃ f : FrameL, f.kids = (parseT E fs it ts).nodes ∧ parseT E' fs it (ts ++ us) = parseT E' [f] none us
  | [], us, fs, it, h => by
    rw [parseT] at h
    rcases fs with _ | ⟨f, _ | ⟨g, r⟩⟩
    · simp [endT] at h
    · cases it with
      | none => exact ⟨f, rfl, rfl⟩
      | some i => simp [endT] at h
    · cases it <;> simp [endT] at h
  | t :: ts, us, fs, it, h => by
    rw [parseT] at h
    rw [List.cons_append, parseT, parseT]
    cases hst : stepT fs it t with
    | bad e =>
      rw [hst] at h
      exact absurd h (step_bad0 e fs it t hst)
    | fine fs' it' =>
      rw [hst] at h
      simp only at h
      obtain ⟨f, h1, h2⟩ := parse_app E E' ts us fs' it' h
      exact ⟨f, h1, h2⟩

theorem sameW_shift (d : Int) (w : WordL) : sameW (sW d w) w = true := by simp [sameW, sW]
theorem sameW_refl (w : WordL) : sameW w w = true := by simp [sameW]
theorem sameWs_shift (d : Int) : ∀ l : List WordL, sameWs (l.map (sW d)) l = true
  | [] => rfl
  | w :: l => by rw [List.map_cons, sameWs, sameW_shift, sameWs_shift d l]; rfl
theorem sameWs_refl : ∀ l : List WordL, sameWs l l = true
  | [] => rfl
  | w :: l => by rw [sameWs, sameW_refl, sameWs_refl l]; rfl
theorem sameNs_shift (d : Int) : ∀ l : List NodeL, sameNs (sNs d l) l = true
  | [] => rfl
  | .mk nm p ws b ks :: r => by
    simp only [sNs, sN, sameNs, sameN, sameWs_shift, sameNs_shift d ks, sameNs_shift d r]
    simp
theorem sameNs_refl : ∀ l : List NodeL, sameNs l l = true
  | [] => rfl
  | .mk nm p ws b ks :: r => by
    simp only [sameNs, sameN, sameWs_refl, sameNs_refl ks, sameNs_refl r]
    simp
theorem sameNs_append : ∀ l l' m m' : List NodeL, sameNs l l' = true → sameNs m m' = true → sameNs (l ++ m) (l' ++ m') = true
  | [], [], m, m', _, h => h
  | [], _ :: _, m, m', h, _ => by simp [sameNs] at h
  | _ :: _, [], m, m', h, _ => by simp [sameNs] at h
  | x :: l, y :: l', m, m', h, h' => by
    simp only [sameNs, Bool.and_eq_true] at h
    simp only [List.cons_append, sameNs, h.1, sameNs_append l l' m m' h.2 h', Bool.and_self]

/-- The tokens of two texts. -/
theorem cut_two (s t : Bytes) (hs : s.length ≤ 200) (ht : t.length ≤ 200) (he : (cutL s).err = 0) :
    cutL (s ++ 10 :: t) = if (cutL t).err = 0 then ⟨(cutL s).toks ++ (cutL t).toks.map (sT ((s.length + 1 : Nat) : Int)), 0, 0⟩ else ⟨[], (cutL t).pos + (s.length + 1), (cutL t).err⟩ := by
  have e : cutL s = cutM false 0 0 0 s := by unfold cutL; rw [if_neg (by omega)]
  have e2 : cutL t = cutM false 0 0 0 t := by unfold cutL; rw [if_neg (by omega)]
  have e3 : cutL (s ++ 10 :: t) = cutM false 0 0 0 (s ++ 10 :: t) := by unfold cutL; rw [if_neg (by simp; omega)]
  have hlen := cutM_len false 0 0 0 s
  rw [e] at he ⊢
  rw [e2, e3, cutM_app false 0 0 0 s t (Nat.zero_le _), if_pos he, Nat.zero_add, Nat.zero_add]
  have h1 : cutM false 0 (s.length + 1) (cutM false 0 0 0 s).toks.length t = (cutM false 0 0 0 t).shift (s.length + 1) := by
    rw [cutM_cnt false 0 (s.length + 1) _ 0 t (by omega) (by omega)]
    have := cutM_shift (s.length + 1) false 0 0 0 t
    rwa [Nat.zero_add] at this
  rw [h1]
  have herr := cutM_err false 0 0 0 t
  by_cases hf : (cutM false 0 0 0 t).err = 0
  · rw [if_pos hf]
    unfold CutRes.pre CutRes.shift
    rw [if_pos hf]
    rfl
  · rw [if_neg hf]
    have hn := herr.2 hf
    unfold CutRes.pre CutRes.shift
    rw [if_neg hf, if_neg hf, hn]
    rfl

theorem right_law' (s : Bytes) (hc : (cutL s).toks.length ≤ 400) (he : (treeL s).err = 0) : checkL 0 (treeL s).nodes = 0 ∧ cntL (treeL s).nodes ≤ 400 := by
  obtain ⟨h1, h2⟩ := treeL_err0 s he
  obtain ⟨_, _, hfl⟩ := tokens_law s he
  have hck : checkL 0 (treeL s).nodes = 0 := by
    rw [h2] at he ⊢
    exact parse_inv s.length _ _ _ (cutL_tokOk s) ⟨rfl, fun h => absurd rfl h, trivial⟩ trivial (by simp) he
  refine ⟨hck, ?_⟩
  have a := cnt_flat (treeL s).nodes 0 hck
  rw [hfl, List.length_map] at a
  omega

/-- Two texts, one behind the other, are read as the items of both. -/
theorem two_tree (s t : Bytes) (hs : s.length ≤ 200) (ht : t.length ≤ 200) (he : (treeL s).err = 0) :
    treeL (s ++ 10 :: t) = (if (treeL t).err = 0 then ⟨(treeL s).nodes ++ sNs ((s.length + 1 : Nat) : Int) (treeL t).nodes, 0, 0⟩ else ⟨[], (treeL t).pos + ((s.length + 1 : Nat) : Int), (treeL t).err⟩) ∧
      (cutL (s ++ 10 :: t)).toks.length ≤ 400 := by
  obtain ⟨h1, h2⟩ := treeL_err0 s he
  have hct := cut_two s t hs ht h1
  have hl1 := cutL_len s
  have hl2 := cutL_len t
  refine ⟨?_, ?_⟩
  · by_cases hf : (cutL t).err = 0
    · rw [if_pos hf] at hct
      have e1 : treeL (s ++ 10 :: t) = parseT (s ++ 10 :: t).length [rootF] none ((cutL s).toks ++ (cutL t).toks.map (sT ((s.length + 1 : Nat) : Int))) := by
        unfold treeL; rw [hct, if_neg (by simp)]
      have e2 : treeL t = parseT t.length [rootF] none (cutL t).toks := by unfold treeL; rw [if_neg (by simp [hf])]
      rw [h2] at he
      obtain ⟨f, hf1, hf2⟩ := parse_app s.length (s ++ 10 :: t).length (cutL s).toks ((cutL t).toks.map (sT ((s.length + 1 : Nat) : Int))) [rootF] none he
      rw [e1, hf2, e2]
      have hE : ((s ++ 10 :: t).length : Int) = (t.length : Int) + ((s.length + 1 : Nat) : Int) := by simp; omega
      have hps := parse_shift ((s.length + 1 : Nat) : Int) f t.length (cutL t).toks [rootF] none (by simp)
      have hroot : sB ((s.length + 1 : Nat) : Int) f [rootF] = [f] := by simp [sB, rootF, sNs]
      rw [hroot] at hps
      rw [hE]
      have hps' : parseT ((t.length : Int) + ((s.length + 1 : Nat) : Int)) [f] none ((cutL t).toks.map (sT ((s.length + 1 : Nat) : Int))) = _ := hps
      rw [hps', hf1, ← h2]
    · rw [if_neg hf] at hct
      have e1 : treeL (s ++ 10 :: t) = ⟨[], (((cutL t).pos + (s.length + 1) : Nat) : Int), (cutL t).err⟩ := by
        unfold treeL; rw [hct, if_pos hf]
      have e2 : treeL t = ⟨[], (cutL t).pos, (cutL t).err⟩ := by unfold treeL; rw [if_pos hf]
      rw [e1, e2, if_neg hf]
      simp
  · rw [hct]
    split
    · rw [List.length_append, List.length_map]; omega
    · simp

end Go.Proofs.YtjbniichcopnlaaGreatDoor
end

section
/- Layer 9, in plain Lean: items in a block. -/
namespace Go.Proofs.YtjbniichcopnlaaGreatDoor

theorem cut_head (s : Bytes) : cutM false 0 0 0 (120 :: 32 :: 55 :: 32 :: 123 :: s) = .cons ⟨1, 0, 0, [120]⟩ (.cons ⟨2, 2, 7, []⟩ (.cons ⟨3, 4, 0, []⟩ (cutM false 0 5 3 s))) := by
  have t1 : tokenL (120 :: 32 :: 55 :: 32 :: 123 :: s) 0 = (⟨1, 0, 0, [120]⟩, 1, 0) := rfl
  have t2 : tokenL (55 :: 32 :: 123 :: s) 1 = (⟨2, 0, 7, []⟩, 1, 0) := rfl
  have t3 : tokenL (123 :: s) 2 = (⟨3, 0, 0, []⟩, 1, 0) := rfl
  rw [cutM, if_neg (by decide), if_neg (by decide)]
  simp only [t1, ne_eq, not_true_eq_false, if_false, Nat.sub_self]
  rw [cutM, if_pos (by decide), cutM, if_neg (by decide), if_neg (by decide)]
  simp only [t2, ne_eq, not_true_eq_false, if_false, Nat.sub_self]
  rw [cutM, if_pos (by decide), cutM, if_neg (by decide), if_neg (by decide)]
  simp only [t3, ne_eq, not_true_eq_false, if_false, Nat.sub_self]
  rfl

/-- The tokens of a text in a block. -/
theorem cut_block (s : Bytes) (hs : s.length ≤ 200) (he : (cutL s).err = 0) :
    cutL (120 :: 32 :: 55 :: 32 :: 123 :: (s ++ [10, 125])) = ⟨⟨1, 0, 0, [120]⟩ :: ⟨2, 2, 7, []⟩ :: ⟨3, 4, 0, []⟩ :: ((cutL s).toks.map (sT 5) ++ [⟨4, ((s.length + 6 : Nat) : Int), 0, []⟩]), 0, 0⟩ := by
  have e : cutL s = cutM false 0 0 0 s := by unfold cutL; rw [if_neg (by omega)]
  have e3 : cutL (120 :: 32 :: 55 :: 32 :: 123 :: (s ++ [10, 125])) = cutM false 0 0 0 (120 :: 32 :: 55 :: 32 :: 123 :: (s ++ [10, 125])) := by unfold cutL; rw [if_neg (by simp; omega)]
  have hlen := cutM_len false 0 0 0 s
  rw [e] at he ⊢
  have h1 : cutM false 0 5 3 s = (cutM false 0 0 0 s).shift 5 := by
    rw [cutM_cnt false 0 5 3 0 s (by omega) (by omega)]
    have := cutM_shift 5 false 0 0 0 s
    rwa [Nat.zero_add] at this
  have h2 : (cutM false 0 5 3 s) = ⟨(cutM false 0 0 0 s).toks.map (sT 5), 0, 0⟩ := by
    rw [h1]
    unfold CutRes.shift
    rw [if_pos he, he]
    rfl
  have t4 : ∀ p c : Nat, c ≠ 8192 → cutM false 0 p c [125] = ⟨[⟨4, p, 0, []⟩], 0, 0⟩ := by
    intro p c hc
    have t : tokenL [125] c = (⟨4, 0, 0, []⟩, 1, 0) := by
      rw [tokenL_cnt [125] c 0 hc (by decide)]; rfl
    rw [cutM, if_neg (by decide), if_neg (by decide)]
    simp only [t, ne_eq, not_true_eq_false, if_false]
    rfl
  have hq : cutM false 0 5 3 (s ++ [10, 125]) = ⟨(cutM false 0 0 0 s).toks.map (sT 5) ++ [⟨4, ((s.length + 6 : Nat) : Int), 0, []⟩], 0, 0⟩ := by
    have := cutM_app false 0 5 3 s [125] (Nat.zero_le _)
    rw [show s ++ 10 :: [125] = s ++ [10, 125] from rfl] at this
    rw [this, h2, if_pos rfl, t4 _ _ (by simp; omega)]
    unfold CutRes.pre
    simp
    omega
  rw [e3, cut_head, hq]
  unfold CutRes.cons
  simp

/-! ### Tokens that are read, and where one stands then -/
def runT : List FrameL → Option ItemL → List Tok → Option (List FrameL × Option ItemL)
  | fs, it, [] => some (fs, it)
  | fs, it, t :: ts => match stepT fs it t with | .bad _ => none | .fine fs' it' => runT fs' it' ts
theorem parse_run (E : Int) : ∀ (ts us : List Tok) (fs : List FrameL) (it : Option ItemL) (r : List FrameL × Option ItemL), runT fs it ts = some r → parseT E fs it (ts ++ us) = parseT E r.1 r.2 us
  | [], us, fs, it, r, h => by
    rw [runT, Option.some.injEq] at h
    subst h
    rfl
  | t :: ts, us, fs, it, r, h => by
    rw [runT] at h
    rw [List.cons_append, parseT]
    cases hst : stepT fs it t with
    | bad e => rw [hst] at h; cases h
    | fine fs' it' =>
      rw [hst] at h
      exact parse_run E ts us fs' it' r h
theorem run_none (E : Int) : ∀ (ts : List Tok) (fs : List FrameL) (it : Option ItemL), runT fs it ts = none → ∃ t ∈ ts, (parseT E fs it ts).pos = t.pos ∧ (parseT E fs it ts).err ≠ 0
  | [], fs, it, h => by simp [runT] at h
  | t :: ts, fs, it, h => by
    rw [runT] at h
    rw [parseT]
    cases hst : stepT fs it t with
    | bad e => exact ⟨t, by simp, rfl, step_bad0 e fs it t hst⟩
    | fine fs' it' =>
      rw [hst] at h
      obtain ⟨u, hu, h2⟩ := run_none E ts fs' it' h
      exact ⟨u, by simp [hu], h2⟩

/-- How deep blocks stand, those that are open counted. -/
def depF : List FrameL → Nat
  | [] => 0
  | f :: r => max (deepL f.kids + r.length) (depF r)
theorem deepL_app : ∀ l m : List NodeL, deepL (l ++ m) = max (deepL l) (deepL m)
  | [], m => by simp [deepL]
  | n :: r, m => by simp only [List.cons_append, deepL, deepL_app r m]; omega
theorem depF_len (fs : List FrameL) : fs.length ≤ depF fs + 1 := by
  cases fs with
  | nil => simp
  | cons f r => simp only [depF, List.length_cons]; omega
theorem step_dep (fs : List FrameL) (it : Option ItemL) (t : Tok) (fs' : List FrameL) (it' : Option ItemL) (h : stepT fs it t = .fine fs' it') : depF fs' = max (depF fs) (fs'.length - 1) := by
  obtain ⟨tk, tp, tn, ts⟩ := t
  have hlen := depF_len fs
  cases it with
  | none =>
    rw [stepT_none] at h
    split at h
    · simp only [StepR.fine.injEq] at h
      obtain ⟨rfl, rfl⟩ := h
      omega
    split at h
    · split at h
      · rename_i f g r
        simp only [StepR.fine.injEq] at h
        obtain ⟨rfl, rfl⟩ := h
        simp only [depF, FrameL.add, deepL_app, deepL, FrameL.node, deepN, List.length_cons, if_true]
        omega
      · cases h
    · cases h
  | some i =>
    rw [stepT_some] at h
    split at h
    · split at h
      · cases h
      simp only [StepR.fine.injEq] at h
      obtain ⟨rfl, rfl⟩ := h
      omega
    split at h
    · split at h
      · simp only [StepR.fine.injEq] at h
        obtain ⟨rfl, rfl⟩ := h
        simp only [depF, FrameL.add, deepL_app, deepL, ItemL.node, deepN, List.length_cons] at hlen ⊢
        simp
        omega
      · cases h
    split at h
    · split at h
      · cases h
      simp only [StepR.fine.injEq] at h
      obtain ⟨rfl, rfl⟩ := h
      simp only [depF, deepL, List.length_cons]
      omega
    · cases h
theorem run_dep : ∀ (ts : List Tok) (fs : List FrameL) (it : Option ItemL) (r : List FrameL × Option ItemL), runT fs it ts = some r → depF fs ≤ depF r.1
  | [], fs, it, r, h => by
    rw [runT, Option.some.injEq] at h
    subst h
    exact Nat.le_refl _
  | t :: ts, fs, it, r, h => by
    rw [runT] at h
    cases hst : stepT fs it t with
    | bad e => rw [hst] at h; cases h
    | fine fs' it' =>
      rw [hst] at h
      have h1 := run_dep ts fs' it' r h
      have h2 := step_dep fs it t fs' it' hst
      omega

theorem step_len (fs : List FrameL) (it : Option ItemL) (t : Tok) (fs' : List FrameL) (it' : Option ItemL) (h : stepT fs it t = .fine fs' it') : fs'.length ≤ fs.length + 1 := by
  obtain ⟨tk, tp, tn, ts⟩ := t
  cases it with
  | none =>
    rw [stepT_none] at h
    split at h
    · simp only [StepR.fine.injEq] at h
      obtain ⟨rfl, rfl⟩ := h
      omega
    split at h
    · split at h
      · simp only [StepR.fine.injEq] at h
        obtain ⟨rfl, rfl⟩ := h
        simp only [List.length_cons]; omega
      · cases h
    · cases h
  | some i =>
    rw [stepT_some] at h
    split at h
    · split at h
      · cases h
      simp only [StepR.fine.injEq] at h
      obtain ⟨rfl, rfl⟩ := h
      omega
    split at h
    · split at h
      · simp only [StepR.fine.injEq] at h
        obtain ⟨rfl, rfl⟩ := h
        simp only [List.length_cons]; omega
      · cases h
    split at h
    · split at h
      · cases h
      simp only [StepR.fine.injEq] at h
      obtain ⟨rfl, rfl⟩ := h
      simp only [List.length_cons]; omega
    · cases h

/-- The frames moved by five, the outermost one being the block. -/
def sX : List FrameL → List FrameL
  | [] => []
  | [f] => [⟨[120], 0, [⟨true, 7, [], 2⟩], sNs 5 f.kids⟩, rootF]
  | f :: g :: r => sF 5 f :: sX (g :: r)
theorem sX_len : ∀ fs : List FrameL, fs ≠ [] → (sX fs).length = fs.length + 1
  | [], h => absurd rfl h
  | [f], _ => rfl
  | f :: g :: r, _ => by simp only [sX, List.length_cons]; rw [sX_len (g :: r) (by simp)]; rfl
theorem sX_add (g : FrameL) (r : List FrameL) (n : NodeL) : sX (g.add n :: r) = (match sX (g :: r) with | h :: q => h.add (sN 5 n) :: q | [] => []) := by
  cases r with
  | nil => simp [sX, FrameL.add, sNs_append, sNs]
  | cons x r => simp [sX, FrameL.add, sF, sNs_append, sNs]
theorem sX_cons (g : FrameL) (r : List FrameL) : ∃ h q, sX (g :: r) = h :: q ∧ q ≠ [] := by
  rcases hq : sX (g :: r) with _ | ⟨h, q⟩
  · have := sX_len (g :: r) (by simp); rw [hq] at this; simp at this
  · refine ⟨h, q, rfl, ?_⟩
    rintro rfl
    have := sX_len (g :: r) (by simp); rw [hq] at this; simp at this

theorem step_block (fs : List FrameL) (it : Option ItemL) (t : Tok) (fs' : List FrameL) (it' : Option ItemL) (hne : fs ≠ []) (h : stepT fs it t = .fine fs' it') :
    stepT (sX fs) (it.map (sI 5)) (sT 5 t) = if fs'.length = 7 ∧ fs.length = 6 then .bad 7 else .fine (sX fs') (it'.map (sI 5)) := by
  obtain ⟨tk, tp, tn, ts⟩ := t
  rw [show sT 5 ⟨tk, tp, tn, ts⟩ = ⟨tk, tp + 5, tn, ts⟩ from rfl]
  cases it with
  | none =>
    simp only [Option.map_none, stepT_none] at h ⊢
    by_cases h1 : tk = 1
    · rw [if_pos h1] at h ⊢
      simp only [StepR.fine.injEq] at h
      obtain ⟨rfl, rfl⟩ := h
      rw [if_neg (by omega)]
      rfl
    · rw [if_neg h1] at h ⊢
      by_cases h4 : tk = 4
      · rw [if_pos h4] at h ⊢
        rcases fs with _ | ⟨x, _ | ⟨y, r⟩⟩
        · cases h
        · cases h
        · simp only [StepR.fine.injEq] at h
          obtain ⟨rfl, rfl⟩ := h
          rw [if_neg (by simp only [List.length_cons]; omega)]
          simp only [sX]
          have hb := sX_add y r x.node
          obtain ⟨h, q, e, _⟩ := sX_cons y r
          rw [e] at hb ⊢
          simp only at hb ⊢
          rw [hb]; rfl
      · rw [if_neg h4] at h
        cases h
  | some i =>
    simp only [Option.map_some, stepT_some] at h ⊢
    by_cases h12 : tk = 1 ∨ tk = 2
    · rw [if_pos h12] at h ⊢
      by_cases h8 : i.words.length = 8
      · rw [if_pos h8] at h; cases h
      · rw [if_neg h8] at h
        rw [if_neg (by simpa [sI] using h8)]
        simp only [StepR.fine.injEq] at h
        obtain ⟨rfl, rfl⟩ := h
        rw [if_neg (by omega)]
        simp [sI, sW]
    · rw [if_neg h12] at h ⊢
      by_cases h5 : tk = 5
      · rw [if_pos h5] at h ⊢
        rcases fs with _ | ⟨y, r⟩
        · exact absurd rfl hne
        · simp only [StepR.fine.injEq] at h
          obtain ⟨rfl, rfl⟩ := h
          rw [if_neg (by simp only [List.length_cons]; omega)]
          have hb := sX_add y r i.node
          obtain ⟨h, q, e, _⟩ := sX_cons y r
          rw [e] at hb ⊢
          simp only at hb ⊢
          rw [hb]; rfl
      · rw [if_neg h5] at h ⊢
        by_cases h3 : tk = 3
        · rw [if_pos h3] at h ⊢
          rw [sX_len fs hne]
          by_cases h7 : fs.length = 7
          · rw [if_pos h7] at h; cases h
          · rw [if_neg h7] at h
            simp only [StepR.fine.injEq] at h
            obtain ⟨rfl, rfl⟩ := h
            by_cases h6 : fs.length = 6
            · rw [if_pos (by omega), if_pos ⟨by simp only [List.length_cons]; omega, h6⟩]
            · rw [if_neg (by omega), if_neg (by omega)]
              rcases fs with _ | ⟨y, r⟩
              · exact absurd rfl hne
              · simp [sX, sF, sI, sNs]
        · rw [if_neg h3] at h; cases h

theorem run_block (E : Int) : ∀ (ts us : List Tok) (fs : List FrameL) (it : Option ItemL) (r : List FrameL × Option ItemL), fs ≠ [] → (∀ t ∈ ts, 0 ≤ t.pos) → depF fs ≤ 5 → runT fs it ts = some r →
    (depF r.1 ≤ 5 → runT (sX fs) (it.map (sI 5)) (ts.map (sT 5)) = some (sX r.1, r.2.map (sI 5))) ∧ (6 ≤ depF r.1 → ∃ p, 4 < p ∧ parseT E (sX fs) (it.map (sI 5)) (ts.map (sT 5) ++ us) = ⟨[], p, 7⟩)
  | [], us, fs, it, r, hne, _, hd, h => by
    rw [runT, Option.some.injEq] at h
    subst h
    exact ⟨fun _ => rfl, fun h => by simp only at h; omega⟩
  | t :: ts, us, fs, it, r, hne, hpos, hd, h => by
    rw [runT] at h
    cases hst : stepT fs it t with
    | bad e => rw [hst] at h; cases h
    | fine fs' it' =>
      rw [hst] at h
      have hb := step_block fs it t fs' it' hne hst
      have hdp := step_dep fs it t fs' it' hst
      have hrd := run_dep ts fs' it' r h
      have hne' := open_step.step_ne hne hst
      have hlf := depF_len fs
      rw [List.map_cons, List.cons_append, runT, parseT, hb]
      by_cases h6 : depF fs' ≤ 5
      · have hlf' := depF_len fs'
        rw [if_neg (by omega)]
        exact run_block E ts us fs' it' r hne' (fun u hu => hpos u (by simp [hu])) h6 h
      · refine ⟨fun h5 => by omega, fun _ => ?_⟩
        have hl7 : fs'.length = 7 ∧ fs.length = 6 := by
          have := step_len fs it t fs' it' hst
          omega
        rw [if_pos hl7]
        have := hpos t (by simp)
        exact ⟨t.pos + 5, by omega, rfl⟩

def blockT (s : Bytes) : Bytes := 120 :: 32 :: 55 :: 32 :: 123 :: (s ++ [10, 125])

/-- The head of the block, then the tokens. -/
theorem parse_head (E : Int) (ts : List Tok) : parseT E [rootF] none (⟨1, 0, 0, [120]⟩ :: ⟨2, 2, 7, []⟩ :: ⟨3, 4, 0, []⟩ :: ts) = parseT E (sX [rootF]) ((none : Option ItemL).map (sI 5)) ts := rfl

theorem block_tree (s : Bytes) (hs : s.length ≤ 200) :
    ((treeL s).err ≠ 0 → (treeL (blockT s)).err ≠ 0 ∨ (treeL s).pos < s.length) ∧
    ((treeL s).err = 0 → deepL (treeL s).nodes = 6 → ∃ p, 4 < p ∧ treeL (blockT s) = ⟨[], p, 7⟩) ∧
    ((treeL s).err = 0 → deepL (treeL s).nodes ≠ 6 → treeL (blockT s) = ⟨[.mk [120] 0 [⟨true, 7, [], 2⟩] true (sNs 5 (treeL s).nodes)], 0, 0⟩ ∧ (cutL (blockT s)).toks.length ≤ 400) := by
  by_cases hce : (cutL s).err = 0
  · have hT : treeL s = parseT s.length [rootF] none (cutL s).toks := by unfold treeL; rw [if_neg (by simp [hce])]
    have hcb := cut_block s hs hce
    have hlen := cutL_len s
    have hpl := cutL_posLt s
    have hB : treeL (blockT s) = parseT (blockT s).length (sX [rootF]) ((none : Option ItemL).map (sI 5)) ((cutL s).toks.map (sT 5) ++ [⟨4, ((s.length + 6 : Nat) : Int), 0, []⟩]) := by
      rw [← parse_head]
      unfold treeL
      rw [show cutL (blockT s) = _ from hcb, if_neg (by simp)]
    have hcl : (cutL (blockT s)).toks.length ≤ 400 := by
      rw [show cutL (blockT s) = _ from hcb]
      simp
      omega
    cases hrun : runT [rootF] none (cutL s).toks with
    | none =>
      obtain ⟨t, ht, h1, h2⟩ := run_none s.length _ _ _ hrun
      rw [← hT] at h1 h2
      have := hpl t ht
      refine ⟨fun _ => Or.inr (by omega), fun h => absurd h h2, fun h => absurd h h2⟩
    | some r =>
      obtain ⟨fs, it⟩ := r
      have hp := parse_run s.length (cutL s).toks [] [rootF] none (fs, it) hrun
      rw [List.append_nil, ← hT] at hp
      obtain ⟨hA, hC⟩ := run_block (blockT s).length (cutL s).toks [⟨4, ((s.length + 6 : Nat) : Int), 0, []⟩] [rootF] none (fs, it) (by simp) (fun t ht => (hpl t ht).1) (by simp [depF, rootF, deepL]) hrun
      rw [← hB] at hC
      simp only at hA hC hp
      have hmain : depF fs ≤ 5 → treeL (blockT s) = parseT (blockT s).length (sX fs) (it.map (sI 5)) [⟨4, ((s.length + 6 : Nat) : Int), 0, []⟩] := by
        intro h5
        rw [hB, parse_run _ _ _ _ _ _ (hA h5)]
      rcases fs with _ | ⟨f, _ | ⟨g, q⟩⟩
      · -- no frame
        have he : (treeL s).err = 5 := by rw [hp]; cases it <;> rfl
        refine ⟨fun _ => Or.inl ?_, fun h => by omega, fun h => by omega⟩
        rw [hmain (by simp [depF])]
        cases it <;> simp [parseT, stepT_none, stepT_some, sX]
      · cases it with
        | some i =>
          have he : (treeL s).err = 5 := by rw [hp]; rfl
          refine ⟨fun _ => Or.inl ?_, fun h => by omega, fun h => by omega⟩
          by_cases h5 : depF [f] ≤ 5
          · rw [hmain h5]
            simp [parseT, stepT_some]
          · obtain ⟨p, _, h⟩ := hC (by omega)
            rw [h]; simp
        | none =>
          have he : treeL s = ⟨f.kids, 0, 0⟩ := by rw [hp]; rfl
          have hd : depF [f] = deepL f.kids := by simp [depF]
          refine ⟨fun h => absurd (by rw [he]) h, fun _ h6 => ?_, fun _ h6 => ⟨?_, hcl⟩⟩
          · rw [he] at h6
            simp only at h6
            exact hC (by omega)
          · have hr := deep_le (treeL s).nodes 0 (by omega) (right_law s (by omega) (by rw [he])).1
            rw [he] at h6 hr
            simp only at h6 hr
            rw [hmain (by omega), he]
            simp [parseT, stepT_none, sX, endT, FrameL.add, rootF, FrameL.node]
      · have he : (treeL s).err = 5 := by rw [hp]; cases it <;> rfl
        refine ⟨fun _ => Or.inl ?_, fun h => by omega, fun h => by omega⟩
        by_cases h5 : depF (f :: g :: q) ≤ 5
        · rw [hmain h5]
          obtain ⟨h, q', e, hq⟩ := sX_cons g q
          cases it with
          | some i => simp [parseT, stepT_some]
          | none =>
            rcases q' with _ | ⟨y, q'⟩
            · exact absurd rfl hq
            · simp [parseT, stepT_none, sX, e, endT]
        · obtain ⟨p, _, h⟩ := hC (by omega)
          rw [h]; simp
  · have hT : treeL s = ⟨[], (cutL s).pos, (cutL s).err⟩ := by unfold treeL; rw [if_pos hce]
    refine ⟨fun _ => Or.inr ?_, fun h => absurd (by rw [hT] at h; exact h) hce, fun h => absurd (by rw [hT] at h; exact h) hce⟩
    rw [hT]
    simp only
    have e : cutL s = cutM false 0 0 0 s := by unfold cutL; rw [if_neg (by omega)]
    rw [e] at hce ⊢
    obtain ⟨q, h1, _, h3, h4⟩ := cutM_before false 0 0 0 s hce
    omega

end Go.Proofs.YtjbniichcopnlaaGreatDoor
end

section
/- Layer 10 (layout), plain laws: tokens alike are read as items alike; items' tokens are read as the items; items alike are written the same. No program in sight. -/
namespace Go.Proofs.YtjbniichcopnlaaGreatDoor

theorem words_z (ws : List WordL) : (ws.map zW).map wordB = ws.map wordB ∧ (ws.map zW).map wordT = ws.map wordT ∧ (ws.map zW).all wordOk = ws.all wordOk := by
  induction ws with
  | nil => exact ⟨rfl, rfl, rfl⟩
  | cons w r ih =>
    simp only [List.map_cons, List.all_cons]
    exact ⟨by rw [ih.1]; rfl, by rw [ih.2.1]; rfl, by rw [ih.2.2]; rfl⟩

mutual
theorem print_zN : ∀ (n : NodeL) (d : Nat), printN d (zN n) = printN d n
  | .mk nm p ws b ks, d => by simp only [zN, printN, (words_z ws).1, print_z ks (d + 1)]
theorem print_z : ∀ (l : List NodeL) (d : Nat), printL d (zNs l) = printL d l
  | [], _ => rfl
  | n :: r, d => by simp only [zNs, printL, print_zN n d, print_z r d]
end
mutual
theorem flat_zN : ∀ (n : NodeL), flatN (zN n) = flatN n
  | .mk nm p ws b ks => by simp only [zN, flatN, (words_z ws).2.1, flat_z ks]
theorem flat_z : ∀ (l : List NodeL), flatL (zNs l) = flatL l
  | [] => rfl
  | n :: r => by simp only [zNs, flatL, flat_zN n, flat_z r]
end
mutual
theorem left_zN : ∀ (n : NodeL) (m d : Int), leftN m d (zN n) = leftN m d n
  | .mk nm p ws b ks, m, d => by simp only [zN, leftN, List.length_map, left_z ks (m - 1) (d - 1)]
theorem left_z : ∀ (l : List NodeL) (m d : Int), leftL m d (zNs l) = leftL m d l
  | [], _, _ => rfl
  | n :: r, m, d => by simp only [zNs, leftL, leftGo, left_zN n m d, left_zG r _ d]
theorem left_zG : ∀ (l : List NodeL) (m d : Int), leftGo m d (zNs l) = leftGo m d l
  | [], _, _ => rfl
  | n :: r, m, d => by simp only [zNs, leftGo, left_zN n m d, left_zG r _ d]
end
theorem lay_z (l : List NodeL) : layL (zNs l) = layL l := by simp only [layL, check_z, flat_z, print_z]

theorem sameW_z (v w : WordL) (h : zW v = zW w) : sameW v w = true := by
  obtain ⟨a, b, c, d⟩ := v
  obtain ⟨a', b', c', d'⟩ := w
  simp only [zW, WordL.mk.injEq] at h
  obtain ⟨rfl, rfl, rfl, _⟩ := h
  simp [sameW]
theorem sameWs_z : ∀ (v w : List WordL), v.map zW = w.map zW → sameWs v w = true
  | [], [], _ => rfl
  | [], _ :: _, h => by simp at h
  | _ :: _, [], h => by simp at h
  | a :: v, b :: w, h => by
    simp only [List.map_cons, List.cons.injEq] at h
    simp [sameWs, sameW_z a b h.1, sameWs_z v w h.2]
mutual
theorem sameN_z : ∀ (m n : NodeL), zN m = zN n → sameN m n = true
  | .mk n1 p1 w1 b1 k1, .mk n2 p2 w2 b2 k2, h => by
    simp only [zN, NodeL.mk.injEq] at h
    obtain ⟨rfl, _, hw, rfl, hk⟩ := h
    simp [sameN, sameWs_z w1 w2 hw, sameNs_z k1 k2 hk]
theorem sameNs_z : ∀ (l m : List NodeL), zNs l = zNs m → sameNs l m = true
  | [], [], _ => rfl
  | [], _ :: _, h => by simp [zNs] at h
  | _ :: _, [], h => by simp [zNs] at h
  | x :: l, y :: m, h => by
    simp only [zNs, List.cons.injEq] at h
    simp [sameNs, sameN_z x y h.1, sameNs_z l m h.2]
end

/-! ### Tokens alike are read alike -/
def zF (f : FrameL) : FrameL := ⟨f.name, 0, f.words.map zW, zNs f.kids⟩
def zI (i : ItemL) : ItemL := ⟨i.name, 0, i.words.map zW⟩
theorem step_z (fs : List FrameL) (it : Option ItemL) (t : Tok) :
    stepT (fs.map zF) (it.map zI) t.bare0 = (match stepT fs it t with | .bad e => .bad e | .fine fs' it' => .fine (fs'.map zF) (it'.map zI)) := by
  obtain ⟨tk, tp, tn, ts⟩ := t
  rw [show Tok.bare0 ⟨tk, tp, tn, ts⟩ = ⟨tk, 0, tn, ts⟩ from rfl]
  cases it with
  | none =>
    simp only [Option.map_none, stepT_none]
    by_cases h1 : tk = 1
    · rw [if_pos h1, if_pos h1]; rfl
    · rw [if_neg h1, if_neg h1]
      by_cases h4 : tk = 4
      · rw [if_pos h4, if_pos h4]
        rcases fs with _ | ⟨x, _ | ⟨y, r⟩⟩
        · rfl
        · rfl
        · simp [zF, FrameL.add, FrameL.node, zNs_append, zNs, zN]
      · rw [if_neg h4, if_neg h4]
  | some i =>
    simp only [Option.map_some, stepT_some]
    by_cases h12 : tk = 1 ∨ tk = 2
    · rw [if_pos h12, if_pos h12]
      by_cases h8 : i.words.length = 8
      · rw [if_pos h8, if_pos (by simpa [zI] using h8)]
      · rw [if_neg h8, if_neg (by simpa [zI] using h8)]
        simp [zI, zW]
    · rw [if_neg h12, if_neg h12]
      by_cases h5 : tk = 5
      · rw [if_pos h5, if_pos h5]
        rcases fs with _ | ⟨y, r⟩
        · rfl
        · simp [zF, zI, FrameL.add, ItemL.node, zNs_append, zNs, zN]
      · rw [if_neg h5, if_neg h5]
        by_cases h3 : tk = 3
        · rw [if_pos h3, if_pos h3, List.length_map]
          by_cases h7 : fs.length = 7
          · rw [if_pos h7, if_pos h7]
          · rw [if_neg h7, if_neg h7]
            simp [zF, zI, zNs]
        · rw [if_neg h3, if_neg h3]

theorem parse_z (E E' : Int) : ∀ (ts : List Tok) (fs : List FrameL) (it : Option ItemL),
    (parseT E' (fs.map zF) (it.map zI) (ts.map Tok.bare0)).err = (parseT E fs it ts).err ∧ (parseT E' (fs.map zF) (it.map zI) (ts.map Tok.bare0)).nodes = zNs (parseT E fs it ts).nodes
  | [], fs, it => by
    simp only [List.map_nil, parseT]
    rcases fs with _ | ⟨f, _ | ⟨g, r⟩⟩ <;> cases it <;> simp [endT, zF, zNs]
  | t :: ts, fs, it => by
    rw [List.map_cons, parseT, parseT, step_z fs it t]
    cases hst : stepT fs it t with
    | bad e => exact ⟨rfl, rfl⟩
    | fine fs' it' => exact parse_z E E' ts fs' it'

/-- Texts of the same tokens are read alike. -/
theorem tree_alike (s t : Bytes) (hs : (cutL s).err = 0) (ht : (cutL t).err = 0) (h : (cutL s).toks.map Tok.bare0 = (cutL t).toks.map Tok.bare0) :
    (treeL t).err = (treeL s).err ∧ zNs (treeL t).nodes = zNs (treeL s).nodes := by
  unfold treeL
  rw [if_neg (by simp [ht]), if_neg (by simp [hs])]
  obtain ⟨a1, a2⟩ := parse_z s.length 0 (cutL s).toks [rootF] none
  obtain ⟨b1, b2⟩ := parse_z t.length 0 (cutL t).toks [rootF] none
  rw [h] at a1 a2
  exact ⟨by rw [← b1, a1], by rw [← b2, a2]⟩

/-! ### The items' tokens are read as the items -/
theorem run_app : ∀ (ts us : List Tok) (fs : List FrameL) (it : Option ItemL) (r : List FrameL × Option ItemL), runT fs it ts = some r → runT fs it (ts ++ us) = runT r.1 r.2 us
  | [], us, fs, it, r, h => by
    rw [runT, Option.some.injEq] at h
    subst h
    rfl
  | t :: ts, us, fs, it, r, h => by
    rw [List.cons_append, runT]
    rw [runT] at h
    cases hst : stepT fs it t with
    | bad e => rw [hst] at h; cases h
    | fine fs' it' =>
      rw [hst] at h
      exact run_app ts us fs' it' r h

theorem run_words (fs : List FrameL) : ∀ (ws : List WordL) (i : ItemL), ws.all wordOk = true → i.words.length + ws.length ≤ 8 → runT fs (some i) (ws.map wordT) = some (fs, some { i with words := i.words ++ ws.map zW })
  | [], i, _, _ => by simp [runT]
  | w :: ws, i, h, hl => by
    simp only [List.all_cons, Bool.and_eq_true] at h
    simp only [List.length_cons] at hl
    obtain ⟨nu, n, s, p⟩ := w
    have hw := h.1
    unfold wordOk at hw
    rw [List.map_cons, runT]
    cases nu
    · simp only [Bool.false_eq_true, if_false, Bool.and_eq_true, decide_eq_true_eq] at hw
      obtain ⟨rfl, _⟩ := hw
      simp only [wordT, Bool.false_eq_true, if_false]
      rw [stepT_some, if_pos (Or.inl rfl), if_neg (by omega)]
      show runT fs (some (⟨i.name, i.pos, i.words ++ [(⟨false, 0, s, 0⟩ : WordL)]⟩ : ItemL)) (ws.map wordT) = _
      rw [run_words fs ws (⟨i.name, i.pos, i.words ++ [(⟨false, 0, s, 0⟩ : WordL)]⟩ : ItemL) h.2 (by simp; omega)]
      simp [zW]
    · simp only [if_true, Bool.and_eq_true, decide_eq_true_eq] at hw
      obtain ⟨⟨rfl, _⟩, _⟩ := hw
      simp only [wordT, if_true]
      rw [stepT_some, if_pos (Or.inr rfl), if_neg (by omega)]
      show runT fs (some (⟨i.name, i.pos, i.words ++ [(⟨true, n, [], 0⟩ : WordL)]⟩ : ItemL)) (ws.map wordT) = _
      rw [run_words fs ws (⟨i.name, i.pos, i.words ++ [(⟨true, n, [], 0⟩ : WordL)]⟩ : ItemL) h.2 (by simp; omega)]
      simp [zW]

mutual
theorem run_node : ∀ (n : NodeL) (f : FrameL) (r : List FrameL), checkN r.length n = 0 → r.length ≤ 6 → runT (f :: r) none (flatN n) = some (f.add (zN n) :: r, none)
  | .mk nm p ws b ks, f, r, h, hl => by
    obtain ⟨h1, h2⟩ := check_head r.length nm p ws b ks h
    obtain ⟨h3, h4, h5, h6⟩ := check_parts r.length nm p ws b ks h
    have e1 : runT (f :: r) none [⟨1, 0, 0, nm⟩] = some (f :: r, some ⟨nm, 0, []⟩) := rfl
    have e2 := run_words (f :: r) ws ⟨nm, 0, []⟩ h1 (by simpa using h3)
    rw [List.nil_append] at e2
    have e12 := run_app _ (ws.map wordT) _ _ _ e1
    simp only [List.cons_append, List.nil_append] at e12
    rw [e2] at e12
    cases b
    · have e3 := run_app _ [⟨5, 0, 0, []⟩] _ _ _ e12
      simp only [List.cons_append] at e3
      simp only [flatN, Bool.false_eq_true, if_false]
      rw [e3, h4 rfl]
      rfl
    · have hd : r.length ≠ 6 := h5 rfl
      simp only [flatN, if_true]
      have e3 := run_app _ (⟨3, 0, 0, []⟩ :: (flatL ks ++ [⟨4, 0, 0, []⟩])) _ _ _ e12
      simp only [List.cons_append] at e3
      rw [e3, runT, stepT_some, if_neg (by decide), if_neg (by decide), if_pos rfl, if_neg (by simp only [List.length_cons]; omega)]
      simp only
      have e4 := run_nodes ks ⟨nm, 0, ws.map zW, []⟩ (f :: r) (by simpa using h6) (by simp only [List.length_cons]; omega)
      rw [run_app _ _ _ _ _ e4]
      simp only [List.nil_append]
      rfl
theorem run_nodes : ∀ (l : List NodeL) (f : FrameL) (r : List FrameL), checkL r.length l = 0 → r.length ≤ 6 → runT (f :: r) none (flatL l) = some ({ f with kids := f.kids ++ zNs l } :: r, none)
  | [], f, r, _, _ => by simp [flatL, runT, zNs]
  | n :: l, f, r, h, hl => by
    obtain ⟨h1, h2⟩ := checkL_cons r.length n l h
    simp only [flatL]
    rw [run_app _ _ _ _ _ (run_node n f r h1 hl)]
    simp only
    rw [run_nodes l (f.add (zN n)) r h2 hl]
    simp [FrameL.add, zNs]
end

/-- A text whose tokens are the items' is read as the items. -/
theorem tree_of_flat (s : Bytes) (l : List NodeL) (hc : checkL 0 l = 0) (hs : (cutL s).err = 0) (h : (cutL s).toks.map Tok.bare0 = flatL l) : (treeL s).err = 0 ∧ (treeL s).pos = 0 ∧ zNs (treeL s).nodes = zNs l := by
  have hr := run_nodes l (zF rootF) [] hc (by simp)
  obtain ⟨a1, a2⟩ := parse_z s.length 0 (cutL s).toks [rootF] none
  have hp := parse_run 0 (flatL l) [] [zF rootF] none _ hr
  rw [List.append_nil] at hp
  rw [h] at a1 a2
  have e : treeL s = parseT s.length [rootF] none (cutL s).toks := by unfold treeL; rw [if_neg (by simp [hs])]
  have hp' : parseT 0 [zF rootF] none (flatL l) = ⟨zNs l, 0, 0⟩ := by rw [hp]; simp [parseT, endT, zF, rootF, zNs]
  simp only [List.map_cons, List.map_nil, Option.map_none] at a1 a2
  rw [hp', ← e] at a1 a2
  have he : (treeL s).err = 0 := a1.symm
  exact ⟨he, (tokens_law s he).2.1, a2.symm⟩

/-- What is written is read as the same items. -/
theorem print_tree (l : List NodeL) (h : (layL l).2 = 0) : (treeL (layL l).1).err = 0 ∧ (treeL (layL l).1).pos = 0 ∧ zNs (treeL (layL l).1).nodes = zNs l := by
  obtain ⟨h1, h2, h3, h4⟩ := lay_ok l h
  rw [h4]
  obtain ⟨c1, _, c3⟩ := print_cut l h1 h2 h3
  exact tree_of_flat _ l h1 c1 c3

/-- A text written anew has the same tokens, and is written anew as it is. -/
theorem canon_law (s : Bytes) (h : (canonL s).2.2 = 0) : canonL (canonL s).1 = ((canonL s).1, 0, 0) ∧ (cutL s).err = 0 ∧ (cutL (canonL s).1).err = 0 ∧ (cutL s).toks.map Tok.bare0 = (cutL (canonL s).1).toks.map Tok.bare0 := by
  unfold canonL at h
  by_cases he : (treeL s).err ≠ 0
  · rw [if_pos he] at h; exact absurd h he
  rw [if_neg he] at h
  have he0 : (treeL s).err = 0 := by simpa using he
  have hc : canonL s = ((layL (treeL s).nodes).1, 0, 0) := by
    unfold canonL; rw [if_neg he]; exact congrArg (fun x => ((layL (treeL s).nodes).1, (0 : Int), x)) h
  obtain ⟨t1, _, t3⟩ := tokens_law s he0
  obtain ⟨h1, h2, h3, h4⟩ := lay_ok (treeL s).nodes h
  obtain ⟨c1, _, c3⟩ := print_cut (treeL s).nodes h1 h2 h3
  obtain ⟨p1, p2, p3⟩ := print_tree (treeL s).nodes h
  have hl : layL (treeL (layL (treeL s).nodes).1).nodes = layL (treeL s).nodes := by rw [← lay_z, p3, lay_z]
  rw [hc]
  simp only
  refine ⟨?_, t1, by rw [h4]; exact c1, by rw [h4, c3, t3]⟩
  unfold canonL
  rw [if_neg (by simp [p1]), hl]
  exact congrArg (fun x => ((layL (treeL s).nodes).1, (0 : Int), x)) h

/-- Texts of the same tokens are written the same. -/
theorem canon_alike (s t : Bytes) (hs : (cutL s).err = 0) (ht : (cutL t).err = 0) (h : (cutL s).toks.map Tok.bare0 = (cutL t).toks.map Tok.bare0) : (canonL t).1 = (canonL s).1 ∧ (canonL t).2.2 = (canonL s).2.2 := by
  obtain ⟨h1, h2⟩ := tree_alike s t hs ht h
  have hl : layL (treeL t).nodes = layL (treeL s).nodes := by rw [← lay_z, h2, lay_z]
  unfold canonL
  rw [h1]
  by_cases he : (treeL s).err ≠ 0
  · rw [if_pos he, if_pos he]; exact ⟨rfl, rfl⟩
  · rw [if_neg he, if_neg he, hl]; exact ⟨rfl, rfl⟩

end Go.Proofs.YtjbniichcopnlaaGreatDoor
end
