/- Layer 9, in plain Lean: two texts, one behind the other. -/
import Derived.Test.YtaffbnjdlgcaiaaDoorTreeR0
namespace Go.Proofs.YtaffbnjdlgcaiaaDoor

def sW (d : Int) (w : WordL) : WordL := { w with pos := w.pos + d }
mutual
def sN (d : Int) : NodeL → NodeL
  | .mk nm p ws b ks => .mk nm (p + d) (ws.map (sW d)) b (sNs d ks)
def sNs (d : Int) : List NodeL → List NodeL
  | [] => []
  | n :: r => sN d n :: sNs d r
end
theorem sNs_append (d : Int) : ∀ l m : List NodeL, sNs d (l ++ m) = sNs d l ++ sNs d m
  | [], m => rfl
  | n :: r, m => by simp only [List.cons_append, sNs, sNs_append d r m]
def sF (d : Int) (f : FrameL) : FrameL := ⟨f.name, f.pos + d, f.words.map (sW d), sNs d f.kids⟩
def sI (d : Int) (i : ItemL) : ItemL := ⟨i.name, i.pos + d, i.words.map (sW d)⟩
def sT (d : Int) (t : Tok) : Tok := { t with pos := t.pos + d }
/-- The frames moved, the outermost one being behind a's items. -/
def sB (d : Int) (a : FrameL) : List FrameL → List FrameL
  | [] => []
  | [f] => [⟨a.name, a.pos, a.words, a.kids ++ sNs d f.kids⟩]
  | f :: g :: r => sF d f :: sB d a (g :: r)
theorem sB_len (d : Int) (a : FrameL) : ∀ fs : List FrameL, (sB d a fs).length = fs.length
  | [] => rfl
  | [f] => rfl
  | f :: g :: r => by simp only [sB, List.length_cons, sB_len d a (g :: r)]
theorem sB_add (d : Int) (a : FrameL) (g : FrameL) (r : List FrameL) (n : NodeL) : sB d a (g.add n :: r) = (match sB d a (g :: r) with | h :: q => h.add (sN d n) :: q | [] => []) := by
  cases r with
  | nil => simp [sB, FrameL.add, sNs_append, sNs]
  | cons x r => simp [sB, FrameL.add, sF, sNs_append, sNs]

def okB (fs : List FrameL) : Prop := fs.getLast? = none ∨ ∃ f, fs.getLast? = some f
theorem stepT_none (fs : List FrameL) (tk p n : Int) (s : Bytes) : stepT fs none ⟨tk, p, n, s⟩ = (if tk = 1 then .fine fs (some ⟨s, p, []⟩) else if tk = 4 then (match fs with | f :: g :: r => .fine (g.add f.node :: r) none | _ => .bad 5) else .bad 5) := rfl
theorem stepT_some (fs : List FrameL) (i : ItemL) (tk p n : Int) (s : Bytes) : stepT fs (some i) ⟨tk, p, n, s⟩ = (if tk = 1 ∨ tk = 2 then (if i.words.length = 8 then .bad 6 else .fine fs (some ⟨i.name, i.pos, i.words ++ [⟨decide (tk = 2), n, s, p⟩]⟩)) else if tk = 5 then (match fs with | f :: r => .fine (f.add i.node :: r) none | [] => .bad 5) else if tk = 3 then (if fs.length = 7 then .bad 7 else .fine (⟨i.name, i.pos, i.words, []⟩ :: fs) none) else .bad 5) := rfl
theorem step_shift (d : Int) (a : FrameL) (fs : List FrameL) (it : Option ItemL) (t : Tok) (hne : fs ≠ []) :
    stepT (sB d a fs) (it.map (sI d)) (sT d t) = (match stepT fs it t with | .bad e => .bad e | .fine fs' it' => .fine (sB d a fs') (it'.map (sI d))) := by
  obtain ⟨tk, tp, tn, ts⟩ := t
  rw [show sT d ⟨tk, tp, tn, ts⟩ = ⟨tk, tp + d, tn, ts⟩ from rfl]
  cases it with
  | none =>
    simp only [Option.map_none, stepT_none]
    by_cases h1 : tk = 1
    · rw [if_pos h1, if_pos h1]; rfl
    · rw [if_neg h1, if_neg h1]
      by_cases h4 : tk = 4
      · rw [if_pos h4, if_pos h4]
        rcases fs with _ | ⟨x, _ | ⟨y, r⟩⟩
        · rfl
        · rfl
        · simp only [sB]
          have hb := sB_add d a y r x.node
          rcases hq : sB d a (y :: r) with _ | ⟨h, q⟩
          · have := sB_len d a (y :: r); rw [hq] at this; simp at this
          · rw [hq] at hb
            simp only at hb ⊢
            rw [hb]; rfl
      · rw [if_neg h4, if_neg h4]
  | some i =>
    simp only [Option.map_some, stepT_some]
    by_cases h12 : tk = 1 ∨ tk = 2
    · rw [if_pos h12, if_pos h12]
      by_cases h8 : i.words.length = 8
      · rw [if_pos h8, if_pos (by simpa [sI] using h8)]
      · rw [if_neg h8, if_neg (by simpa [sI] using h8)]
        simp [sI, sW]
    · rw [if_neg h12, if_neg h12]
      by_cases h5 : tk = 5
      · rw [if_pos h5, if_pos h5]
        rcases fs with _ | ⟨y, r⟩
        · exact absurd rfl hne
        · have hb := sB_add d a y r i.node
          rcases hq : sB d a (y :: r) with _ | ⟨h, q⟩
          · have := sB_len d a (y :: r); rw [hq] at this; simp at this
          · rw [hq] at hb
            simp only at hb ⊢
            rw [hb]; rfl
      · rw [if_neg h5, if_neg h5]
        by_cases h3 : tk = 3
        · rw [if_pos h3, if_pos h3, sB_len]
          by_cases h7 : fs.length = 7
          · rw [if_pos h7, if_pos h7]
          · rw [if_neg h7, if_neg h7]
            rcases fs with _ | ⟨y, r⟩
            · exact absurd rfl hne
            · simp [sB, sF, sI, sNs]
        · rw [if_neg h3, if_neg h3]

theorem parse_shift (d : Int) (a : FrameL) (E : Int) : ∀ (ts : List Tok) (fs : List FrameL) (it : Option ItemL), fs ≠ [] →
    parseT (E + d) (sB d a fs) (it.map (sI d)) (ts.map (sT d)) =
      if (parseT E fs it ts).err = 0 then ⟨a.kids ++ sNs d (parseT E fs it ts).nodes, 0, 0⟩ else ⟨[], (parseT E fs it ts).pos + d, (parseT E fs it ts).err⟩
  | [], fs, it, hne => by
    simp only [List.map_nil, parseT]
    rcases fs with _ | ⟨f, _ | ⟨g, r⟩⟩
    · exact absurd rfl hne
    · cases it <;> simp [sB, endT]
    · have : ∃ x y q, sB d a (f :: g :: r) = x :: y :: q := by
        rcases hq : sB d a (g :: r) with _ | ⟨h, q⟩
        · have := sB_len d a (g :: r); rw [hq] at this; simp at this
        · exact ⟨sF d f, h, q, by simp only [sB]; rw [hq]⟩
      obtain ⟨x, y, q, e⟩ := this
      rw [e]
      cases it <;> simp [endT]
  | t :: ts, fs, it, hne => by
    rw [List.map_cons, parseT, step_shift d a fs it t hne, parseT]
    cases hst : stepT fs it t with
    | bad e =>
      have := step_bad0 e fs it t hst
      simp [this, sT]
    | fine fs' it' =>
      simp only
      exact parse_shift d a E ts fs' it' (open_step.step_ne hne hst)

theorem parse_app (E E' : Int) : ∀ (ts us : List Tok) (fs : List FrameL) (it : Option ItemL), (parseT E fs it ts).err = 0 →
    ∃ f : FrameL, f.kids = (parseT E fs it ts).nodes ∧ parseT E' fs it (ts ++ us) = parseT E' [f] none us
  | [], us, fs, it, h => by
    rw [parseT] at h
    rcases fs with _ | ⟨f, _ | ⟨g, r⟩⟩
    · simp [endT] at h
    · cases it with
      | none => exact ⟨f, rfl, rfl⟩
      | some i => simp [endT] at h
    · cases it <;> simp [endT] at h
  | t :: ts, us, fs, it, h => by
    rw [parseT] at h
    rw [List.cons_append, parseT, parseT]
    cases hst : stepT fs it t with
    | bad e =>
      rw [hst] at h
      exact absurd h (step_bad0 e fs it t hst)
    | fine fs' it' =>
      rw [hst] at h
      simp only at h
      obtain ⟨f, h1, h2⟩ := parse_app E E' ts us fs' it' h
      exact ⟨f, h1, h2⟩

theorem sameW_shift (d : Int) (w : WordL) : sameW (sW d w) w = true := by simp [sameW, sW]
theorem sameW_refl (w : WordL) : sameW w w = true := by simp [sameW]
theorem sameWs_shift (d : Int) : ∀ l : List WordL, sameWs (l.map (sW d)) l = true
  | [] => rfl
  | w :: l => by rw [List.map_cons, sameWs, sameW_shift, sameWs_shift d l]; rfl
theorem sameWs_refl : ∀ l : List WordL, sameWs l l = true
  | [] => rfl
  | w :: l => by rw [sameWs, sameW_refl, sameWs_refl l]; rfl
theorem sameNs_shift (d : Int) : ∀ l : List NodeL, sameNs (sNs d l) l = true
  | [] => rfl
  | .mk nm p ws b ks :: r => by
    simp only [sNs, sN, sameNs, sameN, sameWs_shift, sameNs_shift d ks, sameNs_shift d r]
    simp
theorem sameNs_refl : ∀ l : List NodeL, sameNs l l = true
  | [] => rfl
  | .mk nm p ws b ks :: r => by
    simp only [sameNs, sameN, sameWs_refl, sameNs_refl ks, sameNs_refl r]
    simp
theorem sameNs_append : ∀ l l' m m' : List NodeL, sameNs l l' = true → sameNs m m' = true → sameNs (l ++ m) (l' ++ m') = true
  | [], [], m, m', _, h => h
  | [], _ :: _, m, m', h, _ => by simp [sameNs] at h
  | _ :: _, [], m, m', h, _ => by simp [sameNs] at h
  | x :: l, y :: l', m, m', h, h' => by
    simp only [sameNs, Bool.and_eq_true] at h
    simp only [List.cons_append, sameNs, h.1, sameNs_append l l' m m' h.2 h', Bool.and_self]

/-- The tokens of two texts. -/
theorem cut_two (s t : Bytes) (hs : s.length ≤ 200) (ht : t.length ≤ 200) (he : (cutL s).err = 0) :
    cutL (s ++ 10 :: t) = if (cutL t).err = 0 then ⟨(cutL s).toks ++ (cutL t).toks.map (sT ((s.length + 1 : Nat) : Int)), 0, 0⟩ else ⟨[], (cutL t).pos + (s.length + 1), (cutL t).err⟩ := by
  have e : cutL s = cutM false 0 0 0 s := by unfold cutL; rw [if_neg (by omega)]
  have e2 : cutL t = cutM false 0 0 0 t := by unfold cutL; rw [if_neg (by omega)]
  have e3 : cutL (s ++ 10 :: t) = cutM false 0 0 0 (s ++ 10 :: t) := by unfold cutL; rw [if_neg (by simp; omega)]
  have hlen := cutM_len false 0 0 0 s
  rw [e] at he ⊢
  rw [e2, e3, cutM_app false 0 0 0 s t (Nat.zero_le _), if_pos he, Nat.zero_add, Nat.zero_add]
  have h1 : cutM false 0 (s.length + 1) (cutM false 0 0 0 s).toks.length t = (cutM false 0 0 0 t).shift (s.length + 1) := by
    rw [cutM_cnt false 0 (s.length + 1) _ 0 t (by omega) (by omega)]
    have := cutM_shift (s.length + 1) false 0 0 0 t
    rwa [Nat.zero_add] at this
  rw [h1]
  have herr := cutM_err false 0 0 0 t
  by_cases hf : (cutM false 0 0 0 t).err = 0
  · rw [if_pos hf]
    unfold CutRes.pre CutRes.shift
    rw [if_pos hf]
    rfl
  · rw [if_neg hf]
    have hn := herr.2 hf
    unfold CutRes.pre CutRes.shift
    rw [if_neg hf, if_neg hf, hn]
    rfl

theorem right_law' (s : Bytes) (hc : (cutL s).toks.length ≤ 400) (he : (treeL s).err = 0) : checkL 0 (treeL s).nodes = 0 ∧ cntL (treeL s).nodes ≤ 400 := by
  obtain ⟨h1, h2⟩ := treeL_err0 s he
  obtain ⟨_, _, hfl⟩ := tokens_law s he
  have hck : checkL 0 (treeL s).nodes = 0 := by
    rw [h2] at he ⊢
    exact parse_inv s.length _ _ _ (cutL_tokOk s) ⟨rfl, fun h => absurd rfl h, trivial⟩ trivial (by simp) he
  refine ⟨hck, ?_⟩
  have a := cnt_flat (treeL s).nodes 0 hck
  rw [hfl, List.length_map] at a
  omega

/-- Two texts, one behind the other, are read as the items of both. -/
theorem two_tree (s t : Bytes) (hs : s.length ≤ 200) (ht : t.length ≤ 200) (he : (treeL s).err = 0) :
    treeL (s ++ 10 :: t) = (if (treeL t).err = 0 then ⟨(treeL s).nodes ++ sNs ((s.length + 1 : Nat) : Int) (treeL t).nodes, 0, 0⟩ else ⟨[], (treeL t).pos + ((s.length + 1 : Nat) : Int), (treeL t).err⟩) ∧
      (cutL (s ++ 10 :: t)).toks.length ≤ 400 := by
  obtain ⟨h1, h2⟩ := treeL_err0 s he
  have hct := cut_two s t hs ht h1
  have hl1 := cutL_len s
  have hl2 := cutL_len t
  refine ⟨?_, ?_⟩
  · by_cases hf : (cutL t).err = 0
    · rw [if_pos hf] at hct
      have e1 : treeL (s ++ 10 :: t) = parseT (s ++ 10 :: t).length [rootF] none ((cutL s).toks ++ (cutL t).toks.map (sT ((s.length + 1 : Nat) : Int))) := by
        unfold treeL; rw [hct, if_neg (by simp)]
      have e2 : treeL t = parseT t.length [rootF] none (cutL t).toks := by unfold treeL; rw [if_neg (by simp [hf])]
      rw [h2] at he
      obtain ⟨f, hf1, hf2⟩ := parse_app s.length (s ++ 10 :: t).length (cutL s).toks ((cutL t).toks.map (sT ((s.length + 1 : Nat) : Int))) [rootF] none he
      rw [e1, hf2, e2]
      have hE : ((s ++ 10 :: t).length : Int) = (t.length : Int) + ((s.length + 1 : Nat) : Int) := by simp; omega
      have hps := parse_shift ((s.length + 1 : Nat) : Int) f t.length (cutL t).toks [rootF] none (by simp)
      have hroot : sB ((s.length + 1 : Nat) : Int) f [rootF] = [f] := by simp [sB, rootF, sNs]
      rw [hroot] at hps
      rw [hE]
      have hps' : parseT ((t.length : Int) + ((s.length + 1 : Nat) : Int)) [f] none ((cutL t).toks.map (sT ((s.length + 1 : Nat) : Int))) = _ := hps
      rw [hps', hf1, ← h2]
    · rw [if_neg hf] at hct
      have e1 : treeL (s ++ 10 :: t) = ⟨[], (((cutL t).pos + (s.length + 1) : Nat) : Int), (cutL t).err⟩ := by
        unfold treeL; rw [hct, if_pos hf]
      have e2 : treeL t = ⟨[], (cutL t).pos, (cutL t).err⟩ := by unfold treeL; rw [if_pos hf]
      rw [e1, e2, if_neg hf]
      simp
  · rw [hct]
    split
    · rw [List.length_append, List.length_map]; omega
    · simp

end Go.Proofs.YtaffbnjdlgcaiaaDoor
