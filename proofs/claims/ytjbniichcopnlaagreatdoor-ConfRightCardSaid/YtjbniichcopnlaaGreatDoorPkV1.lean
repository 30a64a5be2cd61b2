import Derived.Test.YtjbniichcopnlaaGreatDoorPkV0
import Derived.WalkKit
import Derived.Below
import Derived.Lib.ConvBytes
import Derived.Deep.Draws
section
/- Layer 9 (tree), plain laws. No program in sight. -/
namespace Go.Proofs.YtjbniichcopnlaaGreatDoor

/-! ### What Cut tells -/
/-- A token that Cut could tell, its place aside. -/
def tokOk (t : Tok) : Bool :=
  if t.kind = 1 then nameL t.s && decide (t.n = 0)
  else if t.kind = 2 then decide (0 ≤ t.n) && decide (t.n ≤ 999999999) && decide (t.s = [])
  else (decide (t.kind = 3) || decide (t.kind = 4) || decide (t.kind = 5)) && decide (t.n = 0) && decide (t.s = [])

theorem numberL_ok (u : Bytes) (h : (numberL u).2.2 = 0) : 0 ≤ (numberL u).1 ∧ (numberL u).1 ≤ 999999999 := by
  unfold numberL at h ⊢
  dsimp only at h ⊢
  split at h
  · simp at h
  split at h
  · simp at h
  split at h
  · simp at h
  rename_i a1 a2 a3
  rw [if_neg a1, if_neg a2, if_neg a3]
  have hall := runL_all isDigit u
  have hb := numL_lt (u.take (runL isDigit u)) (runL isDigit u) hall (by rw [List.length_take]; omega)
  rw [List.take_take, Nat.min_self] at hb
  exact hb

theorem tokenL_ok (l : Bytes) (cnt : Nat) (hl : l ≠ []) (he : (tokenL l cnt).2.2 = 0) (p : Int) : tokOk { (tokenL l cnt).1 with pos := p } = true := by
  cases l with
  | nil => exact absurd rfl hl
  | cons c r =>
    rw [tokenL_def] at he ⊢
    split at he
    · simp at he
    rename_i a1
    rw [if_neg a1]
    split at he
    · simp at he
    rename_i a2
    rw [if_neg a2]
    split at he
    · rename_i a3
      rw [if_pos a3]
      unfold signK at a3 ⊢
      by_cases h1 : c = 123
      · subst h1; rfl
      by_cases h2 : c = 125
      · subst h2; rfl
      by_cases h3 : c = 59
      · subst h3; rfl
      rw [if_neg h1, if_neg h2, if_neg h3] at a3
      exact absurd rfl a3
    rename_i a3
    rw [if_neg a3]
    split at he
    · rename_i a4
      rw [if_pos a4]
      obtain ⟨h1, h2⟩ := numberL_ok (c :: r) he
      simp [tokOk, h1, h2]
    rename_i a4
    rw [if_neg a4]
    split at he
    · simp at he
    rename_i a5
    rw [if_neg a5]
    have hlt : isLetter c = true := by
      cases hl : isLetter c
      · exact absurd ⟨by simpa using a3, hl, by simpa using a4⟩ a1
      · rfl
    have hin : isInner c = true := by simp [isInner, hlt]
    have hall := runL_all isInner (c :: r)
    have hlen : ((c :: r).take (runL isInner (c :: r))).length ≤ 16 := by rw [List.length_take]; omega
    obtain ⟨m, hm⟩ : ∃ m, runL isInner (c :: r) = m + 1 := ⟨runL isInner (c :: r) - 1, by have := runL_head isInner c r hin; omega⟩
    rw [hm] at hall hlen ⊢
    rw [List.take_succ_cons] at hall hlen ⊢
    simp only [tokOk, if_true, nameL, decide_true, Bool.and_true, hlt, hall, Bool.and_self, decide_eq_true hlen]

theorem cutM_tokOk : ∀ (b : Bool) (j pos cnt : Nat) (l : Bytes), ∀ t ∈ (cutM b j pos cnt l).toks, tokOk t = true
  | b, j, pos, cnt, [], t, h => by rw [cutM_nil] at h; simp at h
  | b, j + 1, pos, cnt, c :: r, t, h => by
    have e1 : cutM b (j + 1) pos cnt (c :: r) = cutM b j (pos + 1) cnt r := by cases b <;> rfl
    rw [e1] at h
    exact cutM_tokOk b j (pos + 1) cnt r t h
  | true, 0, pos, cnt, c :: r, t, h => cutM_tokOk (notEol c) 0 (pos + 1) cnt r t h
  | false, 0, pos, cnt, c :: r, t, h => by
    rw [cutM] at h
    split at h
    · exact cutM_tokOk false 0 (pos + 1) cnt r t h
    split at h
    · exact cutM_tokOk true 0 (pos + 1) cnt r t h
    dsimp only at h
    split at h
    · simp at h
    · rename_i he
      have he0 : (tokenL (c :: r) cnt).2.2 = 0 := by simpa using he
      unfold CutRes.cons at h
      split at h
      · simp only [List.mem_cons] at h
        rcases h with rfl | h
        · exact tokenL_ok (c :: r) cnt (by simp) he0 _
        · exact cutM_tokOk false _ (pos + 1) (cnt + 1) r t h
      · exact cutM_tokOk false _ (pos + 1) (cnt + 1) r t h

theorem cutL_tokOk (s : Bytes) : ∀ t ∈ (cutL s).toks, tokOk t = true := by
  unfold cutL
  split
  · intro t h; simp at h
  · exact cutM_tokOk _ _ _ _ _

/-- Each token's place lies within the text. -/
theorem cutM_posLt : ∀ (b : Bool) (j pos cnt : Nat) (l : Bytes), ∀ t ∈ (cutM b j pos cnt l).toks, (pos : Int) ≤ t.pos ∧ t.pos < pos + l.length
  | b, j, pos, cnt, [], t, h => by rw [cutM_nil] at h; simp at h
  | b, j + 1, pos, cnt, c :: r, t, h => by
    have e1 : cutM b (j + 1) pos cnt (c :: r) = cutM b j (pos + 1) cnt r := by cases b <;> rfl
    rw [e1] at h
    have := cutM_posLt b j (pos + 1) cnt r t h
    rw [List.length_cons]; omega
  | true, 0, pos, cnt, c :: r, t, h => by
    have := cutM_posLt (notEol c) 0 (pos + 1) cnt r t h
    rw [List.length_cons]; omega
  | false, 0, pos, cnt, c :: r, t, h => by
    rw [cutM] at h
    split at h
    · have := cutM_posLt false 0 (pos + 1) cnt r t h
      rw [List.length_cons]; omega
    split at h
    · have := cutM_posLt true 0 (pos + 1) cnt r t h
      rw [List.length_cons]; omega
    dsimp only at h
    split at h
    · simp at h
    · unfold CutRes.cons at h
      split at h
      · simp only [List.mem_cons] at h
        rcases h with rfl | h
        · simp only [List.length_cons]; omega
        · have := cutM_posLt false _ (pos + 1) (cnt + 1) r t h
          rw [List.length_cons]; omega
      · have := cutM_posLt false _ (pos + 1) (cnt + 1) r t h
        rw [List.length_cons]; omega

theorem cutL_posLt (s : Bytes) : ∀ t ∈ (cutL s).toks, 0 ≤ t.pos ∧ t.pos < s.length := by
  unfold cutL
  split
  · intro t h; simp at h
  · intro t h; have := cutM_posLt _ _ _ _ _ t h; omega

/-! ### The tokens of items -/
/-- A token without its place. -/
def Tok.bare0 (t : Tok) : Tok := { t with pos := 0 }
def wordT (w : WordL) : Tok := if w.num then ⟨2, 0, w.n, []⟩ else ⟨1, 0, 0, w.s⟩
mutual
def flatN : NodeL → List Tok
  | .mk nm _ ws b ks => ⟨1, 0, 0, nm⟩ :: (ws.map wordT ++ (if b then ⟨3, 0, 0, []⟩ :: (flatL ks ++ [⟨4, 0, 0, []⟩]) else [⟨5, 0, 0, []⟩]))
def flatL : List NodeL → List Tok
  | [] => []
  | n :: r => flatN n ++ flatL r
end
theorem flatL_append : ∀ (l m : List NodeL), flatL (l ++ m) = flatL l ++ flatL m
  | [], m => by simp [flatL]
  | n :: r, m => by simp only [List.cons_append, flatL, flatL_append r m, List.append_assoc]

/-- The tokens that open a block, and those that stand in it so far. -/
def flatF : List FrameL → List Tok
  | [] => []
  | [f] => flatL f.kids
  | f :: g :: r => flatF (g :: r) ++ (⟨1, 0, 0, f.name⟩ :: (f.words.map wordT ++ [⟨3, 0, 0, []⟩])) ++ flatL f.kids
def flatI : Option ItemL → List Tok
  | none => []
  | some i => ⟨1, 0, 0, i.name⟩ :: i.words.map wordT

theorem flatF_add (f : FrameL) (r : List FrameL) (n : NodeL) : flatF (f.add n :: r) = flatF (f :: r) ++ flatN n := by
  cases r with
  | nil => simp [flatF, FrameL.add, flatL_append, flatL]
  | cons g r => simp [flatF, FrameL.add, flatL_append, flatL]

/-- A token that is read is told by what is read. -/
theorem step_flat (fs : List FrameL) (it : Option ItemL) (t : Tok) (fs' : List FrameL) (it' : Option ItemL) (hne : fs ≠ []) (ht : tokOk t = true) (h : stepT fs it t = .fine fs' it') :
    flatF fs' ++ flatI it' = flatF fs ++ flatI it ++ [t.bare0] ∧ fs' ≠ [] := by
  obtain ⟨K, P, N, S⟩ := t
  cases it with
  | none =>
    simp only [stepT, beginT] at h
    split at h
    · rename_i h1
      simp only [StepR.fine.injEq] at h
      obtain ⟨rfl, rfl⟩ := h
      subst h1
      simp only [tokOk, if_true, Bool.and_eq_true, decide_eq_true_eq] at ht
      obtain ⟨_, rfl⟩ := ht
      exact ⟨by simp [flatI, Tok.bare0], hne⟩
    split at h
    · rename_i h1
      subst h1
      split at h
      · rename_i f g r
        simp only [StepR.fine.injEq] at h
        obtain ⟨rfl, rfl⟩ := h
        simp only [tokOk] at ht
        simp at ht
        obtain ⟨rfl, rfl⟩ := ht
        refine ⟨?_, by simp⟩
        rw [flatF_add]
        simp [flatF, flatI, FrameL.node, flatN, Tok.bare0]
      · cases h
    · cases h
  | some i =>
    simp only [stepT, goT] at h
    split at h
    · rename_i h1
      split at h
      · cases h
      simp only [StepR.fine.injEq] at h
      obtain ⟨rfl, rfl⟩ := h
      refine ⟨?_, hne⟩
      rcases h1 with h1 | h1
      · have h1 : K = 1 := h1
        subst h1
        simp only [tokOk, if_true, Bool.and_eq_true, decide_eq_true_eq] at ht
        obtain ⟨_, rfl⟩ := ht
        simp [flatI, Tok.bare0, wordT]
      · have h1 : K = 2 := h1
        subst h1
        simp only [tokOk] at ht
        simp at ht
        obtain ⟨_, rfl⟩ := ht
        simp [flatI, Tok.bare0, wordT]
    rename_i h12
    split at h
    · rename_i h1
      have h1 : K = 5 := h1
      subst h1
      simp only [tokOk] at ht
      simp at ht
      obtain ⟨rfl, rfl⟩ := ht
      split at h
      · simp only [StepR.fine.injEq] at h
        obtain ⟨rfl, rfl⟩ := h
        refine ⟨?_, by simp⟩
        rw [flatF_add]
        simp [flatI, ItemL.node, flatN, Tok.bare0]
      · cases h
    split at h
    · rename_i h1
      have h1 : K = 3 := h1
      subst h1
      simp only [tokOk] at ht
      simp at ht
      obtain ⟨rfl, rfl⟩ := ht
      split at h
      · cases h
      simp only [StepR.fine.injEq] at h
      obtain ⟨rfl, rfl⟩ := h
      refine ⟨?_, by simp⟩
      cases fs with
      | nil => exact absurd rfl hne
      | cons g r => simp [flatF, flatI, flatL, Tok.bare0]
    · cases h

theorem parse_flat (E : Int) (hE : 0 ≤ E) : ∀ (ts : List Tok) (fs : List FrameL) (it : Option ItemL), fs ≠ [] → (∀ t ∈ ts, tokOk t = true) → (parseT E fs it ts).err = 0 → (∀ e, ∀ f i t, stepT f i t = .bad e → e ≠ 0) →
    flatL (parseT E fs it ts).nodes = flatF fs ++ flatI it ++ ts.map Tok.bare0 ∧ (parseT E fs it ts).pos = 0
  | [], fs, it, hne, _, h, _ => by
    unfold parseT at h ⊢
    unfold endT at h ⊢
    split at h
    · simp [flatF, flatI]
    · simp at h
  | t :: ts, fs, it, hne, hok, h, hbad => by
    unfold parseT at h ⊢
    split at h
    · rename_i e he
      exact absurd h (hbad e _ _ _ he)
    · rename_i fs' it' he
      obtain ⟨h1, h2⟩ := step_flat fs it t fs' it' hne (hok t (by simp)) he
      obtain ⟨h3, h4⟩ := parse_flat E hE ts fs' it' h2 (fun t ht => hok t (by simp [ht])) h hbad
      refine ⟨?_, h4⟩
      rw [h3, h1]
      simp

theorem step_bad (e : Int) (fs : List FrameL) (it : Option ItemL) (t : Tok) (h : stepT fs it t = .bad e) : e = 5 ∨ e = 6 ∨ e = 7 := by
  cases it with
  | none =>
    simp only [stepT, beginT] at h
    repeat' split at h
    all_goals first | (cases h; simp; done) | cases h
  | some i =>
    simp only [stepT, goT] at h
    repeat' split at h
    all_goals first | (cases h; simp; done) | cases h
theorem step_bad0 (e : Int) (fs : List FrameL) (it : Option ItemL) (t : Tok) (h : stepT fs it t = .bad e) : e ≠ 0 := by
  have := step_bad e fs it t h; omega

theorem treeL_err0 (s : Bytes) (h : (treeL s).err = 0) : (cutL s).err = 0 ∧ treeL s = parseT s.length [rootF] none (cutL s).toks := by
  unfold treeL at h ⊢
  split at h
  · rename_i he; exact absurd h he
  · rename_i he; rw [if_neg he]; exact ⟨by simpa using he, rfl⟩

/-- The tokens of what is told are those of the text. -/
theorem tokens_law (s : Bytes) (h : (treeL s).err = 0) : (cutL s).err = 0 ∧ (treeL s).pos = 0 ∧ flatL (treeL s).nodes = (cutL s).toks.map Tok.bare0 := by
  obtain ⟨h1, h2⟩ := treeL_err0 s h
  rw [h2] at h ⊢
  obtain ⟨h3, h4⟩ := parse_flat s.length (by omega) (cutL s).toks [rootF] none (by simp) (cutL_tokOk s) h step_bad0
  refine ⟨h1, h4, ?_⟩
  rw [h3]
  simp [flatF, flatI, rootF, flatL]

/-- An error is told within the text, and nothing else. -/
theorem parse_err (E : Int) : ∀ (ts : List Tok) (fs : List FrameL) (it : Option ItemL), (parseT E fs it ts).err ≠ 0 → (parseT E fs it ts).nodes = [] ∧ ((parseT E fs it ts).pos = E ∨ ∃ t ∈ ts, (parseT E fs it ts).pos = t.pos)
  | [], fs, it, h => by
    unfold parseT at h ⊢
    unfold endT at h ⊢
    split at h
    · simp at h
    · exact ⟨rfl, .inl rfl⟩
  | t :: ts, fs, it, h => by
    unfold parseT at h ⊢
    split at h
    · exact ⟨rfl, .inr ⟨t, by simp, rfl⟩⟩
    · obtain ⟨h1, h2⟩ := parse_err E ts _ _ h
      refine ⟨h1, ?_⟩
      rcases h2 with h2 | ⟨u, hu, h2⟩
      · exact .inl h2
      · exact .inr ⟨u, by simp [hu], h2⟩

theorem tree_err (s : Bytes) (hs : s.length ≤ 65536) (h : (treeL s).err ≠ 0) : (treeL s).nodes = [] ∧ 0 ≤ (treeL s).pos ∧ (treeL s).pos ≤ s.length := by
  unfold treeL at h ⊢
  by_cases he : (cutL s).err ≠ 0
  · rw [if_pos he]
    unfold cutL at he ⊢
    rw [if_neg (by omega)] at he ⊢
    obtain ⟨q, h1, _, h3, _⟩ := cutM_before false 0 0 0 s he
    exact ⟨rfl, by simp only; omega, by simp only; omega⟩
  · rw [if_neg he] at h ⊢
    obtain ⟨h1, h2⟩ := parse_err s.length _ _ _ h
    refine ⟨h1, ?_⟩
    rcases h2 with h2 | ⟨u, hu, h2⟩
    · omega
    · have := cutL_posLt s u hu; omega

end Go.Proofs.YtjbniichcopnlaaGreatDoor
end

section
/- Layer 12 (conf), in plain Lean: what an item says does not lie in its places; where what is wrong is told. -/
namespace Go.Proofs.YtjbniichcopnlaaGreatDoor

/-! ### Items without their places are read the same -/
theorem place_z (l : List Bytes) (w : WordL) : placeW l (zW w) = placeW l w := rfl
theorem head_z (ws : List WordL) : (ws.map zW).headD ⟨false, 0, [], 0⟩ = zW (ws.headD ⟨false, 0, [], 0⟩) := by cases ws <;> rfl
theorem get_z (ws : List WordL) (i : Nat) : (ws.map zW).getD i ⟨false, 0, [], 0⟩ = zW (ws.getD i ⟨false, 0, [], 0⟩) := by
  rw [List.getD_eq_getElem?_getD, List.getD_eq_getElem?_getD, List.getElem?_map]
  cases ws[i]? <;> rfl
theorem end_z (nm : Bytes) (ws : List WordL) : endK nm (ws.map zW) = endK nm ws := by
  unfold endK
  simp only [head_z, get_z, place_z, List.length_map]
theorem num_z (ws : List WordL) : (ws.map zW).all (·.num) = ws.all (·.num) := by
  induction ws with
  | nil => rfl
  | cons w r ih => simp only [List.map_cons, List.all_cons]; rw [ih]; rfl
theorem zW_n (w : WordL) : (zW w).n = w.n := rfl
theorem zW_num (w : WordL) : (zW w).num = w.num := rfl
theorem zW_s (w : WordL) : (zW w).s = w.s := rfl
theorem key_z (key : Bytes) (c : CalL) (ws : List WordL) : keyK key c (ws.map zW) = keyK key c ws := by
  unfold keyK
  simp only [head_z, get_z, place_z, List.length_map, num_z, zW_n, zW_num]
theorem put_z (key : Bytes) (c : CalL) (ws : List WordL) : putK key c (ws.map zW) = putK key c ws := by
  unfold putK
  rw [end_z, key_z]

def zP : (Int × Int) ⊕ (Option CalL) → (Int × Int) ⊕ (Option CalL)
  | .inl (_, e) => .inl (0, e)
  | .inr c => .inr c
theorem empty_z (ws : List WordL) : (ws.map zW).isEmpty = ws.isEmpty := by cases ws <;> rfl
theorem formed_cons (nm : Bytes) (seen : List Bytes) (c : Option CalL) (kn : Bytes) (kp : Int) (kw : List WordL) (kb : Bool) (kk r : List NodeL) : formedL nm seen c (.mk kn kp kw kb kk :: r) =
    if (!keysL.contains kn) = true then .inl (kp, 8) else if seen.contains kn = true then .inl (kp, 9) else if (kb || kw.isEmpty || !(putK kn { calZ with name := nm } kw).2) = true then .inl (kp, 5)
    else formedL nm (seen ++ [kn]) (if kn = b_end then some (putK kn { calZ with name := nm } kw).1 else c) r := rfl
theorem zNs_cons (kn : Bytes) (kp : Int) (kw : List WordL) (kb : Bool) (kk r : List NodeL) : zNs (.mk kn kp kw kb kk :: r) = .mk kn 0 (kw.map zW) kb (zNs kk) :: zNs r := by simp only [zNs, zN]
theorem formed_z (nm : Bytes) : ∀ (l : List NodeL) (seen : List Bytes) (c : Option CalL), formedL nm seen c (zNs l) = zP (formedL nm seen c l)
  | [], seen, c => rfl
  | .mk kn kp kw kb kk :: r, seen, c => by
    rw [zNs_cons, formed_cons, formed_cons, put_z, empty_z]
    by_cases h1 : (!keysL.contains kn) = true
    · rw [if_pos h1, if_pos h1]; rfl
    · rw [if_neg h1, if_neg h1]
      by_cases h2 : seen.contains kn = true
      · rw [if_pos h2, if_pos h2]; rfl
      · rw [if_neg h2, if_neg h2]
        by_cases h3 : (kb || kw.isEmpty || !(putK kn { calZ with name := nm } kw).2) = true
        · rw [if_pos h3, if_pos h3]; rfl
        · rw [if_neg h3, if_neg h3]
          exact formed_z nm r _ _
def zO : Option (Int × Int) → Option (Int × Int)
  | some (_, e) => some (0, e)
  | none => none
theorem fits_cons (kind : Int) (seen : List Bytes) (kn : Bytes) (kp : Int) (kw : List WordL) (kb : Bool) (kk r : List NodeL) : fitsL kind seen (.mk kn kp kw kb kk :: r) =
    if (!standsC kind kn) = true then some (kp, 8) else if (kn = b_periods ∧ b_pay ∈ seen) ∨ (kn = b_pay ∧ b_periods ∈ seen) then some (kp, 9) else fitsL kind (seen ++ [kn]) r := rfl
theorem fits_z (kind : Int) : ∀ (l : List NodeL) (seen : List Bytes), fitsL kind seen (zNs l) = zO (fitsL kind seen l)
  | [], seen => rfl
  | .mk kn kp kw kb kk :: r, seen => by
    rw [zNs_cons, fits_cons, fits_cons]
    by_cases h : (!standsC kind kn) = true
    · rw [if_pos h, if_pos h]; rfl
    · rw [if_neg h, if_neg h]
      by_cases h2 : kn = b_periods ∧ b_pay ∈ seen ∨ kn = b_pay ∧ b_periods ∈ seen
      · rw [if_pos h2, if_pos h2]; rfl
      · rw [if_neg h2, if_neg h2]
        exact fits_z kind r _
theorem names_z : ∀ l : List NodeL, (zNs l).map NodeL.name = l.map NodeL.name
  | [] => rfl
  | .mk kn kp kw kb kk :: r => by simp only [zNs, zN, List.map_cons, NodeL.name, names_z r]
theorem putAll_z : ∀ (l : List NodeL) (c : CalL), putAll c (zNs l) = putAll c l
  | [], c => rfl
  | .mk kn kp kw kb kk :: r, c => by
    have := putAll_z r
    unfold putAll at this ⊢
    simp only [zNs, zN, List.foldl_cons, NodeL.name, NodeL.words, key_z]
    exact this _
theorem block_z (n : NodeL) : (readBlock (zN n)).cal = (readBlock n).cal ∧ (readBlock (zN n)).err = (readBlock n).err := by
  obtain ⟨nm, p, ws, b, ks⟩ := n
  have hk : ∀ (nm : Bytes) (p : Int) (ws : List WordL) (b : Bool) (ks : List NodeL), readBlock (.mk nm p ws b ks) =
      match formedL (ws.headD ⟨false, 0, [], 0⟩).s [] none ks with
      | .inl (p, e) => ⟨calZ, p, e⟩
      | .inr none => ⟨calZ, p, 10⟩
      | .inr (some c) =>
        match fitsL c.kind [] ks with
        | some (p, e) => ⟨calZ, p, e⟩
        | none => if missL c.kind (ks.map NodeL.name) = true then ⟨calZ, p, 10⟩ else if okC (putAll c ks) = true then ⟨putAll c ks, 0, 0⟩ else ⟨calZ, p, 1⟩ := fun _ _ _ _ _ => rfl
  rw [show zN (.mk nm p ws b ks) = .mk nm 0 (ws.map zW) b (zNs ks) by simp only [zN], hk, hk, head_z, zW_s, formed_z]
  rcases formedL (ws.headD ⟨false, 0, [], 0⟩).s [] none ks with ⟨p1, e1⟩ | (_ | c)
  · exact ⟨rfl, rfl⟩
  · exact ⟨rfl, rfl⟩
  · simp only [zP]
    rw [fits_z]
    rcases fitsL c.kind [] ks with _ | ⟨p2, e2⟩
    · simp only [zO]
      rw [names_z, putAll_z]
      by_cases h3 : missL c.kind (ks.map NodeL.name) = true
      · rw [if_pos h3, if_pos h3]; exact ⟨rfl, rfl⟩
      · rw [if_neg h3, if_neg h3]
        by_cases h4 : okC (putAll c ks) = true
        · rw [if_pos h4, if_pos h4]; exact ⟨rfl, rfl⟩
        · rw [if_neg h4, if_neg h4]; exact ⟨rfl, rfl⟩
    · exact ⟨rfl, rfl⟩
theorem read_z (n : NodeL) : (readC (zN n)).cal = (readC n).cal ∧ (readC (zN n)).err = (readC n).err := by
  have hb := block_z n
  obtain ⟨nm, p, ws, b, ks⟩ := n
  have hck : checkL 0 [zN (.mk nm p ws b ks)] = checkL 0 [.mk nm p ws b ks] := by
    have := check_z [.mk nm p ws b ks] 0
    simpa only [zNs] using this
  have hr : ∀ (nm : Bytes) (p : Int) (ws : List WordL) (b : Bool) (ks : List NodeL), readC (.mk nm p ws b ks) =
      if checkL 0 [.mk nm p ws b ks] ≠ 0 then ⟨calZ, 0, 1⟩ else if nm ≠ b_calendar ∨ b = false ∨ ws.length ≠ 1 ∨ (ws.headD ⟨false, 0, [], 0⟩).num = true then ⟨calZ, p, 5⟩ else readBlock (.mk nm p ws b ks) := fun _ _ _ _ _ => rfl
  have hz : zN (.mk nm p ws b ks) = .mk nm 0 (ws.map zW) b (zNs ks) := by simp only [zN]
  rw [hz] at hck hb ⊢
  rw [hr, hr, hck, List.length_map, head_z, zW_num]
  by_cases h1 : checkL 0 [.mk nm p ws b ks] ≠ 0
  · rw [if_pos h1, if_pos h1]; exact ⟨rfl, rfl⟩
  · rw [if_neg h1, if_neg h1]
    by_cases h2 : nm ≠ b_calendar ∨ b = false ∨ ws.length ≠ 1 ∨ (ws.headD ⟨false, 0, [], 0⟩).num = true
    · rw [if_pos h2, if_pos h2]; exact ⟨rfl, rfl⟩
    · rw [if_neg h2, if_neg h2]; exact hb
theorem read_alike (n m : NodeL) (h : zN n = zN m) : (readC n).cal = (readC m).cal ∧ (readC n).err = (readC m).err := by
  obtain ⟨a, b⟩ := read_z n
  obtain ⟨c, d⟩ := read_z m
  rw [h] at a b
  exact ⟨a.symm.trans c, b.symm.trans d⟩

/-! ### Places -/
mutual
def inN (E : Int) : NodeL → Prop
  | .mk _ p _ _ ks => (0 ≤ p ∧ p ≤ E) ∧ inNs E ks
def inNs (E : Int) : List NodeL → Prop
  | [] => True
  | n :: r => inN E n ∧ inNs E r
end
theorem inNs_app (E : Int) : ∀ l m : List NodeL, inNs E l → inNs E m → inNs E (l ++ m)
  | [], m, _, h => h
  | n :: r, m, h, h' => by simp only [List.cons_append, inNs] at h ⊢; exact ⟨h.1, inNs_app E r m h.2 h'⟩
theorem inNs_mem (E : Int) : ∀ (l : List NodeL), inNs E l → ∀ n ∈ l, inN E n
  | [], _, n, hn => by simp at hn
  | a :: r, h, n, hn => by
    simp only [inNs] at h
    rcases List.mem_cons.1 hn with rfl | hn
    · exact h.1
    · exact inNs_mem E r h.2 n hn
theorem inN_pos {E : Int} {n : NodeL} (h : inN E n) : 0 ≤ n.pos ∧ n.pos ≤ E := by obtain ⟨a, b, c, d, e⟩ := n; simp only [inN] at h; exact h.1
theorem inN_kids {E : Int} {n : NodeL} (h : inN E n) : inNs E n.kids := by obtain ⟨a, b, c, d, e⟩ := n; simp only [inN] at h; exact h.2
def inF (E : Int) (f : FrameL) : Prop := (0 ≤ f.pos ∧ f.pos ≤ E) ∧ inNs E f.kids
theorem inF_add {E : Int} {f : FrameL} {n : NodeL} (h : inF E f) (hn : inN E n) : inF E (f.add n) := ⟨h.1, inNs_app E _ _ h.2 (by simp only [inNs]; exact ⟨hn, trivial⟩)⟩
theorem inF_node {E : Int} {f : FrameL} (h : inF E f) : inN E f.node := by unfold FrameL.node; simp only [inN]; exact h
def inS (E : Int) (fs : List FrameL) (it : Option ItemL) : Prop := (∀ f ∈ fs, inF E f) ∧ ∀ i, it = some i → 0 ≤ i.pos ∧ i.pos ≤ E
theorem step_in (E : Int) (fs : List FrameL) (it : Option ItemL) (t : Tok) (h : inS E fs it) (ht : 0 ≤ t.pos ∧ t.pos ≤ E) (fs' : List FrameL) (it' : Option ItemL) (hs : stepT fs it t = .fine fs' it') : inS E fs' it' := by
  obtain ⟨h1, h2⟩ := h
  cases it with
  | none =>
    simp only [stepT, beginT] at hs
    by_cases k1 : t.kind = 1
    · rw [if_pos k1] at hs
      cases hs
      exact ⟨h1, fun i hi => by cases hi; exact ht⟩
    · rw [if_neg k1] at hs
      by_cases k4 : t.kind = 4
      · rw [if_pos k4] at hs
        match fs, h1, hs with
        | f :: g :: r, h1, hs =>
          cases hs
          refine ⟨fun x hx => ?_, fun i hi => by cases hi⟩
          rcases List.mem_cons.1 hx with rfl | hx
          · exact inF_add (h1 g (by simp)) (inF_node (h1 f (by simp)))
          · exact h1 x (by simp [hx])
        | [], _, hs => cases hs
        | [f], _, hs => cases hs
      · rw [if_neg k4] at hs; cases hs
  | some i =>
    have hi := h2 i rfl
    simp only [stepT, goT] at hs
    by_cases k1 : t.kind = 1 ∨ t.kind = 2
    · rw [if_pos k1] at hs
      by_cases k8 : i.words.length = 8
      · rw [if_pos k8] at hs; cases hs
      · rw [if_neg k8] at hs
        cases hs
        exact ⟨h1, fun j hj => by cases hj; exact hi⟩
    · rw [if_neg k1] at hs
      by_cases k5 : t.kind = 5
      · rw [if_pos k5] at hs
        match fs, h1, hs with
        | f :: r, h1, hs =>
          cases hs
          refine ⟨fun x hx => ?_, fun i hi => by cases hi⟩
          rcases List.mem_cons.1 hx with rfl | hx
          · exact inF_add (h1 f (by simp)) (by unfold ItemL.node; simp only [inN, inNs]; exact ⟨hi, trivial⟩)
          · exact h1 x (by simp [hx])
        | [], _, hs => cases hs
      · rw [if_neg k5] at hs
        by_cases k3 : t.kind = 3
        · rw [if_pos k3] at hs
          by_cases k7 : fs.length = 7
          · rw [if_pos k7] at hs; cases hs
          · rw [if_neg k7] at hs
            cases hs
            refine ⟨fun x hx => ?_, fun i hi => by cases hi⟩
            rcases List.mem_cons.1 hx with rfl | hx
            · exact ⟨hi, by simp only [inNs]⟩
            · exact h1 x hx
        · rw [if_neg k3] at hs; cases hs
theorem parse_in (E E' : Int) : ∀ (ts : List Tok) (fs : List FrameL) (it : Option ItemL), inS E fs it → (∀ t ∈ ts, 0 ≤ t.pos ∧ t.pos ≤ E) → inNs E (parseT E' fs it ts).nodes
  | [], fs, it, h, _ => by
    unfold parseT endT
    split
    · exact (h.1 _ (by simp)).2
    · simp only [inNs]
  | t :: ts, fs, it, h, ht => by
    unfold parseT
    cases hs : stepT fs it t with
    | bad e => simp only [inNs]
    | fine fs' it' => exact parse_in E E' ts fs' it' (step_in E fs it t h (ht t (by simp)) fs' it' hs) fun x hx => ht x (by simp [hx])
theorem tree_in (s : Bytes) : inNs s.length (treeL s).nodes := by
  unfold treeL
  split
  · simp only [inNs]
  · refine parse_in s.length _ _ _ _ ⟨fun f hf => ?_, fun i hi => by cases hi⟩ fun t ht => ?_
    · rcases List.mem_singleton.1 hf with rfl
      exact ⟨⟨by simp [rootF], by simp [rootF]⟩, by simp only [rootF, inNs]⟩
    · have := cutL_posLt s t ht
      omega

theorem formed_in (E : Int) (nm : Bytes) : ∀ (l : List NodeL) (seen : List Bytes) (c : Option CalL) (p e : Int), inNs E l → formedL nm seen c l = .inl (p, e) → 0 ≤ p ∧ p ≤ E
  | [], seen, c, p, e, _, h => by simp [formedL] at h
  | k :: r, seen, c, p, e, hi, h => by
    simp only [inNs] at hi
    simp only [formedL] at h
    have hp := inN_pos hi.1
    split at h
    · cases h; exact hp
    · split at h
      · cases h; exact hp
      · split at h
        · cases h; exact hp
        · exact formed_in E nm r _ _ p e hi.2 h
theorem fits_in (E : Int) (kind : Int) : ∀ (l : List NodeL) (seen : List Bytes) (p e : Int), inNs E l → fitsL kind seen l = some (p, e) → 0 ≤ p ∧ p ≤ E
  | [], seen, p, e, _, h => by simp [fitsL] at h
  | k :: r, seen, p, e, hi, h => by
    simp only [inNs] at hi
    simp only [fitsL] at h
    have hp := inN_pos hi.1
    split at h
    · cases h; exact hp
    · split at h
      · cases h; exact hp
      · exact fits_in E kind r _ p e hi.2 h
theorem read_in (E : Int) (hE : 0 ≤ E) (n : NodeL) (h : inN E n) : 0 ≤ (readC n).at_ ∧ (readC n).at_ ≤ E := by
  have hp := inN_pos h
  have hk := inN_kids h
  unfold readC
  split
  · exact ⟨Int.le_refl 0, hE⟩
  · split
    · exact hp
    · unfold readBlock
      simp only
      cases hf : formedL (n.words.headD ⟨false, 0, [], 0⟩).s [] none n.kids with
      | inl pe => exact formed_in E _ _ _ _ pe.1 pe.2 hk hf
      | inr o =>
        cases o with
        | none => exact hp
        | some c =>
          simp only
          cases hg : fitsL c.kind [] n.kids with
          | some pe => exact fits_in E _ _ _ pe.1 pe.2 hk hg
          | none =>
            simp only
            split
            · exact hp
            · split
              · exact ⟨Int.le_refl 0, hE⟩
              · exact hp
theorem go_in (E : Int) (hE : 0 ≤ E) : ∀ (l : List NodeL) (out : List CalL), inNs E l → 0 ≤ (readGo out l).pos ∧ (readGo out l).pos ≤ E
  | [], out, _ => ⟨Int.le_refl 0, hE⟩
  | n :: r, out, h => by
    simp only [inNs] at h
    have hp := inN_pos h.1
    unfold readGo
    split
    · exact hp
    · split
      · exact read_in E hE n h.1
      · split
        · exact hp
        · exact go_in E hE r _ h.2
/-- What is wrong is told within the text. -/
theorem conf_in (s : Bytes) (hs : s.length ≤ 65536) : 0 ≤ (confRead s).pos ∧ (confRead s).pos ≤ s.length := by
  unfold confRead
  split
  · rename_i h
    exact (tree_err s hs h).2
  · exact go_in _ (by omega) _ _ (tree_in s)
end Go.Proofs.YtjbniichcopnlaaGreatDoor
end

section
/- Laws over any program: a string as bytes; small facts on worlds. -/
namespace Go.Proofs.YtjbniichcopnlaaGreatDoor
open Go.RowKit

theorem conv_bytes {P : Program} (w : World) (src dst e : TypeId) (s : ByteArray) (hs : P.underlying src = some .string) (hd : P.underlying dst = some (.slice e)) (he : P.underlying e = some (.int .u8)) :
    ∃ cap W, (convert src dst (.string s)).run P w = .ok (.slice (some ⟨w.heap.size, 0, none⟩) s.size cap) W ∧ Below w.heap.size w W ∧
      ∀ (j : Nat) (h : j < s.size), W.cell? ⟨w.heap.size, j, none⟩ = some (.int .u8 (s[j]'h).toNat) := by
  refine ⟨_, _, Lib.run_convert_string_bytes w src dst e s hs hd he, ⟨?_, ?_, ?_, ?_, ?_⟩, ?_⟩
  · simp [Lib.bytesWorld, World.freeze, World.alloc, World.drew, -World.alloc_eq, -World.drew_eq]
  · simp [Lib.bytesWorld, World.freeze, World.alloc, World.drew, -World.alloc_eq, -World.drew_eq]
  · simp [Lib.bytesWorld, World.freeze, World.alloc, World.drew, -World.alloc_eq, -World.drew_eq]
  · rw [Lib.bytesWorld_size]; omega
  · intro k hk; exact Lib.bytesWorld_at_old w e s k hk
  · intro j h
    rw [Lib.bytesWorld_cell w e s j h]
    have : s.data.toList.getD j 0 = s[j] := by
      rw [List.getD, List.getElem?_eq_getElem (by simpa using h)]; rfl
    rw [this]

/-- What a contract that ends in 'Below' gives of what was there. -/
theorem bcell {W w1 : World} (hb : Below W.heap.size W w1) : (∀ b o, b < W.heap.size → w1.cell? ⟨b, o, none⟩ = W.cell? ⟨b, o, none⟩) ∧ (∀ b o, b < W.heap.size → w1.frozen? ⟨b, o, none⟩ = W.frozen? ⟨b, o, none⟩) :=
  ⟨fun b o h => hb.cell (p := ⟨b, o, none⟩) h, fun b o h => hb.frozen (p := ⟨b, o, none⟩) h⟩

end Go.Proofs.YtjbniichcopnlaaGreatDoor
end

section
/- Words for memory: a slice that reads as a list of cells; a row of the call's own that is kept. Over any program. -/
namespace Go.Proofs.YtjbniichcopnlaaGreatDoor
open Go.RowKit

theorem block_of_add (a : Addr) (n : Nat) : (a.add n).block = a.block := by unfold Addr.add; split <;> rfl
theorem add_of_add (a : Addr) (i j : Nat) : (a.add i).add j = a.add (i + j) := by
  unfold Addr.add
  by_cases hi : i = 0 <;> by_cases hj : j = 0 <;> simp [hi, hj, Nat.add_assoc]

/-- The slice with the address A, of n elements of so many cells each, reads as the cells xs, below block B. -/
def Reads (w : World) (B size : Nat) (A : Option Addr) (n : Nat) (xs : List Value) : Prop :=
  xs.length = n * size ∧ (0 < n → ∃ ad, A = some ad ∧ ad.block < B ∧ ∀ j u, xs[j]? = some u → w.cell? (ad.add j) = some u)

section
variable {w w' : World} {B B' size n : Nat} {A : Option Addr} {xs : List Value}
theorem Reads.none_ : Reads w B size A 0 [] := ⟨by simp, fun h => absurd h (by omega)⟩
theorem Reads.keep (h : Reads w B size A n xs) (hk : ∀ p : Addr, p.block < B → w'.cell? p = w.cell? p) : Reads w' B size A n xs :=
  ⟨h.1, fun hn => by
    obtain ⟨ad, e, hb, hc⟩ := h.2 hn
    exact ⟨ad, e, hb, fun j u hu => (hk _ (by rw [block_of_add]; exact hb)).trans (hc j u hu)⟩⟩
theorem Reads.more (h : Reads w B size A n xs) (hB : B ≤ B') : Reads w B' size A n xs :=
  ⟨h.1, fun hn => by
    obtain ⟨ad, e, hb, hc⟩ := h.2 hn
    exact ⟨ad, e, by omega, hc⟩⟩
theorem Reads.below (h : Reads w B size A n xs) (hb : Below B w w') : Reads w' B size A n xs := h.keep fun _ hp => hb.cell hp
theorem Reads.drew (h : Reads w B size A n xs) : Reads w.drew B size A n xs := h
theorem Reads.drewN (h : Reads w B size A n xs) (k : Nat) : Reads (w.drewN k) B size A n xs := h
theorem Reads.alloc (h : Reads w B size A n xs) (hB : B ≤ w.heap.size) (o : Obj) : Reads (w.alloc o) B size A n xs := h.keep fun p hp => World.cell?_alloc_lt w o p (by omega)
theorem Reads.setCell (h : Reads w B size A n xs) {p : Addr} (hB : B ≤ p.block) (u : Value) : Reads (w.setCell p u) B size A n xs :=
  h.keep fun q hq => World.cell?_setCell_other w p q u (fun e => by subst e; omega)
theorem Reads.grown (h : Reads w B size A n xs) {row : Option Nat} (hg : w.grownBy w' row) (hB : B ≤ w.heap.size) (hr : ∀ g, row = some g → B ≤ g) : Reads w' B size A n xs :=
  h.keep fun p hp => World.cell?_of_block (hg.block p.block (by omega) (fun e => by have := hr _ e.symm; omega))
theorem Reads.cut (h : Reads w B size A n xs) {k cap : Nat} (hk : k ≤ n) (hc : n ≤ cap) :
    Reads w B size (if cap = k then A else A.map (·.add (k * size))) (n - k) (xs.drop (k * size)) := by
  refine ⟨by rw [List.length_drop, h.1, Nat.sub_mul], fun hn => ?_⟩
  obtain ⟨ad, rfl, hb, hcell⟩ := h.2 (by omega)
  rw [if_neg (by omega)]
  refine ⟨ad.add (k * size), rfl, by rw [block_of_add]; exact hb, fun j u hu => ?_⟩
  rw [add_of_add]
  exact hcell _ u (by rw [← hu, List.getElem?_drop])
theorem Reads.of_own {base : Nat} {e : TypeId} {c : Nat} (h : w.ownsRow base e size (.slice A n c) n xs) : Reads w w.heap.size size A n xs := by
  refine ⟨h.1, fun hn => ?_⟩
  rcases h.2 with ⟨_, h0⟩ | ⟨g, cap, cur, hv, _, hh, _⟩
  · omega
  have hA : A = some ⟨g, 0, none⟩ := by injection hv
  subst hA
  refine ⟨_, rfl, ?_, h.cells (g := g) rfl⟩
  rcases Nat.lt_or_ge g w.heap.size with hlt | hge
  · exact hlt
  · rw [Array.getElem?_eq_none hge] at hh; cases hh
end

section
variable {w w' : World} {base : Nat} {e : TypeId} {size n : Nat} {v : Value} {xs : List Value}
theorem own_form (h : w.ownsRow base e size v n xs) : ∃ A c, v = .slice A n c ∧ n ≤ c := by
  rcases h.2 with ⟨rfl, rfl⟩ | ⟨g, cap, cur, rfl, _, _, hn, _⟩
  · exact ⟨none, 0, rfl, Nat.le_refl _⟩
  · exact ⟨_, cap, rfl, hn⟩
theorem own_head (h : w.ownsRow base e size v n xs) (hn : 0 < n) : ∃ g c, v = .slice (some ⟨g, 0, none⟩) n c ∧ base ≤ g ∧ g < w.heap.size := by
  rcases h.2 with ⟨_, h0⟩ | ⟨g, cap, cur, hv, hg, hh, _⟩
  · omega
  · refine ⟨g, cap, hv, hg, ?_⟩
    rcases Nat.lt_or_ge g w.heap.size with hlt | hge
    · exact hlt
    · rw [Array.getElem?_eq_none hge] at hh; cases hh
theorem own_below (h : w.ownsRow base e size v n xs) (hb : Below w.heap.size w w') : w'.ownsRow base e size v n xs := by
  refine ⟨h.1, ?_⟩
  rcases h.2 with h2 | ⟨g, cap, cur, hv, hg, hh, r⟩
  · exact Or.inl h2
  · refine Or.inr ⟨g, cap, cur, hv, hg, ?_, r⟩
    have hlt : g < w.heap.size := by
      rcases Nat.lt_or_ge g w.heap.size with hlt | hge
      · exact hlt
      · rw [Array.getElem?_eq_none hge] at hh; cases hh
    rw [hb.block g hlt]; exact hh
theorem own_set (h : w.ownsRow base e size v n xs) {p : Addr} (hp : v.ownBlock ≠ some p.block) (u : Value) : (w.setCell p u).ownsRow base e size v n xs := by
  refine ⟨h.1, ?_⟩
  rcases h.2 with h2 | ⟨g, cap, cur, hv, hg, hh, r⟩
  · exact Or.inl h2
  · subst hv
    refine Or.inr ⟨g, cap, cur, rfl, hg, ?_, r⟩
    rw [Below.heap_setCell _ _ _ _ (by intro h; exact hp (by simp [Value.ownBlock, h]))]; exact hh
theorem own_drew (h : w.ownsRow base e size v n xs) : w.drew.ownsRow base e size v n xs := h
theorem own_drewN (h : w.ownsRow base e size v n xs) (k : Nat) : (w.drewN k).ownsRow base e size v n xs := h
theorem own_new (h : w.ownsRow base e size v n xs) {p : Addr} (hp : w.heap.size ≤ p.block) (u : Value) (w2 : World) (hw : w2.ownsRow base e size v n xs) : (w2.setCell p u).ownsRow base e size v n xs :=
  own_set hw (fun he => by have := h.lt _ he; omega) u
end

/-- The cells of a new block. -/
theorem cells_new (w : World) (cs : List Value) (e : TypeId) (g : Nat) (hg : g = w.heap.size) : ∀ j u, cs[j]? = some u → (w.alloc (.cells cs.toArray e)).cell? ((⟨g, 0, none⟩ : Addr).add j) = some u := by
  intro j u h
  subst hg
  have : (⟨w.heap.size, 0, none⟩ : Addr).add j = ⟨w.heap.size, j, none⟩ := by
    unfold Addr.add; split
    · rename_i h0; subst h0; rfl
    · simp
  rw [this, World.cell?_alloc_new]
  simpa using h

theorem below_drewN {B : Nat} {a w : World} (h : Below B a w) (n : Nat) : Below B a (w.drewN n) := ⟨h.os, h.tape, h.output, h.size, h.block⟩
/-- Behind a law that ends in 'grownBy' over a row of the call's own. -/
theorem below_own {B : Nat} {a w w' : World} {base : Nat} {e : TypeId} {size n : Nat} {v : Value} {xs : List Value} (h : Below B a w) (hg : w.grownBy w' v.ownBlock) (hB : B ≤ w.heap.size) (hown : w.ownsRow base e size v n xs) (hbase : B ≤ base) : Below B a w' :=
  h.grown hg hB fun k hk => by have := hown.lt k hk; omega

end Go.Proofs.YtjbniichcopnlaaGreatDoor
end

section
/- Texts in a row of the call's own. -/
set_option linter.unusedVariables false
namespace Go.Proofs.YtjbniichcopnlaaGreatDoor
open Go.RowKit

/-- Texts of a row of the call's own. -/
def OwnStrs (w : World) (base : Nat) (v : Value) (l : List Bytes) : Prop := w.ownsRow base 9 1 v l.length (l.map fun s => .string ⟨s.toArray⟩)
theorem OwnStrs.new (w : World) (base : Nat) (s : Bytes) (hb : base ≤ w.heap.size) : OwnStrs (w.alloc (.cells #[.string ⟨s.toArray⟩] 9)) base (.slice (some ⟨w.heap.size, 0, none⟩) 1 1) [s] :=
  ⟨rfl, .inr ⟨w.heap.size, 1, _, rfl, hb, heap_alloc_new w _, Nat.le_refl _, by decide, rfl, rfl⟩⟩
theorem OwnStrs.below {w w' : World} {base : Nat} {v : Value} {l : List Bytes} (h : OwnStrs w base v l) (hb : Below w.heap.size w w') : OwnStrs w' base v l := own_below h hb

end Go.Proofs.YtjbniichcopnlaaGreatDoor
end

section
/- Laws for maps with integer or string keys whose entries are known whole: a map literal that is looked up at once, a map that the call fills. Over any program. -/
namespace Go.Proofs.YtjbniichcopnlaaGreatDoor
open Go.RowKit

/-- The keys that the laws know: integers of one kind, or strings. -/
inductive KeyOk : TypeDesc → Value → Prop where
  | int (q : IntKind) (n : Int) : KeyOk (.int q) (.int q n)
  | str (s : ByteArray) : KeyOk .string (.string s)

/-- Whether two keys are the same one. -/
def sameKey : Value → Value → Bool
  | .int _ a, .int _ b => a == b
  | .string a, .string b => a == b
  | _, _ => false

/-- The entry of a key, and its place. -/
def findE (k : Value) : List MapEntry → Nat → Option (Nat × Value)
  | [], _ => none
  | e :: es, i => if sameKey k e.key then some (i, e.val) else findE k es (i + 1)

theorem sameNow_ok {d : TypeDesc} {a b : Value} (ha : KeyOk d a) (hb : KeyOk d b) : Instr.sameNow d a b = some (sameKey a b) := by
  cases ha <;> cases hb <;> simp [Instr.sameNow, sameKey]

theorem findNow_ok {d : TypeDesc} {k : Value} (hk : KeyOk d k) : ∀ (es : List MapEntry) (i : Nat), (∀ e ∈ es, KeyOk d e.key) → Instr.findNow d k es i = some (findE k es i)
  | [], _, _ => rfl
  | e :: es, i, h => by
    have h1 := sameNow_ok hk (h e (by simp))
    have h2 := findNow_ok hk es (i + 1) (fun e he => h e (by simp [he]))
    unfold Instr.findNow findE
    rw [h1]
    cases sameKey k e.key <;> simp [h2]

theorem KeyOk.isKey {d : TypeDesc} {k : Value} (h : KeyOk d k) : MapKept.IsKey d k := by cases h <;> simp [MapKept.IsKey]

section
variable {P : Program} {T K E : TypeId} {d : TypeDesc} {w : World} {b : Nat} {es : Array MapEntry} {clock : Nat} {k v : Value}

theorem run_checkKey_ok (hK : P.underlying K = some d) (hk : KeyOk d k) (em : Bool) : (Instr.checkKey em 10000 K k).run P w = .ok () w :=
  MapKept.run_checkKey hK hk.isKey em 9999

theorem run_findKey_ok (hK : P.underlying K = some d) (hk : KeyOk d k) (l : List MapEntry) (hes : ∀ e ∈ l, KeyOk d e.key) : (Instr.findKey K k l).run P w = .ok (findE k l 0) w := by
  simp [Instr.findKey, run_underlying hK, findNow_ok hk l 0 hes]

theorem run_getMap (hb : w.heap[b]? = some (.map es clock)) : (getObj b).run P w = .ok (.map es clock) w := by
  simp [getObj, Sem.run, hb]

theorem run_setMap (hb : w.heap[b]? = some (.map es clock)) (o : Obj) : (setObj b o).run P w = .ok () { w with heap := w.heap.setIfInBounds b o } := by
  simp [setObj, Sem.run, hb]

/-- A new key into a map. -/
theorem run_mapUpdate_new (hT : P.underlying T = some (.map K E)) (hK : P.underlying K = some d) (hk : KeyOk d k) (hes : ∀ e ∈ es.toList, KeyOk d e.key) (hnew : findE k es.toList 0 = none) (hb : w.heap[b]? = some (.map es clock)) :
    (Instr.mapUpdate T (.map (some b)) k v).run P w = .ok () { w with heap := w.heap.setIfInBounds b (.map (es.push { key := k, val := v, born := clock }) (clock + 1)) } := by
  simp [Instr.mapUpdate, run_underlying hT, run_getMap hb, run_checkKey_ok hK hk, run_findKey_ok hK hk es.toList hes, hnew, run_setMap hb, Result.andThen]

/-- The same, the map being the block that was laid last. -/
theorem run_mapUpdate_last (hT : P.underlying T = some (.map K E)) (hK : P.underlying K = some d) (hk : KeyOk d k) (hes : ∀ e ∈ es.toList, KeyOk d e.key) (hnew : findE k es.toList 0 = none) :
    (Instr.mapUpdate T (.map (some w.heap.size)) k v).run P (w.alloc (.map es clock)) = .ok () (w.alloc (.map (es.push { key := k, val := v, born := clock }) (clock + 1))) := by
  rw [run_mapUpdate_new hT hK hk hes hnew (heap_alloc_new w _)]
  show Result.ok () { w.alloc (.map es clock) with heap := (w.heap.push (.map es clock)).setIfInBounds w.heap.size _ } = _
  simp only [World.alloc]
  congr 2
  apply Array.ext'
  simp [Array.setIfInBounds, Array.toList_push]

/-- A look-up that asks whether the key is there. -/
theorem run_lookup_ok (hT : P.underlying T = some (.map K E)) (hK : P.underlying K = some d) (hk : KeyOk d k) (hes : ∀ e ∈ es.toList, KeyOk d e.key) {z : Value} (hz : (zeroValue E).run P w = .ok z w) (hb : w.heap[b]? = some (.map es clock)) :
    (Instr.lookup T (.map (some b)) k true).run P w = .ok (.tuple #[((findE k es.toList 0).map (·.2)).getD z, .bool (findE k es.toList 0).isSome]) w := by
  cases hf : findE k es.toList 0 <;>
    simp [Instr.lookup, run_underlying hT, run_getMap hb, run_checkKey_ok hK hk, run_findKey_ok hK hk es.toList hes, hf, hz, Result.andThen]

/-- A look-up that does not ask. -/
theorem run_lookup_plain (hT : P.underlying T = some (.map K E)) (hK : P.underlying K = some d) (hk : KeyOk d k) (hes : ∀ e ∈ es.toList, KeyOk d e.key) {z : Value} (hz : (zeroValue E).run P w = .ok z w) (hb : w.heap[b]? = some (.map es clock)) :
    (Instr.lookup T (.map (some b)) k false).run P w = .ok (((findE k es.toList 0).map (·.2)).getD z) w := by
  cases hf : findE k es.toList 0 <;>
    simp [Instr.lookup, run_underlying hT, run_getMap hb, run_checkKey_ok hK hk, run_findKey_ok hK hk es.toList hes, hf, hz, Result.andThen]

end
end Go.Proofs.YtjbniichcopnlaaGreatDoor
end
