/- Layer 9, in plain Lean: what is read may be. -/
import Derived.Test.YtjbniichcopnlaaTreeO
namespace Go.Proofs.Ytjbniichcopnlaa

mutual
/-- How many items and words. -/
def cntN : NodeL → Nat
  | .mk _ _ ws _ ks => 1 + ws.length + cntL ks
def cntL : List NodeL → Nat
  | [] => 0
  | n :: r => cntN n + cntL r
end
theorem cntL_mem : ∀ (l : List NodeL) (i : Nat) (n : NodeL), l[i]? = some n → cntL n.kids + n.words.length + 1 ≤ cntL l
  | [], i, n, h => by simp at h
  | x :: r, 0, n, h => by
    simp only [List.getElem?_cons_zero, Option.some.injEq] at h
    subst h
    obtain ⟨nm, p, ws, b, ks⟩ := x
    simp only [NodeL.kids, NodeL.words, cntL, cntN]; omega
  | x :: r, i + 1, n, h => by
    have := cntL_mem r i n (by simpa using h)
    simp only [cntL]; omega
theorem cntL_len : ∀ l : List NodeL, l.length ≤ cntL l
  | [] => Nat.le_refl _
  | x :: r => by
    have := cntL_len r
    obtain ⟨nm, p, ws, b, ks⟩ := x
    simp only [List.length_cons, cntL, cntN]; omega
theorem checkL_snoc : ∀ (l : List NodeL) (n : NodeL) (d : Nat), checkL d l = 0 → checkN d n = 0 → checkL d (l ++ [n]) = 0
  | [], n, d, _, h => by simp [checkL, h]
  | x :: r, n, d, hl, h => by
    simp only [checkL] at hl
    rw [List.cons_append]
    simp only [checkL]
    by_cases hx : checkN d x = 0
    · rw [if_neg (by simp [hx])] at hl ⊢
      exact checkL_snoc r n d hl h
    · rw [if_pos hx] at hl; exact absurd hl hx

def itemOk (nm : Bytes) (ws : List WordL) : Prop := ws.all wordOk = true ∧ nameL nm = true ∧ ws.length ≤ 8
def invF : List FrameL → Prop
  | [] => True
  | f :: r => checkL r.length f.kids = 0 ∧ (r ≠ [] → itemOk f.name f.words) ∧ invF r
def invI : Option ItemL → Prop
  | none => True
  | some i => itemOk i.name i.words

theorem checkN_mk (d : Nat) (nm : Bytes) (p : Int) (ws : List WordL) (b : Bool) (ks : List NodeL) (h : itemOk nm ws) (hb : b = false → ks = []) (hd : b = true → d ≠ 6) (hk : checkL (d + 1) ks = 0) : checkN d (.mk nm p ws b ks) = 0 := by
  obtain ⟨h1, h2, h3⟩ := h
  simp only [checkN]
  have hlen : (!b && decide (0 < ks.length)) = false := by
    cases b
    · rw [hb rfl]; rfl
    · rfl
  rw [h1, h2, hlen, decide_eq_false (by omega)]
  rw [if_neg (by simp), if_neg (fun a => hd a.1 a.2)]
  exact hk

theorem step_inv (fs : List FrameL) (it : Option ItemL) (t : Tok) (fs' : List FrameL) (it' : Option ItemL) (ht : tokOk t = true) (hf : invF fs) (hi : invI it) (hl : fs.length ≤ 7) (h : stepT fs it t = .fine fs' it') :
    invF fs' ∧ invI it' ∧ fs'.length ≤ 7 := by
  cases it with
  | none =>
    simp only [stepT, beginT] at h
    by_cases h1 : t.kind = 1
    · rw [if_pos h1] at h
      injection h with e1 e2
      subst e1 e2
      unfold tokOk at ht
      rw [if_pos h1, Bool.and_eq_true] at ht
      exact ⟨hf, ⟨rfl, ht.1, by simp⟩, hl⟩
    · rw [if_neg h1] at h
      by_cases h4 : t.kind = 4
      · rw [if_pos h4] at h
        rcases fs with _ | ⟨x, _ | ⟨y, r⟩⟩
        · cases h
        · cases h
        · injection h with e1 e2
          subst e1 e2
          obtain ⟨hx1, hx2, hy1, hy2, hr⟩ := hf
          simp only [List.length_cons] at hl hx1
          refine ⟨⟨checkL_snoc _ _ _ hy1 ?_, hy2, hr⟩, trivial, by simp only [List.length_cons]; omega⟩
          exact checkN_mk _ _ _ _ _ _ (hx2 (by simp)) (fun e => by cases e) (fun _ => by omega) hx1
      · rw [if_neg h4] at h; cases h
  | some i =>
    simp only [stepT, goT] at h
    by_cases h12 : t.kind = 1 ∨ t.kind = 2
    · rw [if_pos h12] at h
      by_cases h8 : i.words.length = 8
      · rw [if_pos h8] at h; cases h
      · rw [if_neg h8] at h
        injection h with e1 e2
        subst e1 e2
        obtain ⟨i1, i2, i3⟩ := hi
        refine ⟨hf, ⟨?_, i2, by simp only [List.length_append, List.length_singleton]; omega⟩, hl⟩
        rw [List.all_append, i1]
        unfold tokOk at ht
        rcases h12 with h | h
        · rw [if_pos h, Bool.and_eq_true] at ht
          have hn : t.n = 0 := by simpa using ht.2
          simp [wordOk, h, ht.1, hn]
        · rw [if_neg (by omega), if_pos h] at ht
          simp only [Bool.and_eq_true, decide_eq_true_eq] at ht
          simp [wordOk, h, ht.1.1, ht.1.2, ht.2]
    · rw [if_neg h12] at h
      by_cases h5 : t.kind = 5
      · rw [if_pos h5] at h
        rcases fs with _ | ⟨y, r⟩
        · cases h
        · injection h with e1 e2
          subst e1 e2
          obtain ⟨hy1, hy2, hr⟩ := hf
          refine ⟨⟨checkL_snoc _ _ _ hy1 ?_, hy2, hr⟩, trivial, hl⟩
          exact checkN_mk _ _ _ _ _ _ hi (fun _ => rfl) (fun e => by cases e) rfl
      · rw [if_neg h5] at h
        by_cases h3 : t.kind = 3
        · rw [if_pos h3] at h
          by_cases h7 : fs.length = 7
          · rw [if_pos h7] at h; cases h
          · rw [if_neg h7] at h
            injection h with e1 e2
            subst e1 e2
            exact ⟨⟨rfl, fun _ => hi, hf⟩, trivial, by simp only [List.length_cons]; omega⟩
        · rw [if_neg h3] at h; cases h

theorem parse_inv (E : Int) : ∀ (ts : List Tok) (fs : List FrameL) (it : Option ItemL), (∀ t ∈ ts, tokOk t = true) → invF fs → invI it → fs.length ≤ 7 → (parseT E fs it ts).err = 0 → checkL 0 (parseT E fs it ts).nodes = 0
  | [], fs, it, _, hf, hi, hl, h => by
    rw [parseT] at h ⊢
    rcases fs with _ | ⟨f, _ | ⟨g, r⟩⟩ <;> rcases it with _ | i <;> simp [endT] at h ⊢ <;> first | exact hf.1 | rfl
  | t :: ts, fs, it, ht, hf, hi, hl, h => by
    rw [parseT] at h ⊢
    cases hst : stepT fs it t with
    | bad e =>
      rw [hst] at h
      exact absurd h (step_bad0 e fs it t hst)
    | fine fs' it' =>
      rw [hst] at h
      simp only at h ⊢
      obtain ⟨a, b, c⟩ := step_inv fs it t fs' it' (ht t (by simp)) hf hi hl hst
      exact parse_inv E ts fs' it' (fun u hu => ht u (by simp [hu])) a b c h

theorem check_parts (d : Nat) (nm : Bytes) (p : Int) (ws : List WordL) (b : Bool) (ks : List NodeL) (h : checkN d (.mk nm p ws b ks) = 0) : ws.length ≤ 8 ∧ (b = false → ks = []) ∧ (b = true → d ≠ 6) ∧ checkL (d + 1) ks = 0 := by
  simp only [checkN] at h
  by_cases h1 : (!ws.all wordOk || !nameL nm || decide (8 < ws.length) || (!b && decide (0 < ks.length))) = true
  · rw [if_pos h1] at h; cases h
  · rw [if_neg h1] at h
    simp only [Bool.or_eq_true, not_or, Bool.not_eq_true, decide_eq_false_iff_not] at h1
    by_cases h2 : b = true ∧ d = 6
    · rw [if_pos h2] at h; cases h
    · rw [if_neg h2] at h
      refine ⟨by omega, fun e => ?_, fun e e' => h2 ⟨e, e'⟩, h⟩
      have := h1.2
      rw [e] at this
      simp at this
      exact this
theorem checkL_cons (d : Nat) (n : NodeL) (r : List NodeL) (h : checkL d (n :: r) = 0) : checkN d n = 0 ∧ checkL d r = 0 := by
  simp only [checkL] at h
  by_cases hx : checkN d n = 0
  · rw [if_neg (by simp [hx])] at h; exact ⟨hx, h⟩
  · rw [if_pos hx] at h; exact absurd h hx
theorem cnt_flat : ∀ (l : List NodeL) (d : Nat), checkL d l = 0 → cntL l ≤ (flatL l).length
  | [], _, _ => Nat.le_refl _
  | .mk nm p ws b ks :: r, d, h => by
    obtain ⟨h1, h2⟩ := checkL_cons d _ _ h
    obtain ⟨_, p2, _, p4⟩ := check_parts d nm p ws b ks h1
    have i2 := cnt_flat r d h2
    simp only [cntL, cntN, flatL, flatN, List.length_append, List.length_cons, List.length_map]
    cases b
    · have := p2 rfl
      subst this
      simp [cntL]; omega
    · have i1 := cnt_flat ks (d + 1) p4
      simp; omega
theorem deep_le : ∀ (l : List NodeL) (d : Nat), d ≤ 6 → checkL d l = 0 → deepL l + d ≤ 6
  | [], d, hd, _ => by simp [deepL]; omega
  | .mk nm p ws b ks :: r, d, hd, h => by
    obtain ⟨h1, h2⟩ := checkL_cons d _ _ h
    obtain ⟨_, p2, p3, p4⟩ := check_parts d nm p ws b ks h1
    have i2 := deep_le r d hd h2
    simp only [deepL, deepN]
    cases b
    · have := p2 rfl
      subst this
      simp [deepL]; omega
    · have := p3 rfl
      have i1 := deep_le ks (d + 1) (by omega) p4
      simp; omega
mutual
theorem left_okN : ∀ (n : NodeL) (d : Nat) (most deep : Int), d ≤ 6 → checkN d n = 0 → (cntN n : Int) ≤ most → 8 - (d : Int) ≤ deep → most - cntN n ≤ leftN most deep n
  | .mk nm p ws b ks, d, most, deep, hd, h, hm, hdp => by
    obtain ⟨p1, p2, p3, p4⟩ := check_parts d nm p ws b ks h
    simp only [cntN] at hm ⊢
    simp only [leftN]
    rw [if_neg (by omega)]
    cases b
    · have := p2 rfl
      subst this
      simp only [leftL, cntL] at hm ⊢
      omega
    · have := p3 rfl
      have := left_okL ks (d + 1) (most - 1) (deep - 1) (by omega) p4 (by omega) (by omega)
      omega
theorem left_okL : ∀ (l : List NodeL) (d : Nat) (most deep : Int), d ≤ 6 → checkL d l = 0 → (cntL l : Int) ≤ most → 8 - (d : Int) ≤ deep → most - cntL l ≤ leftL most deep l
  | [], d, most, deep, _, _, _, _ => by simp [leftL, cntL]
  | n :: r, d, most, deep, hd, h, hm, hdp => by
    simp only [leftL]
    rw [if_neg (by omega)]
    simp only [leftGo]
    obtain ⟨h1, h2⟩ := checkL_cons d _ _ h
    simp only [cntL] at hm ⊢
    have i1 := left_okN n d most deep hd h1 (by omega) hdp
    have i2 := left_okG r d (leftN most deep n) deep hd h2 (by omega) hdp
    omega
theorem left_okG : ∀ (l : List NodeL) (d : Nat) (most deep : Int), d ≤ 6 → checkL d l = 0 → (cntL l : Int) ≤ most → 8 - (d : Int) ≤ deep → most - cntL l ≤ leftGo most deep l
  | [], d, most, deep, _, _, _, _ => by simp [leftGo, cntL]
  | n :: r, d, most, deep, hd, h, hm, hdp => by
    simp only [leftGo]
    obtain ⟨h1, h2⟩ := checkL_cons d _ _ h
    simp only [cntL] at hm ⊢
    have i1 := left_okN n d most deep hd h1 (by omega) hdp
    have i2 := left_okG r d (leftN most deep n) deep hd h2 (by omega) hdp
    omega
end

/-- What is read may be, stands no deeper than may be, and is few. -/
theorem right_law (s : Bytes) (hs : s.length ≤ 400) (he : (treeL s).err = 0) : checkL 0 (treeL s).nodes = 0 ∧ deepL (treeL s).nodes ≤ 6 ∧ 0 ≤ leftL 400 12 (treeL s).nodes ∧ cntL (treeL s).nodes ≤ 400 := by
  obtain ⟨h1, h2⟩ := treeL_err0 s he
  obtain ⟨_, _, hfl⟩ := tokens_law s he
  have hck : checkL 0 (treeL s).nodes = 0 := by
    rw [h2] at he ⊢
    exact parse_inv s.length _ _ _ (cutL_tokOk s) ⟨rfl, fun h => absurd rfl h, trivial⟩ trivial (by simp) he
  have hc : cntL (treeL s).nodes ≤ 400 := by
    have a := cnt_flat (treeL s).nodes 0 hck
    rw [hfl, List.length_map] at a
    have b := cutL_len s
    omega
  refine ⟨hck, by have := deep_le _ 0 (by omega) hck; omega, ?_, hc⟩
  have := left_okL (treeL s).nodes 0 400 12 (by omega) hck (by omega) (by omega)
  omega

end Go.Proofs.Ytjbniichcopnlaa
