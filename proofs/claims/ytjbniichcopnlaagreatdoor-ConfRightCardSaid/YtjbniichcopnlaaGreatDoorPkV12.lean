import Derived.Test.YtjbniichcopnlaaGreatDoorPkV1
import Derived.Test.YtjbniichcopnlaaGreatDoorTreeP7
import Derived.Test.YtjbniichcopnlaaGreatDoorPkV6
section
/- Layer 9, in plain Lean: a text with its last token left out. -/
namespace Go.Proofs.YtjbniichcopnlaaGreatDoor

theorem open_step : ∀ (ts : List Tok) (fs : List FrameL) (it : Option ItemL) (t : Tok) (E E' : Int), fs ≠ [] → (parseT E fs it (ts ++ [t])).err = 0 →
    parseT E' fs it ts = ⟨[], E', 5⟩ ∧ (parseT E fs it (ts ++ [t])).nodes ≠ []
  | [], fs, it, t, E, E', hne, h => by
    rw [List.nil_append] at h ⊢
    rw [parseT] at h ⊢
    cases hst : stepT fs it t with
    | bad e =>
      rw [hst] at h
      exact absurd h (step_bad0 e fs it t hst)
    | fine fs' it' =>
      rw [hst] at h
      simp only [parseT] at h ⊢
      cases it with
      | none =>
        simp only [stepT, beginT] at hst
        by_cases h1 : t.kind = 1
        · rw [if_pos h1] at hst
          injection hst with e1 e2
          subst e1 e2
          rcases fs with _ | ⟨a, _ | ⟨b, c⟩⟩ <;> simp [endT] at h
        · rw [if_neg h1] at hst
          by_cases h4 : t.kind = 4
          · rw [if_pos h4] at hst
            rcases fs with _ | ⟨a, _ | ⟨b, c⟩⟩
            · simp at hst
            · simp at hst
            · injection hst with e1 e2
              subst e1 e2
              rcases c with _ | ⟨d, c⟩
              · exact ⟨rfl, by simp [endT, FrameL.add]⟩
              · simp [endT] at h
          · rw [if_neg h4] at hst; cases hst
      | some i =>
        simp only [stepT, goT] at hst
        refine ⟨by rcases fs with _ | ⟨a, _ | ⟨b, c⟩⟩ <;> rfl, ?_⟩
        by_cases h12 : t.kind = 1 ∨ t.kind = 2
        · rw [if_pos h12] at hst
          by_cases h8 : i.words.length = 8
          · rw [if_pos h8] at hst; cases hst
          · rw [if_neg h8] at hst
            injection hst with e1 e2
            subst e1 e2
            rcases fs with _ | ⟨a, _ | ⟨b, c⟩⟩ <;> simp [endT] at h
        · rw [if_neg h12] at hst
          by_cases h5 : t.kind = 5
          · rw [if_pos h5] at hst
            rcases fs with _ | ⟨a, c⟩
            · exact absurd rfl hne
            · injection hst with e1 e2
              subst e1 e2
              rcases c with _ | ⟨d, c⟩
              · simp [endT, FrameL.add]
              · simp [endT] at h
          · rw [if_neg h5] at hst
            by_cases h3 : t.kind = 3
            · rw [if_pos h3] at hst
              by_cases h7 : fs.length = 7
              · rw [if_pos h7] at hst; cases hst
              · rw [if_neg h7] at hst
                injection hst with e1 e2
                subst e1 e2
                rcases fs with _ | ⟨a, c⟩
                · exact absurd rfl hne
                · simp [endT] at h
            · rw [if_neg h3] at hst; cases hst
  | u :: ts, fs, it, t, E, E', hne, h => by
    rw [List.cons_append, parseT] at h ⊢
    rw [parseT]
    cases hst : stepT fs it u with
    | bad e =>
      rw [hst] at h
      exact absurd h (step_bad0 e fs it u hst)
    | fine fs' it' =>
      rw [hst] at h
      simp only at h ⊢
      exact open_step ts fs' it' t E E' (step_ne hne hst) h
where
  step_ne {fs : List FrameL} {it : Option ItemL} {u : Tok} {fs' : List FrameL} {it' : Option ItemL} (hne : fs ≠ []) (h : stepT fs it u = .fine fs' it') : fs' ≠ [] := by
    cases it with
    | none =>
      simp only [stepT, beginT] at h
      split at h
      · injection h with e1 e2; subst e1; exact hne
      · split at h
        · rcases fs with _ | ⟨a, _ | ⟨b, c⟩⟩
          · cases h
          · cases h
          · injection h with e1 e2; subst e1; simp
        · cases h
    | some i =>
      simp only [stepT, goT] at h
      split at h
      · split at h
        · cases h
        · injection h with e1 e2; subst e1; exact hne
      · split at h
        · rcases fs with _ | ⟨a, c⟩
          · cases h
          · injection h with e1 e2; subst e1; simp
        · split at h
          · split at h
            · cases h
            · injection h with e1 e2; subst e1; simp
          · cases h

theorem open_law (s : Bytes) (hs : s.length ≤ 400) (he : (treeL s).err = 0) : (cutL s).err = 0 ∧ ((cutL s).toks = [] → (treeL s).nodes = []) ∧
    ∀ ts t, (cutL s).toks = ts ++ [t] → ∃ q : Nat, t.pos = (q : Int) ∧ q ≤ s.length ∧ treeL (s.take q) = ⟨[], q, 5⟩ ∧ (treeL s).nodes ≠ [] := by
  obtain ⟨h1, h2⟩ := treeL_err0 s he
  refine ⟨h1, fun h => ?_, fun ts t ht => ?_⟩
  · rw [h2, h]; rfl
  · rw [h2, ht] at he
    have e : ∀ l : Bytes, l.length ≤ 400 → cutL l = cutM false 0 0 0 l := fun l hl => by unfold cutL; rw [if_neg (by omega)]
    have hc := h1
    rw [e s hs] at hc
    have hti : (cutM false 0 0 0 s).toks[ts.length]? = some t := by rw [← e s hs, ht]; simp
    obtain ⟨q, q1, _, q3, q4⟩ := cutM_split false 0 0 0 s ts.length t hc hti
    rw [Nat.zero_add] at q1
    have h5 := q4 [] (.inr (fun c hc => by simp at hc))
    have htk : (cutM false 0 0 0 s).toks.take ts.length = ts := by rw [← e s hs, ht]; simp
    have hn : cutM false 0 (0 + q) (0 + ts.length) [] = ⟨[], 0, 0⟩ := rfl
    rw [List.append_nil, hn, htk] at h5
    have h6 : cutL (s.take q) = ⟨ts, 0, 0⟩ := by
      rw [e _ (by rw [List.length_take]; omega), h5]
      simp [CutRes.pre]
    obtain ⟨p1, p2⟩ := open_step ts [rootF] none t s.length (s.take q).length (by simp) he
    refine ⟨q, q1, q3, ?_, by rw [h2, ht]; exact p2⟩
    unfold treeL
    rw [h6]
    simp only [ne_eq, not_true_eq_false, if_false]
    rw [p1, List.length_take, Nat.min_eq_left q3]

end Go.Proofs.YtjbniichcopnlaaGreatDoor
end

section
/- Layer 9, in plain Lean: what is read may be. -/
namespace Go.Proofs.YtjbniichcopnlaaGreatDoor

mutual
/-- How many items and words. -/
def cntN : NodeL → Nat
  | .mk _ _ ws _ ks => 1 + ws.length + cntL ks
def cntL : List NodeL → Nat
  | [] => 0
  | n :: r => cntN n + cntL r
end
theorem cntL_mem : ∀ (l : List NodeL) (i : Nat) (n : NodeL), l[i]? = some n → cntL n.kids + n.words.length + 1 ≤ cntL l
  | [], i, n, h => by simp at h
  | x :: r, 0, n, h => by
    simp only [List.getElem?_cons_zero, Option.some.injEq] at h
    subst h
    obtain ⟨nm, p, ws, b, ks⟩ := x
    simp only [NodeL.kids, NodeL.words, cntL, cntN]; omega
  | x :: r, i + 1, n, h => by
    have := cntL_mem r i n (by simpa using h)
    simp only [cntL]; omega
theorem cntL_len : ∀ l : List NodeL, l.length ≤ cntL l
  | [] => Nat.le_refl _
  | x :: r => by
    have := cntL_len r
    obtain ⟨nm, p, ws, b, ks⟩ := x
    simp only [List.length_cons, cntL, cntN]; omega
theorem checkL_snoc : ∀ (l : List NodeL) (n : NodeL) (d : Nat), checkL d l = 0 → checkN d n = 0 → checkL d (l ++ [n]) = 0
  | [], n, d, _, h => by simp [checkL, h]
  | x :: r, n, d, hl, h => by
    simp only [checkL] at hl
    rw [List.cons_append]
    simp only [checkL]
    by_cases hx : checkN d x = 0
    · rw [if_neg (by simp [hx])] at hl ⊢
      exact checkL_snoc r n d hl h
    · rw [if_pos hx] at hl; exact absurd hl hx

def itemOk (nm : Bytes) (ws : List WordL) : Prop := ws.all wordOk = true ∧ nameL nm = true ∧ ws.length ≤ 8
def invF : List FrameL → Prop
  | [] => True
  | f :: r => checkL r.length f.kids = 0 ∧ (r ≠ [] → itemOk f.name f.words) ∧ invF r
def invI : Option ItemL → Prop
  | none => True
  | some i => itemOk i.name i.words

theorem checkN_mk (d : Nat) (nm : Bytes) (p : Int) (ws : List WordL) (b : Bool) (ks : List NodeL) (h : itemOk nm ws) (hb : b = false → ks = []) (hd : b = true → d ≠ 6) (hk : checkL (d + 1) ks = 0) : checkN d (.mk nm p ws b ks) = 0 := by
  obtain ⟨h1, h2, h3⟩ := h
  simp only [checkN]
  have hlen : (!b && decide (0 < ks.length)) = false := by
    cases b
    · rw [hb rfl]; rfl
    · rfl
  rw [h1, h2, hlen, decide_eq_false (by omega)]
  rw [if_neg (by simp), if_neg (fun a => hd a.1 a.2)]
  exact hk

theorem step_inv (fs : List FrameL) (it : Option ItemL) (t : Tok) (fs' : List FrameL) (it' : Option ItemL) (ht : tokOk t = true) (hf : invF fs) (hi : invI it) (hl : fs.length ≤ 7) (h : stepT fs it t = .fine fs' it') :
    invF fs' ∧ invI it' ∧ fs'.length ≤ 7 := by
  cases it with
  | none =>
    simp only [stepT, beginT] at h
    by_cases h1 : t.kind = 1
    · rw [if_pos h1] at h
      injection h with e1 e2
      subst e1 e2
      unfold tokOk at ht
      rw [if_pos h1, Bool.and_eq_true] at ht
      exact ⟨hf, ⟨rfl, ht.1, by simp⟩, hl⟩
    · rw [if_neg h1] at h
      by_cases h4 : t.kind = 4
      · rw [if_pos h4] at h
        rcases fs with _ | ⟨x, _ | ⟨y, r⟩⟩
        · cases h
        · cases h
        · injection h with e1 e2
          subst e1 e2
          obtain ⟨hx1, hx2, hy1, hy2, hr⟩ := hf
          simp only [List.length_cons] at hl hx1
          refine ⟨⟨checkL_snoc _ _ _ hy1 ?_, hy2, hr⟩, trivial, by simp only [List.length_cons]; omega⟩
          exact checkN_mk _ _ _ _ _ _ (hx2 (by simp)) (fun e => by cases e) (fun _ => by omega) hx1
      · rw [if_neg h4] at h; cases h
  | some i =>
    simp only [stepT, goT] at h
    by_cases h12 : t.kind = 1 ∨ t.kind = 2
    · rw [if_pos h12] at h
      by_cases h8 : i.words.length = 8
      · rw [if_pos h8] at h; cases h
      · rw [if_neg h8] at h
        injection h with e1 e2
        subst e1 e2
        obtain ⟨i1, i2, i3⟩ := hi
        refine ⟨hf, ⟨?_, i2, by simp only [List.length_append, List.length_singleton]; omega⟩, hl⟩
        rw [List.all_append, i1]
        unfold tokOk at ht
        rcases h12 with h | h
        · rw [if_pos h, Bool.and_eq_true] at ht
          have hn : t.n = 0 := by simpa using ht.2
          simp [wordOk, h, ht.1, hn]
        · rw [if_neg (by omega), if_pos h] at ht
          simp only [Bool.and_eq_true, decide_eq_true_eq] at ht
          simp [wordOk, h, ht.1.1, ht.1.2, ht.2]
    · rw [if_neg h12] at h
      by_cases h5 : t.kind = 5
      · rw [if_pos h5] at h
        rcases fs with _ | ⟨y, r⟩
        · cases h
        · injection h with e1 e2
          subst e1 e2
          obtain ⟨hy1, hy2, hr⟩ := hf
          refine ⟨⟨checkL_snoc _ _ _ hy1 ?_, hy2, hr⟩, trivial, hl⟩
          exact checkN_mk _ _ _ _ _ _ hi (fun _ => rfl) (fun e => by cases e) rfl
      · rw [if_neg h5] at h
        by_cases h3 : t.kind = 3
        · rw [if_pos h3] at h
          by_cases h7 : fs.length = 7
          · rw [if_pos h7] at h; cases h
          · rw [if_neg h7] at h
            injection h with e1 e2
            subst e1 e2
            exact ⟨⟨rfl, fun _ => hi, hf⟩, trivial, by simp only [List.length_cons]; omega⟩
        · rw [if_neg h3] at h; cases h

theorem parse_inv (E : Int) : ∀ (ts : List Tok) (fs : List FrameL) (it : Option ItemL), (∀ t ∈ ts, tokOk t = true) → invF fs → invI it → fs.length ≤ 7 → (parseT E fs it ts).err = 0 → checkL 0 (parseT E fs it ts).nodes = 0
  | [], fs, it, _, hf, hi, hl, h => by
    rw [parseT] at h ⊢
    rcases fs with _ | ⟨f, _ | ⟨g, r⟩⟩ <;> rcases it with _ | i <;> simp [endT] at h ⊢ <;> first | exact hf.1 | rfl
  | t :: ts, fs, it, ht, hf, hi, hl, h => by
    rw [parseT] at h ⊢
    cases hst : stepT fs it t with
    | bad e =>
      rw [hst] at h
      exact absurd h (step_bad0 e fs it t hst)
    | fine fs' it' =>
      rw [hst] at h
      simp only at h ⊢
      obtain ⟨a, b, c⟩ := step_inv fs it t fs' it' (ht t (by simp)) hf hi hl hst
      exact parse_inv E ts fs' it' (fun u hu => ht u (by simp [hu])) a b c h

theorem check_parts (d : Nat) (nm : Bytes) (p : Int) (ws : List WordL) (b : Bool) (ks : List NodeL) (h : checkN d (.mk nm p ws b ks) = 0) : ws.length ≤ 8 ∧ (b = false → ks = []) ∧ (b = true → d ≠ 6) ∧ checkL (d + 1) ks = 0 := by
  simp only [checkN] at h
  by_cases h1 : (!ws.all wordOk || !nameL nm || decide (8 < ws.length) || (!b && decide (0 < ks.length))) = true
  · rw [if_pos h1] at h; cases h
  · rw [if_neg h1] at h
    simp only [Bool.or_eq_true, not_or, Bool.not_eq_true, decide_eq_false_iff_not] at h1
    by_cases h2 : b = true ∧ d = 6
    · rw [if_pos h2] at h; cases h
    · rw [if_neg h2] at h
      refine ⟨by omega, fun e => ?_, fun e e' => h2 ⟨e, e'⟩, h⟩
      have := h1.2
      rw [e] at this
      simp at this
      exact this
theorem checkL_cons (d : Nat) (n : NodeL) (r : List NodeL) (h : checkL d (n :: r) = 0) : checkN d n = 0 ∧ checkL d r = 0 := by
  simp only [checkL] at h
  by_cases hx : checkN d n = 0
  · rw [if_neg (by simp [hx])] at h; exact ⟨hx, h⟩
  · rw [if_pos hx] at h; exact absurd h hx
theorem cnt_flat : ∀ (l : List NodeL) (d : Nat), checkL d l = 0 → cntL l ≤ (flatL l).length
  | [], _, _ => Nat.le_refl _
  | .mk nm p ws b ks :: r, d, h => by
    obtain ⟨h1, h2⟩ := checkL_cons d _ _ h
    obtain ⟨_, p2, _, p4⟩ := check_parts d nm p ws b ks h1
    have i2 := cnt_flat r d h2
    simp only [cntL, cntN, flatL, flatN, List.length_append, List.length_cons, List.length_map]
    cases b
    · have := p2 rfl
      subst this
      simp [cntL]; omega
    · have i1 := cnt_flat ks (d + 1) p4
      simp; omega
theorem deep_le : ∀ (l : List NodeL) (d : Nat), d ≤ 6 → checkL d l = 0 → deepL l + d ≤ 6
  | [], d, hd, _ => by simp [deepL]; omega
  | .mk nm p ws b ks :: r, d, hd, h => by
    obtain ⟨h1, h2⟩ := checkL_cons d _ _ h
    obtain ⟨_, p2, p3, p4⟩ := check_parts d nm p ws b ks h1
    have i2 := deep_le r d hd h2
    simp only [deepL, deepN]
    cases b
    · have := p2 rfl
      subst this
      simp [deepL]; omega
    · have := p3 rfl
      have i1 := deep_le ks (d + 1) (by omega) p4
      simp; omega
mutual
theorem left_okN : ∀ (n : NodeL) (d : Nat) (most deep : Int), d ≤ 6 → checkN d n = 0 → (cntN n : Int) ≤ most → 8 - (d : Int) ≤ deep → most - cntN n ≤ leftN most deep n
  | .mk nm p ws b ks, d, most, deep, hd, h, hm, hdp => by
    obtain ⟨p1, p2, p3, p4⟩ := check_parts d nm p ws b ks h
    simp only [cntN] at hm ⊢
    simp only [leftN]
    rw [if_neg (by omega)]
    cases b
    · have := p2 rfl
      subst this
      simp only [leftL, cntL] at hm ⊢
      omega
    · have := p3 rfl
      have := left_okL ks (d + 1) (most - 1) (deep - 1) (by omega) p4 (by omega) (by omega)
      omega
theorem left_okL : ∀ (l : List NodeL) (d : Nat) (most deep : Int), d ≤ 6 → checkL d l = 0 → (cntL l : Int) ≤ most → 8 - (d : Int) ≤ deep → most - cntL l ≤ leftL most deep l
  | [], d, most, deep, _, _, _, _ => by simp [leftL, cntL]
  | n :: r, d, most, deep, hd, h, hm, hdp => by
    simp only [leftL]
    rw [if_neg (by omega)]
    simp only [leftGo]
    obtain ⟨h1, h2⟩ := checkL_cons d _ _ h
    simp only [cntL] at hm ⊢
    have i1 := left_okN n d most deep hd h1 (by omega) hdp
    have i2 := left_okG r d (leftN most deep n) deep hd h2 (by omega) hdp
    omega
theorem left_okG : ∀ (l : List NodeL) (d : Nat) (most deep : Int), d ≤ 6 → checkL d l = 0 → (cntL l : Int) ≤ most → 8 - (d : Int) ≤ deep → most - cntL l ≤ leftGo most deep l
  | [], d, most, deep, _, _, _, _ => by simp [leftGo, cntL]
  | n :: r, d, most, deep, hd, h, hm, hdp => by
    simp only [leftGo]
    obtain ⟨h1, h2⟩ := checkL_cons d _ _ h
    simp only [cntL] at hm ⊢
    have i1 := left_okN n d most deep hd h1 (by omega) hdp
    have i2 := left_okG r d (leftN most deep n) deep hd h2 (by omega) hdp
    omega
end

/-- What is read may be, stands no deeper than may be, and is few. -/
theorem right_law (s : Bytes) (hs : s.length ≤ 400) (he : (treeL s).err = 0) : checkL 0 (treeL s).nodes = 0 ∧ deepL (treeL s).nodes ≤ 6 ∧ 0 ≤ leftL 400 12 (treeL s).nodes ∧ cntL (treeL s).nodes ≤ 400 := by
  obtain ⟨h1, h2⟩ := treeL_err0 s he
  obtain ⟨_, _, hfl⟩ := tokens_law s he
  have hck : checkL 0 (treeL s).nodes = 0 := by
    rw [h2] at he ⊢
    exact parse_inv s.length _ _ _ (cutL_tokOk s) ⟨rfl, fun h => absurd rfl h, trivial⟩ trivial (by simp) he
  have hc : cntL (treeL s).nodes ≤ 400 := by
    have a := cnt_flat (treeL s).nodes 0 hck
    rw [hfl, List.length_map] at a
    have b := cutL_len s
    omega
  refine ⟨hck, by have := deep_le _ 0 (by omega) hck; omega, ?_, hc⟩
  have := left_okL (treeL s).nodes 0 400 12 (by omega) hck (by omega) (by omega)
  omega

end Go.Proofs.YtjbniichcopnlaaGreatDoor
end

section
/- Layer 9 (tree): items that are read: the walks of Deep, and of Few. -/
set_option linter.unusedVariables false
set_option linter.unusedSimpArgs false
namespace Go.Proofs.YtjbniichcopnlaaGreatDoor
open Go.RowKit

/-- The slice reads as items, all they lead to below block B. -/
def ROk (w : World) (B : Nat) (A : Option Addr) (l : List NodeL) : Prop := ∃ cs, ReadsM w (· < B) 5 A l.length cs ∧ NodesOk w (· < B) l cs
theorem ROk.below {w w' : World} {B : Nat} {A : Option Addr} {l : List NodeL} (h : ROk w B A l) (hb : Below B w w') : ROk w' B A l := by
  obtain ⟨cs, h1, h2⟩ := h
  have hk : ∀ p : Addr, p.block < B → w'.cell? p = w.cell? p := fun p hp => hb.cell hp
  exact ⟨cs, h1.keep (fun _ h => h) hk, NodesOk.keep (fun _ h => h) hk _ _ h2⟩
theorem ROk.of_parse {w w' : World} {A : Option Addr} {l : List NodeL} {kcs : List Value} (h1 : ReadsM w' (fun b => w.heap.size ≤ b ∧ b < w'.heap.size) 5 A l.length kcs) (h2 : NodesOk w' (fun b => w.heap.size ≤ b ∧ b < w'.heap.size) l kcs) : ROk w' w'.heap.size A l :=
  ⟨kcs, h1.keep (fun _ h => h.2) (fun _ _ => rfl), NodesOk.keep (fun _ h => h.2) (fun _ _ => rfl) _ _ h2⟩
/-- The cells of item i, as a walk reads them. -/
theorem ROk.at {w : World} {B : Nat} {A : Option Addr} {l : List NodeL} (h : ROk w B A l) (i : Nat) (n : NodeL) (hi : l[i]? = some n) :
    ∃ ad Aw cw Ak ck, A = some ad ∧ ad.block < B ∧ w.cell? (ad.add (i * 5)) = some (.string ⟨n.name.toArray⟩) ∧ w.cell? ⟨(ad.add (i * 5)).block, (ad.add (i * 5)).off + 1, none⟩ = some (.int .i64 n.pos) ∧
      w.cell? ⟨(ad.add (i * 5)).block, (ad.add (i * 5)).off + 2, none⟩ = some (.slice Aw n.words.length cw) ∧ w.cell? ⟨(ad.add (i * 5)).block, (ad.add (i * 5)).off + 3, none⟩ = some (.bool n.block) ∧
      w.cell? ⟨(ad.add (i * 5)).block, (ad.add (i * 5)).off + 4, none⟩ = some (.slice Ak n.kids.length ck) ∧ ReadsM w (· < B) 4 Aw n.words.length (n.words.flatMap WordL.cells) ∧ ROk w B Ak n.kids := by
  obtain ⟨cs, h1, h2⟩ := h
  obtain ⟨ad, Aw, cw, Ak, ck, kcs, e, hM, c0, c1, c2, c3, c4, _, _, hw, hk, hkn⟩ := node_cells h1 h2 i n hi
  exact ⟨ad, Aw, cw, Ak, ck, e, hM, c0, c1, c2, c3, c4, hw, kcs, hk, hkn⟩

theorem deepL_cnt : ∀ l : List NodeL, deepL l ≤ cntL l
  | [] => Nat.le_refl _
  | .mk nm p ws b ks :: r => by
    have h1 := deepL_cnt ks
    have h2 := deepL_cnt r
    simp only [deepL, deepN, cntL, cntN]
    split <;> omega
theorem cntL_take : ∀ (l : List NodeL) (k : Nat), cntL (l.take k) ≤ cntL l
  | [], k => by simp [cntL]
  | x :: r, 0 => by simp [cntL]
  | x :: r, k + 1 => by
    have := cntL_take r k
    simp only [List.take_succ_cons, cntL]; omega
theorem deepN_eq (n : NodeL) : deepN n = deepL n.kids + (if n.block then 1 else 0) := by obtain ⟨nm, p, ws, b, ks⟩ := n; rfl
theorem deepL_take (l : List NodeL) (k : Nat) (n : NodeL) (h : l[k]? = some n) : deepL (l.take (k + 1)) = max (deepL (l.take k)) (deepN n) := by
  induction l generalizing k with
  | nil => simp at h
  | cons x r ih =>
    cases k with
    | zero =>
      simp only [List.getElem?_cons_zero, Option.some.injEq] at h
      subst h
      simp [deepL]
    | succ k =>
      have := ih k (by simpa using h)
      simp only [List.take_succ_cons, deepL, this]
      omega

mutual
/-- How many items. -/
def ndN : NodeL → Nat
  | .mk _ _ _ _ ks => 1 + ndL ks
def ndL : List NodeL → Nat
  | [] => 0
  | n :: r => ndN n + ndL r
end
theorem ndN_eq (n : NodeL) : ndN n = 1 + ndL n.kids := by obtain ⟨nm, p, ws, b, ks⟩ := n; rfl
theorem ndL_take (l : List NodeL) (k : Nat) (n : NodeL) (h : l[k]? = some n) : ndL (l.take (k + 1)) = ndL (l.take k) + ndN n := by
  induction l generalizing k with
  | nil => simp at h
  | cons x r ih =>
    cases k with
    | zero =>
      simp only [List.getElem?_cons_zero, Option.some.injEq] at h
      subst h
      simp [ndL]
    | succ k =>
      have := ih k (by simpa using h)
      simp only [List.take_succ_cons, ndL, this]
      omega
theorem ndL_cnt : ∀ l : List NodeL, ndL l ≤ cntL l
  | [] => Nat.le_refl _
  | .mk nm p ws b ks :: r => by
    have h1 := ndL_cnt ks
    have h2 := ndL_cnt r
    simp only [ndL, ndN, cntL, cntN]; omega
theorem cntL_take_mem (l : List NodeL) (k : Nat) (n : NodeL) (h : l[k]? = some n) : cntL (l.take k) + cntN n ≤ cntL l := by
  induction l generalizing k with
  | nil => simp at h
  | cons x r ih =>
    cases k with
    | zero =>
      simp only [List.getElem?_cons_zero, Option.some.injEq] at h
      subst h
      simp [cntL]
    | succ k =>
      have := ih k (by simpa using h)
      simp only [List.take_succ_cons, cntL]
      omega
theorem cntN_eq (n : NodeL) : cntN n = 1 + n.words.length + cntL n.kids := by obtain ⟨nm, p, ws, b, ks⟩ := n; rfl
/-- What is known of each item of a list that may be. -/
theorem check_at : ∀ (l : List NodeL) (d i : Nat) (n : NodeL), checkL d l = 0 → l[i]? = some n → n.words.length ≤ 8 ∧ n.words.all wordOk = true ∧ nameL n.name = true ∧ (n.block = false → n.kids = []) ∧ (n.block = true → d ≠ 6) ∧ checkL (d + 1) n.kids = 0
  | [], d, i, n, _, h => by simp at h
  | x :: r, d, 0, n, hl, h => by
    simp only [List.getElem?_cons_zero, Option.some.injEq] at h
    subst h
    obtain ⟨h1, _⟩ := checkL_cons d _ _ hl
    obtain ⟨nm, p, ws, b, ks⟩ := x
    obtain ⟨p1, p2, p3, p4⟩ := check_parts d nm p ws b ks h1
    refine ⟨p1, ?_, ?_, p2, p3, p4⟩
    · simp only [checkN] at h1
      show ws.all wordOk = true
      cases hw : ws.all wordOk
      · rw [hw] at h1; simp at h1
      · rfl
    · simp only [checkN] at h1
      show nameL nm = true
      cases hw : nameL nm
      · rw [hw] at h1; simp at h1
      · rfl
  | x :: r, d, i + 1, n, hl, h => by
    obtain ⟨_, h2⟩ := checkL_cons d _ _ hl
    exact check_at r d i n h2 (by simpa using h)

end Go.Proofs.YtjbniichcopnlaaGreatDoor
end

section
/- Layer 11 (field): items laid in a block of their own. -/
set_option linter.unusedVariables false
namespace Go.Proofs.YtjbniichcopnlaaGreatDoor
open Go.RowKit

theorem add_blk0 (g j : Nat) : (⟨g, 0, none⟩ : Addr).add j = ⟨g, j, none⟩ := by
  unfold Addr.add
  split
  · next h => subst h; rfl
  · simp
theorem rok_block {W : World} {g : Nat} {l : List NodeL} {kcs pad : List Value} {T : TypeId} (hg : W.heap[g]? = some (.cells (kcs ++ pad).toArray T (0, 0))) (hn : NodesOk W (· < W.heap.size) l kcs) : ROk W W.heap.size (some ⟨g, 0, none⟩) l := by
  refine ⟨kcs, ⟨hn.len, fun _ => ⟨_, rfl, (Array.getElem?_eq_some_iff.1 hg).1, fun j u hu => ?_⟩⟩, hn⟩
  rw [add_blk0, Joins.cell_of_block hg j]
  have hj := (List.getElem?_eq_some_iff.1 hu).1
  simp [List.getElem?_append_left hj, hu]
theorem rok_new (w : World) (n : NodeL) (cs : List Value) (T : TypeId) (h : NodeOk w (· < w.heap.size) n cs) : ROk (w.alloc (.cells cs.toArray T)) (w.alloc (.cells cs.toArray T)).heap.size (some ⟨w.heap.size, 0, none⟩) [n] := by
  have hb := (Below.refl w.heap.size w).alloc (Nat.le_refl _) (.cells cs.toArray T)
  have hs := hb.size
  refine rok_block (kcs := cs) (pad := []) (T := T) (by rw [List.append_nil]; exact heap_alloc_new w _) (NodesOk.one (NodeOk.keep (fun b hb => by show b < _; omega) (fun q hq => hb.cell hq) _ _ h))
theorem NodeOk.below {w w' : World} {B : Nat} {n : NodeL} {cs : List Value} (h : NodeOk w (· < B) n cs) (hb : Below B w w') : NodeOk w' (· < B) n cs := NodeOk.keep (fun _ h => h) (fun q hq => hb.cell hq) _ _ h
theorem NodeOk.up {w : World} {B B' : Nat} {n : NodeL} {cs : List Value} (h : NodeOk w (· < B) n cs) (hb : B ≤ B') : NodeOk w (· < B') n cs := NodeOk.keep (fun _ h => Nat.lt_of_lt_of_le h hb) (fun _ _ => rfl) _ _ h

end Go.Proofs.YtjbniichcopnlaaGreatDoor
end

section
/- append onto a row of the call's own, from a slice that reads as a list (nil and empty let in). Over any program. -/
namespace Go.Proofs.YtjbniichcopnlaaGreatDoor
open Go.RowKit

theorem run_append_reads {P : Program} {w : World} (base : Nat) (t ty e : TypeId) (i : TypeInfo) (z : Value) (size bytes : Nat) (ht : P.underlying t = some (.slice e)) (hi : P.info? e = some i) (hz : i.zero = some z)
    (hsize : i.size = size) (hby : i.bytes = bytes) (hzs : z.cells.size = size) (hsz : 0 < size)
    (v : Value) (n : Nat) (xs : List Value) (hown : w.ownsRow base e size v n xs)
    (A : Option Addr) (m c B : Nat) (news : List Value) (hr : Reads w B size A m news) (hnil : A = none → c = 0) (h1 : ∀ u ∈ news, u.oneCell' = true)
    (h63 : n + m ≤ maxLen) (hbytes : (n + m) * bytes ≤ 140737488355328) (hbase : base ≤ w.heap.size) :
    ∃ v' w', (Builtin.append_ #[t, t] ty #[v, .slice A m c]).run P w = .ok v' w' ∧ w'.ownsRow base e size v' (n + m) (xs ++ news) ∧ w.grownBy w' v.ownBlock := by
  cases A with
  | some ad =>
    have hnews : ∀ j u, news[j]? = some u → w.cell? (ad.add j) = some u := by
      intro j u hu
      by_cases hm : 0 < m
      · obtain ⟨ad', h, _, hc⟩ := hr.2 hm
        cases h
        exact hc j u hu
      · have : news = [] := List.eq_nil_of_length_eq_zero (by rw [hr.1, Nat.eq_zero_of_not_pos hm, Nat.zero_mul])
        subst this; simp at hu
    obtain ⟨v', w', h, ho, hg, _⟩ := run_append_own (P := P) w base t ty e i z size bytes ht hi hz hsize hby hzs hsz v n xs hown ad m c news hr.1 hnews h1 h63 hbytes hbase
    exact ⟨v', w', h, ho, hg⟩
  | none =>
    have hm : m = 0 := by
      rcases Nat.eq_zero_or_pos m with h | h
      · exact h
      · obtain ⟨_, h', _⟩ := hr.2 h; cases h'
    subst hm
    have : news = [] := List.eq_nil_of_length_eq_zero (by rw [hr.1]; simp)
    subst this
    obtain rfl := hnil rfl
    refine ⟨v, w, run_append_owned_none w base t ty e i size ht hi v n xs hown, by simpa using hown, rfl, rfl, rfl, Nat.le_refl _, fun _ _ _ => rfl⟩

/-- An append whose run is known, guarded or not. -/
theorem wpList_append_run {P : Program} {w : World} {ops : Array Oper} {rest : List Oper} {o : Oper} {a : Act} {Q : Exit → Act → World → Prop} (s x : Operand) (t : TypeId)
    (ho : o.op = .call { callee := .builtin .append, args := #[s, x], argTypes := #[t, t] }) (hg : Region.wanted o (yielded ops a.tmps) = true) (v1 v2 : Value) (hs : a.eval s = v1) (hx : a.eval x = v2)
    (ty : TypeId) (hty : o.type = ty) (v' : Value) (w' : World) (hrun : (Builtin.append_ #[t, t] ty #[v1, v2]).run P w = .ok v' w') (h : wpList P ops Q rest (a.put o.dst v') w') : wpList P ops Q (o :: rest) a w := by
  refine wpList_step fun K hK => ?_
  simp only [hg, if_true]
  unfold Oper.wp execOp
  simp only [ho, resolve, invoke, builtin, Sem.run_bind, Sem.run_pure, Result.andThen_ok, List.map_toArray, List.map_cons, List.map_nil, hs, hx, hty, hrun]
  exact hK _ _ h

end Go.Proofs.YtjbniichcopnlaaGreatDoor
end
