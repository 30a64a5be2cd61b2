/- Layer 9 (tree): reading items by recursion, against the tokens' machine. No program in sight. -/
import Derived.Test.YtmblooibnmahnaaTreeSpec
namespace Go.Proofs.Ytmblooibnmahnaa

/-- From token k0 the reading comes to token k: the outermost open block has the items out more, whatever stands about it (d blocks). -/
def Ahead (l : List Tok) (E : Int) (d k0 : Nat) (i0 : Option ItemL) (k : Nat) (it : Option ItemL) (out : List NodeL) : Prop :=
  ∀ (f : FrameL) (r : List FrameL), r.length = d → parseT E (f :: r) i0 (l.drop k0) = parseT E ({ f with kids := f.kids ++ out } :: r) it (l.drop k)
/-- From token k0 the reading is wrong at p. -/
def Wrong (l : List Tok) (E : Int) (d k0 : Nat) (i0 : Option ItemL) (p e : Int) : Prop :=
  ∀ (f : FrameL) (r : List FrameL), r.length = d → parseT E (f :: r) i0 (l.drop k0) = ⟨[], p, e⟩

section
variable {l : List Tok} {E : Int} {d k0 k k' : Nat} {i0 it : Option ItemL} {out : List NodeL} {t : Tok} {i : ItemL} {p e : Int}

theorem drop_at (h : l[k]? = some t) : l.drop k = t :: l.drop (k + 1) := by
  obtain ⟨h1, rfl⟩ := List.getElem?_eq_some_iff.1 h
  exact List.drop_eq_getElem_cons h1
theorem parseT_cons (fs : List FrameL) (it : Option ItemL) (t : Tok) (ts : List Tok) :
    parseT E fs it (t :: ts) = match stepT fs it t with | .bad e => ⟨[], t.pos, e⟩ | .fine fs' it' => parseT E fs' it' ts := by
  rw [parseT]
  cases stepT fs it t <;> rfl
theorem parseT_nil (fs : List FrameL) (it : Option ItemL) : parseT E fs it [] = endT E fs it := by rw [parseT]

theorem ahead_refl : Ahead l E d k it k it [] := by
  intro f r _
  simp
theorem Ahead.wrong (h : Ahead l E d k0 i0 k it out) (h2 : Wrong l E d k it p e) : Wrong l E d k0 i0 p e := by
  intro f r hr
  rw [h f r hr, h2 _ r hr]
theorem Ahead.trans {out2 : List NodeL} {it2 : Option ItemL} (h : Ahead l E d k0 i0 k it out) (h2 : Ahead l E d k it k' it2 out2) : Ahead l E d k0 i0 k' it2 (out ++ out2) := by
  intro f r hr
  rw [h f r hr, h2 _ r hr, List.append_assoc]

theorem ahead_name (h : l[k]? = some t) (hk : t.kind = 1) : Ahead l E d k none (k + 1) (some ⟨t.s, t.pos, []⟩) [] := by
  intro f r _
  rw [drop_at h, parseT_cons]
  simp [stepT, beginT, hk]
theorem wrong_name (h : l[k]? = some t) (hk : t.kind ≠ 1) (h4 : t.kind = 4 → d = 0) : Wrong l E d k none t.pos 5 := by
  intro f r hr
  rw [drop_at h, parseT_cons]
  by_cases hk4 : t.kind = 4
  · have hd := h4 hk4
    rw [hd] at hr
    have : r = [] := List.eq_nil_of_length_eq_zero hr
    subst this
    simp [stepT, beginT, hk4]
  · simp [stepT, beginT, hk, hk4]
theorem wrong_end (hk : l.length ≤ k) (hd : 0 < d) : Wrong l E d k none E 5 := by
  intro f r hr
  rw [List.drop_eq_nil_of_le hk, parseT_nil]
  cases r with
  | nil => simp at hr; omega
  | cons g r => rfl

theorem ahead_word (h : l[k]? = some t) (hk : t.kind = 1 ∨ t.kind = 2) (hw : i.words.length ≠ 8) :
    Ahead l E d k (some i) (k + 1) (some { i with words := i.words ++ [⟨decide (t.kind = 2), t.n, t.s, t.pos⟩] }) [] := by
  intro f r _
  rw [drop_at h, parseT_cons]
  simp [stepT, goT, hk, hw]
theorem wrong_words (h : l[k]? = some t) (hk : t.kind = 1 ∨ t.kind = 2) (hw : i.words.length = 8) : Wrong l E d k (some i) t.pos 6 := by
  intro f r _
  rw [drop_at h, parseT_cons]
  simp [stepT, goT, hk, hw]
theorem ahead_end (h : l[k]? = some t) (hk : t.kind = 5) : Ahead l E d k (some i) (k + 1) none [.mk i.name i.pos i.words false []] := by
  intro f r _
  rw [drop_at h, parseT_cons]
  simp [stepT, goT, hk, FrameL.add, ItemL.node]
theorem wrong_deep (h : l[k]? = some t) (hk : t.kind = 3) (hd : d = 6) : Wrong l E d k (some i) t.pos 7 := by
  intro f r hr
  rw [drop_at h, parseT_cons]
  simp [stepT, goT, hk, hr, hd]
theorem ahead_block {kids : List NodeL} {t' : Tok} (h : l[k]? = some t) (hk : t.kind = 3) (hd : d ≠ 6) (hi : Ahead l E (d + 1) (k + 1) none k' none kids) (h' : l[k']? = some t') (hk' : t'.kind = 4) :
    Ahead l E d k (some i) (k' + 1) none [.mk i.name i.pos i.words true kids] := by
  intro f r hr
  rw [drop_at h, parseT_cons]
  simp only [stepT, goT, hk]
  rw [if_neg (by omega), if_neg (by omega), if_pos trivial, if_neg (by simp; omega)]
  dsimp only
  rw [hi ⟨i.name, i.pos, i.words, []⟩ (f :: r) (by simp [hr]), drop_at h', parseT_cons]
  simp [stepT, beginT, hk', FrameL.add, FrameL.node]
theorem wrong_block (h : l[k]? = some t) (hk : t.kind = 3) (hd : d ≠ 6) (hi : Wrong l E (d + 1) (k + 1) none p e) : Wrong l E d k (some i) p e := by
  intro f r hr
  rw [drop_at h, parseT_cons]
  simp only [stepT, goT, hk]
  rw [if_neg (by omega), if_neg (by omega), if_pos trivial, if_neg (by simp; omega)]
  dsimp only
  rw [hi ⟨i.name, i.pos, i.words, []⟩ (f :: r) (by simp [hr])]
theorem wrong_else (h : l[k]? = some t) (hk : t.kind ≠ 1 ∧ t.kind ≠ 2 ∧ t.kind ≠ 3 ∧ t.kind ≠ 5) : Wrong l E d k (some i) t.pos 5 := by
  intro f r hr
  rw [drop_at h, parseT_cons]
  simp [stepT, goT, hk]
theorem wrong_open (hk : l.length ≤ k) : Wrong l E d k (some i) E 5 := by
  intro f r hr
  rw [List.drop_eq_nil_of_le hk, parseT_nil]
  cases r <;> rfl
end

/-- What the reference's items tell. -/
def ItemsRel (l : List Tok) (E : Int) (d k0 : Nat) (out : List NodeL) (κ p e : Int) : Prop :=
  (e = 0 ∧ ∃ k : Nat, κ = k ∧ k0 ≤ k ∧ k ≤ l.length ∧ Ahead l E d k0 none k none out ∧ (0 < d → ∃ t, l[k]? = some t ∧ t.kind = 4) ∧ (d = 0 → k = l.length)) ∨ (e ≠ 0 ∧ Wrong l E d k0 none p e)
/-- What the reference's item tells. -/
def ItemRel (l : List Tok) (E : Int) (d k0 : Nat) (i : ItemL) (node : NodeL) (κ p e : Int) : Prop :=
  (e = 0 ∧ ∃ k : Nat, κ = k ∧ k0 ≤ k ∧ k ≤ l.length ∧ Ahead l E d k0 (some i) k none [node]) ∨ (e ≠ 0 ∧ Wrong l E d k0 (some i) p e)

theorem items_parse {l : List Tok} {E κ p e : Int} {out : List NodeL} (h : ItemsRel l E 0 0 out κ p e) : parseT E [rootF] none l = if e = 0 then ⟨out, 0, 0⟩ else ⟨[], p, e⟩ := by
  rcases h with ⟨rfl, k, _, _, _, h, _, hk⟩ | ⟨he, h⟩
  · have := h rootF [] rfl
    rw [hk rfl, List.drop_length, List.drop_zero, parseT_nil] at this
    rw [this, if_pos rfl]
    simp [endT, rootF]
  · have := h rootF [] rfl
    rw [List.drop_zero] at this
    rw [this, if_neg he]

end Go.Proofs.Ytmblooibnmahnaa
