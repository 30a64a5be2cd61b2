import Derived.Test.YtaffbnjdlgcaiaaDoorTreeSpec
import Derived.Test.YtaffbnjdlgcaiaaDoorTreeP4
import Derived.Test.YtaffbnjdlgcaiaaDoorAppend
import Derived.BigQuiet
import Derived.Deep.DeepCutAuto
import Derived.Test.YtaffbnjdlgcaiaaDoorLexW5
import Derived.Deep.QuietTactic
import Derived.Test.YtaffbnjdlgcaiaaDoorTreeP7
import Derived.Test.YtaffbnjdlgcaiaaDoorTreeG2
import Derived.Test.YtaffbnjdlgcaiaaDoorLexJoin
import Derived.Lib.ItoaNum
import Derived.Test.YtaffbnjdlgcaiaaDoorLayW
import Derived.Test.YtaffbnjdlgcaiaaDoorLayC
import Derived.Test.YtaffbnjdlgcaiaaDoorLayD
section
/- Layer 9 (tree): reading items by recursion, against the tokens' machine. No program in sight. -/
namespace Go.Proofs.YtaffbnjdlgcaiaaDoor

/-- From token k0 the reading comes to token k: the outermost open block has the items out more, whatever stands about it (d blocks). -/
def Ahead (l : List Tok) (E : Int) (d k0 : Nat) (i0 : Option ItemL) (k : Nat) (it : Option ItemL) (out : List NodeL) : Prop :=
  ∀ (f : FrameL) (r : List FrameL), r.length = d → parseT E (f :: r) i0 (l.drop k0) = parseT E ({ f with kids := f.kids ++ out } :: r) it (l.drop k)
/-- From token k0 the reading is wrong at p. -/
def Wrong (l : List Tok) (E : Int) (d k0 : Nat) (i0 : Option ItemL) (p e : Int) : Prop :=
  ∀ (f : FrameL) (r : List FrameL), r.length = d → parseT E (f :: r) i0 (l.drop k0) = ⟨[], p, e⟩

section
variable {l : List Tok} {E : Int} {d k0 k k' : Nat} {i0 it : Option ItemL} {out : List NodeL} {t : Tok} {i : ItemL} {p e : Int}

theorem drop_at (h : l[k]? = some t) : l.drop k = t :: l.drop (k + 1) := by
  obtain ⟨h1, rfl⟩ := List.getElem?_eq_some_iff.1 h
  exact List.drop_eq_getElem_cons h1
theorem parseT_cons (fs : List FrameL) (it : Option ItemL) (t : Tok) (ts : List Tok) :
    parseT E fs it (t :: ts) = match stepT fs it t with | .bad e => ⟨[], t.pos, e⟩ | .fine fs' it' => parseT E fs' it' ts := by
  rw [parseT]
  cases stepT fs it t <;> rfl
theorem parseT_nil (fs : List FrameL) (it : Option ItemL) : parseT E fs it [] = endT E fs it := by rw [parseT]

theorem ahead_refl : Ahead l E d k it k it [] := by
  intro f r _
  simp
theorem Ahead.wrong (h : Ahead l E d k0 i0 k it out) (h2 : Wrong l E d k it p e) : Wrong l E d k0 i0 p e := by
  intro f r hr
  rw [h f r hr, h2 _ r hr]
theorem Ahead.trans {out2 : List NodeL} {it2 : Option ItemL} (h : Ahead l E d k0 i0 k it out) (h2 : Ahead l E d k it k' it2 out2) : Ahead l E d k0 i0 k' it2 (out ++ out2) := by
  intro f r hr
  rw [h f r hr, h2 _ r hr, List.append_assoc]

theorem ahead_name (h : l[k]? = some t) (hk : t.kind = 1) : Ahead l E d k none (k + 1) (some ⟨t.s, t.pos, []⟩) [] := by
  intro f r _
  rw [drop_at h, parseT_cons]
  simp [stepT, beginT, hk]
theorem wrong_name (h : l[k]? = some t) (hk : t.kind ≠ 1) (h4 : t.kind = 4 → d = 0) : Wrong l E d k none t.pos 5 := by
  intro f r hr
  rw [drop_at h, parseT_cons]
  by_cases hk4 : t.kind = 4
  · have hd := h4 hk4
    rw [hd] at hr
    have : r = [] := List.eq_nil_of_length_eq_zero hr
    subst this
    simp [stepT, beginT, hk4]
  · simp [stepT, beginT, hk, hk4]
theorem wrong_end (hk : l.length ≤ k) (hd : 0 < d) : Wrong l E d k none E 5 := by
  intro f r hr
  rw [List.drop_eq_nil_of_le hk, parseT_nil]
  cases r with
  | nil => simp at hr; omega
  | cons g r => rfl

theorem ahead_word (h : l[k]? = some t) (hk : t.kind = 1 ∨ t.kind = 2) (hw : i.words.length ≠ 8) :
    Ahead l E d k (some i) (k + 1) (some { i with words := i.words ++ [⟨decide (t.kind = 2), t.n, t.s, t.pos⟩] }) [] := by
  intro f r _
  rw [drop_at h, parseT_cons]
  simp [stepT, goT, hk, hw]
theorem wrong_words (h : l[k]? = some t) (hk : t.kind = 1 ∨ t.kind = 2) (hw : i.words.length = 8) : Wrong l E d k (some i) t.pos 6 := by
  intro f r _
  rw [drop_at h, parseT_cons]
  simp [stepT, goT, hk, hw]
theorem ahead_end (h : l[k]? = some t) (hk : t.kind = 5) : Ahead l E d k (some i) (k + 1) none [.mk i.name i.pos i.words false []] := by
  intro f r _
  rw [drop_at h, parseT_cons]
  simp [stepT, goT, hk, FrameL.add, ItemL.node]
theorem wrong_deep (h : l[k]? = some t) (hk : t.kind = 3) (hd : d = 6) : Wrong l E d k (some i) t.pos 7 := by
  intro f r hr
  rw [drop_at h, parseT_cons]
  simp [stepT, goT, hk, hr, hd]
theorem ahead_block {kids : List NodeL} {t' : Tok} (h : l[k]? = some t) (hk : t.kind = 3) (hd : d ≠ 6) (hi : Ahead l E (d + 1) (k + 1) none k' none kids) (h' : l[k']? = some t') (hk' : t'.kind = 4) :
    Ahead l E d k (some i) (k' + 1) none [.mk i.name i.pos i.words true kids] := by
  intro f r hr
  rw [drop_at h, parseT_cons]
  simp only [stepT, goT, hk]
  rw [if_neg (by omega), if_neg (by omega), if_pos trivial, if_neg (by simp; omega)]
  dsimp only
  rw [hi ⟨i.name, i.pos, i.words, []⟩ (f :: r) (by simp [hr]), drop_at h', parseT_cons]
  simp [stepT, beginT, hk', FrameL.add, FrameL.node]
theorem wrong_block (h : l[k]? = some t) (hk : t.kind = 3) (hd : d ≠ 6) (hi : Wrong l E (d + 1) (k + 1) none p e) : Wrong l E d k (some i) p e := by
  intro f r hr
  rw [drop_at h, parseT_cons]
  simp only [stepT, goT, hk]
  rw [if_neg (by omega), if_neg (by omega), if_pos trivial, if_neg (by simp; omega)]
  dsimp only
  rw [hi ⟨i.name, i.pos, i.words, []⟩ (f :: r) (by simp [hr])]
theorem wrong_else (h : l[k]? = some t) (hk : t.kind ≠ 1 ∧ t.kind ≠ 2 ∧ t.kind ≠ 3 ∧ t.kind ≠ 5) : Wrong l E d k (some i) t.pos 5 := by
  intro f r hr
  rw [drop_at h, parseT_cons]
  simp [stepT, goT, hk]
theorem wrong_open (hk : l.length ≤ k) : Wrong l E d k (some i) E 5 := by
  intro f r hr
  rw [List.drop_eq_nil_of_le hk, parseT_nil]
  cases r <;> rfl
end

/-- What the reference's items tell. -/
def ItemsRel (l : List Tok) (E : Int) (d k0 : Nat) (out : List NodeL) (κ p e : Int) : Prop :=
  (e = 0 ∧ ∃ k : Nat, κ = k ∧ k0 ≤ k ∧ k ≤ l.length ∧ Ahead l E d k0 none k none out ∧ (0 < d → ∃ t, l[k]? = some t ∧ t.kind = 4) ∧ (d = 0 → k = l.length)) ∨ (e ≠ 0 ∧ Wrong l E d k0 none p e)
/-- What the reference's item tells. -/
def ItemRel (l : List Tok) (E : Int) (d k0 : Nat) (i : ItemL) (node : NodeL) (κ p e : Int) : Prop :=
  (e = 0 ∧ ∃ k : Nat, κ = k ∧ k0 ≤ k ∧ k ≤ l.length ∧ Ahead l E d k0 (some i) k none [node]) ∨ (e ≠ 0 ∧ Wrong l E d k0 (some i) p e)

theorem items_parse {l : List Tok} {E κ p e : Int} {out : List NodeL} (h : ItemsRel l E 0 0 out κ p e) : parseT E [rootF] none l = if e = 0 then ⟨out, 0, 0⟩ else ⟨[], p, e⟩ := by
  rcases h with ⟨rfl, k, _, _, _, h, _, hk⟩ | ⟨he, h⟩
  · have := h rootF [] rfl
    rw [hk rfl, List.drop_length, List.drop_zero, parseT_nil] at this
    rw [this, if_pos rfl]
    simp [endT, rootF]
  · have := h rootF [] rfl
    rw [List.drop_zero] at this
    rw [this, if_neg he]

end Go.Proofs.YtaffbnjdlgcaiaaDoor
end

section
/- Layer 9 (tree): the reference's reader in memory; its fail. -/
set_option linter.unusedVariables false
set_option linter.unusedSimpArgs false
namespace Go.Proofs.YtaffbnjdlgcaiaaDoor
open Go.RowKit
attribute [local go_sem ↓] Go.wp_at_zero Go.wp_at_succ

/-- The reader in its block. -/
def Rdr (w : World) (rb : Nat) (L : Value) (k E p e : Int) : Prop :=
  w.heap[rb]? = some (.cells #[L, .int .i64 k, .int .i64 E, .int .i64 p, .int .i64 e] 94 (0, 0))
/-- The cells of the reader that are written. -/
def RC (rb : Nat) : List (Nat × Nat) := [(rb, 1), (rb, 3), (rb, 4)]
theorem set_block {w : World} {b o : Nat} {cs : Array Value} {t : TypeId} {f : Nat × Nat} (u : Value) (h : w.heap[b]? = some (.cells cs t f)) : (w.setCell ⟨b, o, none⟩ u).heap[b]? = some (.cells (cs.setIfInBounds o u) t f) := by
  simp [World.setCell, Array.getElem?_modify, h]
theorem alloc_keeps {w : World} {b : Nat} {o : Obj} (x : Obj) (h : w.heap[b]? = some o) : (w.alloc x).heap[b]? = some o :=
  (heap_alloc_old w x (Array.getElem?_eq_some_iff.1 h).1).trans h
theorem Rdr.lt {w : World} {rb : Nat} {L : Value} {k E p e : Int} (h : Rdr w rb L k E p e) : rb < w.heap.size := (Array.getElem?_eq_some_iff.1 h).1
theorem Rdr.keep {w w' : World} {C : List (Nat × Nat)} {row : Option Nat} {rb : Nat} {L : Value} {k E p e : Int} (h : Rdr w rb L k E p e) (hs : Step w w' C row) (hx : Safe C row rb) : Rdr w' rb L k E p e :=
  (hs.same h.lt hx).trans h

set_option maxHeartbeats 2000000 in
theorem ref9_fail_none (w : World) (rb : Nat) (L : Value) (k E p a c : Int) (h : Rdr w rb L k E p 0) :
    Calls Tryd.prog 78 #[.pointer (some ⟨rb, 0, none⟩), .int .i64 a, .int .i64 c] w fun en w' => en = .returned (.tuple #[]) ∧ Rdr w' rb L k E a c ∧ Step w w' (RC rb) none := by
  have h4 := Joins.cell_of_block h 4
  have h3 := Joins.cell_of_block h 3
  have hf := Joins.unfrozen_of_block h
  have f3 := hf 3
  have f4 := hf 4
  have hlt := h.lt
  go_enter Tryd.func78, Tryd.ntmps78
  go_wp2_with fail
  go_end0
  refine ⟨rfl, ?_, ?_⟩
  · have := set_block (o := 4) (.int .i64 c) (set_block (o := 3) (.int .i64 a) h)
    simpa [Rdr] using this
  · unfold RC; (repeat (first | exact Step.refl _ _ _ | assumption | refine Step.drew ?_ | refine Step.alloc ?_ _ | refine Step.setCell ?_ (by first | exact Or.inr (Or.inl (by simp)) | exact Or.inl (by simp) | exact Or.inl (by simp; omega) | exact Or.inl (by omega)) _))

set_option maxHeartbeats 2000000 in
theorem ref9_fail_some (w : World) (rb : Nat) (L : Value) (k E p e a c : Int) (h : Rdr w rb L k E p e) (he : e ≠ 0) :
    Calls Tryd.prog 78 #[.pointer (some ⟨rb, 0, none⟩), .int .i64 a, .int .i64 c] w fun en w' => en = .returned (.tuple #[]) ∧ w' = w := by
  have h4 := Joins.cell_of_block h 4
  have hlt := h.lt
  have he' : (e == 0) = false := beq_false_of_ne he
  go_enter Tryd.func78, Tryd.ntmps78
  go_wp2_with fail
  go_end0
  exact ⟨rfl, rfl⟩

end Go.Proofs.YtaffbnjdlgcaiaaDoor
end

section
/- Layer 9 (tree): the walk of the reference's items. -/
set_option linter.unusedVariables false
set_option linter.unusedSimpArgs false
namespace Go.Proofs.YtaffbnjdlgcaiaaDoor
open Go.RowKit
attribute [local go_sem ↓] Go.wp_at_zero Go.wp_at_succ

/-- The blocks that are made between two worlds. -/
def Fresh (w w' : World) : Nat → Prop := fun b => w.heap.size ≤ b ∧ b < w'.heap.size
def ItemsPost (l : List Tok) (A : Option Addr) (c : Nat) (E : Int) (rb k0 d : Nat) (w : World) (en : Ending) (w' : World) : Prop :=
  ∃ (out : List NodeL) (A' : Option Addr) (c' : Nat) (kcs : List Value) (κ p e : Int), en = .returned (.slice A' out.length c') ∧ NilOk A' c' ∧ ReadsM w' (Fresh w w') 5 A' out.length kcs ∧ NodesOk w' (Fresh w w') out kcs ∧
    Rdr w' rb (.slice A l.length c) κ E p e ∧ Step w w' (RC rb) none ∧ ItemsRel l E d k0 out κ p e
def ItemPost (l : List Tok) (A : Option Addr) (c : Nat) (E : Int) (rb k0 d : Nat) (t : Tok) (w : World) (en : Ending) (w' : World) : Prop :=
  ∃ (node : NodeL) (cs : List Value) (κ p e : Int), en = .returned (.agg cs.toArray) ∧ NodeOk w' (Fresh w w') node cs ∧ Rdr w' rb (.slice A l.length c) κ E p e ∧ Step w w' (RC rb) none ∧ ItemRel l E d k0 ⟨t.s, t.pos, []⟩ node κ p e
def ItemsAt (l : List Tok) (A : Option Addr) (c : Nat) (E : Int) (B0 rb k0 : Nat) : Prop :=
  ∀ (d : Nat) (w : World) (p : Int), d ≤ 6 → Reads w B0 4 A l.length (l.flatMap Tok.cells) → Rdr w rb (.slice A l.length c) k0 E p 0 →
    Calls Tryd.prog 49 #[.pointer (some ⟨rb, 0, none⟩), .int .i64 d] w (ItemsPost l A c E rb k0 d w)
def ItemAt9 (l : List Tok) (A : Option Addr) (c : Nat) (E : Int) (B0 rb k0 : Nat) : Prop :=
  ∀ (d : Nat) (w : World) (p : Int) (t : Tok), d ≤ 6 → Reads w B0 4 A l.length (l.flatMap Tok.cells) → Rdr w rb (.slice A l.length c) k0 E p 0 →
    Calls Tryd.prog 79 #[.pointer (some ⟨rb, 0, none⟩), tokV t, .int .i64 d] w (ItemPost l A c E rb k0 d t w)

/-- What holds in the loop of items. -/
structure ItI (l : List Tok) (A : Option Addr) (c : Nat) (E : Int) (rb k0 d : Nat) (w wr : World) (v : Value) (out : List NodeL) (k : Nat) (kcs : List Value) (κ p e : Int) : Prop where
  own : wr.ownsRow w.heap.size 38 5 v out.length kcs
  nodes : NodesOk wr (fun b => w.heap.size ≤ b ∧ b < wr.heap.size ∧ v.ownBlock ≠ some b) out kcs
  rdr : Rdr wr rb (.slice A l.length c) κ E p e
  step : Step w wr (RC rb) none
  len : out.length ≤ k
  le : k ≤ l.length
  rel : (e = 0 ∧ κ = k ∧ k0 ≤ k ∧ Ahead l E d k0 none k none out) ∨ (e ≠ 0 ∧ Wrong l E d k0 none p e)

theorem Step.keepReads {w w' : World} {rb B0 n : Nat} {A : Option Addr} {xs : List Value} (hs : Step w w' (RC rb) none) (hB : B0 ≤ rb) (hr : rb < w.heap.size) (h : Reads w B0 4 A n xs) : Reads w' B0 4 A n xs :=
  ReadsM.keep (M := (· < B0)) (M' := (· < B0)) h (fun _ hb => hb) (fun q hq => World.cell?_of_block (hs.same (x := q.block) (by omega) ⟨fun j hj => by simp [RC] at hj; omega, by simp⟩))

def sliceLen : Value → Nat
  | .slice _ n _ => n
  | _ => 0

theorem Step.drewN {w w' : World} {C : List (Nat × Nat)} {row : Option Nat} (h : Step w w' C row) (n : Nat) : Step w (w'.drewN n) C row := ⟨h.os, h.tape, h.output, h.size, h.block, h.cell, h.froz, h.shape⟩
theorem five_of_len {cs : List Value} (h : cs.length = 5) : ∃ a b c d e, cs = [a, b, c, d, e] := by
  match cs, h with
  | [a, b, c, d, e], _ => exact ⟨a, b, c, d, e, rfl⟩
theorem rc_nil {rb : Nat} : ∀ x ∈ ([] : List (Nat × Nat)), x ∈ RC rb := fun _ h => by cases h
theorem own_ge {w : World} {B0 e size m c n : Nat} {A : Option Addr} {xs : List Value} (h : w.ownsRow B0 e size (.slice A m c) n xs) : ∀ x ∈ ownB A, B0 ≤ x ∧ x < w.heap.size := by
  intro x hx
  have hx2 := (mem_ownB (n := m) (c := c)).1 hx
  rcases h.2 with ⟨hv, _⟩ | ⟨g, cap, cur, hv, hg, hh, _⟩
  · rw [hv] at hx2; cases hx2
  · rw [hv] at hx2
    simp only [Value.ownBlock, Option.some.injEq] at hx2
    subst hx2
    exact ⟨hg, (Array.getElem?_eq_some_iff.1 hh).1⟩

section
variable {l : List Tok} {A : Option Addr} {c : Nat} {E : Int} {rb k0 d : Nat} {w wr : World} {A1 : Option Addr} {c1 : Nat} {out : List NodeL} {k : Nat} {kcs : List Value} {κ p e : Int}

/-- What is told where the loop is left. -/
theorem ItI.done (hi : ItI l A c E rb k0 d w wr (.slice A1 out.length c1) out k kcs κ p e) (hrb : rb < w.heap.size) {w' : World} (hs : Step wr w' (RC rb) none) {κ' p' e' : Int} (hr : Rdr w' rb (.slice A l.length c) κ' E p' e') (hrel : ItemsRel l E d k0 out κ' p' e') :
    ItemsPost l A c E rb k0 d w (.returned (.slice A1 out.length c1)) w' := by
  have hz := hi.step.size
  have hz' := hs.size
  have hge := own_ge hi.own
  have safe : ∀ x, w.heap.size ≤ x → Safe (RC rb) none x := fun x hx => ⟨fun j hj => by simp [RC] at hj; omega, by simp⟩
  have hown' := hs.own' hi.own (fun x hx => safe x (hge x hx).1)
  obtain ⟨h1, h2⟩ := reads_of_own hown' (Fresh w w') (fun x hx => own_ge hown' x hx)
  refine ⟨out, A1, c1, kcs, κ', p', e', rfl, h2, h1, ?_, hr, Step.trans hi.step hs (fun _ h => h) (fun _ h => h), hrel⟩
  exact NodesOk.keep (fun b hb => ⟨hb.1, by have := hb.2.1; omega⟩) (fun q hq => World.cell?_of_block (hs.same hq.2.1 (safe _ hq.1))) _ _ hi.nodes

/-- One more item. -/
theorem ItI.next (hi : ItI l A c E rb k0 d w wr (.slice A1 out.length c1) out k kcs k p 0) (hk0 : k0 ≤ k) (hah : Ahead l E d k0 none k none out) (hrb : rb < w.heap.size) {w3 w4 : World} {o : Obj} {t : Tok} {node : NodeL} {cs : List Value} {κ' p' e' : Int} {g cap : Nat}
    (hs : Step wr w3 (RC rb) none) (hr : Rdr w3 rb (.slice A l.length c) κ' E p' e') (hn : NodeOk w3 (fun b => wr.heap.size ≤ b ∧ b < w3.heap.size) node cs) (ht : l[k]? = some t) (hk : t.kind = 1) (hrel : ItemRel l E d (k + 1) ⟨t.s, t.pos, []⟩ node κ' p' e')
    (hown : w4.ownsRow w.heap.size 38 5 (.slice (some ⟨g, 0, none⟩) (out.length + 1) cap) (out.length + 1) (kcs ++ cs)) (hg : (w3.alloc o).grownBy w4 (Value.ownBlock (.slice A1 out.length c1))) (hat : Value.ownBlock (.slice A1 out.length c1) = some g ∨ g = w3.heap.size + 1) :
    ∃ k', ItI l A c E rb k0 d w w4 (.slice (some ⟨g, 0, none⟩) (out.length + 1) cap) (out ++ [node]) k' (kcs ++ cs) κ' p' e' := by
  have hz := hi.step.size
  have hz3 := hs.size
  have hz4 := hg.size
  simp at hz4
  have hge := own_ge hi.own
  have hlt := (List.getElem?_eq_some_iff.1 ht).1
  have safe : ∀ x, w.heap.size ≤ x → Safe (RC rb) none x := fun x hx => ⟨fun j hj => by simp [RC] at hj; omega, by simp⟩
  have hS : Step w (w3.alloc o) (RC rb) none := (Step.trans hi.step hs (fun _ h => h) (fun _ h => h)).alloc o
  have hS4 : Step w w4 (RC rb) none := hS.grown hg (fun x hx => .inr (hge x (mem_ownB.2 hx)).1)
  have hkeep : ∀ q : Addr, q.block < w3.heap.size → Value.ownBlock (.slice A1 out.length c1) ≠ some q.block → w4.cell? q = w3.cell? q := fun q hq hne =>
    (hg.cell_far q (by simp; omega) (fun e => hne e.symm)).trans (World.cell?_alloc_lt w3 o q hq)
  have hgb : ∀ x, x < w3.heap.size → Value.ownBlock (.slice A1 out.length c1) ≠ some x → g ≠ x := fun x hx hne e => by
    subst e
    rcases hat with h | h
    · exact hne h
    · omega
  have hv : Value.ownBlock (.slice (some ⟨g, 0, none⟩) (out.length + 1) cap) = some g := rfl
  have hnodes : NodesOk w4 (fun b => w.heap.size ≤ b ∧ b < w4.heap.size ∧ Value.ownBlock (.slice (some ⟨g, 0, none⟩) (out.length + 1) cap) ≠ some b) (out ++ [node]) (kcs ++ cs) := by
    have hne : ∀ b, wr.heap.size ≤ b → Value.ownBlock (.slice A1 out.length c1) ≠ some b := fun b hb e => by have := (hge b (mem_ownB.2 e)).2; omega
    have a1 : ∀ b, (w.heap.size ≤ b ∧ b < wr.heap.size ∧ Value.ownBlock (.slice A1 out.length c1) ≠ some b) → (w.heap.size ≤ b ∧ b < w4.heap.size ∧ Value.ownBlock (.slice (some ⟨g, 0, none⟩) (out.length + 1) cap) ≠ some b) := fun b hb =>
      ⟨hb.1, by have := hb.2.1; omega, by rw [hv]; intro e; cases e; exact hgb _ (by have := hb.2.1; omega) hb.2.2 rfl⟩
    have a2 : ∀ q : Addr, (w.heap.size ≤ q.block ∧ q.block < wr.heap.size ∧ Value.ownBlock (.slice A1 out.length c1) ≠ some q.block) → w4.cell? q = wr.cell? q := fun q hq => by
      rw [hkeep q (by have := hq.2.1; omega) hq.2.2]
      exact World.cell?_of_block (hs.same hq.2.1 (safe _ hq.1))
    have b1 : ∀ b, (wr.heap.size ≤ b ∧ b < w3.heap.size) → (w.heap.size ≤ b ∧ b < w4.heap.size ∧ Value.ownBlock (.slice (some ⟨g, 0, none⟩) (out.length + 1) cap) ≠ some b) := fun b hb =>
      ⟨by have := hb.1; omega, by have := hb.2; omega, by rw [hv]; intro e; cases e; exact hgb _ hb.2 (hne _ hb.1) rfl⟩
    exact NodesOk.append (NodesOk.keep a1 a2 _ _ hi.nodes) (NodesOk.one (NodeOk.keep b1 (fun q hq => hkeep q hq.2 (hne _ hq.1)) _ _ hn))
  have hrb3 := hr.lt
  have hr4 : Rdr w4 rb (.slice A l.length c) κ' E p' e' := by
    refine (hg.block rb (by simp; omega) (fun e => ?_)).trans (alloc_keeps o hr)
    have := (hge rb (mem_ownB.2 e.symm)).1
    omega
  have hlen : (out ++ [node]).length ≤ k + 1 := by have := hi.len; simp; omega
  have hname := ahead_name (E := E) (d := d) ht hk
  rcases hrel with ⟨he, k', hκ, hk1, hk2, ha⟩ | ⟨he, hw⟩
  · refine ⟨k', ⟨?_, hnodes, hr4, hS4, by omega, hk2, .inl ⟨he, hκ, by omega, ?_⟩⟩⟩
    · rw [List.length_append]; exact hown
    · have := (hah.trans hname).trans ha
      simpa using this
  · refine ⟨k + 1, ⟨?_, hnodes, hr4, hS4, hlen, by omega, .inr ⟨he, ?_⟩⟩⟩
    · rw [List.length_append]; exact hown
    · exact (hah.trans hname).wrong hw
end

set_option maxRecDepth 100000 in
set_option maxHeartbeats 4000000 in
theorem ref9_items_step (l : List Tok) (A : Option Addr) (c : Nat) (E : Int) (B0 rb k0 : Nat) (hl : l.length ≤ 65536) (hk0 : k0 ≤ l.length) (hB : B0 ≤ rb) (ih : ∀ k', k0 < k' → k' ≤ l.length → ItemAt9 l A c E B0 rb k') : ItemsAt l A c E B0 rb k0 := by
  intro d w p0 hd hrd hr0
  have HRD := Lib.hid hrd
  have HR0 := Lib.hid hr0
  have HIH := Lib.hid ih
  have hrlt := hr0.lt
  have hinit : ItI l A c E rb k0 d w w (.slice none 0 0) [] k0 [] k0 p0 0 := ⟨⟨rfl, .inl ⟨rfl, rfl⟩⟩, rfl, hr0, Step.refl _ _ _, Nat.zero_le _, hk0, .inl ⟨rfl, rfl, Nat.le_refl _, ahead_refl⟩⟩
  have HI := Lib.hid hinit
  clear ih hrd hr0 hinit
  go_enter Tryd.func49, Tryd.ntmps49
  go_wp2_with fail
  go_loopw [5] (fun v wr => ∃ (out : List NodeL) (k : Nat) (kcs : List Value) (κ p e : Int), ItI l A c E rb k0 d w wr v out k kcs κ p e) (fun v _ => l.length - sliceLen v)
  case atStart => exact ⟨[], k0, [], k0, p0, 0, HI.out⟩
  case round =>
    obtain ⟨out, k, kcs, κ, p, e, hi⟩ := hrel
    obtain ⟨A1, c1, rfl, hn1⟩ := own_form hi.own
    have hwz := hi.step.size
    have g0 := Joins.cell_of_block hi.rdr 0
    have g1 := Joins.cell_of_block hi.rdr 1
    have g2 := Joins.cell_of_block hi.rdr 2
    have g4 := Joins.cell_of_block hi.rdr 4
    have gf := Joins.unfrozen_of_block hi.rdr
    have f1 := gf 1
    have glt := hi.rdr.lt
    have hrel := hi.rel
    have HIT := Lib.hid hi
    clear hi gf
    rcases hrel with ⟨rfl, rfl, hkk, hah⟩ | ⟨he, hwr⟩
    · have HAH := Lib.hid hah
      clear hah
      by_cases hlt : k < l.length
      · obtain ⟨t, ht⟩ : ∃ t, l[k]? = some t := ⟨_, List.getElem?_eq_getElem hlt⟩
        obtain ⟨ad, hA, hadb, t0, t1, t2, t3⟩ := tok_cells (HIT.out.step.keepReads hB hrlt HRD.out) k t ht
        subst hA
        have HT := Lib.hid ht
        clear ht
        have lk : (k : Int) < l.length := by omega
        have lk0 : (0 : Int) ≤ k := by omega
        have w1f : IntKind.i64.wrap ((k : Int) + 1) = (k : Int) + 1 := by rw [IntKind.wrap_i64]; omega
        go_wp2_with fail
        go_quiet (fail)
        generalize hW : wr.drewN _ = W
        have hG : ∀ q, W.cell? q = wr.cell? q := fun q => by rw [← hW]; rfl
        have hGf : ∀ q, W.frozen? q = wr.frozen? q := fun q => by rw [← hW]; rfl
        have hGh : W.heap = wr.heap := by rw [← hW]; rfl
        rw [← hG] at g0 g1 g2 g4 t0 t1 t2 t3
        rw [← hGf] at f1
        rw [← hGh] at glt
        have hlad : ad.block < W.heap.size := by rw [hGh]; omega
        have hne1 : ad.block ≠ W.heap.size := by omega
        have hz : ∀ q : Addr, q.block < W.heap.size → (W.alloc (.cells #[.int .i64 0, .int .i64 0, .int .i64 0, .string ⟨#[]⟩] 61)).cell? q = W.cell? q := fun q hq => World.cell?_alloc_lt W _ q hq
        have z0 := (hz _ (by rw [block_of_add]; exact hlad)).trans t0
        have z1 := (hz _ (by show (ad.add (k * 4)).block < _; rw [block_of_add]; exact hlad)).trans t1
        have z2 := (hz _ (by show (ad.add (k * 4)).block < _; rw [block_of_add]; exact hlad)).trans t2
        have z3 := (hz _ (by show (ad.add (k * 4)).block < _; rw [block_of_add]; exact hlad)).trans t3
        clear hz
        have HSW := Lib.hid (show Step wr W [] none by rw [← hW]; exact (Step.refl _ [] _).drewN _)
        clear hW hG hGf hGh
        go_wp2_with fail
        go_region
        obtain ⟨W1, hW1⟩ : ∃ W1, W1 = (W.alloc (.cells #[.int .i64 t.kind, .int .i64 t.pos, .int .i64 t.n, .string ⟨t.s.toArray⟩] 61)).drew := ⟨_, rfl⟩
        rw [← hW1]
        have hs1 : Step wr W1 [] none := by
          rw [hW1]
          exact ((HSW.out).alloc _).drew
        have hr1 : Rdr W1 rb (.slice (some ad) l.length c) k E p 0 := HIT.out.rdr.keep hs1 ⟨fun j hj => (by cases hj), by simp⟩
        have hb1 : W1.heap[W.heap.size]? = some (.cells #[.int .i64 t.kind, .int .i64 t.pos, .int .i64 t.n, .string ⟨t.s.toArray⟩] 61 (0, 0)) := by
          rw [hW1]; exact heap_alloc_new W _
        have hne : rb ≠ W.heap.size := by omega
        generalize W.heap.size = tb at *
        clear hW1 g0 g1 g2 g4 t0 t1 t2 t3 z0 z1 z2 z3 f1
        have x0 := Joins.cell_of_block hb1 0
        have x1 := Joins.cell_of_block hb1 1
        have x2 := Joins.cell_of_block hb1 2
        have x3 := Joins.cell_of_block hb1 3
        have y1 := Joins.cell_of_block hr1 1
        have yf := Joins.unfrozen_of_block hr1
        have f1 := yf 1
        have HR1 := Lib.hid hr1
        have HS1 := Lib.hid hs1
        clear yf hr1 hs1 hb1
        by_cases hk4 : t.kind = 4 ∧ 0 < d
        · have k4 : (t.kind == 4) = true := by simpa using hk4.1
          have ld : (0 : Int) < d := by omega
          go_wp2_with fail
          go_ret
          exact HIT.out.done hrlt (Step.trans HS1.out (Step.refl _ [] _) rc_nil rc_nil) HR1.out (.inl ⟨rfl, k, rfl, hkk, by omega, HAH.out, fun _ => ⟨t, HT.out, hk4.1⟩, fun h => by omega⟩)
        · have hk4' : t.kind = 4 → d = 0 := fun h => by by_cases h0 : d = 0; exact h0; exact absurd ⟨h, by omega⟩ hk4
          by_cases hk1 : t.kind = 1
          · have k4 : (t.kind == 4) = false := beq_false_of_ne (by omega)
            have k1 : (t.kind != 1) = false := by simpa using hk1
            go_wp2_with fail
            generalize hW2 : W1.setCell _ _ = W2
            have hr2 : Rdr W2 rb (.slice (some ad) l.length c) ((k + 1 : Nat) : Int) E p 0 := by
              rw [← hW2]
              have := set_block (o := 1) (.int .i64 ((k : Int) + 1)) HR1.out
              simpa [Rdr] using this
            have hs2 : Step wr W2 (RC rb) none := by
              rw [← hW2]
              exact Step.setCell (Step.trans HS1.out (Step.refl _ [] _) rc_nil rc_nil) (.inr (.inl (by simp [RC]))) _
            clear hW2
            have htv : tokV t = .agg #[.int .i64 1, .int .i64 t.pos, .int .i64 t.n, .string ⟨t.s.toArray⟩] := by unfold tokV; rw [hk1]
            have hc := HIH.out (k + 1) (by omega) (by omega) d W2 p t hd (Step.keepReads (Step.trans HIT.out.step hs2 (fun _ h => h) (fun _ h => h)) hB hrlt HRD.out) hr2
            rw [htv] at hc
            refine hc.mono ?_
            rintro e w3 ⟨node, cs, κ', p', e', rfl, hnode, hr3, hs3, hrel3⟩
            have hS3 : Step wr w3 (RC rb) none := Step.trans hs2 hs3 (fun _ h => h) (fun _ h => h)
            have hnode2 : NodeOk w3 (fun b => wr.heap.size ≤ b ∧ b < w3.heap.size) node cs := NodeOk.keep (fun b hb => ⟨by have := hb.1; have := hs2.size; omega, hb.2⟩) (fun _ _ => rfl) _ _ hnode
            have hlen5 := hnode.len
            have HN := Lib.hid hnode2
            have HR3 := Lib.hid hr3
            have HS3 := Lib.hid hS3
            have HREL := Lib.hid hrel3
            have hone : ∀ u ∈ cs, u.oneCell' = true := by
              obtain ⟨nm, np, nws, nb, nks⟩ := node
              simp only [NodeOk] at hnode
              obtain ⟨_, _, _, _, _, rfl, _⟩ := hnode
              intro u hu
              simp at hu
              rcases hu with rfl | rfl | rfl | rfl | rfl <;> rfl
            have ho3 : w3.ownsRow w.heap.size 38 5 (.slice A1 out.length c1) out.length kcs := hS3.own' HIT.out.own (fun x hx => ⟨fun j hj => by have := (own_ge HIT.out.own x hx).1; simp [RC] at hj; omega, by simp⟩)
            have hz3 := hS3.size
            have hol := HIT.out.len
            clear hnode hr3 hs3 hrel3 hS3 hnode2 hc hr2 hs2 htv
            obtain ⟨i0, hi0, hz0, hz1, hz2⟩ := info_parts info_node
            obtain ⟨q0, q1, q2, q3, q4, rfl⟩ := five_of_len hlen5
            dsimp only
            refine (‹∀ (a : Act) (w : World), wpList _ _ _ _ a w → _› _ _ ?_)
            go_wp2_with (at_builtin; refine wpList_append_lies _ (by rfl) _ _ _ (by rfl) w.heap.size 38 i0 _ 5 80 Tryd.underlying22 hi0 hz0 hz1 hz2 rfl (by decide) _ _ _ rfl (ho3.alloc _) ⟨w3.heap.size, 0, none⟩ 1 1 [q0, q1, q2, q3, q4] rfl rfl (cells_new _ [q0, q1, q2, q3, q4] _ _ (by simp)) hone (by decide) (by unfold maxLen; omega) (by omega) (by simp; omega) (w3.heap.size + 1) (by simp) ?_; intro g cap w4 hown4 hg4 hat4 hlt4)
            go_roundw
            case rel =>
              obtain ⟨k', hnx⟩ := ItI.next HIT.out hkk HAH.out hrlt HS3.out HR3.out HN.out HT.out hk1 HREL.out hown4 hg4 hat4
              exact ⟨out ++ [node], k', _, _, _, _, hnx⟩
            case measure =>
              simp only [sliceLen]
              omega
          · have k1 : (t.kind != 1) = true := by simpa using hk1
            have hwr := wrong_name (E := E) HT.out hk1 hk4'
            have HWR := Lib.hid hwr
            clear hwr hk4
            by_cases hk4c : t.kind = 4
            · have k4 : (t.kind == 4) = true := by simpa using hk4c
              have ld : ¬ (0 : Int) < d := by have := hk4' hk4c; omega
              go_wp2_with fail
              refine (ref9_fail_none _ rb _ _ _ _ _ _ HR1.out).mono ?_
              rintro e w2 ⟨rfl, hr2, hs2⟩
              go_wp2_with fail
              go_ret
              exact HIT.out.done hrlt (Step.trans HS1.out hs2 rc_nil (fun _ h => h)) hr2 (.inr ⟨by decide, HAH.out.wrong HWR.out⟩)
            · have k4 : (t.kind == 4) = false := by simpa using hk4c
              go_wp2_with fail
              refine (ref9_fail_none _ rb _ _ _ _ _ _ HR1.out).mono ?_
              rintro e w2 ⟨rfl, hr2, hs2⟩
              go_wp2_with fail
              go_ret
              exact HIT.out.done hrlt (Step.trans HS1.out hs2 rc_nil (fun _ h => h)) hr2 (.inr ⟨by decide, HAH.out.wrong HWR.out⟩)
      · have lk : ¬ (k : Int) < l.length := by omega
        have hkl : k = l.length := by have := HIT.out.le; omega
        by_cases hd0 : d = 0
        · have ld : ¬ (0 : Int) < d := by omega
          go_wp2_with fail
          go_quiet (fail)
          go_wp2_with fail
          go_ret
          exact HIT.out.done hrlt ((Step.refl _ _ _).drewN _) HIT.out.rdr (.inl ⟨rfl, k, rfl, hkk, by omega, HAH.out, fun h => by omega, fun _ => hkl⟩)
        · have ld : (0 : Int) < d := by omega
          go_wp2_with fail
          go_quiet (fail)
          go_wp2_with fail
          generalize hW : wr.drewN _ = W
          have hr1 : Rdr W rb (.slice A l.length c) k E p 0 := by rw [← hW]; exact HIT.out.rdr
          have hs1 : Step wr W [] none := by rw [← hW]; exact (Step.refl _ [] _).drewN _
          clear hW
          refine (ref9_fail_none _ rb _ _ _ _ _ _ hr1).mono ?_
          rintro e w2 ⟨rfl, hr2, hs2⟩
          go_wp2_with fail
          go_ret
          exact HIT.out.done hrlt (Step.trans hs1 hs2 rc_nil (fun _ h => h)) hr2 (.inr ⟨by decide, HAH.out.wrong (wrong_end (by omega) (by omega))⟩)
    · have he' : (e == 0) = false := beq_false_of_ne he
      have HWR := Lib.hid hwr
      clear hwr
      by_cases hd0 : d = 0
      · have ld : ¬ (0 : Int) < d := by omega
        go_wp2_with fail
        go_quiet (fail)
        go_wp2_with fail
        go_ret
        exact HIT.out.done hrlt ((Step.refl _ _ _).drewN _) HIT.out.rdr (.inr ⟨he, HWR.out⟩)
      · have ld : (0 : Int) < d := by omega
        go_wp2_with fail
        go_quiet (fail)
        go_wp2_with fail
        generalize hW : wr.drewN _ = W
        have hr1 : Rdr W rb (.slice A l.length c) κ E p e := by rw [← hW]; exact HIT.out.rdr
        have hs1 : Step wr W (RC rb) none := by rw [← hW]; exact (Step.refl _ _ _).drewN _
        clear hW
        refine (ref9_fail_some _ rb _ _ _ _ _ _ _ hr1 he).mono ?_
        rintro e w2 ⟨rfl, rfl⟩
        go_wp2_with fail
        go_ret
        exact HIT.out.done hrlt hs1 hr1 (.inr ⟨he, HWR.out⟩)

end Go.Proofs.YtaffbnjdlgcaiaaDoor
end

section
/- Layer 9 (tree): the walk of the reference's item. -/
set_option linter.unusedVariables false
set_option linter.unusedSimpArgs false
namespace Go.Proofs.YtaffbnjdlgcaiaaDoor
open Go.RowKit
attribute [local go_sem ↓] Go.wp_at_zero Go.wp_at_succ

def rdrK (w : World) (rb : Nat) : Nat :=
  match w.cell? ⟨rb, 1, none⟩ with
  | some (.int _ n) => n.toNat
  | _ => 0
theorem Rdr.kAt {w : World} {rb : Nat} {L : Value} {k : Nat} {E p e : Int} (h : Rdr w rb L k E p e) : rdrK w rb = k := by
  unfold rdrK
  rw [Joins.cell_of_block h 1]
  simp
@[local simp] theorem rc_mem (rb : Nat) : (rb, 1) ∈ RC rb := by simp [RC]

theorem two_new (w : World) (o1 o2 o3 : Obj) : (((w.alloc o1).alloc o2).alloc o3).heap[w.heap.size + 2]? = some o3 := by
  have h := heap_alloc_new ((w.alloc o1).alloc o2) o3
  have hs : ((w.alloc o1).alloc o2).heap.size = w.heap.size + 2 := by simp
  rw [hs] at h
  exact h
theorem one_new (w : World) (o1 o2 o3 : Obj) : (((w.alloc o1).alloc o2).alloc o3).heap[w.heap.size + 1]? = some o2 := by
  have h := heap_alloc_new (w.alloc o1) o2
  have hs : (w.alloc o1).heap.size = w.heap.size + 1 := by simp
  rw [hs] at h
  exact alloc_keeps _ h
/-- What holds in the loop of item. -/
structure IwI (l : List Tok) (A : Option Addr) (c : Nat) (E : Int) (rb k0 d : Nat) (t : Tok) (w wr : World) (ws : List WordL) (k : Nat) (Aw : Option Addr) (cw : Nat) (p : Int) : Prop where
  node : wr.heap[w.heap.size + 2]? = some (.cells #[.string ⟨t.s.toArray⟩, .int .i64 t.pos, .slice Aw ws.length cw, .bool false, .slice none 0 0] 38 (0, 0))
  res : wr.heap[w.heap.size + 1]? = some (.cells #[.string ⟨#[]⟩, .int .i64 0, .slice none 0 0, .bool false, .slice none 0 0] 38 (0, 0))
  own : wr.ownsRow (w.heap.size + 3) 75 4 (.slice Aw ws.length cw) ws.length (ws.flatMap WordL.cells)
  rdr : Rdr wr rb (.slice A l.length c) k E p 0
  step : Step w wr (RC rb) none
  len : ws.length ≤ 8
  ge : k0 ≤ k
  le : k ≤ l.length
  ah : Ahead l E d k0 (some ⟨t.s, t.pos, []⟩) k (some ⟨t.s, t.pos, ws⟩) []

section
variable {l : List Tok} {A : Option Addr} {c : Nat} {E : Int} {rb k0 d : Nat} {t : Tok} {w w1 w2 : World} {ws : List WordL} {k : Nat} {Aw : Option Addr} {cw : Nat} {p : Int}

theorem item_done {node : NodeL} {cs : List Value} {κ e : Int} (hS : Step w w2 (RC rb) none) (hk : ∀ b, b ≠ w.heap.size + 1 → w2.heap[b]? = w1.heap[b]?) (hsz : w2.heap.size = w1.heap.size) (hr : Rdr w1 rb (.slice A l.length c) κ E p e) (hrb : rb < w.heap.size)
    (hn : NodeOk w1 (fun b => w.heap.size + 3 ≤ b ∧ b < w1.heap.size) node cs) (hrel : ItemRel l E d k0 ⟨t.s, t.pos, []⟩ node κ p e) {v : Value} (hv : v = .agg cs.toArray) : ItemPost l A c E rb k0 d t w (.returned v) w2 := by
  subst hv
  refine ⟨node, cs, κ, p, e, rfl, ?_, (hk rb (by omega)).trans hr, hS, hrel⟩
  exact NodeOk.keep (fun b hb => ⟨by have := hb.1; omega, by have := hb.2; omega⟩) (fun q hq => World.cell?_of_block (hk q.block (by have := hq.1; omega))) _ _ hn

theorem item_done2 {node : NodeL} {cs : List Value} {κ e : Int} (hS : Step w w2 (RC rb) none) (hk : ∀ b, w.heap.size + 3 ≤ b → w2.heap[b]? = w1.heap[b]?) (hsz : w2.heap.size = w1.heap.size) (hr : Rdr w2 rb (.slice A l.length c) κ E p e)
    (hn : NodeOk w1 (fun b => w.heap.size + 3 ≤ b ∧ b < w1.heap.size) node cs) (hrel : ItemRel l E d k0 ⟨t.s, t.pos, []⟩ node κ p e) {v : Value} (hv : v = .agg cs.toArray) : ItemPost l A c E rb k0 d t w (.returned v) w2 := by
  subst hv
  refine ⟨node, cs, κ, p, e, rfl, ?_, hr, hS, hrel⟩
  exact NodeOk.keep (fun b hb => ⟨by have := hb.1; omega, by have := hb.2; omega⟩) (fun q hq => World.cell?_of_block (hk q.block hq.1)) _ _ hn

theorem node_plain {B0 : Nat} {nm : List UInt8} {ps : Int} {bl : Bool} (hown : w1.ownsRow (w.heap.size + 3) 75 4 (.slice Aw ws.length cw) ws.length (ws.flatMap WordL.cells)) :
    NodeOk w1 (fun b => w.heap.size + 3 ≤ b ∧ b < w1.heap.size) (.mk nm ps ws bl []) [.string ⟨nm.toArray⟩, .int .i64 ps, .slice Aw ws.length cw, .bool bl, .slice none 0 0] := by
  simp only [NodeOk]
  obtain ⟨h1, h2⟩ := reads_of_own hown (fun b => w.heap.size + 3 ≤ b ∧ b < w1.heap.size) (fun x hx => by have := own_ge hown x hx; omega)
  exact ⟨Aw, cw, none, 0, [], rfl, h2, fun _ => rfl, h1, ReadsM.nil _ _ _ _, rfl⟩

theorem node_block {w0 : World} {nm : List UInt8} {ps : Int} {out : List NodeL} {A' : Option Addr} {c' : Nat} {kcs : List Value} (h0 : w.heap.size + 3 ≤ w0.heap.size)
    (hown : w1.ownsRow (w.heap.size + 3) 75 4 (.slice Aw ws.length cw) ws.length (ws.flatMap WordL.cells)) (hnil : NilOk A' c') (hr : ReadsM w1 (Fresh w0 w1) 5 A' out.length kcs) (hn : NodesOk w1 (Fresh w0 w1) out kcs) :
    NodeOk w1 (fun b => w.heap.size + 3 ≤ b ∧ b < w1.heap.size) (.mk nm ps ws true out) [.string ⟨nm.toArray⟩, .int .i64 ps, .slice Aw ws.length cw, .bool true, .slice A' out.length c'] := by
  simp only [NodeOk]
  obtain ⟨h1, h2⟩ := reads_of_own hown (fun b => w.heap.size + 3 ≤ b ∧ b < w1.heap.size) (fun x hx => by have := own_ge hown x hx; omega)
  have hm : ∀ b, Fresh w0 w1 b → w.heap.size + 3 ≤ b ∧ b < w1.heap.size := fun b hb => by have := hb.1; have := hb.2; omega
  exact ⟨Aw, cw, A', c', kcs, rfl, h2, hnil, h1, hr.keep hm (fun _ _ => rfl), NodesOk.keep hm (fun _ _ => rfl) _ _ hn⟩

theorem far_frozen {o : Obj} {w4 : World} {n : Nat} {xs : List Value} {b j : Nat} (hg : (w1.alloc o).grownBy w4 (Value.ownBlock (.slice Aw n cw))) (hown : w1.ownsRow (w.heap.size + 3) 75 4 (.slice Aw n cw) n xs) (hb : b < w.heap.size + 3 ∧ b < w1.heap.size)
    (hf : w1.frozen? ⟨b, j, none⟩ = false) : w4.frozen? ⟨b, j, none⟩ = false := by
  refine (hg.frozen_far ⟨b, j, none⟩ (by simp; omega) (fun e => ?_)).trans ((World.frozen?_alloc_old w1 o ⟨b, j, none⟩ (by show b ≠ _; omega)).trans hf)
  have := (own_ge hown b (mem_ownB.2 e.symm)).1
  omega
theorem far_cell {o : Obj} {w4 : World} {n : Nat} {xs : List Value} {b j : Nat} {v : Value} (hg : (w1.alloc o).grownBy w4 (Value.ownBlock (.slice Aw n cw))) (hown : w1.ownsRow (w.heap.size + 3) 75 4 (.slice Aw n cw) n xs) (hb : b < w.heap.size + 3 ∧ b < w1.heap.size)
    (hf : w1.cell? ⟨b, j, none⟩ = some v) : w4.cell? ⟨b, j, none⟩ = some v := by
  refine (hg.cell_far ⟨b, j, none⟩ (by simp; omega) (fun e => ?_)).trans ((World.cell?_alloc_lt w1 o ⟨b, j, none⟩ (by show b < _; omega)).trans hf)
  have := (own_ge hown b (mem_ownB.2 e.symm)).1
  omega
theorem w64 {k : Nat} (h : k ≤ 70000) : wrap64 ((k : Int) + 1) = ((k + 1 : Nat) : Int) := by unfold wrap64; omega
theorem step5 {w w4 : World} {rb : Nat} (v0 v1 v2 v3 v4 : Value) (h : Step w w4 (RC rb) none) :
    Step w (((((w4.setCell ⟨w.heap.size + 1, 0, none⟩ v0).setCell ⟨w.heap.size + 1, 1, none⟩ v1).setCell ⟨w.heap.size + 1, 2, none⟩ v2).setCell ⟨w.heap.size + 1, 3, none⟩ v3).setCell ⟨w.heap.size + 1, 4, none⟩ v4) (RC rb) none := by
  have a1 : w.heap.size ≤ w.heap.size + 1 := by omega
  exact ((((h.setCell (.inl a1) _).setCell (.inl a1) _).setCell (.inl a1) _).setCell (.inl a1) _).setCell (.inl a1) _
theorem keep5 (w4 : World) (b B : Nat) (v0 v1 v2 v3 v4 : Value) (h1 : b ≠ B + 1) :
    (((((w4.setCell ⟨B + 1, 0, none⟩ v0).setCell ⟨B + 1, 1, none⟩ v1).setCell ⟨B + 1, 2, none⟩ v2).setCell ⟨B + 1, 3, none⟩ v3).setCell ⟨B + 1, 4, none⟩ v4).heap[b]? = w4.heap[b]? := by
  rw [Go.heap_setCell_other _ _ b _ h1, Go.heap_setCell_other _ _ b _ h1, Go.heap_setCell_other _ _ b _ h1, Go.heap_setCell_other _ _ b _ h1, Go.heap_setCell_other _ _ b _ h1]
theorem step7 {w w4 : World} {rb : Nat} (v x v0 v1 v2 v3 v4 : Value) (h : Step w w4 (RC rb) none) :
    Step w (((((((w4.setCell ⟨w.heap.size + 1 + 1, 4, none⟩ v).setCell ⟨rb, 1, none⟩ x).setCell ⟨w.heap.size + 1, 0, none⟩ v0).setCell ⟨w.heap.size + 1, 1, none⟩ v1).setCell ⟨w.heap.size + 1, 2, none⟩ v2).setCell ⟨w.heap.size + 1, 3, none⟩ v3).setCell ⟨w.heap.size + 1, 4, none⟩ v4) (RC rb) none := by
  have a1 : w.heap.size ≤ w.heap.size + 1 := by omega
  have a2 : w.heap.size ≤ w.heap.size + 1 + 1 := by omega
  exact ((((((h.setCell (.inl a2) _).setCell (.inr (.inl (rc_mem rb))) _).setCell (.inl a1) _).setCell (.inl a1) _).setCell (.inl a1) _).setCell (.inl a1) _).setCell (.inl a1) _
theorem keep7 (w4 : World) (rb b B : Nat) (v x v0 v1 v2 v3 v4 : Value) (h1 : b ≠ B + 1) (h2 : b ≠ B + 1 + 1) (h3 : b ≠ rb) :
    (((((((w4.setCell ⟨B + 1 + 1, 4, none⟩ v).setCell ⟨rb, 1, none⟩ x).setCell ⟨B + 1, 0, none⟩ v0).setCell ⟨B + 1, 1, none⟩ v1).setCell ⟨B + 1, 2, none⟩ v2).setCell ⟨B + 1, 3, none⟩ v3).setCell ⟨B + 1, 4, none⟩ v4).heap[b]? = w4.heap[b]? := by
  rw [Go.heap_setCell_other _ _ b _ h1, Go.heap_setCell_other _ _ b _ h1, Go.heap_setCell_other _ _ b _ h1, Go.heap_setCell_other _ _ b _ h1, Go.heap_setCell_other _ _ b _ h1, Go.heap_setCell_other _ _ b _ h3, Go.heap_setCell_other _ _ b _ h2]
theorem rdr7 {w4 : World} {rb B : Nat} {L : Value} {κ E p e x : Int} (v v0 v1 v2 v3 v4 : Value) (y : Value) (hy : y = .int .i64 x) (h1 : rb ≠ B + 1) (h2 : rb ≠ B + 1 + 1) (h : Rdr w4 rb L κ E p e) :
    Rdr (((((((w4.setCell ⟨B + 1 + 1, 4, none⟩ v).setCell ⟨rb, 1, none⟩ y).setCell ⟨B + 1, 0, none⟩ v0).setCell ⟨B + 1, 1, none⟩ v1).setCell ⟨B + 1, 2, none⟩ v2).setCell ⟨B + 1, 3, none⟩ v3).setCell ⟨B + 1, 4, none⟩ v4) rb L x E p e := by
  subst hy
  unfold Rdr
  rw [Go.heap_setCell_other _ _ rb _ h1, Go.heap_setCell_other _ _ rb _ h1, Go.heap_setCell_other _ _ rb _ h1, Go.heap_setCell_other _ _ rb _ h1, Go.heap_setCell_other _ _ rb _ h1]
  have := set_block (o := 1) (.int .i64 x) ((Go.heap_setCell_other w4 ⟨B + 1 + 1, 4, none⟩ rb v h2).trans h)
  simpa using this
/-- One more word: behind it. -/
theorem IwI.next {w3 w4 : World} {o : Obj} {u : Tok} {g cap : Nat} (hrb : rb < w.heap.size) (h3 : w.heap.size + 3 ≤ w3.heap.size)
    (hnode : w3.heap[w.heap.size + 2]? = some (.cells #[.string ⟨t.s.toArray⟩, .int .i64 t.pos, .slice Aw ws.length cw, .bool false, .slice none 0 0] 38 (0, 0)))
    (hres : w3.heap[w.heap.size + 1]? = some (.cells #[.string ⟨#[]⟩, .int .i64 0, .slice none 0 0, .bool false, .slice none 0 0] 38 (0, 0)))
    (hrow : w3.ownsRow (w.heap.size + 3) 75 4 (.slice Aw ws.length cw) ws.length (ws.flatMap WordL.cells))
    (hr : Rdr w3 rb (.slice A l.length c) ((k + 1 : Nat) : Int) E p 0) (hS : Step w w3 (RC rb) none) (hlen : ws.length < 8) (hge : k0 ≤ k) (hu : l[k]? = some u) (hk : u.kind = 1 ∨ u.kind = 2)
    (hah : Ahead l E d k0 (some ⟨t.s, t.pos, []⟩) k (some ⟨t.s, t.pos, ws⟩) [])
    (hown : w4.ownsRow (w.heap.size + 3) 75 4 (.slice (some ⟨g, 0, none⟩) (ws.length + 1) cap) (ws.length + 1) (ws.flatMap WordL.cells ++ WordL.cells ⟨decide (u.kind = 2), u.n, u.s, u.pos⟩))
    (hg : (w3.alloc o).grownBy w4 (Value.ownBlock (.slice Aw ws.length cw))) :
    IwI l A c E rb k0 d t w (w4.setCell ⟨w.heap.size + 2, 2, none⟩ (.slice (some ⟨g, 0, none⟩) (ws.length + 1) cap)) (ws ++ [⟨decide (u.kind = 2), u.n, u.s, u.pos⟩]) (k + 1) (some ⟨g, 0, none⟩) cap p := by
  have hge2 := own_ge hrow
  have hz4 := hg.size
  simp at hz4
  have hlt := (List.getElem?_eq_some_iff.1 hu).1
  have hb : ∀ b, b < w.heap.size + 3 → w4.heap[b]? = w3.heap[b]? := fun b hb => by
    refine (hg.block b (by simp; omega) (fun e => ?_)).trans (heap_alloc_old w3 o (by omega))
    have := (hge2 b (mem_ownB.2 e.symm)).1
    omega
  have hb2 : ∀ b, b ≠ w.heap.size + 2 → (w4.setCell ⟨w.heap.size + 2, 2, none⟩ (.slice (some ⟨g, 0, none⟩) (ws.length + 1) cap)).heap[b]? = w4.heap[b]? := fun b hb => Go.heap_setCell_other w4 _ b _ hb
  have hg3 : w.heap.size + 3 ≤ g := (own_ge hown g (by simp [ownB])).1
  have hS4 : Step w w4 (RC rb) none := (hS.alloc o).grown hg (fun x hx => .inr (by have := (hge2 x (mem_ownB.2 hx)).1; omega))
  constructor
  · have := set_block (o := 2) (.slice (some ⟨g, 0, none⟩) (ws.length + 1) cap) ((hb _ (by omega)).trans hnode)
    simpa using this
  · rw [hb2 _ (by omega), hb _ (by omega)]; exact hres
  · have h2 : Step w4 (w4.setCell ⟨w.heap.size + 2, 2, none⟩ (.slice (some ⟨g, 0, none⟩) (ws.length + 1) cap)) [(w.heap.size + 2, 2)] none := (Step.refl _ _ _).setCell (.inr (.inl (by simp))) _
    have := h2.own' hown (fun x hx => by
      simp [ownB] at hx
      subst hx
      exact ⟨fun j hj => by simp at hj; omega, by simp⟩)
    simpa [List.flatMap_append] using this
  · exact (hb2 rb (by omega)).trans ((hb rb (by omega)).trans hr)
  · exact hS4.setCell (.inl (by omega)) _
  · simp only [List.length_append, List.length_singleton]; omega
  · omega
  · omega
  · have := hah.trans (ahead_word (E := E) (d := d) (i := ⟨t.s, t.pos, ws⟩) hu hk (by show ws.length ≠ 8; omega))
    simpa using this
end

set_option maxRecDepth 100000 in
set_option maxHeartbeats 20000000 in
theorem ref9_item_step (l : List Tok) (A : Option Addr) (c : Nat) (E : Int) (B0 rb k0 : Nat) (hl : l.length ≤ 65536) (hk0 : k0 ≤ l.length) (hB : B0 ≤ rb) (ih : ∀ k', k0 < k' → k' ≤ l.length → ItemsAt l A c E B0 rb k') : ItemAt9 l A c E B0 rb k0 := by
  intro d w p0 t hd hrd hr0
  have HRD := Lib.hid hrd
  have HR0 := Lib.hid hr0
  have HIH := Lib.hid ih
  have hrlt := hr0.lt
  clear ih hrd hr0
  unfold tokV
  go_enter Tryd.func79, Tryd.ntmps79
  go_wp2_with fail
  go_loopw [] (fun wr => ∃ (ws : List WordL) (k : Nat) (Aw : Option Addr) (cw : Nat) (p : Int), IwI l A c E rb k0 d t w wr ws k Aw cw p) (fun wr => l.length - rdrK wr rb)
  case atStart =>
    refine ⟨[], k0, none, 0, p0, ⟨?_, ?_, ⟨rfl, .inl ⟨rfl, rfl⟩⟩, alloc_keeps _ (alloc_keeps _ (alloc_keeps _ HR0.out)), ?_, by simp, Nat.le_refl _, hk0, ahead_refl⟩⟩
    · exact two_new _ _ _ _
    · exact one_new _ _ _ _
    · (repeat (first | exact Step.refl _ _ _ | assumption | refine Step.drew ?_ | refine Step.alloc ?_ _ | refine Step.setCell ?_ (by first | exact Or.inr (Or.inl (by simp)) | exact Or.inl (by simp) | exact Or.inl (by simp; omega) | exact Or.inl (by omega)) _))
  case round =>
    obtain ⟨ws, k, Aw, cw, p, hi⟩ := hrel
    have hwz := hi.step.size
    have hz3 := (Array.getElem?_eq_some_iff.1 hi.node).1
    have g0 := Joins.cell_of_block hi.rdr 0
    have g1 := Joins.cell_of_block hi.rdr 1
    have g2 := Joins.cell_of_block hi.rdr 2
    have gf := Joins.unfrozen_of_block hi.rdr
    have f1 := gf 1
    have glt := hi.rdr.lt
    have HIT := Lib.hid hi
    have hkl := hi.le
    have hkg := hi.ge
    have hw8 := hi.len
    have hz3w := hz3
    clear hi gf
    by_cases hlt : k < l.length
    · obtain ⟨u, hu⟩ : ∃ u, l[k]? = some u := ⟨_, List.getElem?_eq_getElem hlt⟩
      obtain ⟨ad, hA, hadb, t0, t1, t2, t3⟩ := tok_cells (HIT.out.step.keepReads hB hrlt HRD.out) k u hu
      subst hA
      have HU := Lib.hid hu
      clear hu
      have lk : (k : Int) < l.length := by omega
      have lk0 : (0 : Int) ≤ k := by omega
      have w1f : IntKind.i64.wrap ((k : Int) + 1) = (k : Int) + 1 := by rw [IntKind.wrap_i64]; omega
      go_wp2_with fail
      go_quiet (fail)
      generalize hW : wr.drewN _ = W
      have hG : ∀ q, W.cell? q = wr.cell? q := fun q => by rw [← hW]; rfl
      have hGf : ∀ q, W.frozen? q = wr.frozen? q := fun q => by rw [← hW]; rfl
      have hGh : W.heap = wr.heap := by rw [← hW]; rfl
      rw [← hG] at g0 g1 g2 t0 t1 t2 t3
      rw [← hGf] at f1
      rw [← hGh] at glt hz3
      have hlad : ad.block < W.heap.size := by rw [hGh]; omega
      have hne1 : ad.block ≠ W.heap.size := by omega
      have hz : ∀ q : Addr, q.block < W.heap.size → (W.alloc (.cells #[.int .i64 0, .int .i64 0, .int .i64 0, .string ⟨#[]⟩] 61)).cell? q = W.cell? q := fun q hq => World.cell?_alloc_lt W _ q hq
      have z0 := (hz _ (by rw [block_of_add]; exact hlad)).trans t0
      have z1 := (hz _ (by show (ad.add (k * 4)).block < _; rw [block_of_add]; exact hlad)).trans t1
      have z2 := (hz _ (by show (ad.add (k * 4)).block < _; rw [block_of_add]; exact hlad)).trans t2
      have z3 := (hz _ (by show (ad.add (k * 4)).block < _; rw [block_of_add]; exact hlad)).trans t3
      clear hz
      have HSW := Lib.hid (show Step wr W [] none by rw [← hW]; exact (Step.refl _ [] _).drewN _)
      clear hW hG hGf hGh
      go_wp2_with fail
      go_region
      obtain ⟨W1, hW1⟩ : ∃ W1, W1 = (W.alloc (.cells #[.int .i64 u.kind, .int .i64 u.pos, .int .i64 u.n, .string ⟨u.s.toArray⟩] 61)).drew := ⟨_, rfl⟩
      rw [← hW1]
      have hs1 : Step wr W1 [] none := by
        rw [hW1]
        exact ((HSW.out).alloc _).drew
      have hr1 : Rdr W1 rb (.slice (some ad) l.length c) k E p 0 := HIT.out.rdr.keep hs1 ⟨fun j hj => (by cases hj), by simp⟩
      have hb1 : W1.heap[W.heap.size]? = some (.cells #[.int .i64 u.kind, .int .i64 u.pos, .int .i64 u.n, .string ⟨u.s.toArray⟩] 61 (0, 0)) := by
        rw [hW1]; exact heap_alloc_new W _
      have hne : rb ≠ W.heap.size := by omega
      generalize W.heap.size = tb at *
      clear hW1 g0 g1 g2 t0 t1 t2 t3 z0 z1 z2 z3 f1
      have y1 := Joins.cell_of_block hr1 1
      have yf := Joins.unfrozen_of_block hr1
      have f1 := yf 1
      have x0 := Joins.cell_of_block hb1 0
      have HR1 := Lib.hid hr1
      have HS1 := Lib.hid hs1
      have HB1 := Lib.hid hb1
      clear yf hr1 hs1 hb1
      go_upto_region 5 with fail
      generalize hW2 : W1.setCell _ _ = W2
      have hr2 : Rdr W2 rb (.slice (some ad) l.length c) ((k + 1 : Nat) : Int) E p 0 := by
        rw [← hW2]
        have := set_block (o := 1) (.int .i64 ((k : Int) + 1)) HR1.out
        simpa [Rdr] using this
      have hs2 : Step wr W2 (RC rb) none := by
        rw [← hW2]
        exact Step.setCell (Step.trans HS1.out (Step.refl _ [] _) rc_nil rc_nil) (.inr (.inl (rc_mem rb))) _
      have hb2 : W2.heap[tb]? = some (.cells #[.int .i64 u.kind, .int .i64 u.pos, .int .i64 u.n, .string ⟨u.s.toArray⟩] 61 (0, 0)) := by
        rw [← hW2]
        exact (Go.heap_setCell_other W1 _ tb _ (Ne.symm hne)).trans HB1.out
      clear hW2 y1 f1 x0 HR1 HS1 HB1
      have hsafe : ∀ x, w.heap.size ≤ x → Safe (RC rb) none x := fun x hx => ⟨fun j hj => by simp [RC] at hj; omega, by simp⟩
      have x0 := Joins.cell_of_block hb2 0
      have x1 := Joins.cell_of_block hb2 1
      have x2 := Joins.cell_of_block hb2 2
      have x3 := Joins.cell_of_block hb2 3
      have y1 := Joins.cell_of_block hr2 1
      have yf := Joins.unfrozen_of_block hr2
      have f1 := yf 1
      have hnb : W2.heap[w.heap.size + 1 + 1]? = _ := (hs2.same (by omega) (hsafe _ (by omega))).trans HIT.out.node
      have hqb : W2.heap[w.heap.size + 1]? = _ := (hs2.same (by omega) (hsafe _ (by omega))).trans HIT.out.res
      have n0 := Joins.cell_of_block hnb 0
      have n1 := Joins.cell_of_block hnb 1
      have n2 := Joins.cell_of_block hnb 2
      have n3 := Joins.cell_of_block hnb 3
      have n4 := Joins.cell_of_block hnb 4
      have q0 := Joins.cell_of_block hqb 0
      have q1 := Joins.cell_of_block hqb 1
      have q2 := Joins.cell_of_block hqb 2
      have q3 := Joins.cell_of_block hqb 3
      have q4 := Joins.cell_of_block hqb 4
      have nf := Joins.unfrozen_of_block hnb
      have qf := Joins.unfrozen_of_block hqb
      have nf0 := nf 0
      have nf1 := nf 1
      have nf2 := nf 2
      have nf3 := nf 3
      have nf4 := nf 4
      have qf0 := qf 0
      have qf1 := qf 1
      have qf2 := qf 2
      have qf3 := qf 3
      have qf4 := qf 4
      have HNB := Lib.hid hnb
      have HQB := Lib.hid hqb
      clear nf qf hnb hqb
      have HO2 := Lib.hid (hs2.own' HIT.out.own (fun x hx => hsafe x (by have := own_ge HIT.out.own x hx; omega)))
      have HR2 := Lib.hid hr2
      have HS2 := Lib.hid hs2
      have d1 : rb ≠ w.heap.size + 1 := by omega
      have d2 : rb ≠ w.heap.size + 1 + 1 := by omega
      have d3 : tb ≠ w.heap.size + 1 := by omega
      have d4 : tb ≠ w.heap.size + 1 + 1 := by omega
      have hz2 := hs2.size
      clear hb2 hr2 hs2 yf hsafe
      by_cases h12 : u.kind = 1 ∨ u.kind = 2
      · by_cases h8 : ws.length = 8
        · have l8 : ((ws.length : Int) == 8) = true := by simp [h8]
          have HWR := Lib.hid (wrong_words (E := E) (d := d) (i := ⟨t.s, t.pos, ws⟩) HU.out h12 h8)
          rcases h12 with h12 | h12
          · have k1 : (u.kind == 1) = true := by simp [h12]
            clear h12 h8
            go_wp2_with fail
            clear n0 n1 n2 n3 n4 q0 q1 q2 q3 q4 nf0 nf1 nf2 nf3 nf4 qf0 qf1 qf2 qf3 qf4 HNB HQB
            refine (ref9_fail_none _ rb _ _ _ _ _ _ HR2.out).mono ?_
            rintro e w3 ⟨rfl, hr3, hs3⟩
            have hS3 : Step wr w3 (RC rb) none := Step.trans HS2.out hs3 (fun _ h => h) (fun _ h => h)
            have hsafe : ∀ x, w.heap.size ≤ x → Safe (RC rb) none x := fun x hx => ⟨fun j hj => by simp [RC] at hj; omega, by simp⟩
            have hnb : w3.heap[w.heap.size + 1 + 1]? = _ := (hS3.same (by omega) (hsafe _ (by omega))).trans HIT.out.node
            have hqb : w3.heap[w.heap.size + 1]? = _ := (hS3.same (by omega) (hsafe _ (by omega))).trans HIT.out.res
            have n0 := Joins.cell_of_block hnb 0
            have n1 := Joins.cell_of_block hnb 1
            have n2 := Joins.cell_of_block hnb 2
            have n3 := Joins.cell_of_block hnb 3
            have n4 := Joins.cell_of_block hnb 4
            have q0 := Joins.cell_of_block hqb 0
            have q1 := Joins.cell_of_block hqb 1
            have q2 := Joins.cell_of_block hqb 2
            have q3 := Joins.cell_of_block hqb 3
            have q4 := Joins.cell_of_block hqb 4
            have nf := Joins.unfrozen_of_block hnb
            have qf := Joins.unfrozen_of_block hqb
            have nf0 := nf 0
            have nf1 := nf 1
            have nf2 := nf 2
            have nf3 := nf 3
            have nf4 := nf 4
            have qf0 := qf 0
            have qf1 := qf 1
            have qf2 := qf 2
            have qf3 := qf 3
            have qf4 := qf 4
            have HNB := Lib.hid hnb
            have HQB := Lib.hid hqb
            clear nf qf hnb hqb
            have HO3 := Lib.hid (hS3.own' HIT.out.own (fun x hx => hsafe x (by have := own_ge HIT.out.own x hx; omega)))
            have HR3 := Lib.hid hr3
            have HS3 := Lib.hid hS3
            clear hr3 hs3 hS3 hsafe
            go_wp2_with fail
            have hSw : Step w w3 (RC rb) none := Step.trans HIT.out.step HS3.out (fun _ h => h) (fun _ h => h)
            refine bodyPost_ret (v := .agg #[.string ⟨t.s.toArray⟩, .int .i64 t.pos, .slice Aw ws.length cw, .bool false, .slice none 0 0]) (by simp [results, Tryd.results79, go_sem, *]) rfl ?_
            refine item_done (w1 := w3) (cs := [.string ⟨t.s.toArray⟩, .int .i64 t.pos, .slice Aw ws.length cw, .bool false, .slice none 0 0]) ?_ ?_ (by simp) HR3.out hrlt (node_plain (B0 := 0) HO3.out) (.inr ⟨by decide, HIT.out.ah.wrong HWR.out⟩) rfl
            · exact step5 _ _ _ _ _ hSw
            · exact fun b hb => keep5 _ b _ _ _ _ _ _ hb
          · have k1 : (u.kind == 1) = false := by simp [h12]
            have k2 : (u.kind == 2) = true := by simp [h12]
            clear h12 h8
            go_wp2_with fail
            clear n0 n1 n2 n3 n4 q0 q1 q2 q3 q4 nf0 nf1 nf2 nf3 nf4 qf0 qf1 qf2 qf3 qf4 HNB HQB
            refine (ref9_fail_none _ rb _ _ _ _ _ _ HR2.out).mono ?_
            rintro e w3 ⟨rfl, hr3, hs3⟩
            have hS3 : Step wr w3 (RC rb) none := Step.trans HS2.out hs3 (fun _ h => h) (fun _ h => h)
            have hsafe : ∀ x, w.heap.size ≤ x → Safe (RC rb) none x := fun x hx => ⟨fun j hj => by simp [RC] at hj; omega, by simp⟩
            have hnb : w3.heap[w.heap.size + 1 + 1]? = _ := (hS3.same (by omega) (hsafe _ (by omega))).trans HIT.out.node
            have hqb : w3.heap[w.heap.size + 1]? = _ := (hS3.same (by omega) (hsafe _ (by omega))).trans HIT.out.res
            have n0 := Joins.cell_of_block hnb 0
            have n1 := Joins.cell_of_block hnb 1
            have n2 := Joins.cell_of_block hnb 2
            have n3 := Joins.cell_of_block hnb 3
            have n4 := Joins.cell_of_block hnb 4
            have q0 := Joins.cell_of_block hqb 0
            have q1 := Joins.cell_of_block hqb 1
            have q2 := Joins.cell_of_block hqb 2
            have q3 := Joins.cell_of_block hqb 3
            have q4 := Joins.cell_of_block hqb 4
            have nf := Joins.unfrozen_of_block hnb
            have qf := Joins.unfrozen_of_block hqb
            have nf0 := nf 0
            have nf1 := nf 1
            have nf2 := nf 2
            have nf3 := nf 3
            have nf4 := nf 4
            have qf0 := qf 0
            have qf1 := qf 1
            have qf2 := qf 2
            have qf3 := qf 3
            have qf4 := qf 4
            have HNB := Lib.hid hnb
            have HQB := Lib.hid hqb
            clear nf qf hnb hqb
            have HO3 := Lib.hid (hS3.own' HIT.out.own (fun x hx => hsafe x (by have := own_ge HIT.out.own x hx; omega)))
            have HR3 := Lib.hid hr3
            have HS3 := Lib.hid hS3
            clear hr3 hs3 hS3 hsafe
            go_wp2_with fail
            have hSw : Step w w3 (RC rb) none := Step.trans HIT.out.step HS3.out (fun _ h => h) (fun _ h => h)
            refine bodyPost_ret (v := .agg #[.string ⟨t.s.toArray⟩, .int .i64 t.pos, .slice Aw ws.length cw, .bool false, .slice none 0 0]) (by simp [results, Tryd.results79, go_sem, *]) rfl ?_
            refine item_done (w1 := w3) (cs := [.string ⟨t.s.toArray⟩, .int .i64 t.pos, .slice Aw ws.length cw, .bool false, .slice none 0 0]) ?_ ?_ (by simp) HR3.out hrlt (node_plain (B0 := 0) HO3.out) (.inr ⟨by decide, HIT.out.ah.wrong HWR.out⟩) rfl
            · exact step5 _ _ _ _ _ hSw
            · exact fun b hb => keep5 _ b _ _ _ _ _ _ hb
        · have l8 : ((ws.length : Int) == 8) = false := beq_false_of_ne (by omega)
          rcases h12 with h12 | h12
          · have k1 : (u.kind == 1) = true := by simp [h12]
            have k2 : (u.kind == 2) = false := by simp [h12]
            have H12 := Lib.hid h12
            clear h12
            obtain ⟨i0, hi0, hz0, hz1, hz2'⟩ := info_parts info_word
            go_wp2_with (first | (at_builtin; refine wpList_append_lies _ (by rfl) _ _ _ (by rfl) (w.heap.size + 3) 75 i0 _ 4 40 Tryd.underlying36 hi0 hz0 hz1 hz2' rfl (by decide) _ _ _ rfl (HO2.out.alloc _) ⟨W2.heap.size, 0, none⟩ 1 1 [.bool false, .int .i64 u.n, .string ⟨u.s.toArray⟩, .int .i64 u.pos] rfl rfl (cells_new _ [.bool false, .int .i64 u.n, .string ⟨u.s.toArray⟩, .int .i64 u.pos] _ _ (by simp)) (by simp [Value.oneCell']) (by decide) (by unfold maxLen; omega) (by omega) (by simp; omega) (W2.heap.size + 1) (by simp) ?_; intro g cap w4 hown4 hg4 hat4 hlt4; have nf2' : w4.frozen? ⟨w.heap.size + 1 + 1, 2, none⟩ = false := far_frozen hg4 HO2.out (by omega) nf2; have c2' : w4.cell? ⟨w.heap.size + 1 + 1, 2, none⟩ = some (.slice Aw ws.length cw) := far_cell hg4 HO2.out (by omega) n2))
            have hc : WordL.cells ⟨decide (u.kind = 2), u.n, u.s, u.pos⟩ = [.bool false, .int .i64 u.n, .string ⟨u.s.toArray⟩, .int .i64 u.pos] := by simp [WordL.cells, H12.out]
            have hnx := IwI.next (o := .cells #[.bool false, .int .i64 u.n, .string ⟨u.s.toArray⟩, .int .i64 u.pos] 75) hrlt (by omega) HNB.out HQB.out HO2.out HR2.out (Step.trans HIT.out.step HS2.out (fun _ h => h) (fun _ h => h)) (by omega) hkg HU.out (.inl H12.out) HIT.out.ah (by rw [hc]; exact hown4) hg4
            go_roundw
            case rel => exact ⟨_, _, _, _, _, hnx⟩
            case measure =>
              rw [HIT.out.rdr.kAt]
              refine Nat.lt_of_le_of_lt (Nat.le_of_eq (congrArg (l.length - ·) hnx.rdr.kAt)) ?_
              omega
          · have k1 : (u.kind == 1) = false := by simp [h12]
            have k2 : (u.kind == 2) = true := by simp [h12]
            have H12 := Lib.hid h12
            clear h12
            obtain ⟨i0, hi0, hz0, hz1, hz2'⟩ := info_parts info_word
            go_wp2_with (first | (at_builtin; refine wpList_append_lies _ (by rfl) _ _ _ (by rfl) (w.heap.size + 3) 75 i0 _ 4 40 Tryd.underlying36 hi0 hz0 hz1 hz2' rfl (by decide) _ _ _ rfl (HO2.out.alloc _) ⟨W2.heap.size, 0, none⟩ 1 1 [.bool true, .int .i64 u.n, .string ⟨u.s.toArray⟩, .int .i64 u.pos] rfl rfl (cells_new _ [.bool true, .int .i64 u.n, .string ⟨u.s.toArray⟩, .int .i64 u.pos] _ _ (by simp)) (by simp [Value.oneCell']) (by decide) (by unfold maxLen; omega) (by omega) (by simp; omega) (W2.heap.size + 1) (by simp) ?_; intro g cap w4 hown4 hg4 hat4 hlt4; have nf2' : w4.frozen? ⟨w.heap.size + 1 + 1, 2, none⟩ = false := far_frozen hg4 HO2.out (by omega) nf2; have c2' : w4.cell? ⟨w.heap.size + 1 + 1, 2, none⟩ = some (.slice Aw ws.length cw) := far_cell hg4 HO2.out (by omega) n2))
            have hc : WordL.cells ⟨decide (u.kind = 2), u.n, u.s, u.pos⟩ = [.bool true, .int .i64 u.n, .string ⟨u.s.toArray⟩, .int .i64 u.pos] := by simp [WordL.cells, H12.out]
            have hnx := IwI.next (o := .cells #[.bool true, .int .i64 u.n, .string ⟨u.s.toArray⟩, .int .i64 u.pos] 75) hrlt (by omega) HNB.out HQB.out HO2.out HR2.out (Step.trans HIT.out.step HS2.out (fun _ h => h) (fun _ h => h)) (by omega) hkg HU.out (.inr H12.out) HIT.out.ah (by rw [hc]; exact hown4) hg4
            go_roundw
            case rel => exact ⟨_, _, _, _, _, hnx⟩
            case measure =>
              rw [HIT.out.rdr.kAt]
              refine Nat.lt_of_le_of_lt (Nat.le_of_eq (congrArg (l.length - ·) hnx.rdr.kAt)) ?_
              omega
      · have k1 : (u.kind == 1) = false := beq_false_of_ne (by omega)
        have k2 : (u.kind == 2) = false := beq_false_of_ne (by omega)
        by_cases h5 : u.kind = 5
        · have k5 : (u.kind == 5) = true := by simp [h5]
          have HAE := Lib.hid (ahead_end (E := E) (d := d) (i := ⟨t.s, t.pos, ws⟩) HU.out h5)
          clear h5
          go_wp2_with fail
          have hSw : Step w W2 (RC rb) none := Step.trans HIT.out.step HS2.out (fun _ h => h) (fun _ h => h)
          refine bodyPost_ret (v := .agg #[.string ⟨t.s.toArray⟩, .int .i64 t.pos, .slice Aw ws.length cw, .bool false, .slice none 0 0]) (by simp [results, Tryd.results79, go_sem, *]) rfl ?_
          refine item_done (w1 := W2) (cs := [.string ⟨t.s.toArray⟩, .int .i64 t.pos, .slice Aw ws.length cw, .bool false, .slice none 0 0]) ?_ ?_ (by simp) HR2.out hrlt (node_plain (B0 := 0) HO2.out) (.inl ⟨rfl, k + 1, rfl, by omega, by omega, HIT.out.ah.trans HAE.out⟩) rfl
          · exact step5 _ _ _ _ _ hSw
          · exact fun b hb => keep5 _ b _ _ _ _ _ _ hb
        · have k5 : (u.kind == 5) = false := beq_false_of_ne h5
          by_cases h3 : u.kind = 3
          · have k3 : (u.kind == 3) = true := by simp [h3]
            by_cases h6 : d = 6
            · have l6 : ((d : Int) == 6) = true := by simp [h6]
              have HWR := Lib.hid (wrong_deep (E := E) (i := ⟨t.s, t.pos, ws⟩) HU.out h3 h6)
              clear h3 h6
              go_wp2_with fail
              clear n0 n1 n2 n3 n4 q0 q1 q2 q3 q4 nf0 nf1 nf2 nf3 nf4 qf0 qf1 qf2 qf3 qf4 HNB HQB
              refine (ref9_fail_none _ rb _ _ _ _ _ _ HR2.out).mono ?_
              rintro e w3 ⟨rfl, hr3, hs3⟩
              have hS3 : Step wr w3 (RC rb) none := Step.trans HS2.out hs3 (fun _ h => h) (fun _ h => h)
              have hsafe : ∀ x, w.heap.size ≤ x → Safe (RC rb) none x := fun x hx => ⟨fun j hj => by simp [RC] at hj; omega, by simp⟩
              have hnb : w3.heap[w.heap.size + 1 + 1]? = _ := (hS3.same (by omega) (hsafe _ (by omega))).trans HIT.out.node
              have hqb : w3.heap[w.heap.size + 1]? = _ := (hS3.same (by omega) (hsafe _ (by omega))).trans HIT.out.res
              have n0 := Joins.cell_of_block hnb 0
              have n1 := Joins.cell_of_block hnb 1
              have n2 := Joins.cell_of_block hnb 2
              have n3 := Joins.cell_of_block hnb 3
              have n4 := Joins.cell_of_block hnb 4
              have q0 := Joins.cell_of_block hqb 0
              have q1 := Joins.cell_of_block hqb 1
              have q2 := Joins.cell_of_block hqb 2
              have q3 := Joins.cell_of_block hqb 3
              have q4 := Joins.cell_of_block hqb 4
              have nf := Joins.unfrozen_of_block hnb
              have qf := Joins.unfrozen_of_block hqb
              have nf0 := nf 0
              have nf1 := nf 1
              have nf2 := nf 2
              have nf3 := nf 3
              have nf4 := nf 4
              have qf0 := qf 0
              have qf1 := qf 1
              have qf2 := qf 2
              have qf3 := qf 3
              have qf4 := qf 4
              have HNB := Lib.hid hnb
              have HQB := Lib.hid hqb
              clear nf qf hnb hqb
              have HO3 := Lib.hid (hS3.own' HIT.out.own (fun x hx => hsafe x (by have := own_ge HIT.out.own x hx; omega)))
              have HR3 := Lib.hid hr3
              have HS3 := Lib.hid hS3
              clear hr3 hs3 hS3 hsafe
              go_wp2_with fail
              have hSw : Step w w3 (RC rb) none := Step.trans HIT.out.step HS3.out (fun _ h => h) (fun _ h => h)
              refine bodyPost_ret (v := .agg #[.string ⟨t.s.toArray⟩, .int .i64 t.pos, .slice Aw ws.length cw, .bool false, .slice none 0 0]) (by simp [results, Tryd.results79, go_sem, *]) rfl ?_
              refine item_done (w1 := w3) (cs := [.string ⟨t.s.toArray⟩, .int .i64 t.pos, .slice Aw ws.length cw, .bool false, .slice none 0 0]) ?_ ?_ (by simp) HR3.out hrlt (node_plain (B0 := 0) HO3.out) (.inr ⟨by decide, HIT.out.ah.wrong HWR.out⟩) rfl
              · exact step5 _ _ _ _ _ hSw
              · exact fun b hb => keep5 _ b _ _ _ _ _ _ hb
            · have l6 : ((d : Int) == 6) = false := beq_false_of_ne (by omega)
              have wd : IntKind.i64.wrap ((d : Int) + 1) = ((d + 1 : Nat) : Int) := by rw [IntKind.wrap_i64]; omega
              have HU3 := Lib.hid h3
              clear h3
              go_wp2_with fail
              have hsafe : ∀ x, w.heap.size ≤ x → Safe (RC rb) none x := fun x hx => ⟨fun j hj => by simp [RC] at hj; omega, by simp⟩
              generalize hW3 : W2.setCell _ _ = W3
              have hr3 : Rdr W3 rb (.slice (some ad) l.length c) ((k + 1 : Nat) : Int) E p 0 := by
                rw [← hW3]; exact (Go.heap_setCell_other W2 _ rb _ d2).trans HR2.out
              have hs3 : Step w W3 (RC rb) none := by
                rw [← hW3]; exact (Step.trans HIT.out.step HS2.out (fun _ h => h) (fun _ h => h)).setCell (.inl (by omega)) _
              have hnb3 : W3.heap[w.heap.size + 1 + 1]? = some (.cells #[.string ⟨t.s.toArray⟩, .int .i64 t.pos, .slice Aw ws.length cw, .bool true, .slice none 0 0] 38 (0, 0)) := by
                rw [← hW3]
                have := set_block (o := 3) (.bool true) HNB.out
                simpa using this
              have hqb3 : W3.heap[w.heap.size + 1]? = some (.cells #[.string ⟨#[]⟩, .int .i64 0, .slice none 0 0, .bool false, .slice none 0 0] 38 (0, 0)) := by
                rw [← hW3]; exact (Go.heap_setCell_other W2 _ (w.heap.size + 1) _ (by show w.heap.size + 1 ≠ w.heap.size + 1 + 1; omega)).trans HQB.out
              have hz3 : W3.heap.size = W2.heap.size := by rw [← hW3]; simp
              have ho3 : W3.ownsRow (w.heap.size + 3) 75 4 (.slice Aw ws.length cw) ws.length (ws.flatMap WordL.cells) := by
                rw [← hW3]
                refine Step.own' ((Step.refl W2 [(w.heap.size + 1 + 1, 3)] none).setCell (.inr (.inl (by simp))) _) HO2.out (fun x hx => ?_)
                have := (own_ge HO2.out x hx).1
                exact ⟨fun j hj => by simp at hj; omega, by simp⟩
              clear hW3
              clear n0 n1 n2 n3 n4 q0 q1 q2 q3 q4 nf0 nf1 nf2 nf3 nf4 qf0 qf1 qf2 qf3 qf4 HNB HQB
              have hc := HIH.out (k + 1) (by omega) (by omega) (d + 1) W3 p (by omega) (Step.keepReads hs3 hB hrlt HRD.out) hr3
              refine hc.mono ?_
              rintro e w4 ⟨out, A', c', kcs, κ, p', e', rfl, hnil, hrk, hnk, hr4, hs4, hrel4⟩
              have hnb : w4.heap[w.heap.size + 1 + 1]? = _ := (hs4.same (by omega) (hsafe _ (by omega))).trans hnb3
              have hqb : w4.heap[w.heap.size + 1]? = _ := (hs4.same (by omega) (hsafe _ (by omega))).trans hqb3
              have n0 := Joins.cell_of_block hnb 0
              have n1 := Joins.cell_of_block hnb 1
              have n2 := Joins.cell_of_block hnb 2
              have n3 := Joins.cell_of_block hnb 3
              have n4 := Joins.cell_of_block hnb 4
              have q0 := Joins.cell_of_block hqb 0
              have q1 := Joins.cell_of_block hqb 1
              have q2 := Joins.cell_of_block hqb 2
              have q3 := Joins.cell_of_block hqb 3
              have q4 := Joins.cell_of_block hqb 4
              have nf := Joins.unfrozen_of_block hnb
              have qf := Joins.unfrozen_of_block hqb
              have nf0 := nf 0
              have nf1 := nf 1
              have nf2 := nf 2
              have nf3 := nf 3
              have nf4 := nf 4
              have qf0 := qf 0
              have qf1 := qf 1
              have qf2 := qf 2
              have qf3 := qf 3
              have qf4 := qf 4
              have HNB := Lib.hid hnb
              have HQB := Lib.hid hqb
              clear nf qf hnb hqb
              have HO4 := Lib.hid (hs4.own' ho3 (fun x hx => hsafe x (by have := own_ge ho3 x hx; omega)))
              have g1 := Joins.cell_of_block hr4 1
              have gf := Joins.unfrozen_of_block hr4
              have f1 := gf 1
              have hz4 := hs4.size
              have hS4 := Step.trans hs3 hs4 (fun _ h => h) (fun _ h => h)
              have HR4 := Lib.hid hr4
              have HS4 := Lib.hid hS4
              have HRK := Lib.hid hrk
              have HNK := Lib.hid hnk
              have HNI := Lib.hid hnil
              have HREL := Lib.hid hrel4
              clear gf hr4 hs4 hS4 hrk hnk hnil hrel4 hc hsafe hr3 hs3 ho3
              go_wp2_with fail
              refine bodyPost_ret (v := .agg #[.string ⟨t.s.toArray⟩, .int .i64 t.pos, .slice Aw ws.length cw, .bool true, .slice A' out.length c']) (by simp [results, Tryd.results79, go_sem, *]) rfl ?_
              have hSw := HS4.out
              refine item_done2 (w1 := w4) (κ := wrap64 (κ + 1)) (p := p') (e := e') (cs := [.string ⟨t.s.toArray⟩, .int .i64 t.pos, .slice Aw ws.length cw, .bool true, .slice A' out.length c']) ?_ ?_ (by simp) ?_ (node_block (w0 := W3) (by omega) HO4.out HNI.out HRK.out HNK.out) ?_ rfl
              · exact step7 _ _ _ _ _ _ _ HS4.out
              · exact fun b hb => keep7 w4 rb b _ _ _ _ _ _ _ _ (by omega) (by omega) (by omega)
              · exact rdr7 _ _ _ _ _ _ _ rfl d1 d2 HR4.out
              · rcases HREL.out with ⟨rfl, k', hκ, hk1, hk2, ha, h4, h0⟩ | ⟨he, hw⟩
                · obtain ⟨t', ht', hk4⟩ := h4 (by omega)
                  have hlt' := (List.getElem?_eq_some_iff.1 ht').1
                  exact .inl ⟨rfl, k' + 1, by rw [hκ]; exact w64 (by omega), by omega, by omega, HIT.out.ah.trans (ahead_block (i := ⟨t.s, t.pos, ws⟩) HU.out HU3.out h6 ha ht' hk4)⟩
                · exact .inr ⟨he, HIT.out.ah.wrong (wrong_block (i := ⟨t.s, t.pos, ws⟩) HU.out HU3.out h6 hw)⟩
          · have k3 : (u.kind == 3) = false := beq_false_of_ne h3
            have HWR := Lib.hid (wrong_else (E := E) (d := d) (i := ⟨t.s, t.pos, ws⟩) HU.out ⟨fun e => h12 (.inl e), fun e => h12 (.inr e), h3, h5⟩)
            clear h3
            go_wp2_with fail
            clear n0 n1 n2 n3 n4 q0 q1 q2 q3 q4 nf0 nf1 nf2 nf3 nf4 qf0 qf1 qf2 qf3 qf4 HNB HQB
            refine (ref9_fail_none _ rb _ _ _ _ _ _ HR2.out).mono ?_
            rintro e w3 ⟨rfl, hr3, hs3⟩
            have hS3 : Step wr w3 (RC rb) none := Step.trans HS2.out hs3 (fun _ h => h) (fun _ h => h)
            have hsafe : ∀ x, w.heap.size ≤ x → Safe (RC rb) none x := fun x hx => ⟨fun j hj => by simp [RC] at hj; omega, by simp⟩
            have hnb : w3.heap[w.heap.size + 1 + 1]? = _ := (hS3.same (by omega) (hsafe _ (by omega))).trans HIT.out.node
            have hqb : w3.heap[w.heap.size + 1]? = _ := (hS3.same (by omega) (hsafe _ (by omega))).trans HIT.out.res
            have n0 := Joins.cell_of_block hnb 0
            have n1 := Joins.cell_of_block hnb 1
            have n2 := Joins.cell_of_block hnb 2
            have n3 := Joins.cell_of_block hnb 3
            have n4 := Joins.cell_of_block hnb 4
            have q0 := Joins.cell_of_block hqb 0
            have q1 := Joins.cell_of_block hqb 1
            have q2 := Joins.cell_of_block hqb 2
            have q3 := Joins.cell_of_block hqb 3
            have q4 := Joins.cell_of_block hqb 4
            have nf := Joins.unfrozen_of_block hnb
            have qf := Joins.unfrozen_of_block hqb
            have nf0 := nf 0
            have nf1 := nf 1
            have nf2 := nf 2
            have nf3 := nf 3
            have nf4 := nf 4
            have qf0 := qf 0
            have qf1 := qf 1
            have qf2 := qf 2
            have qf3 := qf 3
            have qf4 := qf 4
            have HNB := Lib.hid hnb
            have HQB := Lib.hid hqb
            clear nf qf hnb hqb
            have HO3 := Lib.hid (hS3.own' HIT.out.own (fun x hx => hsafe x (by have := own_ge HIT.out.own x hx; omega)))
            have HR3 := Lib.hid hr3
            have HS3 := Lib.hid hS3
            clear hr3 hs3 hS3 hsafe
            go_wp2_with fail
            have hSw : Step w w3 (RC rb) none := Step.trans HIT.out.step HS3.out (fun _ h => h) (fun _ h => h)
            refine bodyPost_ret (v := .agg #[.string ⟨t.s.toArray⟩, .int .i64 t.pos, .slice Aw ws.length cw, .bool false, .slice none 0 0]) (by simp [results, Tryd.results79, go_sem, *]) rfl ?_
            refine item_done (w1 := w3) (cs := [.string ⟨t.s.toArray⟩, .int .i64 t.pos, .slice Aw ws.length cw, .bool false, .slice none 0 0]) ?_ ?_ (by simp) HR3.out hrlt (node_plain (B0 := 0) HO3.out) (.inr ⟨by decide, HIT.out.ah.wrong HWR.out⟩) rfl
            · exact step5 _ _ _ _ _ hSw
            · exact fun b hb => keep5 _ b _ _ _ _ _ _ hb
    · have lk : ¬ (k : Int) < l.length := by omega
      go_wp2_with fail
      go_quiet (fail)
      go_wp2_with fail
      generalize hW : wr.drewN _ = W
      have hr1 : Rdr W rb (.slice A l.length c) k E p 0 := by rw [← hW]; exact HIT.out.rdr
      have hs1 : Step wr W (RC rb) none := by rw [← hW]; exact (Step.refl _ (RC rb) _).drewN _
      clear hW
      refine (ref9_fail_none _ rb _ _ _ _ _ _ hr1).mono ?_
      rintro e w3 ⟨rfl, hr3, hs3⟩
      have hS3 : Step wr w3 (RC rb) none := Step.trans hs1 hs3 (fun _ h => h) (fun _ h => h)
      have hsafe : ∀ x, w.heap.size ≤ x → Safe (RC rb) none x := fun x hx => ⟨fun j hj => by simp [RC] at hj; omega, by simp⟩
      have hnb : w3.heap[w.heap.size + 1 + 1]? = _ := (hS3.same (by omega) (hsafe _ (by omega))).trans HIT.out.node
      have hqb : w3.heap[w.heap.size + 1]? = _ := (hS3.same (by omega) (hsafe _ (by omega))).trans HIT.out.res
      have n0 := Joins.cell_of_block hnb 0
      have n1 := Joins.cell_of_block hnb 1
      have n2 := Joins.cell_of_block hnb 2
      have n3 := Joins.cell_of_block hnb 3
      have n4 := Joins.cell_of_block hnb 4
      have q0 := Joins.cell_of_block hqb 0
      have q1 := Joins.cell_of_block hqb 1
      have q2 := Joins.cell_of_block hqb 2
      have q3 := Joins.cell_of_block hqb 3
      have q4 := Joins.cell_of_block hqb 4
      have nf := Joins.unfrozen_of_block hnb
      have qf := Joins.unfrozen_of_block hqb
      have nf0 := nf 0
      have nf1 := nf 1
      have nf2 := nf 2
      have nf3 := nf 3
      have nf4 := nf 4
      have qf0 := qf 0
      have qf1 := qf 1
      have qf2 := qf 2
      have qf3 := qf 3
      have qf4 := qf 4
      have HNB := Lib.hid hnb
      have HQB := Lib.hid hqb
      clear nf qf hnb hqb
      have HO3 := Lib.hid (hS3.own' HIT.out.own (fun x hx => hsafe x (by have := own_ge HIT.out.own x hx; omega)))
      have HR3 := Lib.hid hr3
      have HS3 := Lib.hid hS3
      clear hr3 hs3 hS3 hsafe
      go_wp2_with fail
      have hSw : Step w w3 (RC rb) none := Step.trans HIT.out.step HS3.out (fun _ h => h) (fun _ h => h)
      refine bodyPost_ret (v := .agg #[.string ⟨t.s.toArray⟩, .int .i64 t.pos, .slice Aw ws.length cw, .bool false, .slice none 0 0]) (by simp [results, Tryd.results79, go_sem, *]) rfl ?_
      refine item_done (w1 := w3) (cs := [.string ⟨t.s.toArray⟩, .int .i64 t.pos, .slice Aw ws.length cw, .bool false, .slice none 0 0]) ?_ ?_ (by simp) HR3.out hrlt (node_plain (B0 := 0) HO3.out) (.inr ⟨by decide, HIT.out.ah.wrong (wrong_open (by omega))⟩) rfl
      · exact step5 _ _ _ _ _ hSw
      · exact fun b hb => keep5 _ b _ _ _ _ _ _ hb

end Go.Proofs.YtaffbnjdlgcaiaaDoor
end

section
/- Layer 8, the reference: the walks of letter, digit, inner, kind, Name, Same. -/
namespace Go.Proofs.YtaffbnjdlgcaiaaDoor
open Go.RowKit

set_option maxHeartbeats 400000 in
theorem ref8_letter (c : UInt8) (w : World) :
    Calls Tryd.prog 74 #[.int .u8 c.toNat] w fun e w' => e = .returned (.bool (isLetter c)) ∧ w = w' := by
  go_enter Tryd.func74, Tryd.ntmps74
  go_wp2
  all_goals (go_ret; exact ⟨ret_bool (by rw [Bool.eq_iff_iff, isLetter_iff]; simp; omega), rfl⟩)

set_option maxHeartbeats 400000 in
theorem ref8_digit (c : UInt8) (w : World) :
    Calls Tryd.prog 75 #[.int .u8 c.toNat] w fun e w' => e = .returned (.bool (isDigit c)) ∧ w = w' := by
  go_enter Tryd.func75, Tryd.ntmps75
  go_wp2
  all_goals (go_ret; exact ⟨ret_bool (by rw [Bool.eq_iff_iff, isDigit_iff]; simp; omega), rfl⟩)

set_option maxHeartbeats 400000 in
theorem ref8_inner (c : UInt8) (w : World) :
    Calls Tryd.prog 77 #[.int .u8 c.toNat] w fun e w' => e = .returned (.bool (isInner c)) ∧ w = w' := by
  go_enter Tryd.func77, Tryd.ntmps77
  go_wp2_with (first | (go_at_call 74; refine (ref8_letter _ _).mono ?_; rintro e w' ⟨rfl, rfl⟩) | (go_at_call 75; refine (ref8_digit _ _).mono ?_; rintro e w' ⟨rfl, rfl⟩))
  all_goals (go_ret; exact ⟨ret_bool (by simp [isInner_eq, *]), rfl⟩)

set_option maxHeartbeats 400000 in
theorem ref8_kind (c : UInt8) (w : World) :
    Calls Tryd.prog 76 #[.int .u8 c.toNat] w fun e w' => e = .returned (.int .i64 (signK c)) ∧ w = w' := by
  have h := signK_int c
  generalize signK c = K at *
  have H := Lib.hid h
  clear h
  by_cases h1 : (c.toNat : Int) = 123
  · go_enter Tryd.func76, Tryd.ntmps76
    go_wp2
    go_ret
    exact ⟨ret_int (by rw [H.out, if_pos h1]), rfl⟩
  by_cases h2 : (c.toNat : Int) = 125
  · go_enter Tryd.func76, Tryd.ntmps76
    go_wp2
    go_ret
    exact ⟨ret_int (by rw [H.out, if_neg h1, if_pos h2]), rfl⟩
  by_cases h3 : (c.toNat : Int) = 59
  · go_enter Tryd.func76, Tryd.ntmps76
    go_wp2
    go_ret
    exact ⟨ret_int (by rw [H.out, if_neg h1, if_neg h2, if_pos h3]), rfl⟩
  · go_enter Tryd.func76, Tryd.ntmps76
    go_wp2
    go_ret
    exact ⟨ret_int (by rw [H.out, if_neg h1, if_neg h2, if_neg h3]), rfl⟩

set_option maxRecDepth 100000 in
set_option maxHeartbeats 1000000 in
theorem ref8_Name (s : ByteArray) (w : World) (hs : s.size ≤ maxLen) :
    Calls Tryd.prog 71 #[.string s] w fun e w' => e = .returned (.bool (nameL s.data.toList)) ∧ w = w' := by
  have hs' := hs
  unfold maxLen at hs'
  have hn := nameL_eq s
  have HN := Lib.hid hn
  clear hn
  by_cases hA : 0 < s.size ∧ s.size ≤ 16
  · obtain ⟨h0, h16⟩ := hA
    cases hl : isLetter s[0]
    · go_enter Tryd.func71, Tryd.ntmps71
      go_wp2_with (first | (go_at_call 74; refine (ref8_letter _ _).mono ?_; rintro e w' ⟨rfl, rfl⟩))
      go_ret
      exact ⟨ret_bool (by rw [HN.out, dif_pos h0, hl]; simp), rfl⟩
    · go_enter Tryd.func71, Tryd.ntmps71
      go_wp2_with (first | (go_at_call 74; refine (ref8_letter _ _).mono ?_; rintro e w' ⟨rfl, rfl⟩))
      go_loop [20] (fun i => ∃ k : Nat, k ≤ s.size ∧ i = .int .i64 k ∧ k ≤ runL isInner s.data.toList) (fun i => s.size - (intOf i).toNat)
      case atStart => exact ⟨0, Nat.zero_le _, rfl, Nat.zero_le _⟩
      case round =>
        obtain ⟨k, hk, rfl, hkr⟩ := hrel
        by_cases hlt : k < s.size
        · have hst := runL_ba isInner s k hlt hkr
          cases hi : isInner s[k]
          · have hr := hst.2 hi
            have HR := Lib.hid hr
            clear hst hr hkr
            go_wp2_with (first | (go_at_call 77; refine (ref8_inner _ _).mono ?_; rintro e w' ⟨rfl, rfl⟩))
            go_ret
            exact ⟨ret_bool (by rw [HN.out, dif_pos h0, HR.out]; simp; omega), rfl⟩
          · have hr := hst.1 hi
            clear hst
            go_wp2_with (first | (go_at_call 77; refine (ref8_inner _ _).mono ?_; rintro e w' ⟨rfl, rfl⟩))
            go_round
            case rel => exact ⟨k + 1, by omega, by go_num, hr⟩
            case measure => simp [intOf]; omega
        · have hle := runL_le isInner s.data.toList
          rw [ba_len] at hle
          go_wp2_with fail
          go_ret
          exact ⟨ret_bool (by rw [HN.out, dif_pos h0, hl]; simp; omega), rfl⟩
  · have hA' : s.size < 1 ∨ 16 < s.size := by omega
    have hf : nameL s.data.toList = false := by
      rw [HN.out]
      by_cases h : 0 < s.size
      · rw [dif_pos h]; simp; omega
      · rw [dif_neg h]
    have HF := Lib.hid hf
    clear hf
    rcases hA' with h | h
    · go_enter Tryd.func71, Tryd.ntmps71
      go_wp2
      go_ret
      exact ⟨ret_bool HF.out.symm, rfl⟩
    · go_enter Tryd.func71, Tryd.ntmps71
      go_wp2
      go_ret
      exact ⟨ret_bool HF.out.symm, rfl⟩

end Go.Proofs.YtaffbnjdlgcaiaaDoor
end

section
/- Layer 8, the reference: the walk of Cut. -/
namespace Go.Proofs.YtaffbnjdlgcaiaaDoor
open Go.RowKit

/-- What holds ahead of each round of the reference's loop. -/
def RI (s : ByteArray) (w : World) (k : Nat) (v : Value) (acc : List Tok) (wr : World) : Prop :=
  k ≤ s.size ∧ acc.length ≤ k ∧ OwnToks wr w.heap.size v acc ∧ Below w.heap.size w wr ∧
    cutM false 0 0 0 s.data.toList = (cutM false 0 k acc.length (s.data.toList.drop k)).pre acc

set_option maxRecDepth 100000 in
set_option maxHeartbeats 4000000 in
theorem ref8_Cut (s : ByteArray) (w : World) (hs : s.size ≤ maxLen) :
    Calls Tryd.prog 48 #[.string s] w (CutPost w (cutL s.data.toList)) := by
  have hs' := hs
  unfold maxLen at hs'
  have hcut : cutL s.data.toList = if s.size > 65536 then ⟨[], 0, 6⟩ else cutM false 0 0 0 s.data.toList := by unfold cutL; rw [ba_len]
  have HC := Lib.hid hcut
  clear hcut
  by_cases hbig : s.size > 65536
  · go_enter Tryd.func48, Tryd.ntmps48
    go_wp2
    go_ret3
    refine ⟨.slice none 0 0, ?_, ?_, ?_⟩
    · rw [HC.out, if_pos hbig]; rfl
    · rw [HC.out, if_pos hbig]; exact World.ownsRow_nil _ _ _ _
    · exact Below.refl _ _
  · obtain ⟨i0, hi, hz0, hz1, hz2⟩ := info_parts info_tok
    go_enter Tryd.func48, Tryd.ntmps48
    go_wp2_with fail
    go_loopw [5, 6] (fun v i wr => ∃ (k : Nat) (acc : List Tok), i = .int .i64 k ∧ RI s w k v acc wr) (fun _ i _ => s.size - (intOf i).toNat)
    case atStart => exact ⟨0, [], rfl, Nat.zero_le _, Nat.zero_le _, World.ownsRow_nil _ _ _ _, Below.refl _ _, by rw [cutM_pre_nil]; rfl⟩
    case round =>
      obtain ⟨k, acc, rfl, hk, hak, hown, hB, hcm⟩ := hrel
      obtain ⟨A, c, rfl, hnc⟩ := own_form hown
      have hbs := hB.size
      by_cases hlt : k < s.size
      · by_cases hb : isBlank s[k] = true
        · rw [cutM_blank s k _ hlt hb] at hcm
          have hb' := (blank_iff _).1 hb
          have HM := Lib.hid hcm
          clear hcm hb
          rcases hb' with hb' | hb' | hb'
          all_goals
            go_wp2_with fail
            go_roundw
            case rel => exact ⟨k + 1, acc, by go_num, by omega, by omega, hown, hB, HM.out⟩
            case measure => simp [intOf]; omega
        · have hb' := fun h => hb ((blank_iff _).2 h)
          have n1 : ((s[k].toNat : Int) == 32) = false := beq_eq_false_iff_ne.2 fun h => hb' (.inl h)
          have n2 : ((s[k].toNat : Int) == 9) = false := beq_eq_false_iff_ne.2 fun h => hb' (.inr (.inl h))
          have n3 : ((s[k].toNat : Int) == 10) = false := beq_eq_false_iff_ne.2 fun h => hb' (.inr (.inr h))
          clear hb'
          by_cases h35 : s[k] = 35
          · clear n1 n2 n3
            rw [cutM_hash s k _ hlt h35] at hcm
            have h35' := (hash_iff _).1 h35
            have HM := Lib.hid hcm
            clear hcm hb h35
            go_wp2_with fail
            obtain ⟨wo, rfl⟩ : ∃ wo : World, wo = wr := ⟨_, rfl⟩
            go_loop [6] (fun i => ∃ j : Nat, i = .int .i64 j ∧ k ≤ j ∧ j ≤ s.size ∧ cutM false 0 0 0 s.data.toList = (cutM true 0 j acc.length (s.data.toList.drop j)).pre acc) (fun i => s.size - (intOf i).toNat)
            case atStart => exact ⟨k, rfl, Nat.le_refl _, hk, HM.out⟩
            case round =>
              obtain ⟨j, rfl, hkj, hjs, hj⟩ := hrel
              by_cases hjl : j < s.size
              · cases he : notEol s[j]
                · rw [cutM_eol s j _ hjl he] at hj
                  have HJ := Lib.hid hj
                  have hx := (eol_iff _).1 he
                  clear hj he
                  have hne : j ≠ k := fun h => by subst h; omega
                  go_wp2_with fail
                  go_roundw
                  case rel => exact ⟨j, acc, rfl, hjs, by omega, hown, hB, HJ.out⟩
                  case measure => simp [intOf]; omega
                · have hx : ¬ (s[j].toNat : Int) = 10 := fun h => by rw [(eol_iff _).2 h] at he; cases he
                  rw [cutM_rem s j _ hjl, he] at hj
                  have HJ := Lib.hid hj
                  clear hj he
                  go_wp2_with fail
                  go_round
                  case rel => exact ⟨j + 1, by go_num, by omega, by omega, HJ.out⟩
                  case measure => simp [intOf]; omega
              · rw [cutM_end true s j _ (by omega)] at hj
                have hje := (cutM_end false s j acc.length (by omega)).symm
                rw [hje] at hj
                have HJ := Lib.hid hj
                clear hj hje
                go_wp2_with fail
                go_roundw
                case rel => exact ⟨j, acc, rfl, hjs, by omega, hown, hB, HJ.out⟩
                case measure => simp [intOf]; omega
          · have hne : s.data.toList.drop k ≠ [] := by rw [ba_drop_cons s k hlt]; simp
            have hst := cutM_tok k acc.length _ hne (free0 s k hlt hb h35)
            have htd := tokenL_at s k acc.length hlt
            have n4 : ((s[k].toNat : Int) == 35) = false := beq_eq_false_iff_ne.2 fun h => h35 ((hash_iff _).2 h)
            clear hne
            by_cases hA : signK s[k] = 0 ∧ isLetter s[k] = false ∧ isDigit s[k] = false
            · rw [if_pos hA] at htd
              rw [hst, htd, if_pos (by decide), CutRes.pre_err _ _ _ (by decide)] at hcm
              obtain ⟨hK, hL, hD⟩ := hA
              have HM := Lib.hid hcm
              clear hcm hst htd hb h35
              go_wp2_with (first | (go_at_call 74; refine (ref8_letter _ _).mono ?_; rintro e w' ⟨rfl, rfl⟩) | (go_at_call 75; refine (ref8_digit _ _).mono ?_; rintro e w' ⟨rfl, rfl⟩) | (go_at_call 76; refine (ref8_kind _ _).mono ?_; rintro e w' ⟨rfl, rfl⟩) | (go_at_call 77; refine (ref8_inner _ _).mono ?_; rintro e w' ⟨rfl, rfl⟩))
              go_ret3
              refine ⟨.slice none 0 0, ?_, ?_, hB⟩
              · rw [HC.out, if_neg hbig, HM.out]; rfl
              · rw [HC.out, if_neg hbig, HM.out]; exact World.ownsRow_nil _ _ _ _
            rw [if_neg hA] at htd
            have h3 := class3 _ hA
            clear hA
            by_cases h81 : acc.length = 8192
            · rw [if_pos h81] at htd
              rw [hst, htd, if_pos (by decide), CutRes.pre_err _ _ _ (by decide)] at hcm
              have hb0 : ((acc.length : Int) == 8192) = true := by simp; omega
              have HM := Lib.hid hcm
              clear hcm hst htd h81 hb h35
              rcases h3 with ⟨hK, hL, hD⟩ | ⟨hK, hL, hD⟩ | ⟨hK, hL, hD⟩
              all_goals
                go_wp2_with (first | (go_at_call 74; refine (ref8_letter _ _).mono ?_; rintro e w' ⟨rfl, rfl⟩) | (go_at_call 75; refine (ref8_digit _ _).mono ?_; rintro e w' ⟨rfl, rfl⟩) | (go_at_call 76; refine (ref8_kind _ _).mono ?_; rintro e w' ⟨rfl, rfl⟩) | (go_at_call 77; refine (ref8_inner _ _).mono ?_; rintro e w' ⟨rfl, rfl⟩))
                go_ret3
                refine ⟨.slice none 0 0, ?_, ?_, hB⟩
                · rw [HC.out, if_neg hbig, HM.out]; rfl
                · rw [HC.out, if_neg hbig, HM.out]; exact World.ownsRow_nil _ _ _ _
            rw [if_neg h81] at htd
            have hb0 : ((acc.length : Int) == 8192) = false := by simp; omega
            rcases h3 with ⟨hK, hL, hD⟩ | ⟨hK, hL, hD⟩ | ⟨hK, hL, hD⟩
            · rw [if_pos hK] at htd
              rw [hst, htd, if_neg (fun h => h rfl), CutRes.pre_cons] at hcm
              have hkb : (signK s[k] == 0) = false := by simpa using hK
              have HM := Lib.hid hcm
              clear hcm hst htd hK hb h35 h81
              go_wp2_with (first | (first | (go_at_call 74; refine (ref8_letter _ _).mono ?_; rintro e w' ⟨rfl, rfl⟩) | (go_at_call 75; refine (ref8_digit _ _).mono ?_; rintro e w' ⟨rfl, rfl⟩) | (go_at_call 76; refine (ref8_kind _ _).mono ?_; rintro e w' ⟨rfl, rfl⟩) | (go_at_call 77; refine (ref8_inner _ _).mono ?_; rintro e w' ⟨rfl, rfl⟩)) | (at_builtin; refine wpList_append_own _ rfl _ _ 31 rfl w.heap.size 61 i0 _ 4 40 Tryd.underlying31 hi hz0 hz1 hz2 rfl (by decide) _ _ _ rfl (((show wr.ownsRow _ _ _ _ _ _ from hown).alloc _).alloc _) ⟨wr.heap.size + 1, 0, none⟩ 1 1 [.int .i64 (signK s[k]), .int .i64 k, .int .i64 0, .string ⟨#[]⟩] rfl rfl (cells_new _ [.int .i64 (signK s[k]), .int .i64 k, .int .i64 0, .string ⟨#[]⟩] _ _ (by simp)) (fun x hx => by simp at hx; rcases hx with rfl | rfl | rfl | rfl <;> rfl) (by unfold maxLen; omega) (by omega) (by simp; omega) ?_; intro v' w3 hown3 hgrow3 _))
              have hB3 : Below w.heap.size w w3 := by
                refine below_own ?_ hgrow3 (by simp; omega) (((show wr.ownsRow _ _ _ _ _ _ from hown).alloc _).alloc _) (Nat.le_refl _)
                exact (hB.alloc (by omega) _).alloc (by simp; omega) _
              have hown4 : OwnToks w3 w.heap.size v' (acc ++ [⟨signK s[k], k, 0, []⟩]) := by
                unfold OwnToks
                rw [List.length_append, List.flatMap_append]
                exact hown3
              clear hgrow3 hown3 hown
              go_roundw
              case rel =>
                refine ⟨k + 1, acc ++ [⟨signK s[k], k, 0, []⟩], by go_num, by omega, by rw [List.length_append]; simp; omega, hown4, hB3, ?_⟩
                rw [HM.out, List.length_append, List.drop_drop]
                rfl
              case measure => simp [intOf]; omega
            · rw [if_neg (by simp [hK]), if_neg (by simp [hD])] at htd
              have hinn : isInner s[k] = true := by simp [isInner, hL]
              have hm1 : 0 < runL isInner (s.data.toList.drop k) := by rw [ba_drop_cons s k hlt]; exact runL_head _ _ _ hinn
              have hml := runL_le isInner (s.data.toList.drop k)
              rw [List.length_drop, ba_len] at hml
              obtain ⟨m, hm⟩ : ∃ m, m = runL isInner (s.data.toList.drop k) := ⟨_, rfl⟩
              rw [← hm] at htd hm1 hml
              have HMM := Lib.hid hm
              by_cases hlong : 16 < m
              · rw [if_pos hlong] at htd
                rw [hst, htd, if_pos (by decide), CutRes.pre_err _ _ _ (by decide)] at hcm
                have HM := Lib.hid hcm
                clear hcm hst htd hm hinn hb h35 h81
                go_wp2_with (first | (go_at_call 74; refine (ref8_letter _ _).mono ?_; rintro e w' ⟨rfl, rfl⟩) | (go_at_call 75; refine (ref8_digit _ _).mono ?_; rintro e w' ⟨rfl, rfl⟩) | (go_at_call 76; refine (ref8_kind _ _).mono ?_; rintro e w' ⟨rfl, rfl⟩) | (go_at_call 77; refine (ref8_inner _ _).mono ?_; rintro e w' ⟨rfl, rfl⟩))
                go_loop [8] (fun e => ∃ j : Nat, e = .int .i64 ((k : Int) + j) ∧ 1 ≤ j ∧ j ≤ m) (fun e => s.size - (intOf e).toNat)
                case atStart => exact ⟨1, rfl, Nat.le_refl _, hm1⟩
                case round =>
                  obtain ⟨j, rfl, hj1, hjm⟩ := hrel
                  by_cases hjl : k + j < s.size
                  · have hst2 := runL_at isInner s k j hjl (by rw [← HMM.out]; exact hjm)
                    rw [← HMM.out] at hst2
                    cases hI : isInner s[k + j]
                    · have hjm' : m = j := hst2.2 hI
                      subst hjm'
                      clear hst2
                      go_wp2_with (first | (go_at_call 74; refine (ref8_letter _ _).mono ?_; rintro e w' ⟨rfl, rfl⟩) | (go_at_call 75; refine (ref8_digit _ _).mono ?_; rintro e w' ⟨rfl, rfl⟩) | (go_at_call 76; refine (ref8_kind _ _).mono ?_; rintro e w' ⟨rfl, rfl⟩) | (go_at_call 77; refine (ref8_inner _ _).mono ?_; rintro e w' ⟨rfl, rfl⟩))
                      go_ret3
                      refine ⟨.slice none 0 0, ?_, ?_, ?_⟩
                      · rw [HC.out, if_neg hbig, HM.out]; rfl
                      · rw [HC.out, if_neg hbig, HM.out]; exact World.ownsRow_nil _ _ _ _
                      · exact hB.alloc (by omega) _
                    · have hjm' := hst2.1 hI
                      clear hst2
                      go_wp2_with (first | (go_at_call 74; refine (ref8_letter _ _).mono ?_; rintro e w' ⟨rfl, rfl⟩) | (go_at_call 75; refine (ref8_digit _ _).mono ?_; rintro e w' ⟨rfl, rfl⟩) | (go_at_call 76; refine (ref8_kind _ _).mono ?_; rintro e w' ⟨rfl, rfl⟩) | (go_at_call 77; refine (ref8_inner _ _).mono ?_; rintro e w' ⟨rfl, rfl⟩))
                      go_round
                      case rel => exact ⟨j + 1, by go_num, by omega, hjm'⟩
                      case measure => simp [intOf]; omega
                  · have hjm' : j = m := by omega
                    subst hjm'
                    go_wp2_with (first | (go_at_call 74; refine (ref8_letter _ _).mono ?_; rintro e w' ⟨rfl, rfl⟩) | (go_at_call 75; refine (ref8_digit _ _).mono ?_; rintro e w' ⟨rfl, rfl⟩) | (go_at_call 76; refine (ref8_kind _ _).mono ?_; rintro e w' ⟨rfl, rfl⟩) | (go_at_call 77; refine (ref8_inner _ _).mono ?_; rintro e w' ⟨rfl, rfl⟩))
                    go_ret3
                    refine ⟨.slice none 0 0, ?_, ?_, ?_⟩
                    · rw [HC.out, if_neg hbig, HM.out]; rfl
                    · rw [HC.out, if_neg hbig, HM.out]; exact World.ownsRow_nil _ _ _ _
                    · exact hB.alloc (by omega) _
              · rw [if_neg hlong] at htd
                rw [hst, htd, if_neg (fun h => h rfl), CutRes.pre_cons] at hcm
                have HM := Lib.hid hcm
                clear hcm hst htd hm hinn hb h35 h81
                have hx := extract_at s k m
                have HX := Lib.hid hx
                clear hx
                go_wp2_with (first | (go_at_call 74; refine (ref8_letter _ _).mono ?_; rintro e w' ⟨rfl, rfl⟩) | (go_at_call 75; refine (ref8_digit _ _).mono ?_; rintro e w' ⟨rfl, rfl⟩) | (go_at_call 76; refine (ref8_kind _ _).mono ?_; rintro e w' ⟨rfl, rfl⟩) | (go_at_call 77; refine (ref8_inner _ _).mono ?_; rintro e w' ⟨rfl, rfl⟩))
                go_loop [8] (fun e => ∃ j : Nat, e = .int .i64 ((k : Int) + j) ∧ 1 ≤ j ∧ j ≤ m) (fun e => s.size - (intOf e).toNat)
                case atStart => exact ⟨1, rfl, Nat.le_refl _, hm1⟩
                case round =>
                  obtain ⟨j, rfl, hj1, hjm⟩ := hrel
                  by_cases hjl : k + j < s.size
                  · have hst2 := runL_at isInner s k j hjl (by rw [← HMM.out]; exact hjm)
                    rw [← HMM.out] at hst2
                    cases hI : isInner s[k + j]
                    · have hjm' : m = j := hst2.2 hI
                      subst hjm'
                      clear hst2
                      go_wp2_with (first | (first | (go_at_call 74; refine (ref8_letter _ _).mono ?_; rintro e w' ⟨rfl, rfl⟩) | (go_at_call 75; refine (ref8_digit _ _).mono ?_; rintro e w' ⟨rfl, rfl⟩) | (go_at_call 76; refine (ref8_kind _ _).mono ?_; rintro e w' ⟨rfl, rfl⟩) | (go_at_call 77; refine (ref8_inner _ _).mono ?_; rintro e w' ⟨rfl, rfl⟩)) | (at_builtin; refine wpList_append_own _ rfl _ _ 31 rfl w.heap.size 61 i0 _ 4 40 Tryd.underlying31 hi hz0 hz1 hz2 rfl (by decide) _ _ _ rfl (((show wr.ownsRow _ _ _ _ _ _ from hown).alloc _).alloc _) ⟨wr.heap.size + 1, 0, none⟩ 1 1 [.int .i64 1, .int .i64 k, .int .i64 0, .string (s.extract k (k + m))] rfl rfl (cells_new _ [.int .i64 1, .int .i64 k, .int .i64 0, .string (s.extract k (k + m))] _ _ (by simp)) (fun x hx => by simp at hx; rcases hx with rfl | rfl | rfl | rfl <;> rfl) (by unfold maxLen; omega) (by omega) (by simp; omega) ?_; intro v' w3 hown3 hgrow3 _))
                      rw [HX.out] at hown3
                      have hB3 : Below w.heap.size w w3 := by
                        refine below_own ?_ hgrow3 (by simp; omega) (((show wr.ownsRow _ _ _ _ _ _ from hown).alloc _).alloc _) (Nat.le_refl _)
                        exact (hB.alloc (by omega) _).alloc (by simp; omega) _
                      have hown4 : OwnToks w3 w.heap.size v' (acc ++ [⟨1, k, 0, (s.data.toList.drop k).take m⟩]) := by
                        unfold OwnToks
                        rw [List.length_append, List.flatMap_append]
                        exact hown3
                      clear hgrow3 hown3 hown
                      go_roundw
                      case rel =>
                        refine ⟨k + m, acc ++ [⟨1, k, 0, (s.data.toList.drop k).take m⟩], by go_num, by omega, by rw [List.length_append]; simp; omega, hown4, hB3, ?_⟩
                        rw [HM.out, List.length_append, List.drop_drop]
                        rfl
                      case measure => simp [intOf]; omega
                    · have hjm' := hst2.1 hI
                      clear hst2
                      go_wp2_with (first | (go_at_call 74; refine (ref8_letter _ _).mono ?_; rintro e w' ⟨rfl, rfl⟩) | (go_at_call 75; refine (ref8_digit _ _).mono ?_; rintro e w' ⟨rfl, rfl⟩) | (go_at_call 76; refine (ref8_kind _ _).mono ?_; rintro e w' ⟨rfl, rfl⟩) | (go_at_call 77; refine (ref8_inner _ _).mono ?_; rintro e w' ⟨rfl, rfl⟩))
                      go_round
                      case rel => exact ⟨j + 1, by go_num, by omega, hjm'⟩
                      case measure => simp [intOf]; omega
                  · have hjm' : j = m := by omega
                    subst hjm'
                    go_wp2_with (first | (first | (go_at_call 74; refine (ref8_letter _ _).mono ?_; rintro e w' ⟨rfl, rfl⟩) | (go_at_call 75; refine (ref8_digit _ _).mono ?_; rintro e w' ⟨rfl, rfl⟩) | (go_at_call 76; refine (ref8_kind _ _).mono ?_; rintro e w' ⟨rfl, rfl⟩) | (go_at_call 77; refine (ref8_inner _ _).mono ?_; rintro e w' ⟨rfl, rfl⟩)) | (at_builtin; refine wpList_append_own _ rfl _ _ 31 rfl w.heap.size 61 i0 _ 4 40 Tryd.underlying31 hi hz0 hz1 hz2 rfl (by decide) _ _ _ rfl (((show wr.ownsRow _ _ _ _ _ _ from hown).alloc _).alloc _) ⟨wr.heap.size + 1, 0, none⟩ 1 1 [.int .i64 1, .int .i64 k, .int .i64 0, .string (s.extract k (k + j))] rfl rfl (cells_new _ [.int .i64 1, .int .i64 k, .int .i64 0, .string (s.extract k (k + j))] _ _ (by simp)) (fun x hx => by simp at hx; rcases hx with rfl | rfl | rfl | rfl <;> rfl) (by unfold maxLen; omega) (by omega) (by simp; omega) ?_; intro v' w3 hown3 hgrow3 _))
                    rw [HX.out] at hown3
                    have hB3 : Below w.heap.size w w3 := by
                      refine below_own ?_ hgrow3 (by simp; omega) (((show wr.ownsRow _ _ _ _ _ _ from hown).alloc _).alloc _) (Nat.le_refl _)
                      exact (hB.alloc (by omega) _).alloc (by simp; omega) _
                    have hown4 : OwnToks w3 w.heap.size v' (acc ++ [⟨1, k, 0, (s.data.toList.drop k).take j⟩]) := by
                      unfold OwnToks
                      rw [List.length_append, List.flatMap_append]
                      exact hown3
                    clear hgrow3 hown3 hown
                    go_roundw
                    case rel =>
                      refine ⟨k + j, acc ++ [⟨1, k, 0, (s.data.toList.drop k).take j⟩], by go_num, by omega, by rw [List.length_append]; simp; omega, hown4, hB3, ?_⟩
                      rw [HM.out, List.length_append, List.drop_drop]
                      rfl
                    case measure => simp [intOf]; omega
            · have hm1 : 0 < runL isDigit (s.data.toList.drop k) := by rw [ba_drop_cons s k hlt]; exact runL_head _ _ _ hD
              have hml := runL_le isDigit (s.data.toList.drop k)
              rw [List.length_drop, ba_len] at hml
              obtain ⟨m, hm⟩ : ∃ m, m = runL isDigit (s.data.toList.drop k) := ⟨_, rfl⟩
              rw [← hm] at hm1 hml
              have hnumb := num_at s k m hm
              rw [cutM_digit s k acc.length m hlt hb h35 hK hD h81 hm] at hcm
              have HMM := Lib.hid hm
              have HCM := Lib.hid hcm
              clear hcm hst htd hm h81 hb h35
              go_wp2_with (first | (go_at_call 74; refine (ref8_letter _ _).mono ?_; rintro e w' ⟨rfl, rfl⟩) | (go_at_call 75; refine (ref8_digit _ _).mono ?_; rintro e w' ⟨rfl, rfl⟩) | (go_at_call 76; refine (ref8_kind _ _).mono ?_; rintro e w' ⟨rfl, rfl⟩) | (go_at_call 77; refine (ref8_inner _ _).mono ?_; rintro e w' ⟨rfl, rfl⟩))
              go_loop [8] (fun e => ∃ j : Nat, e = .int .i64 ((k : Int) + j) ∧ 1 ≤ j ∧ j ≤ m) (fun e => s.size - (intOf e).toNat)
              case atStart => exact ⟨1, rfl, Nat.le_refl _, hm1⟩
              case round =>
                obtain ⟨j, rfl, hj1, hjm⟩ := hrel
                by_cases hjl : k + j < s.size
                · have hst2 := runL_at isDigit s k j hjl (by rw [← HMM.out]; exact hjm)
                  rw [← HMM.out] at hst2
                  cases hI : isDigit s[k + j]
                  · have hjm' : m = j := hst2.2 hI
                    subst hjm'
                    clear hst2
                    by_cases h9 : m > 9
                    · clear hnumb
                      have HM := Lib.hid (HCM.out.trans (by rw [if_pos h9, CutRes.pre_err _ _ _ (by decide)]))
                      go_wp2_with (first | (go_at_call 74; refine (ref8_letter _ _).mono ?_; rintro e w' ⟨rfl, rfl⟩) | (go_at_call 75; refine (ref8_digit _ _).mono ?_; rintro e w' ⟨rfl, rfl⟩) | (go_at_call 76; refine (ref8_kind _ _).mono ?_; rintro e w' ⟨rfl, rfl⟩) | (go_at_call 77; refine (ref8_inner _ _).mono ?_; rintro e w' ⟨rfl, rfl⟩))
                      go_ret3
                      refine ⟨.slice none 0 0, ?_, ?_, ?_⟩
                      · rw [HC.out, if_neg hbig, HM.out]; rfl
                      · rw [HC.out, if_neg hbig, HM.out]; exact World.ownsRow_nil _ _ _ _
                      · exact hB.alloc (by omega) _
                    obtain ⟨N, hN0, hNm, hNb, hNs⟩ := hnumb (by omega)
                    have HN0 := Lib.hid hN0
                    have HNm := Lib.hid hNm
                    have HNb := Lib.hid hNb
                    have HNs := Lib.hid hNs
                    clear hN0 hNm hNb hNs hnumb
                    by_cases hx : (s[k].toNat : Int) = 48
                    · by_cases h1 : m > 1
                      · have HM := Lib.hid (HCM.out.trans (by rw [if_neg h9, if_pos ⟨hx, h1⟩, CutRes.pre_err _ _ _ (by decide)]))
                        go_wp2_with (first | (go_at_call 74; refine (ref8_letter _ _).mono ?_; rintro e w' ⟨rfl, rfl⟩) | (go_at_call 75; refine (ref8_digit _ _).mono ?_; rintro e w' ⟨rfl, rfl⟩) | (go_at_call 76; refine (ref8_kind _ _).mono ?_; rintro e w' ⟨rfl, rfl⟩) | (go_at_call 77; refine (ref8_inner _ _).mono ?_; rintro e w' ⟨rfl, rfl⟩))
                        go_ret3
                        refine ⟨.slice none 0 0, ?_, ?_, ?_⟩
                        · rw [HC.out, if_neg hbig, HM.out]; rfl
                        · rw [HC.out, if_neg hbig, HM.out]; exact World.ownsRow_nil _ _ _ _
                        · exact hB.alloc (by omega) _
                      cases hI2 : isInner s[k + m]
                      · have hcm2 := HCM.out.trans (by rw [if_neg h9, if_neg (fun h => h1 h.2), dif_pos hjl, hI2, if_neg (by simp), CutRes.pre_cons])
                        have HM := Lib.hid hcm2
                        clear hcm2
                        go_wp2_with (first | (go_at_call 74; refine (ref8_letter _ _).mono ?_; rintro e w' ⟨rfl, rfl⟩) | (go_at_call 75; refine (ref8_digit _ _).mono ?_; rintro e w' ⟨rfl, rfl⟩) | (go_at_call 76; refine (ref8_kind _ _).mono ?_; rintro e w' ⟨rfl, rfl⟩) | (go_at_call 77; refine (ref8_inner _ _).mono ?_; rintro e w' ⟨rfl, rfl⟩))
                        go_loop [10, 11] (fun n i => ∃ q : Nat, i = .int .i64 ((k : Int) + q) ∧ q ≤ m ∧ n = .int .i64 (N q)) (fun _ i => s.size - (intOf i).toNat)
                        case atStart => exact ⟨0, by go_num, Nat.zero_le _, by rw [HN0.out]⟩
                        case round =>
                          obtain ⟨q, rfl, hqm, rfl⟩ := hrel
                          have hNq := HNb.out q
                          by_cases hql : q < m
                          · have hkq : k + q < s.size := by omega
                            obtain ⟨hx1, hx2, hNs⟩ := HNs.out q hkq hql
                            have hNq' := HNb.out (q + 1)
                            have HS := Lib.hid hNs
                            clear hNs
                            go_wp2_with fail
                            go_round
                            case rel => exact ⟨q + 1, by go_num, by omega, val_int (by rw [HS.out]; omega)⟩
                            case measure => simp [intOf]; omega
                          · obtain rfl : q = m := by omega
                            go_wp2_with (at_builtin; refine wpList_append_own _ rfl _ _ 31 rfl w.heap.size 61 i0 _ 4 40 Tryd.underlying31 hi hz0 hz1 hz2 rfl (by decide) _ _ _ rfl (((show wr.ownsRow _ _ _ _ _ _ from hown).alloc _).alloc _) ⟨wr.heap.size + 1, 0, none⟩ 1 1 [.int .i64 2, .int .i64 k, .int .i64 (N q), .string ⟨#[]⟩] rfl rfl (cells_new _ [.int .i64 2, .int .i64 k, .int .i64 (N q), .string ⟨#[]⟩] _ _ (by simp)) (fun x hx => by simp at hx; rcases hx with rfl | rfl | rfl | rfl <;> rfl) (by unfold maxLen; omega) (by omega) (by simp; omega) ?_; intro v' w3 hown3 hgrow3 _)
                            have hB3 : Below w.heap.size w w3 := by
                              refine below_own ?_ hgrow3 (by simp; omega) (((show wr.ownsRow _ _ _ _ _ _ from hown).alloc _).alloc _) (Nat.le_refl _)
                              exact (hB.alloc (by omega) _).alloc (by simp; omega) _
                            have hown4 : OwnToks w3 w.heap.size v' (acc ++ [⟨2, k, N q, []⟩]) := by
                              unfold OwnToks
                              rw [List.length_append, List.flatMap_append]
                              exact hown3
                            clear hgrow3 hown3 hown
                            go_roundw
                            case rel =>
                              refine ⟨k + q, acc ++ [⟨2, k, N q, []⟩], by go_num, by omega, by rw [List.length_append]; simp; omega, hown4, hB3, ?_⟩
                              rw [HM.out, List.length_append, HNm.out]
                              rfl
                            case measure => simp [intOf]; omega
                      · have HM := Lib.hid (HCM.out.trans (by rw [if_neg h9, if_neg (fun h => h1 h.2), dif_pos hjl, hI2, if_pos rfl, CutRes.pre_err _ _ _ (by decide)]))
                        go_wp2_with (first | (go_at_call 74; refine (ref8_letter _ _).mono ?_; rintro e w' ⟨rfl, rfl⟩) | (go_at_call 75; refine (ref8_digit _ _).mono ?_; rintro e w' ⟨rfl, rfl⟩) | (go_at_call 76; refine (ref8_kind _ _).mono ?_; rintro e w' ⟨rfl, rfl⟩) | (go_at_call 77; refine (ref8_inner _ _).mono ?_; rintro e w' ⟨rfl, rfl⟩))
                        go_ret3
                        refine ⟨.slice none 0 0, ?_, ?_, ?_⟩
                        · rw [HC.out, if_neg hbig, HM.out]; rfl
                        · rw [HC.out, if_neg hbig, HM.out]; exact World.ownsRow_nil _ _ _ _
                        · exact hB.alloc (by omega) _
                    have hxb : ((s[k].toNat : Int) == 48) = false := beq_eq_false_iff_ne.2 hx
                    cases hI2 : isInner s[k + m]
                    · have hcm2 := HCM.out.trans (by rw [if_neg h9, if_neg (fun h => hx h.1), dif_pos hjl, hI2, if_neg (by simp), CutRes.pre_cons])
                      have HM := Lib.hid hcm2
                      clear hcm2
                      go_wp2_with (first | (go_at_call 74; refine (ref8_letter _ _).mono ?_; rintro e w' ⟨rfl, rfl⟩) | (go_at_call 75; refine (ref8_digit _ _).mono ?_; rintro e w' ⟨rfl, rfl⟩) | (go_at_call 76; refine (ref8_kind _ _).mono ?_; rintro e w' ⟨rfl, rfl⟩) | (go_at_call 77; refine (ref8_inner _ _).mono ?_; rintro e w' ⟨rfl, rfl⟩))
                      go_loop [10, 11] (fun n i => ∃ q : Nat, i = .int .i64 ((k : Int) + q) ∧ q ≤ m ∧ n = .int .i64 (N q)) (fun _ i => s.size - (intOf i).toNat)
                      case atStart => exact ⟨0, by go_num, Nat.zero_le _, by rw [HN0.out]⟩
                      case round =>
                        obtain ⟨q, rfl, hqm, rfl⟩ := hrel
                        have hNq := HNb.out q
                        by_cases hql : q < m
                        · have hkq : k + q < s.size := by omega
                          obtain ⟨hx1, hx2, hNs⟩ := HNs.out q hkq hql
                          have hNq' := HNb.out (q + 1)
                          have HS := Lib.hid hNs
                          clear hNs
                          go_wp2_with fail
                          go_round
                          case rel => exact ⟨q + 1, by go_num, by omega, val_int (by rw [HS.out]; omega)⟩
                          case measure => simp [intOf]; omega
                        · obtain rfl : q = m := by omega
                          go_wp2_with (at_builtin; refine wpList_append_own _ rfl _ _ 31 rfl w.heap.size 61 i0 _ 4 40 Tryd.underlying31 hi hz0 hz1 hz2 rfl (by decide) _ _ _ rfl (((show wr.ownsRow _ _ _ _ _ _ from hown).alloc _).alloc _) ⟨wr.heap.size + 1, 0, none⟩ 1 1 [.int .i64 2, .int .i64 k, .int .i64 (N q), .string ⟨#[]⟩] rfl rfl (cells_new _ [.int .i64 2, .int .i64 k, .int .i64 (N q), .string ⟨#[]⟩] _ _ (by simp)) (fun x hx => by simp at hx; rcases hx with rfl | rfl | rfl | rfl <;> rfl) (by unfold maxLen; omega) (by omega) (by simp; omega) ?_; intro v' w3 hown3 hgrow3 _)
                          have hB3 : Below w.heap.size w w3 := by
                            refine below_own ?_ hgrow3 (by simp; omega) (((show wr.ownsRow _ _ _ _ _ _ from hown).alloc _).alloc _) (Nat.le_refl _)
                            exact (hB.alloc (by omega) _).alloc (by simp; omega) _
                          have hown4 : OwnToks w3 w.heap.size v' (acc ++ [⟨2, k, N q, []⟩]) := by
                            unfold OwnToks
                            rw [List.length_append, List.flatMap_append]
                            exact hown3
                          clear hgrow3 hown3 hown
                          go_roundw
                          case rel =>
                            refine ⟨k + q, acc ++ [⟨2, k, N q, []⟩], by go_num, by omega, by rw [List.length_append]; simp; omega, hown4, hB3, ?_⟩
                            rw [HM.out, List.length_append, HNm.out]
                            rfl
                          case measure => simp [intOf]; omega
                    · have HM := Lib.hid (HCM.out.trans (by rw [if_neg h9, if_neg (fun h => hx h.1), dif_pos hjl, hI2, if_pos rfl, CutRes.pre_err _ _ _ (by decide)]))
                      go_wp2_with (first | (go_at_call 74; refine (ref8_letter _ _).mono ?_; rintro e w' ⟨rfl, rfl⟩) | (go_at_call 75; refine (ref8_digit _ _).mono ?_; rintro e w' ⟨rfl, rfl⟩) | (go_at_call 76; refine (ref8_kind _ _).mono ?_; rintro e w' ⟨rfl, rfl⟩) | (go_at_call 77; refine (ref8_inner _ _).mono ?_; rintro e w' ⟨rfl, rfl⟩))
                      go_ret3
                      refine ⟨.slice none 0 0, ?_, ?_, ?_⟩
                      · rw [HC.out, if_neg hbig, HM.out]; rfl
                      · rw [HC.out, if_neg hbig, HM.out]; exact World.ownsRow_nil _ _ _ _
                      · exact hB.alloc (by omega) _
                  · have hjm' := hst2.1 hI
                    clear hst2 hnumb
                    go_wp2_with (first | (go_at_call 74; refine (ref8_letter _ _).mono ?_; rintro e w' ⟨rfl, rfl⟩) | (go_at_call 75; refine (ref8_digit _ _).mono ?_; rintro e w' ⟨rfl, rfl⟩) | (go_at_call 76; refine (ref8_kind _ _).mono ?_; rintro e w' ⟨rfl, rfl⟩) | (go_at_call 77; refine (ref8_inner _ _).mono ?_; rintro e w' ⟨rfl, rfl⟩))
                    go_round
                    case rel => exact ⟨j + 1, by go_num, by omega, hjm'⟩
                    case measure => simp [intOf]; omega
                · have hjm' : j = m := by omega
                  subst hjm'
                  by_cases h9 : j > 9
                  · clear hnumb
                    have HM := Lib.hid (HCM.out.trans (by rw [if_pos h9, CutRes.pre_err _ _ _ (by decide)]))
                    go_wp2_with (first | (go_at_call 74; refine (ref8_letter _ _).mono ?_; rintro e w' ⟨rfl, rfl⟩) | (go_at_call 75; refine (ref8_digit _ _).mono ?_; rintro e w' ⟨rfl, rfl⟩) | (go_at_call 76; refine (ref8_kind _ _).mono ?_; rintro e w' ⟨rfl, rfl⟩) | (go_at_call 77; refine (ref8_inner _ _).mono ?_; rintro e w' ⟨rfl, rfl⟩))
                    go_ret3
                    refine ⟨.slice none 0 0, ?_, ?_, ?_⟩
                    · rw [HC.out, if_neg hbig, HM.out]; rfl
                    · rw [HC.out, if_neg hbig, HM.out]; exact World.ownsRow_nil _ _ _ _
                    · exact hB.alloc (by omega) _
                  obtain ⟨N, hN0, hNm, hNb, hNs⟩ := hnumb (by omega)
                  have HN0 := Lib.hid hN0
                  have HNm := Lib.hid hNm
                  have HNb := Lib.hid hNb
                  have HNs := Lib.hid hNs
                  clear hN0 hNm hNb hNs hnumb
                  by_cases hx : (s[k].toNat : Int) = 48
                  · by_cases h1 : j > 1
                    · have HM := Lib.hid (HCM.out.trans (by rw [if_neg h9, if_pos ⟨hx, h1⟩, CutRes.pre_err _ _ _ (by decide)]))
                      go_wp2_with (first | (go_at_call 74; refine (ref8_letter _ _).mono ?_; rintro e w' ⟨rfl, rfl⟩) | (go_at_call 75; refine (ref8_digit _ _).mono ?_; rintro e w' ⟨rfl, rfl⟩) | (go_at_call 76; refine (ref8_kind _ _).mono ?_; rintro e w' ⟨rfl, rfl⟩) | (go_at_call 77; refine (ref8_inner _ _).mono ?_; rintro e w' ⟨rfl, rfl⟩))
                      go_ret3
                      refine ⟨.slice none 0 0, ?_, ?_, ?_⟩
                      · rw [HC.out, if_neg hbig, HM.out]; rfl
                      · rw [HC.out, if_neg hbig, HM.out]; exact World.ownsRow_nil _ _ _ _
                      · exact hB.alloc (by omega) _
                    have hcm2 := HCM.out.trans (by rw [if_neg h9, if_neg (fun h => h1 h.2), dif_neg hjl, if_neg (by simp), CutRes.pre_cons])
                    have HM := Lib.hid hcm2
                    clear hcm2
                    go_wp2_with (first | (go_at_call 74; refine (ref8_letter _ _).mono ?_; rintro e w' ⟨rfl, rfl⟩) | (go_at_call 75; refine (ref8_digit _ _).mono ?_; rintro e w' ⟨rfl, rfl⟩) | (go_at_call 76; refine (ref8_kind _ _).mono ?_; rintro e w' ⟨rfl, rfl⟩) | (go_at_call 77; refine (ref8_inner _ _).mono ?_; rintro e w' ⟨rfl, rfl⟩))
                    go_loop [10, 11] (fun n i => ∃ q : Nat, i = .int .i64 ((k : Int) + q) ∧ q ≤ j ∧ n = .int .i64 (N q)) (fun _ i => s.size - (intOf i).toNat)
                    case atStart => exact ⟨0, by go_num, Nat.zero_le _, by rw [HN0.out]⟩
                    case round =>
                      obtain ⟨q, rfl, hqm, rfl⟩ := hrel
                      have hNq := HNb.out q
                      by_cases hql : q < j
                      · have hkq : k + q < s.size := by omega
                        obtain ⟨hx1, hx2, hNs⟩ := HNs.out q hkq hql
                        have hNq' := HNb.out (q + 1)
                        have HS := Lib.hid hNs
                        clear hNs
                        go_wp2_with fail
                        go_round
                        case rel => exact ⟨q + 1, by go_num, by omega, val_int (by rw [HS.out]; omega)⟩
                        case measure => simp [intOf]; omega
                      · obtain rfl : q = j := by omega
                        go_wp2_with (at_builtin; refine wpList_append_own _ rfl _ _ 31 rfl w.heap.size 61 i0 _ 4 40 Tryd.underlying31 hi hz0 hz1 hz2 rfl (by decide) _ _ _ rfl (((show wr.ownsRow _ _ _ _ _ _ from hown).alloc _).alloc _) ⟨wr.heap.size + 1, 0, none⟩ 1 1 [.int .i64 2, .int .i64 k, .int .i64 (N q), .string ⟨#[]⟩] rfl rfl (cells_new _ [.int .i64 2, .int .i64 k, .int .i64 (N q), .string ⟨#[]⟩] _ _ (by simp)) (fun x hx => by simp at hx; rcases hx with rfl | rfl | rfl | rfl <;> rfl) (by unfold maxLen; omega) (by omega) (by simp; omega) ?_; intro v' w3 hown3 hgrow3 _)
                        have hB3 : Below w.heap.size w w3 := by
                          refine below_own ?_ hgrow3 (by simp; omega) (((show wr.ownsRow _ _ _ _ _ _ from hown).alloc _).alloc _) (Nat.le_refl _)
                          exact (hB.alloc (by omega) _).alloc (by simp; omega) _
                        have hown4 : OwnToks w3 w.heap.size v' (acc ++ [⟨2, k, N q, []⟩]) := by
                          unfold OwnToks
                          rw [List.length_append, List.flatMap_append]
                          exact hown3
                        clear hgrow3 hown3 hown
                        go_roundw
                        case rel =>
                          refine ⟨k + q, acc ++ [⟨2, k, N q, []⟩], by go_num, by omega, by rw [List.length_append]; simp; omega, hown4, hB3, ?_⟩
                          rw [HM.out, List.length_append, HNm.out]
                          rfl
                        case measure => simp [intOf]; omega
                  have hxb : ((s[k].toNat : Int) == 48) = false := beq_eq_false_iff_ne.2 hx
                  have hcm2 := HCM.out.trans (by rw [if_neg h9, if_neg (fun h => hx h.1), dif_neg hjl, if_neg (by simp), CutRes.pre_cons])
                  have HM := Lib.hid hcm2
                  clear hcm2
                  go_wp2_with (first | (go_at_call 74; refine (ref8_letter _ _).mono ?_; rintro e w' ⟨rfl, rfl⟩) | (go_at_call 75; refine (ref8_digit _ _).mono ?_; rintro e w' ⟨rfl, rfl⟩) | (go_at_call 76; refine (ref8_kind _ _).mono ?_; rintro e w' ⟨rfl, rfl⟩) | (go_at_call 77; refine (ref8_inner _ _).mono ?_; rintro e w' ⟨rfl, rfl⟩))
                  go_loop [10, 11] (fun n i => ∃ q : Nat, i = .int .i64 ((k : Int) + q) ∧ q ≤ j ∧ n = .int .i64 (N q)) (fun _ i => s.size - (intOf i).toNat)
                  case atStart => exact ⟨0, by go_num, Nat.zero_le _, by rw [HN0.out]⟩
                  case round =>
                    obtain ⟨q, rfl, hqm, rfl⟩ := hrel
                    have hNq := HNb.out q
                    by_cases hql : q < j
                    · have hkq : k + q < s.size := by omega
                      obtain ⟨hx1, hx2, hNs⟩ := HNs.out q hkq hql
                      have hNq' := HNb.out (q + 1)
                      have HS := Lib.hid hNs
                      clear hNs
                      go_wp2_with fail
                      go_round
                      case rel => exact ⟨q + 1, by go_num, by omega, val_int (by rw [HS.out]; omega)⟩
                      case measure => simp [intOf]; omega
                    · obtain rfl : q = j := by omega
                      go_wp2_with (at_builtin; refine wpList_append_own _ rfl _ _ 31 rfl w.heap.size 61 i0 _ 4 40 Tryd.underlying31 hi hz0 hz1 hz2 rfl (by decide) _ _ _ rfl (((show wr.ownsRow _ _ _ _ _ _ from hown).alloc _).alloc _) ⟨wr.heap.size + 1, 0, none⟩ 1 1 [.int .i64 2, .int .i64 k, .int .i64 (N q), .string ⟨#[]⟩] rfl rfl (cells_new _ [.int .i64 2, .int .i64 k, .int .i64 (N q), .string ⟨#[]⟩] _ _ (by simp)) (fun x hx => by simp at hx; rcases hx with rfl | rfl | rfl | rfl <;> rfl) (by unfold maxLen; omega) (by omega) (by simp; omega) ?_; intro v' w3 hown3 hgrow3 _)
                      have hB3 : Below w.heap.size w w3 := by
                        refine below_own ?_ hgrow3 (by simp; omega) (((show wr.ownsRow _ _ _ _ _ _ from hown).alloc _).alloc _) (Nat.le_refl _)
                        exact (hB.alloc (by omega) _).alloc (by simp; omega) _
                      have hown4 : OwnToks w3 w.heap.size v' (acc ++ [⟨2, k, N q, []⟩]) := by
                        unfold OwnToks
                        rw [List.length_append, List.flatMap_append]
                        exact hown3
                      clear hgrow3 hown3 hown
                      go_roundw
                      case rel =>
                        refine ⟨k + q, acc ++ [⟨2, k, N q, []⟩], by go_num, by omega, by rw [List.length_append]; simp; omega, hown4, hB3, ?_⟩
                        rw [HM.out, List.length_append, HNm.out]
                        rfl
                      case measure => simp [intOf]; omega
      · have hkk : k = s.size := by omega
        rw [ba_drop_nil s k (by omega), cutM_nil] at hcm
        have HM := Lib.hid hcm
        clear hcm hkk
        go_wp2_with fail
        go_ret3
        refine ⟨.slice A acc.length c, ?_, ?_, hB⟩
        · rw [HC.out, if_neg hbig, HM.out]; rfl
        · rw [HC.out, if_neg hbig, HM.out]; simpa [CutRes.pre] using hown

end Go.Proofs.YtaffbnjdlgcaiaaDoor
end

section
/- Layer 9 (tree): the reference's Parse. -/
set_option linter.unusedVariables false
set_option linter.unusedSimpArgs false
namespace Go.Proofs.YtaffbnjdlgcaiaaDoor
open Go.RowKit
attribute [local go_sem ↓] Go.wp_at_zero Go.wp_at_succ

theorem ref9_both (l : List Tok) (A : Option Addr) (c : Nat) (E : Int) (B0 rb : Nat) (hl : l.length ≤ 65536) (hB : B0 ≤ rb) :
    ∀ n k, k ≤ l.length → l.length - k ≤ n → ItemsAt l A c E B0 rb k ∧ ItemAt9 l A c E B0 rb k
  | 0, k, hk, hn => ⟨ref9_items_step l A c E B0 rb k hl hk hB (fun k' h1 h2 => by omega), ref9_item_step l A c E B0 rb k hl hk hB (fun k' h1 h2 => by omega)⟩
  | n + 1, k, hk, hn =>
    ⟨ref9_items_step l A c E B0 rb k hl hk hB (fun k' h1 h2 => (ref9_both l A c E B0 rb hl hB n k' h2 (by omega)).2),
      ref9_item_step l A c E B0 rb k hl hk hB (fun k' h1 h2 => (ref9_both l A c E B0 rb hl hB n k' h2 (by omega)).1)⟩

set_option maxRecDepth 100000 in
set_option maxHeartbeats 4000000 in
theorem ref9_Parse (s : ByteArray) (w : World) (hs : s.size ≤ maxLen) :
    Calls Tryd.prog 29 #[.string s] w (ParsePost w (treeL s.data.toList)) := by
  have HC := Lib.hid (fun W => ref8_Cut s W hs)
  have hct := cutL_len16 s.data.toList
  unfold treeL
  rw [ba_len]
  generalize cutL s.data.toList = R at *
  obtain ⟨l, p, ce⟩ := R
  dsimp only at hct ⊢
  have HL := Lib.hid hct
  clear hct
  by_cases hce : ce = 0
  · subst hce
    rw [if_neg (by simp)]
    go_enter Tryd.func29, Tryd.ntmps29
    go_wp2_with fail
    refine (HC.out _).mono ?_
    rintro e w1 ⟨v, rfl, hown, hb1⟩
    obtain ⟨A, c, rfl, hrd⟩ := ReadToks.of_own hown
    have HRD := Lib.hid hrd
    have HB1 := Lib.hid hb1
    clear hown hrd hb1
    dsimp only
    go_wp2_with fail
    have hz1 := HB1.out.size
    have hrd2 := HRD.out.alloc (Nat.le_refl _) (.cells #[.slice A l.length c, .int .i64 0, .int .i64 s.size, .int .i64 0, .int .i64 0] 94)
    have hr1 : Rdr (w1.alloc (.cells #[.slice A l.length c, .int .i64 0, .int .i64 s.size, .int .i64 0, .int .i64 0] 94)) w1.heap.size (.slice A l.length c) ((0 : Nat) : Int) s.size 0 0 := heap_alloc_new w1 _
    have hc := (ref9_both l A c s.size w1.heap.size w1.heap.size HL.out (Nat.le_refl _) l.length 0 (Nat.zero_le _) (by omega)).1 0 _ 0 (by omega) hrd2 hr1
    refine hc.mono ?_
    rintro e w2 ⟨out, A', c', kcs, κ, p', e', rfl, hnil, hrk, hnk, hr, hs2, hrel⟩
    have HP := Lib.hid (items_parse hrel)
    have g3 := Joins.cell_of_block hr 3
    have g4 := Joins.cell_of_block hr 4
    have hz2 := hs2.size
    simp at hz2
    have hb2 : Below w.heap.size w w2 := below_of_step (HB1.out.alloc (by omega) _) hs2 (by simp; omega) (fun x hx => ⟨fun j hj => by simp [RC] at hj; omega, by simp⟩)
    have HB2 := Lib.hid hb2
    have hm : ∀ b, Fresh (w1.alloc (.cells #[.slice A l.length c, .int .i64 0, .int .i64 s.size, .int .i64 0, .int .i64 0] 94)) w2 b → w.heap.size ≤ b ∧ b < w2.heap.size := fun b hb => ⟨by have := hb.1; simp at this; omega, hb.2⟩
    have HRK := Lib.hid (hrk.keep hm (fun _ _ => rfl))
    have HNK := Lib.hid (NodesOk.keep hm (fun _ _ => rfl) _ _ hnk)
    clear hrel hb2 hs2 hr hrk hnk hm hc hr1 hrd2
    by_cases he : e' = 0
    · subst he
      go_wp2_with fail
      go_ret3
      rw [HP.out, if_pos trivial]
      exact ⟨A', c', kcs, rfl, hnil, HRK.out, HNK.out, HB2.out⟩
    · have he' : (e' != 0) = true := by simpa using he
      go_wp2_with fail
      go_quiet (fail)
      go_wp2_with fail
      go_ret3
      rw [HP.out, if_neg he]
      exact parse_nil (below_drewN HB2.out _)
  · rw [if_pos hce]
    have he' : (ce != 0) = true := by simpa using hce
    go_enter Tryd.func29, Tryd.ntmps29
    go_wp2_with fail
    refine (HC.out _).mono ?_
    rintro e w1 ⟨v, rfl, hown, hb1⟩
    have HB1 := Lib.hid hb1
    clear hown hb1
    dsimp only
    go_wp2_with fail
    go_ret3
    exact parse_nil HB1.out

end Go.Proofs.YtaffbnjdlgcaiaaDoor
end

section
/- Layer 9 (tree): the reference's Check, over any items. -/
set_option linter.unusedVariables false
set_option linter.unusedSimpArgs false
namespace Go.Proofs.YtaffbnjdlgcaiaaDoor
open Go.RowKit

theorem rname_atG (s : Bytes) (h : s.length ≤ maxLen) (W : World) : Calls Tryd.prog 71 #[.string ⟨s.toArray⟩] W fun e w' => e = .returned (.bool (nameL s)) ∧ W = w' :=
  ref8_Name ⟨s.toArray⟩ W (by show s.toArray.size ≤ _; rw [List.size_toArray]; exact h)
def wordE (t : WordL) : Int := if wordOk t then 0 else 1

theorem ref9_word (t : WordL) (ht : t.s.length ≤ maxLen) (w : World) :
    Calls Tryd.prog 72 #[.agg #[.bool t.num, .int .i64 t.n, .string ⟨t.s.toArray⟩, .int .i64 t.pos]] w fun e w' => e = .returned (.int .i64 (wordE t)) ∧ Below w.heap.size w w' := by
  obtain ⟨num, n, s, pos⟩ := t
  dsimp only at ht ⊢
  have hbW : Below w.heap.size w (w.alloc (.cells #[.bool num, .int .i64 n, .string ⟨s.toArray⟩, .int .i64 pos] 75)) := (Below.refl _ _).alloc (Nat.le_refl _) _
  have HB := Lib.hid hbW
  have HN := Lib.hid (rname_atG s ht)
  clear hbW ht
  cases num
  · have hr : wordOk ⟨false, n, s, pos⟩ = (decide (n = 0) && nameL s) := rfl
    by_cases hn : n = 0
    · subst hn
      rw [decide_eq_true rfl, Bool.true_and] at hr
      cases hnm : nameL s
      · have he : wordE ⟨false, 0, s, pos⟩ = 1 := by unfold wordE; rw [hr, hnm]; rfl
        rw [he]
        rw [hnm] at HN
        clear he hnm hr
        go_enter Tryd.func72, Tryd.ntmps72
        go_wp2_with fail
        refine (HN.out _).mono ?_
        rintro e w1 ⟨rfl, rfl⟩
        go_wp2_with fail
        go_ret
        exact ⟨rfl, HB.out⟩
      · have he : wordE ⟨false, 0, s, pos⟩ = 0 := by unfold wordE; rw [hr, hnm]; rfl
        rw [he]
        rw [hnm] at HN
        clear he hnm hr
        go_enter Tryd.func72, Tryd.ntmps72
        go_wp2_with fail
        refine (HN.out _).mono ?_
        rintro e w1 ⟨rfl, rfl⟩
        go_wp2_with fail
        go_ret
        exact ⟨rfl, HB.out⟩
    · rw [decide_eq_false hn, Bool.false_and] at hr
      have he : wordE ⟨false, n, s, pos⟩ = 1 := by unfold wordE; rw [hr]; rfl
      rw [he]
      have hn' : (n == 0) = false := by simpa using hn
      clear hn HN he hr
      go_enter Tryd.func72, Tryd.ntmps72
      go_wp2_with fail
      go_ret
      exact ⟨rfl, HB.out⟩
  · have hr : wordOk ⟨true, n, s, pos⟩ = (decide (s = []) && decide (0 ≤ n) && decide (n ≤ 999999999)) := rfl
    clear HN
    by_cases hs : s = []
    · subst hs
      by_cases h0 : 0 ≤ n
      · by_cases h9 : n ≤ 999999999
        · have he : wordE ⟨true, n, [], pos⟩ = 0 := by unfold wordE; rw [hr]; simp [h0, h9]
          rw [he]
          clear he hr
          go_enter Tryd.func72, Tryd.ntmps72
          go_wp2_with fail
          go_ret
          exact ⟨rfl, HB.out⟩
        · have he : wordE ⟨true, n, [], pos⟩ = 1 := by unfold wordE; rw [hr]; simp [h0, h9]
          rw [he]
          clear he hr
          go_enter Tryd.func72, Tryd.ntmps72
          go_wp2_with fail
          go_ret
          exact ⟨rfl, HB.out⟩
      · have he : wordE ⟨true, n, [], pos⟩ = 1 := by unfold wordE; rw [hr]; simp [h0]
        rw [he]
        clear he hr
        go_enter Tryd.func72, Tryd.ntmps72
        go_wp2_with fail
        go_ret
        exact ⟨rfl, HB.out⟩
    · have he : wordE ⟨true, n, s, pos⟩ = 1 := by unfold wordE; rw [hr]; simp [hs]
      rw [he]
      have hs' : (s == []) = false := by simpa using hs
      clear he hr hs
      go_enter Tryd.func72, Tryd.ntmps72
      go_wp2_with fail
      go_ret
      exact ⟨rfl, HB.out⟩

theorem all_drop (ws : List WordL) (k : Nat) (t : WordL) (h : ws[k]? = some t) : (ws.drop k).all wordOk = (wordOk t && (ws.drop (k + 1)).all wordOk) := by
  obtain ⟨hk, rfl⟩ := List.getElem?_eq_some_iff.1 h
  rw [List.drop_eq_getElem_cons hk, List.all_cons]

set_option maxRecDepth 100000 in
set_option maxHeartbeats 4000000 in
theorem ref9_check : ∀ (N : Nat) (l : List NodeL) (A : Option Addr) (c : Nat) (w : World) (B d : Nat), cntL l < N → cntL l ≤ 100000 → B ≤ w.heap.size → ROk w B A l → d + N ≤ 200000 → fitNs l →
    Calls Tryd.prog 46 #[.slice A l.length c, .int .i64 d] w fun e w' => e = .returned (.int .i64 (checkL d l)) ∧ Below w.heap.size w w' := by
  intro N
  induction N with
  | zero => intro l A c w B d h; omega
  | succ N ih =>
    intro l A c w B d hN hsm hB hok hd100 hfit
    have hlen := cntL_len l
    have HOK := Lib.hid hok
    have HIH := Lib.hid ih
    have HFIT := Lib.hid hfit
    clear ih hok hfit
    go_enter Tryd.func46, Tryd.ntmps46
    go_wp2_with fail
    go_loopw [13] (fun i wr => ∃ k : Nat, k ≤ l.length ∧ i = .int .i64 k ∧ Below w.heap.size w wr ∧ checkL d l = checkL d (l.drop k)) (fun i _ => l.length - (intOf i).toNat)
    case atStart => exact ⟨0, Nat.zero_le _, rfl, Below.refl _ _, by simp⟩
    case round =>
      obtain ⟨k, hk, rfl, hb, hs⟩ := hrel
      have hbs := hb.size
      by_cases hlt : k < l.length
      · obtain ⟨n, hn⟩ : ∃ n, l[k]? = some n := ⟨_, List.getElem?_eq_getElem hlt⟩
        obtain ⟨ad, Aw, cw, Ak, ck, hA, hadB, c0, c1, c2, c3, c4, hw, hkk⟩ := (HOK.out.below (hb.mono hB)).at k n hn
        subst hA
        obtain ⟨f1, f2, f3, f4, f5⟩ := fit_parts n (fit_at l k n HFIT.out hn)
        have hc1 := cntL_take_mem l k n hn
        have hc2 := cntN_eq n
        have hst := checkL_step l k d n hn
        rw [checkN_eq] at hst
        have HNM := Lib.hid (rname_atG n.name f1)
        obtain ⟨wa, hwa⟩ : ∃ wa, wa = wr.alloc (.cells #[.string ⟨n.name.toArray⟩, .int .i64 n.pos, .slice Aw n.words.length cw, .bool n.block, .slice Ak n.kids.length ck] 38) := ⟨_, rfl⟩
        have hblk := heap_alloc_new wr (.cells #[.string ⟨n.name.toArray⟩, .int .i64 n.pos, .slice Aw n.words.length cw, .bool n.block, .slice Ak n.kids.length ck] 38)
        have hW := (Below.refl wr.heap.size wr).alloc (Nat.le_refl _) (.cells #[.string ⟨n.name.toArray⟩, .int .i64 n.pos, .slice Aw n.words.length cw, .bool n.block, .slice Ak n.kids.length ck] 38)
        have hsz : (wr.alloc (.cells #[.string ⟨n.name.toArray⟩, .int .i64 n.pos, .slice Aw n.words.length cw, .bool n.block, .slice Ak n.kids.length ck] 38)).heap.size = wr.heap.size + 1 := by simp
        have HWA := Lib.hid hwa
        rw [← hwa] at hblk hW hsz
        have HW := Lib.hid hW
        have HRD := Lib.hid (hw.keep (w' := wa) (fun _ h => h) (fun p hp => hW.cell (by omega)))
        have HKK := Lib.hid (hkk.below (hW.mono (by omega)))
        have HB := Lib.hid (hb.trans (hW.mono hbs))
        have HF5 := Lib.hid f5
        have HF3 := Lib.hid f3
        have HBLK := Lib.hid hblk
        have lk : (k : Int) < l.length := by omega
        have lk0 : (0 : Int) ≤ k := by omega
        have w1f : IntKind.i64.wrap ((k : Int) + 1) = (k : Int) + 1 := by rw [IntKind.wrap_i64]; omega
        have w2f : IntKind.i64.wrap ((d : Int) + 1) = (d : Int) + 1 := by rw [IntKind.wrap_i64]; omega
        have HS := Lib.hid hs
        have HST := Lib.hid hst
        cases hnm : nameL n.name
        · have HR := Lib.hid (show checkL d l = 1 by rw [HS.out, HST.out, hnm]; simp)
          rw [hnm] at HNM
          have HB' := HB
          rw [hwa] at HB'
          clear HST HS hW hw hkk hb f1 f2 f3 f4 f5 hs hst hwa hblk hsz
          go_wp2_with fail
          refine (HNM.out _).mono ?_
          rintro e w3 ⟨rfl, rfl⟩
          go_wp2_with fail
          go_ret
          exact ⟨by rw [HR.out]; rfl, HB'.out⟩
        rw [hnm] at HNM
        have HNM1 := Lib.hid hnm
        by_cases hw8 : 8 < n.words.length
        · have HR := Lib.hid (show checkL d l = 1 by rw [HS.out, HST.out]; simp [hw8])
          have hw8' : (8 : Int) < n.words.length := by omega
          have HB' := HB
          rw [hwa] at HB'
          clear HST HS hW hw hkk hb f1 f2 f3 f4 f5 hs hst hwa hblk hsz hw8
          go_wp2_with fail
          refine (HNM.out _).mono ?_
          rintro e w3 ⟨rfl, rfl⟩
          go_wp2_with fail
          go_ret
          exact ⟨by rw [HR.out]; rfl, HB'.out⟩
        have hw8' : ¬ (8 : Int) < n.words.length := by omega
        clear hW hw hkk hb f1 f2 f3 f4 f5 hs hst hblk
        obtain ⟨wo, hwo⟩ : ∃ wo, wo = wr := ⟨_, rfl⟩
        subst hwo
        go_wp2_with fail
        refine (HNM.out _).mono ?_
        rintro e w3 ⟨rfl, rfl⟩
        go_wp2_with fail
        rw [← hwa]
        have hwz : w.heap.size ≤ wa.heap.size := by omega
        clear HWA hwa c0 c1 c2 c3 c4 hnm
        go_loopw [30] (fun i wr => ∃ j : Nat, j ≤ n.words.length ∧ i = .int .i64 j ∧ Below wa.heap.size wa wr ∧ n.words.all wordOk = (n.words.drop j).all wordOk) (fun i _ => n.words.length - (intOf i).toNat)
        case atStart => exact ⟨0, Nat.zero_le _, rfl, Below.refl _ _, by simp⟩
        case round =>
          obtain ⟨j, hj, rfl, hb2, ha2⟩ := hrel
          have hbs2 := hb2.size
          by_cases hjt : j < n.words.length
          · obtain ⟨t, ht⟩ : ∃ t, n.words[j]? = some t := ⟨_, List.getElem?_eq_getElem hjt⟩
            have hk' : ∀ p : Addr, p.block < B → wr.cell? p = wa.cell? p := fun p hp => hb2.cell (by omega)
            obtain ⟨bd, rfl, hbd, d0, d1, d2, d3⟩ := word_cells (HRD.out.keep (fun _ h => h) hk') j t ht
            have HWD := Lib.hid (ref9_word t (HF3.out t (List.mem_of_getElem? ht)))
            rw [all_drop n.words j t ht] at ha2
            have HB2 := Lib.hid hb2
            have lj : (j : Int) < n.words.length := by omega
            have lj0 : (0 : Int) ≤ j := by omega
            have w3f : IntKind.i64.wrap ((j : Int) + 1) = (j : Int) + 1 := by rw [IntKind.wrap_i64]; omega
            unfold wordE at HWD
            cases hwk : wordOk t
            · rw [hwk, Bool.false_and] at ha2
              rw [hwk, if_neg (by simp)] at HWD
              have HR := Lib.hid (show checkL d l = 1 by rw [HS.out, HST.out, ha2]; simp)
              clear hk' hb2 ha2 hwk HST HS
              go_wp2_with fail
              refine (HWD.out _).mono ?_
              rintro e w5 ⟨rfl, hb5⟩
              have hb6 : Below w.heap.size w w5 := HB.out.trans ((HB2.out.trans (((Below.refl wr.heap.size wr).alloc (Nat.le_refl _) _ |>.trans (hb5.mono (by simp))).mono hbs2)).mono hwz)
              have HB6 := Lib.hid hb6
              clear hb5 hb6
              go_wp2_with fail
              go_ret
              exact ⟨by rw [HR.out]; rfl, HB6.out⟩
            · rw [hwk, Bool.true_and] at ha2
              rw [hwk, if_pos rfl] at HWD
              have HA2 := Lib.hid ha2
              clear hk' hb2 ha2 hwk
              go_wp2_with fail
              refine (HWD.out _).mono ?_
              rintro e w5 ⟨rfl, hb5⟩
              have hb6 : Below wa.heap.size wa w5 := HB2.out.trans (((Below.refl wr.heap.size wr).alloc (Nat.le_refl _) _ |>.trans (hb5.mono (by simp))).mono hbs2)
              have HB6 := Lib.hid hb6
              clear hb5 hb6
              go_wp2_with fail
              exact ⟨⟨j + 1, by omega, by go_num, HB6.out, HA2.out⟩, by simp [intOf]; omega⟩
          · have hall : n.words.all wordOk = true := by rw [ha2, List.drop_eq_nil_of_le (by omega)]; rfl
            have lj : ¬ (j : Int) < n.words.length := by omega
            have hblk2 : wr.heap[wo.heap.size]? = _ := (hb2.block _ (by omega)).trans HBLK.out
            have e3 := Joins.cell_of_block hblk2 3
            have e4 := Joins.cell_of_block hblk2 4
            have HB3 := Lib.hid (HB.out.trans (hb2.mono hwz))
            have HKK3 := Lib.hid (HKK.out.below (hb2.mono (by omega)))
            have hB4 : B ≤ wr.heap.size := by omega
            clear hb2 ha2 hblk2
            cases hbl : n.block
            · rw [hbl] at e3
              by_cases hk0 : 0 < n.kids.length
              · have HR := Lib.hid (show checkL d l = 1 by rw [HS.out, HST.out, hbl]; simp [hk0])
                have hk0' : (0 : Int) < n.kids.length := by omega
                clear HST HS hw8 hall
                go_wp2_with fail
                go_ret
                exact ⟨by rw [HR.out]; rfl, HB3.out⟩
              · have hkn : n.kids = [] := List.eq_nil_of_length_eq_zero (by omega)
                have HR := Lib.hid (show checkL d l = checkL d (l.drop (k + 1)) by rw [HS.out, HST.out, hall, HNM1.out, hbl, hkn]; simp [hw8, checkL_nil])
                have HI := Lib.hid (HIH.out [] Ak ck wr B (d + 1) (by simp only [cntL]; omega) (by simp only [cntL]; omega) hB4 (by have := HKK3.out; rw [hkn] at this; exact this) (by omega) (by simp only [fitNs]))
                rw [checkL_nil] at HI
                have HI2 := Lib.hid (show Calls Tryd.prog 46 #[.slice Ak 0 ck, .int .i64 ((d : Int) + 1)] wr fun e w' => e = .returned (.int .i64 0) ∧ Below wr.heap.size wr w' from HI.out)
                rw [hkn] at e4
                simp only [List.length_nil] at e4
                clear HST HS hw8 HI hall
                go_wp2_with fail
                refine HI2.out.mono ?_
                rintro e w5 ⟨rfl, hb5⟩
                have HB5 := Lib.hid (HB3.out.trans (hb5.mono HB3.out.size))
                clear hb5
                go_wp2_with fail
                exact ⟨⟨k + 1, by omega, by go_num, HB5.out, HR.out⟩, by simp [intOf]; omega⟩
            · rw [hbl] at e3
              by_cases hd6 : d = 6
              · have HR := Lib.hid (show checkL d l = 7 by rw [HS.out, HST.out, hall, HNM1.out, hbl]; simp [hw8, hd6])
                have hd6' : ((d : Int) == 6) = true := by simp [hd6]
                clear HST HS hw8 hd6 hall
                go_wp2_with fail
                go_ret
                exact ⟨by rw [HR.out]; rfl, HB3.out⟩
              · have hd6' : ((d : Int) == 6) = false := beq_false_of_ne (by omega)
                have HR := Lib.hid (show checkL d l = if checkL (d + 1) n.kids ≠ 0 then checkL (d + 1) n.kids else checkL d (l.drop (k + 1)) by rw [HS.out, HST.out, hall, HNM1.out, hbl]; simp [hw8, hd6])
                have HI := Lib.hid (HIH.out n.kids Ak ck wr B (d + 1) (by omega) (by omega) hB4 HKK3.out (by omega) HF5.out)
                have HI2 := Lib.hid (show Calls Tryd.prog 46 #[.slice Ak n.kids.length ck, .int .i64 ((d : Int) + 1)] wr fun e w' => e = .returned (.int .i64 (checkL (d + 1) n.kids)) ∧ Below wr.heap.size wr w' from HI.out)
                clear HST HS hw8 HI hd6 hall
                generalize checkL (d + 1) n.kids = y at *
                by_cases hy : y = 0
                · subst hy
                  rw [if_neg (by simp)] at HR
                  go_wp2_with fail
                  refine HI2.out.mono ?_
                  rintro e w5 ⟨rfl, hb5⟩
                  have HB5 := Lib.hid (HB3.out.trans (hb5.mono HB3.out.size))
                  clear hb5
                  go_wp2_with fail
                  exact ⟨⟨k + 1, by omega, by go_num, HB5.out, HR.out⟩, by simp [intOf]; omega⟩
                · rw [if_pos hy] at HR
                  have hy' : (y != 0) = true := by simpa using hy
                  clear hy
                  go_wp2_with fail
                  refine HI2.out.mono ?_
                  rintro e w5 ⟨rfl, hb5⟩
                  have HB5 := Lib.hid (HB3.out.trans (hb5.mono HB3.out.size))
                  clear hb5
                  go_wp2_with fail
                  go_ret
                  exact ⟨by rw [HR.out]; rfl, HB5.out⟩
      · have lk : ¬ (k : Int) < l.length := by omega
        have hs2 : checkL d l = 0 := by rw [hs, List.drop_eq_nil_of_le (by omega), checkL_nil]
        have HS2 := Lib.hid hs2
        clear hs hs2
        go_wp2_with fail
        go_ret
        exact ⟨by rw [HS2.out]; rfl, hb⟩

theorem ref9_Check (l : List NodeL) (A : Option Addr) (c : Nat) (w : World) (B : Nat) (hsm : cntL l ≤ 100000) (hB : B ≤ w.heap.size) (hok : ROk w B A l) (hfit : fitNs l) :
    Calls Tryd.prog 27 #[.slice A l.length c] w fun e w' => e = .returned (.int .i64 (checkL 0 l)) ∧ Below w.heap.size w w' := by
  have H := Lib.hid (ref9_check (cntL l + 1) l A c w B 0 (by omega) hsm hB hok (by omega) hfit)
  clear hok hfit
  go_enter Tryd.func27, Tryd.ntmps27
  go_wp2_with fail
  refine H.out.mono ?_
  rintro e w1 ⟨rfl, hb1⟩
  go_wp2
  go_ret
  exact ⟨rfl, hb1⟩

end Go.Proofs.YtaffbnjdlgcaiaaDoor
end

section
/- Layers 7 and 8, the references: Digits, Decimal, text, Join. -/
namespace Go.Proofs.YtaffbnjdlgcaiaaDoor
open Go.RowKit

theorem ret_bs {a b : ByteArray} (h : a = b) : Ending.returned (.string a) = .returned (.string b) := by rw [h]

/-- So many last digits of a number. -/
def digitsL : Nat → Nat → Bytes
  | _, 0 => []
  | n, m + 1 => digitsL (n / 10) m ++ [UInt8.ofNat (48 + n % 10)]

theorem digitsL_len : ∀ (m n : Nat), (digitsL n m).length = m
  | 0, _ => rfl
  | m + 1, n => by simp [digitsL, digitsL_len m]

theorem digitsL_dec : ∀ (m n : Nat), Lib.nDigits n = m → digitsL n m = Lib.decDigits n := by
  intro m
  induction m with
  | zero => intro n h; have := Lib.nDigits_pos n; omega
  | succ m ih =>
    intro n h
    by_cases h10 : n < 10
    · rw [Lib.decDigits_one h10]
      rw [Lib.nDigits_small h10] at h
      have : m = 0 := by omega
      subst this
      simp [digitsL, Nat.mod_eq_of_lt h10]
    · rw [Lib.nDigits_big h10] at h
      rw [digitsL, ih (n / 10) (by omega)]
      conv => rhs; rw [Lib.decDigits, dif_neg h10]

theorem conv_digit (w : World) (x : Nat) : (convert 48 9 (.slice (some ⟨w.heap.size, 0, none⟩) 1 1)).run Tryd.prog (w.alloc (.cells #[.int .u8 (48 + (x : Int) % 10)] 5)) =
    .ok (.string ⟨#[UInt8.ofNat (48 + x % 10)]⟩) (w.alloc (.cells #[.int .u8 (48 + (x : Int) % 10)] 5)) := by
  refine run_convert_bytes_back _ _ _ _ ⟨w.heap.size, 0, none⟩ 1 [UInt8.ofNat (48 + x % 10)] Tryd.underlying48 (by kernel_rfl) (by kernel_rfl) ?_
  intro j hj
  simp at hj
  subst hj
  simp [Addr.add]
  omega

set_option maxHeartbeats 1000000 in
theorem ref7_Digits (n m : Nat) (w : World) (hn : n ≤ 9223372036854775807) (hm : m ≤ 1000) :
    Calls Tryd.prog 73 #[.int .i64 n, .int .i64 m] w fun e w' => e = .returned (.string ⟨(digitsL n m).toArray⟩) ∧ Below w.heap.size w w' := by
  go_enter Tryd.func73, Tryd.ntmps73
  go_wp2
  go_loopw [0, 5, 7] (fun a s i wr => ∃ (k x : Nat) (S : Bytes), k ≤ m ∧ x ≤ n ∧ i = .int .i64 k ∧ a = .int .i64 x ∧ s = .string ⟨S.toArray⟩ ∧ S.length = k ∧ Below w.heap.size w wr ∧ digitsL n m = digitsL x (m - k) ++ S) (fun _ _ i _ => m - (intOf i).toNat)
  case atStart => exact ⟨0, n, [], Nat.zero_le _, Nat.le_refl _, rfl, rfl, rfl, rfl, Below.refl _ _, by simp⟩
  case round =>
    obtain ⟨k, x, S, hk, hx, rfl, rfl, rfl, hS, hB, heq⟩ := hrel
    have hbs := hB.size
    have HE := Lib.hid heq
    clear heq
    by_cases hlt : k < m
    · have hcv := conv_digit wr x
      have hsz : ¬ (9223372036854775807 < 1 + (S.length : Int)) := by omega
      go_wp2
      have hx0 : ((x / 10 : Nat) : Int) = (x : Int) / 10 := by omega
      have hd : m - k = (m - (k + 1)) + 1 := by omega
      refine ⟨⟨k + 1, x / 10, UInt8.ofNat (48 + x % 10) :: S, by omega, by omega, by go_num, by go_num, by rw [ByteArray.mk_append_mk]; simp, by simp [hS], hB.alloc hbs _, ?_⟩, by simp [intOf]; omega⟩
      rw [HE.out, hd, digitsL]
      simp
    · have hkm : k = m := by omega
      have HH := Lib.hid (by rw [HE.out, hkm, Nat.sub_self]; rfl : digitsL n m = S)
      go_wp2
      go_ret
      exact ⟨ret_bs (by rw [HH.out]), hB⟩

theorem nDigits_le (n : Nat) (h : n ≤ 9223372036854775807) : Lib.nDigits n ≤ 19 := by
  by_cases h0 : n < 10
  · rw [Lib.nDigits_small h0]; omega
  have hk : ∀ (k u : Nat), u < 10 ^ (k + 1) → Lib.nDigits u ≤ k + 1 := by
    intro k
    induction k with
    | zero => intro u hu; rw [Lib.nDigits_small (by omega)]; omega
    | succ k ih =>
      intro u hu
      by_cases h0 : u < 10
      · rw [Lib.nDigits_small h0]; omega
      · rw [Lib.nDigits_big h0]
        have := ih (u / 10) (by rw [Nat.pow_succ] at hu; omega)
        omega
  exact hk 18 n (by omega)

set_option maxHeartbeats 1000000 in
theorem ref8_Decimal (n : Nat) (w : World) (hn : n ≤ 9223372036854775807) :
    Calls Tryd.prog 47 #[.int .i64 n] w fun e w' => e = .returned (.string ⟨(Lib.itoa n).toArray⟩) ∧ Below w.heap.size w w' := by
  have hnd := nDigits_le n hn
  have hi : Lib.itoa n = digitsL n (Lib.nDigits n) := by
    rw [digitsL_dec _ _ rfl, Lib.itoa, if_neg (by omega), Int.toNat_natCast]
  have HI := Lib.hid hi
  have HD := Lib.hid (fun W => ref7_Digits n (Lib.nDigits n) W hn (by omega))
  clear hi
  go_enter Tryd.func47, Tryd.ntmps47
  go_wp2
  go_loopw [3, 4] (fun c x wr => ∃ k m : Nat, c = .int .i64 k ∧ x = .int .i64 m ∧ m ≤ n ∧ wr = w ∧ Lib.nDigits n + 1 = k + Lib.nDigits m) (fun _ x _ => (intOf x).toNat)
  case atStart => exact ⟨1, n, rfl, rfl, Nat.le_refl _, rfl, by omega⟩
  case round =>
    obtain ⟨k, m, rfl, rfl, hm, rfl, hk⟩ := hrel
    have hkk : k ≤ 19 := by have := Lib.nDigits_pos m; omega
    by_cases h10 : 10 ≤ m
    · have hb := Lib.nDigits_big (u := m) (by omega)
      have HK := Lib.hid hk
      have HB := Lib.hid hb
      clear hk hb
      go_wp2
      exact ⟨⟨k + 1, m / 10, by go_num, by go_num, by omega, trivial, by have := HK.out; have := HB.out; omega⟩, by simp [intOf]; omega⟩
    · have hb := Lib.nDigits_small (u := m) (by omega)
      have hkn : k = Lib.nDigits n := by omega
      have HK := Lib.hid hkn
      clear hk hb hkn
      go_wp2_with fail
      rw [HK.out]
      refine (HD.out _).mono ?_
      rintro e w1 ⟨rfl, hb1⟩
      go_wp2
      go_ret
      exact ⟨ret_bs (by rw [HI.out]), hb1⟩

/-- The reference's text of a token. -/
def textR (t : Tok) : Bytes × Bool := if t.kind = 2 then (Lib.itoa (max t.n 0), (textL t).2) else textL t

theorem str_eql (S : Bytes) (w : World) : (binOp .eql 9 (.string ⟨S.toArray⟩) (.string ⟨#[]⟩)).run Tryd.prog w = .ok (.bool (decide (S = []))) w := by
  cases S <;> simp [go_sem]

end Go.Proofs.YtaffbnjdlgcaiaaDoor
end

section
/- Layer 10, the reference: the walk of text. -/
set_option linter.unusedVariables false
set_option linter.unusedSimpArgs false
namespace Go.Proofs.YtaffbnjdlgcaiaaDoor
open Go.RowKit

theorem ret_si {a b : ByteArray} {x y : Int} (h : a = b) (h' : x = y) : Ending.returned (.tuple #[.string a, .int .i64 x]) = .returned (.tuple #[.string b, .int .i64 y]) := by rw [h, h']
theorem ba_cat (S T : ByteArray) : (S ++ T).data.toList = S.data.toList ++ T.data.toList := by rw [ByteArray.data_append]; simp
theorem joinTail_snoc : ∀ (xs : List Bytes) (x : Bytes), Lib.joinTail [32] (xs ++ [x]) = Lib.joinTail [32] xs ++ (32 :: x)
  | [], x => by simp [Lib.joinTail]
  | y :: xs, x => by
    rw [List.cons_append, joinTail_cons, joinTail_cons, joinTail_snoc xs x]
    simp
theorem ba_size (S : ByteArray) (l : Bytes) (h : S.data.toList = l) : S.size = l.length := by rw [← ba_len, h]

set_option maxRecDepth 100000 in
set_option maxHeartbeats 4000000 in
theorem ref10_text : ∀ (N : Nat) (l : List NodeL) (d : Nat) (A : Option Addr) (c : Nat) (w : World) (B : Nat), cntL l < N → cntL l ≤ 100000 → d ≤ 6 → checkL d l = 0 → B ≤ w.heap.size → ROk w B A l →
    (printL d l).length ≤ 1000000000 → (flatL l).length ≤ 100000000 →
    Calls Tryd.prog 28 #[.slice A l.length c, .int .i64 d] w fun e w' => e = .returned (.tuple #[.string ⟨(printL d l).toArray⟩, .int .i64 (flatL l).length]) ∧ Below w.heap.size w w' := by
  intro N
  induction N with
  | zero => intro l d A c w B h; omega
  | succ N ih =>
    intro l d A c w B hN hsm hd hchk hB hok hlen hfl
    have hlenl := cntL_len l
    have HOK := Lib.hid hok
    have HIH := Lib.hid ih
    have HCK := Lib.hid hchk
    have HLN := Lib.hid hlen
    have HFL := Lib.hid hfl
    clear ih hok hchk hlen hfl
    go_enter Tryd.func28, Tryd.ntmps28
    go_wp2_with fail
    go_loop [8, 16] (fun mv iv => ∃ (M : ByteArray) (k : Nat), mv = .string M ∧ iv = .int .i64 k ∧ k ≤ d ∧ M.data.toList = List.replicate (2 * k) 32 ∧ M.size = 2 * k) (fun _ iv => d - (intOf iv).toNat)
    case atStart => exact ⟨⟨#[]⟩, 0, rfl, rfl, Nat.zero_le _, rfl, rfl⟩
    case round =>
      obtain ⟨M, k, rfl, rfl, hk, hM, hMs⟩ := hrel
      by_cases hkd : k < d
      · have HM := Lib.hid hM
        have HMS := Lib.hid hMs
        have hMb : M.size ≤ 12 := by omega
        have lk : (k : Int) < d := by omega
        have w1f : IntKind.i64.wrap ((k : Int) + 1) = (k : Int) + 1 := by rw [IntKind.wrap_i64]; omega
        clear hM hMs
        go_wp2_with fail
        have e1 : (M ++ ⟨#[32, 32]⟩ : ByteArray).data.toList = List.replicate (2 * (k + 1)) 32 := by
          rw [ba_cat, HM.out, show 2 * (k + 1) = 2 * k + 1 + 1 by omega, List.replicate_succ', List.replicate_succ']
          simp
        exact ⟨⟨_, k + 1, rfl, by go_num, by omega, e1, by rw [ba_size _ _ e1]; simp⟩, by simp [intOf]; omega⟩
      · have hkk : k = d := by omega
        subst hkk
        have HM := Lib.hid hM
        have hMb : M.size ≤ 12 := by omega
        have lk : ¬ (k : Int) < k := by omega
        have HMS := Lib.hid (show M.size = 2 * k from hMs)
        clear hM hMs
        go_wp2_with fail
        go_loopw [6, 7, 23] (fun sv mv iv wr => ∃ (S : ByteArray) (q : Nat), sv = .string S ∧ mv = .int .i64 ((flatL (l.take q)).length : Nat) ∧ iv = .int .i64 q ∧ q ≤ l.length ∧ S.data.toList = printL k (l.take q) ∧ Below w.heap.size w wr) (fun _ _ iv _ => l.length - (intOf iv).toNat)
        case atStart => exact ⟨⟨#[]⟩, 0, rfl, by simp [flatL], rfl, Nat.zero_le _, by simp [printL], Below.refl _ _⟩
        case round =>
          obtain ⟨S, q, rfl, rfl, rfl, hq, hS, hbw⟩ := hrel
          have hpl0 := print_le k l q
          have hfl0 := flat_le l q
          have hln := HLN.out
          have hfn0 := HFL.out
          have hSs : S.size ≤ 1000000000 := by rw [ba_size S _ hS]; omega
          by_cases hlt : q < l.length
          · obtain ⟨n, hn⟩ : ∃ n, l[q]? = some n := ⟨_, List.getElem?_eq_getElem hlt⟩
            have hbs := hbw.size
            obtain ⟨ad, Aw, cw, Ak, ck, hA, hadB, c0, c1, c2, c3, c4, hw, hkk⟩ := (HOK.out.below (hbw.mono hB)).at q n hn
            subst hA
            obtain ⟨p1, p2, p3, p4, p5, p6⟩ := check_at l k q n HCK.out hn
            have hc1 := cntL_take_mem l q n hn
            have hc2 := cntN_eq n
            have hpt := print_take k l q n hn
            have hft := flat_take l q n hn
            have hpl := print_le k l (q + 1)
            have hfl := flat_le l (q + 1)
            rw [hpt, List.length_append] at hpl
            rw [hft] at hfl
            have hfn := flatN_len n
            have hpn := printN_eq k n
            have hn16 := name16 n.name p3
            obtain ⟨wo, hwo⟩ : ∃ wo, wo = wr := ⟨_, rfl⟩
            subst hwo
            obtain ⟨NM, hNM⟩ : ∃ NM : ByteArray, NM = ⟨n.name.toArray⟩ := ⟨_, rfl⟩
            have hNMl : NM.data.toList = n.name := by rw [hNM]
            have hNMs : NM.size ≤ 16 := by rw [ba_size NM _ hNMl]; exact hn16
            rw [← hNM] at c0
            have hblk := heap_alloc_new wo (.cells #[.string NM, .int .i64 n.pos, .slice Aw n.words.length cw, .bool n.block, .slice Ak n.kids.length ck] 38)
            have hbA := (Below.refl wo.heap.size wo).alloc (Nat.le_refl _) (.cells #[.string NM, .int .i64 n.pos, .slice Aw n.words.length cw, .bool n.block, .slice Ak n.kids.length ck] 38)
            have hSl : S.size = (printL k (l.take q)).length := ba_size S _ hS
            have HS := Lib.hid hS
            have HNL := Lib.hid hNMl
            have HBW := Lib.hid hbw
            have HWD := Lib.hid hw
            have HKK := Lib.hid hkk
            have HBLK := Lib.hid hblk
            have HBA := Lib.hid hbA
            have HP := Lib.hid (And.intro p2 (And.intro p3 (And.intro p4 (And.intro p5 p6))))
            have HPT := Lib.hid hpt
            have HFT := Lib.hid hft
            have HPN := Lib.hid hpn
            have HFN := Lib.hid hfn
            have HSL := Lib.hid hSl
            have lk : (q : Int) < l.length := by omega
            have lk0 : (0 : Int) ≤ q := by omega
            have w1f : IntKind.i64.wrap ((q : Int) + 1) = (q : Int) + 1 := by rw [IntKind.wrap_i64]; omega
            have hwl : n.words.length ≤ 8 := p1
            have hfb : (flatL (l.take q)).length ≤ 100000000 := by omega
            have HPL := Lib.hid (And.intro hpl (And.intro hfl (And.intro hln hfn0)))
            clear hS hNM hNMl hbw hw hkk hblk hbA p1 p2 p3 p4 p5 p6 hpt hft hpn hfn hSl hpl hfl hln hfn0 hpl0 hfl0
            go_wp2_with fail
            obtain ⟨nb, hnb⟩ : ∃ g, g = wo.heap.size := ⟨_, rfl⟩
            generalize hW1 : World.alloc wo _ = W1
            have hb1 : Below nb wo W1 := by rw [← hW1, hnb]; exact HBA.out
            have hn1 : W1.heap[nb]? = some (.cells #[.string NM, .int .i64 n.pos, .slice Aw n.words.length cw, .bool n.block, .slice Ak n.kids.length ck] 38 (0, 0)) := by rw [← hW1, hnb]; exact HBLK.out
            have hz1 : nb < W1.heap.size := (Array.getElem?_eq_some_iff.1 hn1).1
            rw [← hnb]
            have hBnb : B ≤ nb := by omega
            have hwnb : w.heap.size ≤ nb := by omega
            have HB1 := Lib.hid hb1
            have HN1 := Lib.hid hn1
            have HNB := Lib.hid hnb
            clear hW1 hb1 hn1 hnb
            obtain ⟨pre, hpre⟩ : ∃ pre : Bytes, pre = printL k (l.take q) ++ (List.replicate (2 * k) 32 ++ n.name) := ⟨_, rfl⟩
            have hS0 : (S ++ (M ++ NM)).data.toList = pre ++ Lib.joinTail [32] ((n.words.take 0).map wordB) := by
              rw [ba_cat, ba_cat, HS.out, HM.out, HNL.out, hpre]; simp [Lib.joinTail]
            have hprel : pre.length ≤ 1000000028 := by
              rw [hpre, List.length_append, List.length_append, List.length_replicate, ← HSL.out, ← ba_len NM, HNL.out] at *
              omega
            have HPRE := Lib.hid hpre
            have HS0 := Lib.hid hS0
            clear hpre hS0
            go_loopw [6, 36] (fun sv jv wx => ∃ (S2 : ByteArray) (t : Nat), sv = .string S2 ∧ jv = .int .i64 t ∧ t ≤ n.words.length ∧ S2.data.toList = pre ++ Lib.joinTail [32] ((n.words.take t).map wordB) ∧ Below (nb + 1) W1 wx) (fun _ jv _ => n.words.length - (intOf jv).toNat)
            case atStart => exact ⟨_, 0, rfl, rfl, Nat.zero_le _, HS0.out, Below.refl _ _⟩
            case round =>
              obtain ⟨S2, t, rfl, rfl, ht, hS2, hbx⟩ := hrel
              have hbB : Below B wo wr := (HB1.out.mono hBnb).trans (hbx.mono (by omega))
              have hallt : (n.words.take t).all wordOk = true := by
                rw [List.all_eq_true]
                exact fun x hx => List.all_eq_true.1 HP.out.1 x (List.mem_of_mem_take hx)
              have hjl := joinTail_words (n.words.take t) hallt
              have hlt8 : (n.words.take t).length ≤ 8 := by rw [List.length_take]; omega
              have hS2b : S2.size ≤ 1000000200 := by rw [ba_size S2 _ hS2, List.length_append]; omega
              by_cases hlt2 : t < n.words.length
              · obtain ⟨u, hu⟩ : ∃ u, n.words[t]? = some u := ⟨_, List.getElem?_eq_getElem hlt2⟩
                obtain ⟨aw, hAw, hawB, d0, d1, d2, d3⟩ := word_cells (HWD.out.keep (w' := wr) (fun _ h => h) (fun p hp => hbB.cell hp)) t u hu
                subst hAw
                have hok : wordOk u = true := List.all_eq_true.1 HP.out.1 u (List.mem_of_getElem? hu)
                have hul := wordB_len u hok
                have htk : Lib.joinTail [32] ((n.words.take (t + 1)).map wordB) = Lib.joinTail [32] ((n.words.take t).map wordB) ++ (32 :: wordB u) := by
                  rw [List.take_add_one, hu, List.map_append]
                  exact joinTail_snoc _ _
                have HTK := Lib.hid htk
                have hlk : (t : Int) < n.words.length := by omega
                have hlk0 : (0 : Int) ≤ t := by omega
                have w2f : IntKind.i64.wrap ((t : Int) + 1) = (t : Int) + 1 := by rw [IntKind.wrap_i64]; omega
                have HS2 := Lib.hid hS2
                have HBX := Lib.hid hbx
                have hzx : nb + 1 ≤ wr.heap.size := by have := hbx.size; omega
                clear htk hS2 hbx hbB hallt hjl hlt8 hu
                obtain ⟨nu, un, us, up⟩ := u
                obtain ⟨US, hUS⟩ : ∃ US : ByteArray, US = ⟨us.toArray⟩ := ⟨_, rfl⟩
                have hUSl : US.data.toList = us := by rw [hUS]
                simp only at d0 d1 d2 d3
                rw [← hUS] at d2
                cases nu
                · have hwb : wordB ⟨false, un, us, up⟩ = us := rfl
                  rw [hwb] at HTK hul
                  have hUSs : US.size ≤ 16 := by rw [ba_size US _ hUSl]; exact hul
                  have HUS := Lib.hid hUSl
                  have hb2 := (Below.refl wr.heap.size wr).alloc (Nat.le_refl _) (.cells #[.bool false, .int .i64 un, .string US, .int .i64 up] 75)
                  have HB2 := Lib.hid (HBX.out.trans (hb2.mono hzx))
                  clear hb2 hUS hUSl hok
                  go_wp2_with fail
                  refine ⟨⟨_, t + 1, rfl, by go_num, by omega, ?_, HB2.out⟩, by simp [intOf]; omega⟩
                  rw [ba_cat, ba_cat, HS2.out, HUS.out, HTK.out]
                  simp
                · have hwb : wordB ⟨true, un, us, up⟩ = Lib.itoa un := rfl
                  rw [hwb] at HTK hul
                  have hrng : us = [] ∧ 0 ≤ un ∧ un ≤ 999999999 := by
                    unfold wordOk at hok
                    simp only [if_true, Bool.and_eq_true, decide_eq_true_eq] at hok
                    exact ⟨hok.1.1, hok.1.2, hok.2⟩
                  obtain ⟨hu0, hr1, hr2⟩ := hrng
                  obtain ⟨v, rfl⟩ := Int.eq_ofNat_of_zero_le hr1
                  have hUSs : US.size = 0 := by rw [ba_size US _ hUSl, hu0]; rfl
                  have hUSs2 : US.size ≤ 16 := by omega
                  have HUS := Lib.hid (show US.data.toList = [] by rw [hUSl, hu0])
                  have hb2 := (Below.refl wr.heap.size wr).alloc (Nat.le_refl _) (.cells #[.bool true, .int .i64 v, .string US, .int .i64 up] 75)
                  have HB2 := Lib.hid (HBX.out.trans (hb2.mono hzx))
                  have HD := Lib.hid (fun W => ref8_Decimal v W (by omega))
                  obtain ⟨X, hX⟩ : ∃ X : ByteArray, X = ⟨(Lib.itoa v).toArray⟩ := ⟨_, rfl⟩
                  rw [← hX] at HD
                  have hXl : X.data.toList = Lib.itoa v := by rw [hX]
                  have hXs : X.size ≤ 16 := by rw [ba_size X _ hXl]; exact hul
                  have HX := Lib.hid hXl
                  clear hb2 hUS hUSl hUSs hok hu0 hX hXl hul hwb
                  go_wp2_with fail
                  refine (HD.out _).mono ?_
                  rintro e1 w2 ⟨rfl, hb3⟩
                  have HB3 := Lib.hid (HB2.out.trans (hb3.mono (by simp; omega)))
                  clear hb3
                  go_wp2_with fail
                  refine ⟨⟨_, t + 1, rfl, by go_num, by omega, ?_, HB3.out⟩, by simp [intOf]; omega⟩
                  rw [ba_cat, ba_cat, ba_cat, HS2.out, HUS.out, HX.out, HTK.out]
                  simp
              · have htl : t = n.words.length := by omega
                have htt : n.words.take t = n.words := by rw [htl, List.take_length]
                rw [htt] at hS2
                have hlk : ¬ (t : Int) < n.words.length := by omega
                have hblk : wr.heap[nb]? = _ := (hbx.block nb (by omega)).trans HN1.out
                have e2 := Joins.cell_of_block hblk 2
                have e3 := Joins.cell_of_block hblk 3
                have e4 := Joins.cell_of_block hblk 4
                have HBX := Lib.hid (HBW.out.trans ((HB1.out.mono hwnb).trans (hbx.mono (by omega))))
                have HBB := Lib.hid hbB
                have HS2 := Lib.hid hS2
                have hzx : w.heap.size ≤ wr.heap.size := HBX.out.size
                have hBx : B ≤ wr.heap.size := by omega
                have hfn := HFN.out
                have hpl := HPL.out
                have hpnl := HPN.out
                have HTL := Lib.hid htl
                clear hS2 hbx hbB hallt hjl hlt8 hblk htt htl
                cases hbk : n.block with
                | false =>
                  rw [hbk] at e3 hfn
                  rw [hbk, if_neg (by decide)] at hpnl
                  have HPN2 := Lib.hid hpnl
                  have HFN2 := Lib.hid (show (flatL (l.take (q + 1))).length = (flatL (l.take q)).length + (2 + n.words.length) by rw [HFT.out, hfn]; simp; omega)
                  have hfb2 : (flatL (l.take q)).length + (2 + n.words.length) ≤ 200000000 := by omega
                  clear hfn hpl hpnl hbk
                  go_wp2_with fail
                  refine ⟨⟨_, q + 1, rfl, ?_, by go_num, by omega, ?_, HBX.out⟩, by simp [intOf]; omega⟩
                  · rw [HFN2.out]; go_num
                  · rw [ba_cat, HS2.out, HPT.out, HPN2.out, HPRE.out, lineB, Lib.join_cons]
                    simp
                | true =>
                  rw [hbk] at e3 hfn
                  rw [hbk, if_pos rfl] at hpnl
                  rw [if_pos rfl] at hfn
                  have hk6 : k ≠ 6 := HP.out.2.2.2.1 hbk
                  have hplen : (printN k n).length = (lineB k (n.name :: n.words.map wordB) [32, 123]).length + ((printL (k + 1) n.kids).length + (lineB k [] [125]).length) := by rw [hpnl, List.length_append, List.length_append]
                  have HPN2 := Lib.hid hpnl
                  have HFN2 := Lib.hid (show (flatL (l.take (q + 1))).length = (flatL (l.take q)).length + (2 + n.words.length) + (1 + (flatL n.kids).length) by rw [HFT.out, hfn]; omega)
                  have hfb2 : (flatL (l.take q)).length + (2 + n.words.length) + (1 + (flatL n.kids).length) ≤ 200000000 := by omega
                  have hI := HIH.out n.kids (k + 1) Ak ck wr B (by omega) (by omega) (by omega) HP.out.2.2.2.2 hBx (HKK.out.below HBB.out) (by omega) (by omega)
                  obtain ⟨IN, hIN⟩ : ∃ IN : ByteArray, IN = ⟨(printL (k + 1) n.kids).toArray⟩ := ⟨_, rfl⟩
                  have hINl : IN.data.toList = printL (k + 1) n.kids := by rw [hIN]
                  have hINs : IN.size ≤ 1000000000 := by rw [ba_size IN _ hINl]; omega
                  rw [← hIN] at hI
                  have HI := Lib.hid (show Calls Tryd.prog 28 #[.slice Ak n.kids.length ck, .int .i64 ((k : Int) + 1)] wr fun e w' => e = .returned (.tuple #[.string IN, .int .i64 (flatL n.kids).length]) ∧ Below wr.heap.size wr w' from hI)
                  have HIN := Lib.hid hINl
                  have w3f : IntKind.i64.wrap ((k : Int) + 1) = (k : Int) + 1 := by rw [IntKind.wrap_i64]; omega
                  have hfk : (flatL n.kids).length ≤ 100000000 := by omega
                  clear hfn hpl hpnl hbk hplen hI hIN hINl
                  go_wp2_with fail
                  refine HI.out.mono ?_
                  rintro e1 w5 ⟨rfl, hb5⟩
                  have HB5 := Lib.hid (HBX.out.trans (hb5.mono hzx))
                  clear hb5
                  go_wp2_with fail
                  refine ⟨⟨_, q + 1, rfl, ?_, by go_num, by omega, ?_, HB5.out⟩, by simp [intOf]; omega⟩
                  · rw [HFN2.out]; go_num
                  · rw [ba_cat, ba_cat, ba_cat, ba_cat, HS2.out, HIN.out, HM.out, HPT.out, HPN2.out, HPRE.out, lineB, lineB, Lib.join_cons, Lib.join_nil]
                    simp
          · have hql : q = l.length := by omega
            have lk : ¬ (q : Int) < l.length := by omega
            have HX := Lib.hid (show S.data.toList = printL k l by rw [hS, hql, List.take_length])
            have HY := Lib.hid (show (flatL (l.take q)).length = (flatL l).length by rw [hql, List.take_length])
            have HBW := Lib.hid hbw
            clear hS hbw hql hln hfn0 hpl0 hfl0
            go_wp2_with fail
            go_ret2
            exact ⟨ret_si (ba_ext (by rw [HX.out])) (by rw [HY.out]), HBW.out⟩
end Go.Proofs.YtaffbnjdlgcaiaaDoor
end

section
/- Layer 10, the reference: the walks of Print and Canon. -/
set_option linter.unusedVariables false
set_option linter.unusedSimpArgs false
namespace Go.Proofs.YtaffbnjdlgcaiaaDoor
open Go.RowKit

set_option maxRecDepth 100000 in
set_option maxHeartbeats 2000000 in
theorem ref10_Print (l : List NodeL) (A : Option Addr) (c : Nat) (w : World) (B : Nat) (hB : B ≤ w.heap.size) (hsm : cntL l ≤ 100000) (hok : ROk w B A l) (hfit : fitNs l) :
    Calls Tryd.prog 12 #[.slice A l.length c] w fun e w' => e = .returned (.tuple #[.string ⟨(layL l).1.toArray⟩, .int .i64 (layL l).2]) ∧ Below w.heap.size w w' := by
  have HC := Lib.hid (ref9_Check l A c w B hsm hB hok hfit)
  have HOK := Lib.hid hok
  clear hfit hok
  by_cases hck : checkL 0 l = 0
  · have hps := printL_small l 0 hck (by omega)
    have hfs := flat_small l
    have HCK := Lib.hid hck
    rw [hck] at HC
    have HLY := Lib.hid (show layL l = if 8192 < (flatL l).length ∨ 65536 < (printL 0 l).length then ([], 6) else (printL 0 l, 0) by unfold layL; rw [if_neg (by simp [hck])])
    have HTX := Lib.hid (fun W (hz : B ≤ W.heap.size) (h : ROk W B A l) => ref10_text (cntL l + 1) l 0 A c W B (by omega) hsm (by omega) hck hz h (by omega) (by omega))
    obtain ⟨ST, hST⟩ : ∃ ST : ByteArray, ST = ⟨(printL 0 l).toArray⟩ := ⟨_, rfl⟩
    rw [← hST] at HTX
    have hSTs : ST.size = (printL 0 l).length := by rw [hST]; simp [← ba_len]
    have HST := Lib.hid hST
    have hfb : (flatL l).length ≤ 300000 := by omega
    have HSS := Lib.hid hSTs
    clear hck hps hST hSTs
    go_enter Tryd.func12, Tryd.ntmps12
    go_wp2_with fail
    refine HC.out.mono ?_
    rintro e1 w1 ⟨rfl, hb1⟩
    have hz1 : B ≤ w1.heap.size := Nat.le_trans hB hb1.size
    have HT1 := Lib.hid (HTX.out w1 hz1 (HOK.out.below (hb1.mono hB)))
    have HB1 := Lib.hid hb1
    clear hb1
    go_wp2_with fail
    refine HT1.out.mono ?_
    rintro e2 w2 ⟨rfl, hb2⟩
    have HB2 := Lib.hid (HB1.out.trans (hb2.mono HB1.out.size))
    clear hb2
    by_cases h8 : 8192 < (flatL l).length
    · have HR := Lib.hid (show layL l = ([], 6) by rw [HLY.out, if_pos (Or.inl h8)])
      have h8' : (8192 : Int) < (flatL l).length := by omega
      go_wp2_with fail
      go_ret2
      exact ⟨by rw [HR.out]; rfl, HB2.out⟩
    · have h8' : ¬ (8192 : Int) < (flatL l).length := by omega
      by_cases h6 : 65536 < (printL 0 l).length
      · have HR := Lib.hid (show layL l = ([], 6) by rw [HLY.out, if_pos (Or.inr h6)])
        have h6' : (65536 : Int) < ST.size := by have := HSS.out; omega
        go_wp2_with fail
        go_ret2
        exact ⟨by rw [HR.out]; rfl, HB2.out⟩
      · have HR := Lib.hid (show layL l = (printL 0 l, 0) by rw [HLY.out, if_neg (by omega)])
        have h6' : ¬ (65536 : Int) < ST.size := by have := HSS.out; omega
        go_wp2_with fail
        go_ret2
        exact ⟨by rw [HR.out, HST.out]; rfl, HB2.out⟩
  · have HR := Lib.hid (show layL l = ([], checkL 0 l) by unfold layL; rw [if_pos hck])
    have hne : (checkL 0 l == 0) = false := beq_false_of_ne hck
    generalize checkL 0 l = x at *
    have HX := Lib.hid hck
    clear hck
    go_enter Tryd.func12, Tryd.ntmps12
    go_wp2_with fail
    refine HC.out.mono ?_
    rintro e1 w1 ⟨rfl, hb1⟩
    have HB1 := Lib.hid hb1
    clear hb1
    go_wp2_with fail
    go_ret2
    exact ⟨by rw [HR.out]; rfl, HB1.out⟩

set_option maxRecDepth 100000 in
theorem ref10_Canon (s : ByteArray) (w : World) (hs : s.data.toList.length ≤ 100000) (hcn : (treeL s.data.toList).err = 0 → checkL 0 (treeL s.data.toList).nodes = 0 ∧ cntL (treeL s.data.toList).nodes ≤ 100000) :
    Calls Tryd.prog 14 #[.string s] w fun e w' => e = .returned (.tuple #[.string ⟨(canonL s.data.toList).1.toArray⟩, .int .i64 (canonL s.data.toList).2.1, .int .i64 (canonL s.data.toList).2.2]) ∧ Below w.heap.size w w' := by
  have HP := Lib.hid (ref9_Parse s w (by unfold maxLen; rw [ba_len] at hs; omega))
  have HCN := Lib.hid hcn
  have hcl : canonL s.data.toList = if (treeL s.data.toList).err ≠ 0 then ([], (treeL s.data.toList).pos, (treeL s.data.toList).err) else ((layL (treeL s.data.toList).nodes).1, 0, (layL (treeL s.data.toList).nodes).2) := rfl
  have HCL := Lib.hid hcl
  clear hcn hcl hs
  generalize canonL s.data.toList = C at *
  generalize treeL s.data.toList = R at *
  obtain ⟨nds, pos, err⟩ := R
  simp only at HCN HCL
  by_cases he : err = 0
  · subst he
    have HL := Lib.hid (show C = ((layL nds).1, 0, (layL nds).2) by rw [HCL.out, if_neg (by simp)])
    obtain ⟨hck, hcnt⟩ := HCN.out rfl
    have HF := Lib.hid (fit_of_checkL nds 0 hck hcnt)
    clear hck
    go_enter Tryd.func14, Tryd.ntmps14
    go_wp2_with fail
    refine HP.out.mono ?_
    rintro e1 w1 ⟨A, c, kcs, rfl, _, hr, hn, hb1⟩
    have hz := hb1.size
    have HPR := Lib.hid (ref10_Print nds A c w1 w1.heap.size (Nat.le_refl _) hcnt (ROk.of_parse hr hn) HF.out)
    have HB1 := Lib.hid hb1
    clear hr hn hb1
    go_wp2_with fail
    refine HPR.out.mono ?_
    rintro e2 w2 ⟨rfl, hb2⟩
    have HB2 := Lib.hid (HB1.out.trans (hb2.mono hz))
    clear hb2
    go_wp2_with fail
    go_ret3
    exact ⟨by rw [HL.out]; rfl, HB2.out⟩
  · have HL := Lib.hid (show C = ([], pos, err) by rw [HCL.out, if_pos he])
    have hne : (err == 0) = false := beq_false_of_ne he
    have HE := Lib.hid he
    clear he
    go_enter Tryd.func14, Tryd.ntmps14
    go_wp2_with fail
    refine HP.out.mono ?_
    rintro e1 w1 ⟨A, c, kcs, rfl, _, hr, hn, hb1⟩
    have HB1 := Lib.hid hb1
    clear hr hn hb1
    go_wp2_with fail
    go_ret3
    exact ⟨by rw [HL.out]; rfl, HB1.out⟩

end Go.Proofs.YtaffbnjdlgcaiaaDoor
end

section
/- The law LayoutDoes walked: it answers true at any items, and any text. -/
set_option linter.unusedVariables false
set_option linter.unusedSimpArgs false
namespace Go.Proofs.YtaffbnjdlgcaiaaDoor
open Go.RowKit

set_option maxRecDepth 100000 in
set_option maxHeartbeats 4000000 in
theorem walk_LayoutDoes (w : World) (ht : Tab w) (hsp : SpaceTab w) (A : Option Addr) (c : Nat) (l : List NodeL) (hok : ROk w w.heap.size A l) (hlen : l.length ≤ maxLen) (hfit : fitNs l) (s : ByteArray) (hs : s.size ≤ maxLen) :
    Calls Tryd.prog 3 #[.slice A l.length c, .string s] w fun e w' => e = .returned (.bool true) ∧ Below w.heap.size w w' := by
  have hs' := hs
  unfold maxLen at hs'
  have HV := Lib.hid (law10_live w ht hsp)
  have hg1 := hsp.lt
  have hg2 := ht.lt
  have HT := Lib.hid ht
  have HS := Lib.hid hsp
  have HOK := Lib.hid hok
  obtain ⟨a1, a2, a3⟩ := left_geL l 60 12 (by omega)
  have HFew := Lib.hid (fun W (hb : Below w.heap.size w W) => ref9_FewG l A c W w.heap.size 60 (by omega) (by omega) hlen hfit hb.size (HOK.out.below hb))
  by_cases hf : 0 ≤ leftL 60 12 l
  case neg =>
    rw [decide_eq_false hf] at HFew
    clear ht hsp hok hfit hlen a1 a2 a3 hf
    go_enter Tryd.func3, Tryd.ntmps3
    go_wp2_with fail
    refine HV.out.mono ?_
    rintro e w1 ⟨rfl, hb1⟩
    have HB1 := Lib.hid hb1
    clear hb1
    go_wp2_with fail
    refine (HFew.out _ HB1.out).mono ?_
    rintro e w2 ⟨rfl, hb2⟩
    have HB2 := Lib.hid (HB1.out.trans (hb2.mono HB1.out.size))
    clear hb2
    go_wp2_with fail
    go_ret
    exact ⟨rfl, HB2.out⟩
  rw [decide_eq_true hf] at HFew
  obtain ⟨f1, f2⟩ := a3 hf
  have hcnt : cntL l ≤ 100000 := by omega
  by_cases hbig : 400 < s.size
  · clear ht hsp hok hfit hlen a1 a2 a3 hf f1 f2
    go_enter Tryd.func3, Tryd.ntmps3
    go_wp2_with fail
    refine HV.out.mono ?_
    rintro e w1 ⟨rfl, hb1⟩
    have HB1 := Lib.hid hb1
    clear hb1
    go_wp2_with fail
    refine (HFew.out _ HB1.out).mono ?_
    rintro e w2 ⟨rfl, hb2⟩
    have HB2 := Lib.hid (HB1.out.trans (hb2.mono HB1.out.size))
    clear hb2
    go_wp2_with fail
    go_ret
    exact ⟨rfl, HB2.out⟩
  have hls : s.data.toList.length ≤ 400 := by rw [ba_len]; omega
  have HPR := Lib.hid (fun W (hb : Below w.heap.size w W) => layout_Print l A c W hcnt ((HOK.out.below hb).wide hb.size) hfit (HT.out.below hb) (HS.out.below hb) (by have := hb.size; omega) (by have := hb.size; omega))
  have HPR' := Lib.hid (fun W (hb : Below w.heap.size w W) => ref10_Print l A c W w.heap.size hb.size hcnt (HOK.out.below hb) hfit)
  have HCA := Lib.hid (fun (W : World) (hb : Below w.heap.size w W) => layout_Canon s W (by omega) (canon_in _ hls) (HT.out.below hb) (HS.out.below hb) (by have := hb.size; omega) (by have := hb.size; omega))
  have HCA' := Lib.hid (fun (W : World) => ref10_Canon s W (by omega) (canon_in _ hls))
  generalize layL l = Y at *
  generalize canonL s.data.toList = C at *
  obtain ⟨a, e⟩ := Y
  obtain ⟨b, p, f⟩ := C
  simp only at HPR HPR' HCA HCA'
  clear ht hsp hok hfit hlen a1 a2 a3 hf f1 f2 hls
  go_enter Tryd.func3, Tryd.ntmps3
  go_wp2_with fail
  refine HV.out.mono ?_
  rintro e w1 ⟨rfl, hb1⟩
  have HB1 := Lib.hid hb1
  clear hb1
  go_wp2_with fail
  refine (HFew.out _ HB1.out).mono ?_
  rintro e w2 ⟨rfl, hb2⟩
  have HB2 := Lib.hid (HB1.out.trans (hb2.mono HB1.out.size))
  clear hb2
  go_wp2_with fail
  refine (HPR.out _ HB2.out).mono ?_
  rintro e w3 ⟨rfl, hb3⟩
  have HB3 := Lib.hid (HB2.out.trans (hb3.mono HB2.out.size))
  clear hb3
  go_wp2_with fail
  refine (HPR'.out _ HB3.out).mono ?_
  rintro e w4 ⟨rfl, hb4⟩
  have HB4 := Lib.hid (HB3.out.trans (hb4.mono HB3.out.size))
  clear hb4
  go_wp2_with fail
  refine (HCA.out _ HB4.out).mono ?_
  rintro e w5 ⟨rfl, hb5⟩
  have HB5 := Lib.hid (HB4.out.trans (hb5.mono HB4.out.size))
  clear hb5
  go_wp2_with fail
  refine (HCA'.out _).mono ?_
  rintro e w6 ⟨rfl, hb6⟩
  have HB6 := Lib.hid (HB5.out.trans (hb6.mono HB5.out.size))
  clear hb6
  go_wp2_with fail
  go_ret
  exact ⟨by first | rfl | exact ret_bool (by simp), HB6.out⟩

end Go.Proofs.YtaffbnjdlgcaiaaDoor
end
