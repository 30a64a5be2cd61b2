/- Layer 9 (tree): what memory holds between two tokens. -/
import Derived.Test.YtjbniichcopnlaaTreeP3
import Derived.Test.YtjbniichcopnlaaReadToks
set_option linter.unusedVariables false
set_option linter.unusedSimpArgs false
namespace Go.Proofs.Ytjbniichcopnlaa
open Go.RowKit

structure Fr where
  b : Nat
  f : FrameL
  A : Option Addr
  c : Nat
structure It where
  b : Nat
  i : ItemL
  A : Option Addr
  c : Nat
def ownB (A : Option Addr) : List Nat := (A.map Addr.block).toList
theorem ownBlock_slice (A : Option Addr) (n c : Nat) : Value.ownBlock (.slice A n c) = A.map Addr.block := by cases A <;> rfl
theorem mem_ownB {A : Option Addr} {n c x : Nat} : x ∈ ownB A ↔ Value.ownBlock (.slice A n c) = some x := by
  rw [ownBlock_slice]; unfold ownB; simp
def Fr.ms (x : Fr) : List Nat := x.b :: ownB x.A
def It.ms (x : It) : List Nat := x.b :: ownB x.A
def stM (st : List Fr) : List Nat := st.flatMap Fr.ms
def ioM : Option It → List Nat | none => [] | some x => x.ms
theorem stM_cons (x : Fr) (r : List Fr) : stM (x :: r) = x.ms ++ stM r := rfl

def FrameAt (w : World) (M : Nat → Prop) (B0 : Nat) (x : Fr) (up : Option Nat) : Prop :=
  ∃ Aw cw bl kcs, Open6 w x.b ⟨x.f.name.toArray⟩ x.f.pos Aw x.f.words.length cw bl x.A x.f.kids.length x.c up ∧ (up ≠ none → bl = true) ∧ NilOk Aw cw ∧
    ReadsM w M 4 Aw x.f.words.length (x.f.words.flatMap WordL.cells) ∧ w.ownsRow B0 40 5 (.slice x.A x.f.kids.length x.c) x.f.kids.length kcs ∧ NodesOk w M x.f.kids kcs
def StackAt (w : World) (M : Nat → Prop) (B0 : Nat) : List Fr → Prop
  | [] => True
  | x :: r => FrameAt w M B0 x (r.head?.map Fr.b) ∧ StackAt w M B0 r
def ItemAt (w : World) (B0 : Nat) (x : It) (up : Option Nat) : Prop :=
  Open6 w x.b ⟨x.i.name.toArray⟩ x.i.pos x.A x.i.words.length x.c false none 0 0 up ∧ w.ownsRow B0 62 4 (.slice x.A x.i.words.length x.c) x.i.words.length (x.i.words.flatMap WordL.cells)

/-- Block x is not touched. -/
def Safe (C : List (Nat × Nat)) (row : Option Nat) (x : Nat) : Prop := (∀ j, (x, j) ∉ C) ∧ row ≠ some x
theorem Step.same {w w' : World} {C : List (Nat × Nat)} {row : Option Nat} (h : Step w w' C row) {x : Nat} (hx : x < w.heap.size) (hs : Safe C row x) : w'.heap[x]? = w.heap[x]? := h.block x hx hs.1 (fun e => hs.2 e.symm)
theorem Step.own' {w w' : World} {C : List (Nat × Nat)} {row : Option Nat} (h : Step w w' C row) {B0 : Nat} {e : TypeId} {size n m c : Nat} {A : Option Addr} {xs : List Value} (ho : w.ownsRow B0 e size (.slice A m c) n xs) (hs : ∀ x ∈ ownB A, Safe C row x) :
    w'.ownsRow B0 e size (.slice A m c) n xs := by
  refine h.own ho (fun k hk => (hs k (mem_ownB.2 hk)).1) ?_
  cases hb : Value.ownBlock (.slice A m c) with
  | none => exact .inl rfl
  | some k => exact .inr (fun e => (hs k (mem_ownB.2 hb)).2 e.symm)
section
variable {w w' : World} {M M' : Nat → Prop} {C : List (Nat × Nat)} {row : Option Nat} {B0 : Nat}
theorem FrameAt.keep (h : Step w w' C row) (hM : ∀ x, M x → x < w.heap.size ∧ Safe C row x) (hm : ∀ x, M x → M' x) {x : Fr} {up : Option Nat} (hx : ∀ y ∈ x.ms, Safe C row y) (hf : FrameAt w M B0 x up) : FrameAt w' M' B0 x up := by
  obtain ⟨Aw, cw, bl, kcs, h1, h2, h3, h4, h5, h6⟩ := hf
  have hc : ∀ p : Addr, M p.block → w'.cell? p = w.cell? p := fun p hp => World.cell?_of_block (h.same (hM _ hp).1 (hM _ hp).2)
  have hb := hx x.b (by simp [Fr.ms])
  exact ⟨Aw, cw, bl, kcs, h1.keep h hb.1 hb.2, h2, h3, h4.keep hm hc, h.own' h5 (fun y hy => hx y (by simp [Fr.ms, hy])), NodesOk.keep hm hc _ _ h6⟩
theorem StackAt.keep (h : Step w w' C row) (hM : ∀ x, M x → x < w.heap.size ∧ Safe C row x) (hm : ∀ x, M x → M' x) : ∀ {st : List Fr}, (∀ y ∈ stM st, Safe C row y) → StackAt w M B0 st → StackAt w' M' B0 st
  | [], _, _ => trivial
  | x :: r, hs, hst => ⟨hst.1.keep h hM hm (fun y hy => hs y (by rw [stM_cons]; simp [hy])), StackAt.keep h hM hm (fun y hy => hs y (by rw [stM_cons]; simp [hy])) hst.2⟩
theorem ItemAt.keep (h : Step w w' C row) {x : It} {up : Option Nat} (hx : ∀ y ∈ x.ms, Safe C row y) (hi : ItemAt w B0 x up) : ItemAt w' B0 x up := by
  have hb := hx x.b (by simp [It.ms])
  exact ⟨hi.1.keep h hb.1 hb.2, h.own' hi.2 (fun y hy => hx y (by simp [It.ms, hy]))⟩
theorem below_of_step {w0 : World} (hb : Below B0 w0 w) (h : Step w w' C row) (hB : B0 ≤ w.heap.size) (hs : ∀ x, x < B0 → Safe C row x) : Below B0 w0 w' :=
  ⟨h.os.trans hb.os, h.tape.trans hb.tape, h.output.trans hb.output, Nat.le_trans hb.size h.size, fun k hk => (h.same (by omega) (hs k hk)).trans (hb.block k hk)⟩
end
theorem safe_of {C : List (Nat × Nat)} {row : Option Nat} (T : List Nat) (hC : ∀ p ∈ C, p.1 ∈ T) (hr : ∀ y, row = some y → y ∈ T) {x : Nat} (hx : x ∉ T) : Safe C row x :=
  ⟨fun j hj => hx (hC _ hj), fun e => hx (hr _ e)⟩
theorem reads_of_own {w : World} {B0 : Nat} {e : TypeId} {size n c : Nat} {A : Option Addr} {xs : List Value} (h : w.ownsRow B0 e size (.slice A n c) n xs) (M : Nat → Prop) (hM : ∀ x ∈ ownB A, M x) : ReadsM w M size A n xs ∧ NilOk A c := by
  rcases h.2 with ⟨hv, hn⟩ | ⟨g, cap, cur, hv, _⟩
  · cases hv
    exact ⟨⟨h.1, fun hp => by omega⟩, fun _ => rfl⟩
  · cases hv
    exact ⟨⟨h.1, fun _ => ⟨_, rfl, hM g (by simp [ownB]), fun j u hu => h.cells (g := g) rfl j u hu⟩⟩, fun e => by cases e⟩

/-- What holds between two tokens: the frames' blocks, the item's; M: the blocks that no one writes any more. -/
structure PI (w0 w : World) (M : Nat → Prop) (B0 r rb k : Nat) (st : List Fr) (io : Option It) : Prop where
  below : Below B0 w0 w
  stack : StackAt w M B0 st
  item : ∀ x, io = some x → ItemAt w B0 x (st.head?.map Fr.b)
  r0 : w.cell? ⟨r, 0, none⟩ = some (.pointer ((st.head?.map Fr.b).map fun b => ⟨b, 0, none⟩))
  r1 : w.cell? ⟨r, 1, none⟩ = some (.pointer ((io.map It.b).map fun b => ⟨b, 0, none⟩))
  r2 : w.cell? ⟨r, 2, none⟩ = some (.int .i64 ((st.length : Int) - 1))
  rf : ∀ j, w.frozen? ⟨r, j, none⟩ = false
  nd : (r :: (stM st ++ ioM io)).Nodup
  bd : ∀ x ∈ r :: (stM st ++ ioM io), B0 ≤ x ∧ x < w.heap.size ∧ ¬ M x
  mb : ∀ x, M x → B0 ≤ x ∧ x < w.heap.size
  last : st.getLast?.map Fr.b = some rb
  kids : ∀ x ∈ st, x.f.kids.length ≤ k
  size : B0 ≤ w.heap.size
  words : ∀ x, io = some x → x.i.words.length ≤ 8
  len : st.length ≤ 7
  shp : ∀ x ∈ st, ∃ cs t, w.heap[x.b]? = some (.cells cs t (0, 0))
  ish : ∀ x, io = some x → ∃ cs t, w.heap[x.b]? = some (.cells cs t (0, 0))
theorem mem_stM {x : Fr} {st : List Fr} (h : x ∈ st) : x.b ∈ stM st := List.mem_flatMap.2 ⟨x, h, by simp [Fr.ms]⟩
def PInv (w0 w : World) (B0 r rb k : Nat) (fs : List FrameL) (it : Option ItemL) : Prop := ∃ M st io, fs = st.map Fr.f ∧ it = io.map It.i ∧ PI w0 w M B0 r rb k st io
def tokV (t : Tok) : Value := .agg #[.int .i64 t.kind, .int .i64 t.pos, .int .i64 t.n, .string ⟨t.s.toArray⟩]
def StepPost (w0 w : World) (B0 r rb k : Nat) (R : StepR) (e : Ending) (w' : World) : Prop :=
  match R with
  | .bad c => c ≠ 0 ∧ e = .returned (.int .i64 c) ∧ Step w w' [] none
  | .fine fs it => e = .returned (.int .i64 0) ∧ PInv w0 w' B0 r rb (k + 1) fs it

/-! ### A token where an item begins -/
theorem begins_name {w0 w : World} {M : Nat → Prop} {B0 r rb k : Nat} {st : List Fr} (h : PI w0 w M B0 r rb k st none) (t : Tok) (ht : t.kind = 1) :
    Calls Try.prog 21 #[.pointer (some ⟨r, 0, none⟩), tokV t] w (StepPost w0 w B0 r rb k (.fine (st.map Fr.f) (some ⟨t.s, t.pos, []⟩))) := by
  cases st with
  | nil => have := h.last; simp at this
  | cons x rest =>
    have hr0 := h.r0
    simp only [List.head?_cons, Option.map_some] at hr0
    unfold tokV
    rw [ht]
    refine (tree_begins_name w r x.b t.pos t.n ⟨t.s.toArray⟩ _ hr0 h.r1 (h.rf 1)).mono ?_
    rintro e w' ⟨rfl, g, hg1, hg2, hO, hr1, hshp, hS⟩
    have hnd := h.nd
    have hbd := h.bd
    have hsz := h.size
    have lr := (hbd r (by simp)).2.1
    have hrB := (hbd r (by simp)).1
    have hrM := (hbd r (by simp)).2.2
    have hsafe : ∀ y, y ≠ r → Safe [(r, 1)] none y := fun y hy => safe_of [r] (by simp) (by simp) (by simpa using hy)
    have hM : ∀ y, M y → y < w.heap.size ∧ Safe [(r, 1)] none y := fun y hy => ⟨(h.mb y hy).2, hsafe y (fun e => hrM (e ▸ hy))⟩
    have hstr : ∀ y ∈ stM (x :: rest), y ≠ r := by
      intro y hy e; subst e
      exact (List.nodup_cons.1 hnd).1 (by simp [hy])
    have hw' := hS.size
    refine ⟨rfl, M, x :: rest, some ⟨g, ⟨t.s, t.pos, []⟩, none, 0⟩, rfl, rfl, ?_⟩
    exact
      { below := below_of_step h.below hS hsz (fun y hy => hsafe y (by omega))
        stack := h.stack.keep hS hM (fun _ hy => hy) (fun y hy => hsafe y (hstr y hy))
        item := fun y hy => by
          cases hy
          exact ⟨hO, ⟨rfl, .inl ⟨rfl, rfl⟩⟩⟩
        r0 := (hS.cell r lr (by simp) 0 (by simp)).trans h.r0
        r1 := hr1
        r2 := (hS.cell r lr (by simp) 2 (by simp)).trans h.r2
        rf := fun j => (hS.froz r lr (by simp) j).trans (h.rf j)
        nd := by
          have hg : g ∉ r :: stM (x :: rest) := fun hm => by
            have := (hbd g (by simp only [List.mem_cons, List.mem_append] at hm ⊢; rcases hm with hm | hm <;> simp [hm])).2.1
            omega
          have hn2 : (r :: stM (x :: rest)).Nodup := by simpa [ioM] using hnd
          show (r :: (stM (x :: rest) ++ [g])).Nodup
          rw [← List.cons_append, List.nodup_append]
          exact ⟨hn2, by simp, fun a ha b hb => by simp at hb; subst hb; exact fun e => hg (e ▸ ha)⟩
        bd := fun y hy => by
          have : y ∈ r :: (stM (x :: rest) ++ ioM none) ∨ y = g := by simp [ioM, It.ms, ownB] at hy ⊢; rcases hy with hy | hy | hy <;> simp [hy]
          rcases this with hm | rfl
          · obtain ⟨a, b, c⟩ := hbd y hm; exact ⟨a, by omega, c⟩
          · exact ⟨by omega, hg2, fun hm => by have := (h.mb _ hm).2; omega⟩
        mb := fun y hy => by obtain ⟨a, b⟩ := h.mb y hy; exact ⟨a, by omega⟩
        last := h.last
        kids := fun y hy => by have := h.kids y hy; omega
        size := by omega
        words := fun y hy => by cases hy; simp
        len := h.len
        shp := fun z hz => shape_keep hS (h.shp z hz) (by simp)
        ish := fun z hz => by cases hz; exact hshp }

end Go.Proofs.Ytjbniichcopnlaa
