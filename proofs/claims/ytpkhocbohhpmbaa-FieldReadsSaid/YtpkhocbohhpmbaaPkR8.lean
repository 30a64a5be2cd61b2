/- Layer 9 (tree): the walk of goes, all but the words. Then: Slices that read as tokens. Then: Layer 9 (tree): what memory holds between two tokens. -/
import Derived.Test.YtpkhocbohhpmbaaPkR7
import Derived.Test.YtpkhocbohhpmbaaPkR3
namespace Go.Proofs.Ytpkhocbohhpmbaa
section
set_option linter.unusedVariables false
set_option linter.unusedSimpArgs false
open Go.RowKit
open Go.Lib renaming hid → zh
attribute [local go_sem ↓] Go.wp_at_zero Go.wp_at_succ
set_option maxHeartbeats 2000000 in
theorem tree_goes_long (w : World) (r bi : Nat) (K P N : Int) (S : ByteArray) (Aw : Option Addr) (cw : Nat) (hr1 : w.cell? ⟨r,1,none⟩ = some (.pointer (some ⟨bi,0,none⟩))) (h2 : w.cell? ⟨bi,2,none⟩ = some (.slice Aw 8 cw)) (hK : K = 1 ∨ K = 2) :
    Calls Try.prog 46 #[.pointer (some ⟨r,0,none⟩), .agg #[.int .i64 K, .int .i64 P, .int .i64 N, .string S]] w fun e w' => e = .returned (.int .i64 6) ∧ Step w w' [] none:=by
  have lr:=World.block_lt_of_cell? w _ hr1
  have li:=World.block_lt_of_cell? w _ h2
  simp only at lr li
  rcases hK with rfl | rfl
  all_goals
    go_enter Try.func46,Try.ntmps46
    go_wp2
    go_ret
    exact ⟨rfl,by (repeat (first | exact Step.refl _ _ _ | assumption | refine Step.drew ?_ | refine Step.alloc ?_ _ | refine Step.setCell ?_ (by first | exact Or.inr (Or.inl (by simp)) | exact Or.inl (by simp) | exact Or.inl (by simp;omega) | exact Or.inl (by omega)) _))⟩
set_option maxHeartbeats 2000000 in
theorem tree_goes_bad (w : World) (r : Nat) (K P N : Int) (S : ByteArray) (hK : K ≠ 1 ∧ K ≠ 2 ∧ K ≠ 3 ∧ K ≠ 5) :
    Calls Try.prog 46 #[.pointer (some ⟨r,0,none⟩), .agg #[.int .i64 K, .int .i64 P, .int .i64 N, .string S]] w fun e w' => e = .returned (.int .i64 5) ∧ Step w w' [] none:=by
  have k1 : (K == 1) = false:=beq_false_of_ne hK.1
  have k2 : (K == 2) = false:=beq_false_of_ne hK.2.1
  have k3 : (K == 3) = false:=beq_false_of_ne hK.2.2.1
  have k5 : (K == 5) = false:=beq_false_of_ne hK.2.2.2
  clear hK
  go_enter Try.func46,Try.ntmps46
  go_wp2
  go_ret
  exact ⟨rfl,by (repeat (first | exact Step.refl _ _ _ | assumption | refine Step.drew ?_ | refine Step.alloc ?_ _ | refine Step.setCell ?_ (by first | exact Or.inr (Or.inl (by simp)) | exact Or.inl (by simp) | exact Or.inl (by simp;omega) | exact Or.inl (by omega)) _))⟩
set_option maxHeartbeats 2000000 in
theorem tree_goes_deep (w : World) (r : Nat) (P N : Int) (S : ByteArray) (hr2 : w.cell? ⟨r,2,none⟩ = some (.int .i64 6)) :
    Calls Try.prog 46 #[.pointer (some ⟨r,0,none⟩), .agg #[.int .i64 3, .int .i64 P, .int .i64 N, .string S]] w fun e w' => e = .returned (.int .i64 7) ∧ Step w w' [] none:=by
  have lr:=World.block_lt_of_cell? w _ hr2
  simp only at lr
  go_enter Try.func46,Try.ntmps46
  go_wp2
  go_ret
  exact ⟨rfl,by (repeat (first | exact Step.refl _ _ _ | assumption | refine Step.drew ?_ | refine Step.alloc ?_ _ | refine Step.setCell ?_ (by first | exact Or.inr (Or.inl (by simp)) | exact Or.inl (by simp) | exact Or.inl (by simp;omega) | exact Or.inl (by omega)) _))⟩
set_option maxRecDepth 100000 in
set_option maxHeartbeats 2000000 in
theorem tree_goes_open (w : World) (r bi : Nat) (D P N : Int) (S : ByteArray) (v0 v3 : Value) (hr0 : w.cell? ⟨r,0,none⟩ = some v0) (hr1 : w.cell? ⟨r,1,none⟩ = some (.pointer (some ⟨bi,0,none⟩))) (hr2 : w.cell? ⟨r,2,none⟩ = some (.int .i64 D)) (hD : 0 ≤ D ∧ D < 6)
    (fr : ∀ j,w.frozen? ⟨r,j,none⟩ = false) (h3 : w.cell? ⟨bi,3,none⟩ = some v3) (f3 : w.frozen? ⟨bi,3,none⟩ = false) (hrb : r ≠ bi) :
    Calls Try.prog 46 #[.pointer (some ⟨r,0,none⟩), .agg #[.int .i64 3, .int .i64 P, .int .i64 N, .string S]] w fun e w' =>
      e = .returned (.int .i64 0) ∧ w'.cell? ⟨r,0,none⟩ = some (.pointer (some ⟨bi,0,none⟩)) ∧ w'.cell? ⟨r,1,none⟩ = some (.pointer none) ∧ w'.cell? ⟨r,2,none⟩ = some (.int .i64 (D + 1)) ∧ w'.cell? ⟨bi,3,none⟩ = some (.bool true) ∧
        Step w w' [(r,0),(r,1),(r,2),(bi,3)] none:=by
  have lr:=World.block_lt_of_cell? w _ hr0
  have lb:=World.block_lt_of_cell? w _ h3
  simp only at lr lb
  have fr0:=fr 0
  have fr1:=fr 1
  have fr2:=fr 2
  have hbr : bi ≠ r:=fun h => hrb h.symm
  have hD6 : (D == 6) = false:=beq_false_of_ne (by omega)
  have hD1 : IntKind.i64.wrap (D + 1) = D + 1:=by rw [IntKind.wrap_i64];omega
  go_enter Try.func46,Try.ntmps46
  go_wp2
  go_ret
  refine ⟨rfl,?_,?_,?_,?_,by (repeat (first | exact Step.refl _ _ _ | assumption | refine Step.drew ?_ | refine Step.alloc ?_ _ | refine Step.setCell ?_ (by first | exact Or.inr (Or.inl (by simp)) | exact Or.inl (by simp) | exact Or.inl (by simp;omega) | exact Or.inl (by omega)) _))⟩
  · rw [World.cell?_alloc_lt _ _ _ (by simpa using lr),World.cell?_setCell_other _ _ _ _ (by simp)]
    exact World.cell?_setCell_same _ _ _ (by rw [World.cell?_setCell_other _ _ _ _ (by simp [hrb]),World.cell?_setCell_other _ _ _ _ (by simp)];exact hr0)
  · rw [World.cell?_alloc_lt _ _ _ (by simpa using lr)]
    exact World.cell?_setCell_same _ _ _ (by rw [World.cell?_setCell_other _ _ _ _ (by simp),World.cell?_setCell_other _ _ _ _ (by simp [hrb]),World.cell?_setCell_other _ _ _ _ (by simp)];exact hr1)
  · rw [World.cell?_alloc_lt _ _ _ (by simpa using lr),World.cell?_setCell_other _ _ _ _ (by simp),World.cell?_setCell_other _ _ _ _ (by simp),World.cell?_setCell_other _ _ _ _ (by simp [hrb])]
    exact World.cell?_setCell_same _ _ _ hr2
  · rw [World.cell?_alloc_lt _ _ _ (by simpa using lb),World.cell?_setCell_other _ _ _ _ (by simp [hbr]),World.cell?_setCell_other _ _ _ _ (by simp [hbr])]
    exact World.cell?_setCell_same _ _ _ (by rw [World.cell?_setCell_other _ _ _ _ (by simp [hbr])];exact h3)
set_option maxRecDepth 100000 in
set_option maxHeartbeats 2000000 in
/-- An item's end: what it is stands behind its block's kids. -/
theorem tree_goes_end (w : World) (r b0 bi B0 n c : Nat) (A : Option Addr) (kcs : List Value) (P' N' : Int) (S' S : ByteArray) (P : Int) (Aw Ak : Option Addr) (nw cw nk ck : Nat) (bl : Bool) (up : Option Nat)
    (hr0 : w.cell? ⟨r,0,none⟩ = some (.pointer (some ⟨b0,0,none⟩))) (hr1 : w.cell? ⟨r,1,none⟩ = some (.pointer (some ⟨bi,0,none⟩))) (fr : ∀ j,w.frozen? ⟨r,j,none⟩ = false)
    (hb : Open6 w bi S P Aw nw cw bl Ak nk ck up)
    (hk : w.cell? ⟨b0,4,none⟩ = some (.slice A n c)) (fk : w.frozen? ⟨b0,4,none⟩ = false) (hown : w.ownsRow B0 25 5 (.slice A n c) n kcs)
    (hn : n ≤ 100000) (hB0 : B0 ≤ w.heap.size)
    (ar : Value.ownBlock (.slice A n c) ≠ some r) (a0 : Value.ownBlock (.slice A n c) ≠ some b0) (ai : Value.ownBlock (.slice A n c) ≠ some bi) (hrb : r ≠ b0) (hrbi : r ≠ bi) (hb0i : b0 ≠ bi) :
    Calls Try.prog 46 #[.pointer (some ⟨r,0,none⟩), .agg #[.int .i64 5, .int .i64 P', .int .i64 N', .string S']] w fun e w' => e = .returned (.int .i64 0) ∧
      ∃ g cap,w'.ownsRow B0 25 5 (.slice (some ⟨g,0,none⟩) (n + 1) cap) (n + 1) (kcs ++ [.string S, .int .i64 P, .slice Aw nw cw, .bool bl, .slice Ak nk ck]) ∧
        (Value.ownBlock (.slice A n c) = some g ∨ w.heap.size ≤ g) ∧ g < w'.heap.size ∧ w'.cell? ⟨b0,4,none⟩ = some (.slice (some ⟨g,0,none⟩) (n + 1) cap) ∧ w'.cell? ⟨r,1,none⟩ = some (.pointer none) ∧
        Step w w' [(b0,4),(r,1)] (Value.ownBlock (.slice A n c)):=by
  have lr:=World.block_lt_of_cell? w _ hr0
  have lb:=World.block_lt_of_cell? w _ hb.1
  have lp:=World.block_lt_of_cell? w _ hk
  simp only at lr lb lp
  obtain ⟨b0',b1,b2,b3,b4,b5,bf⟩:=hb
  have fr1:=fr 1
  have S1 : Step w (w.alloc (.cells #[.int .i64 5, .int .i64 P', .int .i64 N', .string S'] 79)) [] none:=by (repeat (first | exact Step.refl _ _ _ | assumption | refine Step.drew ?_ | refine Step.alloc ?_ _ | refine Step.setCell ?_ (by first | exact Or.inr (Or.inl (by simp)) | exact Or.inl (by simp) | exact Or.inl (by simp;omega) | exact Or.inl (by omega)) _))
  have hc : ∀ b o v,w.cell? ⟨b,o,none⟩ = some v → (w.alloc (.cells #[.int .i64 5, .int .i64 P', .int .i64 N', .string S'] 79)).cell? ⟨b,o,none⟩ = some v:=fun b o v h => (World.cell?_alloc_lt _ _ _ (World.block_lt_of_cell? w _ h)).trans h
  have HC:=zh hc
  clear hc
  go_enter Try.func46,Try.ntmps46
  go_wp2_with fail
  refine (tree_close _ r b0 bi B0 n c A kcs S P Aw Ak nw cw nk ck bl (HC.out _ _ _ hr0) (HC.out _ _ _ hr1) (by rw [frozen?_alloc_cells]; exact fr1) (HC.out _ _ _ hk) (by rw [frozen?_alloc_cells]; exact fk) (hown.alloc _)
    (HC.out _ _ _ b0') (HC.out _ _ _ b1) (HC.out _ _ _ b2) (HC.out _ _ _ b3) (HC.out _ _ _ b4) hn (by simp;omega) ar a0 ai hrb hrbi hb0i).mono ?_
  rintro e w' ⟨rfl,g,cap,h1,h2,h3,h4,h5⟩
  go_wp2
  go_ret
  refine ⟨rfl,g,cap,h1,h2.imp id (fun h => by simp at h;omega),own_lt h1 (by simp),h3,h4,?_⟩
  exact Step.trans S1 h5 (fun x hx => by cases hx) (fun x hx => hx)
end
section
open Go.RowKit
/-- The slice v reads as the tokens l,below block B. -/
def ReadToks (w : World) (B : Nat) (v : Value) (l : List Tok) : Prop:=∃ A c,v = .slice A l.length c ∧ Reads w B 4 A l.length (l.flatMap Tok.cells)
theorem ReadToks.of_own {w : World} {base : Nat} {v : Value} {l : List Tok} (h : OwnToks w base v l) : ReadToks w w.heap.size v l := by
  obtain ⟨A,c,rfl,_⟩:=own_form h
  exact ⟨A,c,rfl,Reads.of_own h⟩
theorem ReadToks.below {w w' : World} {B : Nat} {v : Value} {l : List Tok} (h : ReadToks w B v l) (hb : Below B w w') : ReadToks w' B v l := by
  obtain ⟨A,c,rfl,hr⟩:=h
  exact ⟨A,c,rfl,hr.below hb⟩
theorem ReadToks.more {w : World} {B B' : Nat} {v : Value} {l : List Tok} (h : ReadToks w B v l) (hB : B ≤ B') : ReadToks w B' v l := by
  obtain ⟨A,c,rfl,hr⟩:=h
  exact ⟨A,c,rfl,hr.more hB⟩
theorem flat_get (l : List Tok) (i : Nat) (t : Tok) (h : l[i]? = some t) : ∀ j,j < 4 → (l.flatMap Tok.cells)[i * 4 + j]? = t.cells[j]? := by
  induction l generalizing i with
  | nil => simp at h
  | cons a l ih =>
    intro j hj
    rw [List.flatMap_cons]
    cases i with
    | zero =>
      simp only [List.getElem?_cons_zero,Option.some.injEq] at h
      subst h
      rw [List.getElem?_append_left (by simp [Tok.cells];omega)]
      simp
    | succ i =>
      rw [List.getElem?_append_right (by simp [Tok.cells];omega)]
      have : (i + 1) * 4 + j - a.cells.length = i * 4 + j:=by simp [Tok.cells];omega
      rw [this]
      exact ih i (by simpa using h) j hj
/-- The four cells of token i. -/
theorem tok_cells {w : World} {B : Nat} {A : Option Addr} {l : List Tok} (h : Reads w B 4 A l.length (l.flatMap Tok.cells)) (i : Nat) (t : Tok) (hi : l[i]? = some t) :
    ∃ ad,A = some ad ∧ ad.block < B ∧ w.cell? (ad.add (i * 4)) = some (.int .i64 t.kind) ∧ w.cell? ⟨(ad.add (i * 4)).block,(ad.add (i * 4)).off + 1,none⟩ = some (.int .i64 t.pos) ∧
      w.cell? ⟨(ad.add (i * 4)).block,(ad.add (i * 4)).off + 2,none⟩ = some (.int .i64 t.n) ∧ w.cell? ⟨(ad.add (i * 4)).block,(ad.add (i * 4)).off + 3,none⟩ = some (.string ⟨t.s.toArray⟩):=by
  have hlt : i < l.length:=(List.getElem?_eq_some_iff.1 hi).1
  obtain ⟨ad,rfl,hb,hc⟩:=h.2 (by omega)
  have hg:=flat_get l i t hi
  have hs : ∀ j,j ≠ 0 → ad.add (i * 4 + j) = ⟨(ad.add (i * 4)).block,(ad.add (i * 4)).off + j,none⟩ := fun j hj => by
    rw [← add_of_add];unfold Addr.add;rw [if_neg hj]
  exact ⟨ad,rfl,hb,hc _ _ (hg 0 (by omega)),hs 1 (by omega) ▸ hc _ _ (hg 1 (by omega)),hs 2 (by omega) ▸ hc _ _ (hg 2 (by omega)),hs 3 (by omega) ▸ hc _ _ (hg 3 (by omega))⟩
end
section
set_option linter.unusedVariables false
set_option linter.unusedSimpArgs false
open Go.RowKit
structure Fr where
  b : Nat
  f : FrameL
  A : Option Addr
  c : Nat
structure It where
  b : Nat
  i : ItemL
  A : Option Addr
  c : Nat
def ownB (A : Option Addr) : List Nat:=(A.map Addr.block).toList
theorem ownBlock_slice (A : Option Addr) (n c : Nat) : Value.ownBlock (.slice A n c) = A.map Addr.block:=by cases A <;> rfl
theorem mem_ownB {A : Option Addr} {n c x : Nat} : x ∈ ownB A ↔ Value.ownBlock (.slice A n c) = some x := by
  rw [ownBlock_slice];unfold ownB;simp
def Fr.ms (x : Fr) : List Nat:=x.b :: ownB x.A
def It.ms (x : It) : List Nat:=x.b :: ownB x.A
def stM (st : List Fr) : List Nat:=st.flatMap Fr.ms
def ioM : Option It → List Nat | none => [] | some x => x.ms
theorem stM_cons (x : Fr) (r : List Fr) : stM (x :: r) = x.ms ++ stM r:=rfl
def FrameAt (w : World) (M : Nat → Prop) (B0 : Nat) (x : Fr) (up : Option Nat) : Prop :=
  ∃ Aw cw bl kcs,Open6 w x.b ⟨x.f.name.toArray⟩ x.f.pos Aw x.f.words.length cw bl x.A x.f.kids.length x.c up ∧ (up ≠ none → bl = true) ∧ NilOk Aw cw ∧
    ReadsM w M 4 Aw x.f.words.length (x.f.words.flatMap WordL.cells) ∧ w.ownsRow B0 25 5 (.slice x.A x.f.kids.length x.c) x.f.kids.length kcs ∧ NodesOk w M x.f.kids kcs
def StackAt (w : World) (M : Nat → Prop) (B0 : Nat) : List Fr → Prop
  | [] => True
  | x :: r => FrameAt w M B0 x (r.head?.map Fr.b) ∧ StackAt w M B0 r
def ItemAt (w : World) (B0 : Nat) (x : It) (up : Option Nat) : Prop :=
  Open6 w x.b ⟨x.i.name.toArray⟩ x.i.pos x.A x.i.words.length x.c false none 0 0 up ∧ w.ownsRow B0 47 4 (.slice x.A x.i.words.length x.c) x.i.words.length (x.i.words.flatMap WordL.cells)
/-- Block x is not touched. -/
def Safe (C : List (Nat × Nat)) (row : Option Nat) (x : Nat) : Prop:=(∀ j,(x,j) ∉ C) ∧ row ≠ some x
theorem Step.same {w w' : World} {C : List (Nat × Nat)} {row : Option Nat} (h : Step w w' C row) {x : Nat} (hx : x < w.heap.size) (hs : Safe C row x) : w'.heap[x]? = w.heap[x]?:=h.block x hx hs.1 (fun e => hs.2 e.symm)
theorem Step.own' {w w' : World} {C : List (Nat × Nat)} {row : Option Nat} (h : Step w w' C row) {B0 : Nat} {e : TypeId} {size n m c : Nat} {A : Option Addr} {xs : List Value} (ho : w.ownsRow B0 e size (.slice A m c) n xs) (hs : ∀ x ∈ ownB A,Safe C row x) :
    w'.ownsRow B0 e size (.slice A m c) n xs:=by
  refine h.own ho (fun k hk => (hs k (mem_ownB.2 hk)).1) ?_
  cases hb : Value.ownBlock (.slice A m c) with
  | none => exact .inl rfl
  | some k => exact .inr (fun e => (hs k (mem_ownB.2 hb)).2 e.symm)
section
variable {w w' : World} {M M' : Nat → Prop} {C : List (Nat × Nat)} {row : Option Nat} {B0 : Nat}
theorem FrameAt.keep (h : Step w w' C row) (hM : ∀ x,M x → x < w.heap.size ∧ Safe C row x) (hm : ∀ x,M x → M' x) {x : Fr} {up : Option Nat} (hx : ∀ y ∈ x.ms,Safe C row y) (hf : FrameAt w M B0 x up) : FrameAt w' M' B0 x up := by
  obtain ⟨Aw,cw,bl,kcs,h1,h2,h3,h4,h5,h6⟩:=hf
  have hc : ∀ p : Addr,M p.block → w'.cell? p = w.cell? p:=fun p hp => World.cell?_of_block (h.same (hM _ hp).1 (hM _ hp).2)
  have hb:=hx x.b (by simp [Fr.ms])
  exact ⟨Aw,cw,bl,kcs,h1.keep h hb.1 hb.2,h2,h3,h4.keep hm hc,h.own' h5 (fun y hy => hx y (by simp [Fr.ms,hy])),NodesOk.keep hm hc _ _ h6⟩
theorem StackAt.keep (h : Step w w' C row) (hM : ∀ x,M x → x < w.heap.size ∧ Safe C row x) (hm : ∀ x,M x → M' x) : ∀ {st : List Fr},(∀ y ∈ stM st,Safe C row y) → StackAt w M B0 st → StackAt w' M' B0 st
  | [],_,_ => trivial
  | x :: r,hs,hst => ⟨hst.1.keep h hM hm (fun y hy => hs y (by rw [stM_cons];simp [hy])),StackAt.keep h hM hm (fun y hy => hs y (by rw [stM_cons];simp [hy])) hst.2⟩
theorem ItemAt.keep (h : Step w w' C row) {x : It} {up : Option Nat} (hx : ∀ y ∈ x.ms,Safe C row y) (hi : ItemAt w B0 x up) : ItemAt w' B0 x up := by
  have hb:=hx x.b (by simp [It.ms])
  exact ⟨hi.1.keep h hb.1 hb.2,h.own' hi.2 (fun y hy => hx y (by simp [It.ms,hy]))⟩
theorem below_of_step {w0 : World} (hb : Below B0 w0 w) (h : Step w w' C row) (hB : B0 ≤ w.heap.size) (hs : ∀ x,x < B0 → Safe C row x) : Below B0 w0 w' :=
  ⟨h.os.trans hb.os,h.tape.trans hb.tape,h.output.trans hb.output,Nat.le_trans hb.size h.size,fun k hk => (h.same (by omega) (hs k hk)).trans (hb.block k hk)⟩
end
theorem safe_of {C : List (Nat × Nat)} {row : Option Nat} (T : List Nat) (hC : ∀ p ∈ C,p.1 ∈ T) (hr : ∀ y,row = some y → y ∈ T) {x : Nat} (hx : x ∉ T) : Safe C row x :=
  ⟨fun j hj => hx (hC _ hj),fun e => hx (hr _ e)⟩
theorem reads_of_own {w : World} {B0 : Nat} {e : TypeId} {size n c : Nat} {A : Option Addr} {xs : List Value} (h : w.ownsRow B0 e size (.slice A n c) n xs) (M : Nat → Prop) (hM : ∀ x ∈ ownB A,M x) : ReadsM w M size A n xs ∧ NilOk A c := by
  rcases h.2 with ⟨hv,hn⟩ | ⟨g,cap,cur,hv,_⟩
  · cases hv
    exact ⟨⟨h.1,fun hp => by omega⟩,fun _ => rfl⟩
  · cases hv
    exact ⟨⟨h.1,fun _ => ⟨_,rfl,hM g (by simp [ownB]),fun j u hu => h.cells (g:=g) rfl j u hu⟩⟩,fun e => by cases e⟩
/-- What holds between two tokens: the frames' blocks,the item's;M: the blocks that no one writes any more. -/
structure PI (w0 w : World) (M : Nat → Prop) (B0 r rb k : Nat) (st : List Fr) (io : Option It) : Prop where
  below : Below B0 w0 w
  stack : StackAt w M B0 st
  item : ∀ x,io = some x → ItemAt w B0 x (st.head?.map Fr.b)
  r0 : w.cell? ⟨r,0,none⟩ = some (.pointer ((st.head?.map Fr.b).map fun b => ⟨b,0,none⟩))
  r1 : w.cell? ⟨r,1,none⟩ = some (.pointer ((io.map It.b).map fun b => ⟨b,0,none⟩))
  r2 : w.cell? ⟨r,2,none⟩ = some (.int .i64 ((st.length : Int) - 1))
  rf : ∀ j,w.frozen? ⟨r,j,none⟩ = false
  nd : (r :: (stM st ++ ioM io)).Nodup
  bd : ∀ x ∈ r :: (stM st ++ ioM io),B0 ≤ x ∧ x < w.heap.size ∧ ¬ M x
  mb : ∀ x,M x → B0 ≤ x ∧ x < w.heap.size
  last : st.getLast?.map Fr.b = some rb
  kids : ∀ x ∈ st,x.f.kids.length ≤ k
  size : B0 ≤ w.heap.size
  words : ∀ x,io = some x → x.i.words.length ≤ 8
  len : st.length ≤ 7
  shp : ∀ x ∈ st,∃ cs t,w.heap[x.b]? = some (.cells cs t (0,0))
  ish : ∀ x,io = some x → ∃ cs t,w.heap[x.b]? = some (.cells cs t (0,0))
theorem mem_stM {x : Fr} {st : List Fr} (h : x ∈ st) : x.b ∈ stM st:=List.mem_flatMap.2 ⟨x,h,by simp [Fr.ms]⟩
def PInv (w0 w : World) (B0 r rb k : Nat) (fs : List FrameL) (it : Option ItemL) : Prop:=∃ M st io,fs = st.map Fr.f ∧ it = io.map It.i ∧ PI w0 w M B0 r rb k st io
def tokV (t : Tok) : Value:=.agg #[.int .i64 t.kind, .int .i64 t.pos, .int .i64 t.n, .string ⟨t.s.toArray⟩]
def StepPost (w0 w : World) (B0 r rb k : Nat) (R : StepR) (e : Ending) (w' : World) : Prop :=
  match R with
  | .bad c => c ≠ 0 ∧ e = .returned (.int .i64 c) ∧ Step w w' [] none
  | .fine fs it => e = .returned (.int .i64 0) ∧ PInv w0 w' B0 r rb (k + 1) fs it
/-! ### A token where an item begins -/
theorem begins_name {w0 w : World} {M : Nat → Prop} {B0 r rb k : Nat} {st : List Fr} (h : PI w0 w M B0 r rb k st none) (t : Tok) (ht : t.kind = 1) :
    Calls Try.prog 45 #[.pointer (some ⟨r,0,none⟩),tokV t] w (StepPost w0 w B0 r rb k (.fine (st.map Fr.f) (some ⟨t.s,t.pos,[]⟩))):=by
  cases st with
  | nil => have:=h.last;simp at this
  | cons x rest =>
    have hr0:=h.r0
    simp only [List.head?_cons,Option.map_some] at hr0
    unfold tokV
    rw [ht]
    refine (tree_begins_name w r x.b t.pos t.n ⟨t.s.toArray⟩ _ hr0 h.r1 (h.rf 1)).mono ?_
    rintro e w' ⟨rfl,g,hg1,hg2,hO,hr1,hshp,hS⟩
    have hnd:=h.nd
    have hbd:=h.bd
    have hsz:=h.size
    have lr:=(hbd r (by simp)).2.1
    have hrB:=(hbd r (by simp)).1
    have hrM:=(hbd r (by simp)).2.2
    have hsafe : ∀ y,y ≠ r → Safe [(r,1)] none y:=fun y hy => safe_of [r] (by simp) (by simp) (by simpa using hy)
    have hM : ∀ y,M y → y < w.heap.size ∧ Safe [(r,1)] none y:=fun y hy => ⟨(h.mb y hy).2,hsafe y (fun e => hrM (e ▸ hy))⟩
    have hstr : ∀ y ∈ stM (x :: rest),y ≠ r := by
      intro y hy e;subst e
      exact (List.nodup_cons.1 hnd).1 (by simp [hy])
    have hw':=hS.size
    refine ⟨rfl,M,x :: rest,some ⟨g,⟨t.s,t.pos,[]⟩,none,0⟩,rfl,rfl,?_⟩
    exact
      { below := below_of_step h.below hS hsz (fun y hy => hsafe y (by omega))
        stack:=h.stack.keep hS hM (fun _ hy => hy) (fun y hy => hsafe y (hstr y hy))
        item := fun y hy => by
          cases hy
          exact ⟨hO,⟨rfl, .inl ⟨rfl,rfl⟩⟩⟩
        r0:=(hS.cell r lr (by simp) 0 (by simp)).trans h.r0
        r1:=hr1
        r2:=(hS.cell r lr (by simp) 2 (by simp)).trans h.r2
        rf:=fun j => (hS.froz r lr (by simp) j).trans (h.rf j)
        nd := by
          have hg : g ∉ r :: stM (x :: rest) := fun hm => by
            have:=(hbd g (by simp only [List.mem_cons,List.mem_append] at hm ⊢;rcases hm with hm | hm <;> simp [hm])).2.1
            omega
          have hn2 : (r :: stM (x :: rest)).Nodup:=by simpa [ioM] using hnd
          show (r :: (stM (x :: rest) ++ [g])).Nodup
          rw [← List.cons_append,List.nodup_append]
          exact ⟨hn2,by simp,fun a ha b hb => by simp at hb;subst hb;exact fun e => hg (e ▸ ha)⟩
        bd := fun y hy => by
          have : y ∈ r :: (stM (x :: rest) ++ ioM none) ∨ y = g:=by simp [ioM,It.ms,ownB] at hy ⊢;rcases hy with hy | hy | hy <;> simp [hy]
          rcases this with hm | rfl
          · obtain ⟨a,b,c⟩:=hbd y hm;exact ⟨a,by omega,c⟩
          · exact ⟨by omega,hg2,fun hm => by have:=(h.mb _ hm).2;omega⟩
        mb:=fun y hy => by obtain ⟨a,b⟩:=h.mb y hy;exact ⟨a,by omega⟩
        last:=h.last
        kids:=fun y hy => by have:=h.kids y hy;omega
        size:=by omega
        words:=fun y hy => by cases hy;simp
        len:=h.len
        shp:=fun z hz => shape_keep hS (h.shp z hz) (by simp)
        ish:=fun z hz => by cases hz;exact hshp }
end
end Go.Proofs.Ytpkhocbohhpmbaa
