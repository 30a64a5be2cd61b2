/- Layer 9 (tree): the walk of goes, all but the words. Then: Layer 9 (tree): what memory holds between two tokens. Then: Layer 9 (tree): what begins leaves, by the tokens. -/
import Derived.Test.YtjbniichcopnlaaGreatDoorPkS10
import Derived.Test.YtjbniichcopnlaaGreatDoorPkS3
set_option linter.unusedVariables false
set_option linter.unusedSimpArgs false
namespace Go.Proofs.YtjbniichcopnlaaGreatDoor
section
open Go.RowKit
open Go.Lib renaming hid → zh
attribute [local go_sem ↓] Go.wp_at_zero Go.wp_at_succ
set_option maxHeartbeats 2000000 in
theorem tree_goes_long (w : World) (r bi : Nat) (K P N : Int) (S : ByteArray) (Aw : Option Addr) (cw : Nat) (hr1 : w.cell? ⟨r,1,none⟩ = some (.pointer (some ⟨bi,0,none⟩))) (h2 : w.cell? ⟨bi,2,none⟩ = some (.slice Aw 8 cw)) (hK : K = 1 ∨ K = 2) :
    Calls Tryz.prog 43 #[.pointer (some ⟨r,0,none⟩), .agg #[.int .i64 K, .int .i64 P, .int .i64 N, .string S]] w fun e w' => e = .returned (.int .i64 6) ∧ Step w w' [] none:=by
  have lr:=World.block_lt_of_cell? w _ hr1
  have li:=World.block_lt_of_cell? w _ h2
  simp only at lr li
  rcases hK with rfl | rfl
  all_goals
    go_enter Tryz.func43,Tryz.ntmps43
    go_wp2
    go_ret
    exact ⟨rfl,by (repeat (first | exact Step.refl _ _ _ | assumption | refine Step.drew ?_ | refine Step.alloc ?_ _ | refine Step.setCell ?_ (by first | exact Or.inr (Or.inl (by simp)) | exact Or.inl (by simp) | exact Or.inl (by simp;omega) | exact Or.inl (by omega)) _))⟩
set_option maxHeartbeats 2000000 in
theorem tree_goes_bad (w : World) (r : Nat) (K P N : Int) (S : ByteArray) (hK : K ≠ 1 ∧ K ≠ 2 ∧ K ≠ 3 ∧ K ≠ 5) :
    Calls Tryz.prog 43 #[.pointer (some ⟨r,0,none⟩), .agg #[.int .i64 K, .int .i64 P, .int .i64 N, .string S]] w fun e w' => e = .returned (.int .i64 5) ∧ Step w w' [] none:=by
  have k1 : (K == 1) = false:=beq_false_of_ne hK.1
  have k2 : (K == 2) = false:=beq_false_of_ne hK.2.1
  have k3 : (K == 3) = false:=beq_false_of_ne hK.2.2.1
  have k5 : (K == 5) = false:=beq_false_of_ne hK.2.2.2
  clear hK
  go_enter Tryz.func43,Tryz.ntmps43
  go_wp2
  go_ret
  exact ⟨rfl,by (repeat (first | exact Step.refl _ _ _ | assumption | refine Step.drew ?_ | refine Step.alloc ?_ _ | refine Step.setCell ?_ (by first | exact Or.inr (Or.inl (by simp)) | exact Or.inl (by simp) | exact Or.inl (by simp;omega) | exact Or.inl (by omega)) _))⟩
set_option maxHeartbeats 2000000 in
theorem tree_goes_deep (w : World) (r : Nat) (P N : Int) (S : ByteArray) (hr2 : w.cell? ⟨r,2,none⟩ = some (.int .i64 6)) :
    Calls Tryz.prog 43 #[.pointer (some ⟨r,0,none⟩), .agg #[.int .i64 3, .int .i64 P, .int .i64 N, .string S]] w fun e w' => e = .returned (.int .i64 7) ∧ Step w w' [] none:=by
  have lr:=World.block_lt_of_cell? w _ hr2
  simp only at lr
  go_enter Tryz.func43,Tryz.ntmps43
  go_wp2
  go_ret
  exact ⟨rfl,by (repeat (first | exact Step.refl _ _ _ | assumption | refine Step.drew ?_ | refine Step.alloc ?_ _ | refine Step.setCell ?_ (by first | exact Or.inr (Or.inl (by simp)) | exact Or.inl (by simp) | exact Or.inl (by simp;omega) | exact Or.inl (by omega)) _))⟩
set_option maxRecDepth 100000 in
set_option maxHeartbeats 2000000 in
theorem tree_goes_open (w : World) (r bi : Nat) (D P N : Int) (S : ByteArray) (v0 v3 : Value) (hr0 : w.cell? ⟨r,0,none⟩ = some v0) (hr1 : w.cell? ⟨r,1,none⟩ = some (.pointer (some ⟨bi,0,none⟩))) (hr2 : w.cell? ⟨r,2,none⟩ = some (.int .i64 D)) (hD : 0 ≤ D ∧ D < 6)
    (fr : ∀ j,w.frozen? ⟨r,j,none⟩ = false) (h3 : w.cell? ⟨bi,3,none⟩ = some v3) (f3 : w.frozen? ⟨bi,3,none⟩ = false) (hrb : r ≠ bi) :
    Calls Tryz.prog 43 #[.pointer (some ⟨r,0,none⟩), .agg #[.int .i64 3, .int .i64 P, .int .i64 N, .string S]] w fun e w' =>
      e = .returned (.int .i64 0) ∧ w'.cell? ⟨r,0,none⟩ = some (.pointer (some ⟨bi,0,none⟩)) ∧ w'.cell? ⟨r,1,none⟩ = some (.pointer none) ∧ w'.cell? ⟨r,2,none⟩ = some (.int .i64 (D + 1)) ∧ w'.cell? ⟨bi,3,none⟩ = some (.bool true) ∧
        Step w w' [(r,0),(r,1),(r,2),(bi,3)] none:=by
  have lr:=World.block_lt_of_cell? w _ hr0
  have lb:=World.block_lt_of_cell? w _ h3
  simp only at lr lb
  have fr0:=fr 0
  have fr1:=fr 1
  have fr2:=fr 2
  have hbr : bi ≠ r:=fun h => hrb h.symm
  have hD6 : (D == 6) = false:=beq_false_of_ne (by omega)
  have hD1 : IntKind.i64.wrap (D + 1) = D + 1:=by rw [IntKind.wrap_i64];omega
  go_enter Tryz.func43,Tryz.ntmps43
  go_wp2
  go_ret
  refine ⟨rfl,?_,?_,?_,?_,by (repeat (first | exact Step.refl _ _ _ | assumption | refine Step.drew ?_ | refine Step.alloc ?_ _ | refine Step.setCell ?_ (by first | exact Or.inr (Or.inl (by simp)) | exact Or.inl (by simp) | exact Or.inl (by simp;omega) | exact Or.inl (by omega)) _))⟩
  · rw [World.cell?_alloc_lt _ _ _ (by simpa using lr),World.cell?_setCell_other _ _ _ _ (by simp)]
    exact World.cell?_setCell_same _ _ _ (by rw [World.cell?_setCell_other _ _ _ _ (by simp [hrb]),World.cell?_setCell_other _ _ _ _ (by simp)];exact hr0)
  · rw [World.cell?_alloc_lt _ _ _ (by simpa using lr)]
    exact World.cell?_setCell_same _ _ _ (by rw [World.cell?_setCell_other _ _ _ _ (by simp),World.cell?_setCell_other _ _ _ _ (by simp [hrb]),World.cell?_setCell_other _ _ _ _ (by simp)];exact hr1)
  · rw [World.cell?_alloc_lt _ _ _ (by simpa using lr),World.cell?_setCell_other _ _ _ _ (by simp),World.cell?_setCell_other _ _ _ _ (by simp),World.cell?_setCell_other _ _ _ _ (by simp [hrb])]
    exact World.cell?_setCell_same _ _ _ hr2
  · rw [World.cell?_alloc_lt _ _ _ (by simpa using lb),World.cell?_setCell_other _ _ _ _ (by simp [hbr]),World.cell?_setCell_other _ _ _ _ (by simp [hbr])]
    exact World.cell?_setCell_same _ _ _ (by rw [World.cell?_setCell_other _ _ _ _ (by simp [hbr])];exact h3)
set_option maxRecDepth 100000 in
set_option maxHeartbeats 2000000 in
/-- An item's end: what it is stands behind its block's kids. -/
theorem tree_goes_end (w : World) (r b0 bi B0 n c : Nat) (A : Option Addr) (kcs : List Value) (P' N' : Int) (S' S : ByteArray) (P : Int) (Aw Ak : Option Addr) (nw cw nk ck : Nat) (bl : Bool) (up : Option Nat)
    (hr0 : w.cell? ⟨r,0,none⟩ = some (.pointer (some ⟨b0,0,none⟩))) (hr1 : w.cell? ⟨r,1,none⟩ = some (.pointer (some ⟨bi,0,none⟩))) (fr : ∀ j,w.frozen? ⟨r,j,none⟩ = false)
    (hb : Open6 w bi S P Aw nw cw bl Ak nk ck up)
    (hk : w.cell? ⟨b0,4,none⟩ = some (.slice A n c)) (fk : w.frozen? ⟨b0,4,none⟩ = false) (hown : w.ownsRow B0 44 5 (.slice A n c) n kcs)
    (hn : n ≤ 100000) (hB0 : B0 ≤ w.heap.size)
    (ar : Value.ownBlock (.slice A n c) ≠ some r) (a0 : Value.ownBlock (.slice A n c) ≠ some b0) (ai : Value.ownBlock (.slice A n c) ≠ some bi) (hrb : r ≠ b0) (hrbi : r ≠ bi) (hb0i : b0 ≠ bi) :
    Calls Tryz.prog 43 #[.pointer (some ⟨r,0,none⟩), .agg #[.int .i64 5, .int .i64 P', .int .i64 N', .string S']] w fun e w' => e = .returned (.int .i64 0) ∧
      ∃ g cap,w'.ownsRow B0 44 5 (.slice (some ⟨g,0,none⟩) (n + 1) cap) (n + 1) (kcs ++ [.string S, .int .i64 P, .slice Aw nw cw, .bool bl, .slice Ak nk ck]) ∧
        (Value.ownBlock (.slice A n c) = some g ∨ w.heap.size ≤ g) ∧ g < w'.heap.size ∧ w'.cell? ⟨b0,4,none⟩ = some (.slice (some ⟨g,0,none⟩) (n + 1) cap) ∧ w'.cell? ⟨r,1,none⟩ = some (.pointer none) ∧
        Step w w' [(b0,4),(r,1)] (Value.ownBlock (.slice A n c)):=by
  have lr:=World.block_lt_of_cell? w _ hr0
  have lb:=World.block_lt_of_cell? w _ hb.1
  have lp:=World.block_lt_of_cell? w _ hk
  simp only at lr lb lp
  obtain ⟨b0',b1,b2,b3,b4,b5,bf⟩:=hb
  have fr1:=fr 1
  have S1 : Step w (w.alloc (.cells #[.int .i64 5, .int .i64 P', .int .i64 N', .string S'] 86)) [] none:=by (repeat (first | exact Step.refl _ _ _ | assumption | refine Step.drew ?_ | refine Step.alloc ?_ _ | refine Step.setCell ?_ (by first | exact Or.inr (Or.inl (by simp)) | exact Or.inl (by simp) | exact Or.inl (by simp;omega) | exact Or.inl (by omega)) _))
  have hc : ∀ b o v,w.cell? ⟨b,o,none⟩ = some v → (w.alloc (.cells #[.int .i64 5, .int .i64 P', .int .i64 N', .string S'] 86)).cell? ⟨b,o,none⟩ = some v:=fun b o v h => (World.cell?_alloc_lt _ _ _ (World.block_lt_of_cell? w _ h)).trans h
  have HC:=zh hc
  clear hc
  go_enter Tryz.func43,Tryz.ntmps43
  go_wp2_with fail
  refine (tree_close _ r b0 bi B0 n c A kcs S P Aw Ak nw cw nk ck bl (HC.out _ _ _ hr0) (HC.out _ _ _ hr1) (by rw [frozen?_alloc_cells]; exact fr1) (HC.out _ _ _ hk) (by rw [frozen?_alloc_cells]; exact fk) (hown.alloc _)
    (HC.out _ _ _ b0') (HC.out _ _ _ b1) (HC.out _ _ _ b2) (HC.out _ _ _ b3) (HC.out _ _ _ b4) hn (by simp;omega) ar a0 ai hrb hrbi hb0i).mono ?_
  rintro e w' ⟨rfl,g,cap,h1,h2,h3,h4,h5⟩
  go_wp2
  go_ret
  refine ⟨rfl,g,cap,h1,h2.imp id (fun h => by simp at h;omega),own_lt h1 (by simp),h3,h4,?_⟩
  exact Step.trans S1 h5 (fun x hx => by cases hx) (fun x hx => hx)
end
section
open Go.RowKit
structure Fr where
  b : Nat
  f : FrameL
  A : Option Addr
  c : Nat
structure It where
  b : Nat
  i : ItemL
  A : Option Addr
  c : Nat
def ownB (A : Option Addr) : List Nat:=(A.map Addr.block).toList
theorem ownBlock_slice (A : Option Addr) (n c : Nat) : Value.ownBlock (.slice A n c) = A.map Addr.block:=by cases A <;> rfl
theorem mem_ownB {A : Option Addr} {n c x : Nat} : x ∈ ownB A ↔ Value.ownBlock (.slice A n c) = some x := by
  rw [ownBlock_slice];unfold ownB;simp
def Fr.ms (x : Fr) : List Nat:=x.b :: ownB x.A
def It.ms (x : It) : List Nat:=x.b :: ownB x.A
def stM (st : List Fr) : List Nat:=st.flatMap Fr.ms
def ioM : Option It → List Nat | none => [] | some x => x.ms
theorem stM_cons (x : Fr) (r : List Fr) : stM (x :: r) = x.ms ++ stM r:=rfl
def FrameAt (w : World) (M : Nat → Prop) (B0 : Nat) (x : Fr) (up : Option Nat) : Prop :=
  ∃ Aw cw bl kcs,Open6 w x.b ⟨x.f.name.toArray⟩ x.f.pos Aw x.f.words.length cw bl x.A x.f.kids.length x.c up ∧ (up ≠ none → bl = true) ∧ NilOk Aw cw ∧
    ReadsM w M 4 Aw x.f.words.length (x.f.words.flatMap WordL.cells) ∧ w.ownsRow B0 44 5 (.slice x.A x.f.kids.length x.c) x.f.kids.length kcs ∧ NodesOk w M x.f.kids kcs
def StackAt (w : World) (M : Nat → Prop) (B0 : Nat) : List Fr → Prop
  | [] => True
  | x :: r => FrameAt w M B0 x (r.head?.map Fr.b) ∧ StackAt w M B0 r
def ItemAt (w : World) (B0 : Nat) (x : It) (up : Option Nat) : Prop :=
  Open6 w x.b ⟨x.i.name.toArray⟩ x.i.pos x.A x.i.words.length x.c false none 0 0 up ∧ w.ownsRow B0 61 4 (.slice x.A x.i.words.length x.c) x.i.words.length (x.i.words.flatMap WordL.cells)
/-- Block x is not touched. -/
def Safe (C : List (Nat × Nat)) (row : Option Nat) (x : Nat) : Prop:=(∀ j,(x,j) ∉ C) ∧ row ≠ some x
theorem Step.same {w w' : World} {C : List (Nat × Nat)} {row : Option Nat} (h : Step w w' C row) {x : Nat} (hx : x < w.heap.size) (hs : Safe C row x) : w'.heap[x]? = w.heap[x]?:=h.block x hx hs.1 (fun e => hs.2 e.symm)
theorem Step.own' {w w' : World} {C : List (Nat × Nat)} {row : Option Nat} (h : Step w w' C row) {B0 : Nat} {e : TypeId} {size n m c : Nat} {A : Option Addr} {xs : List Value} (ho : w.ownsRow B0 e size (.slice A m c) n xs) (hs : ∀ x ∈ ownB A,Safe C row x) :
    w'.ownsRow B0 e size (.slice A m c) n xs:=by
  refine h.own ho (fun k hk => (hs k (mem_ownB.2 hk)).1) ?_
  cases hb : Value.ownBlock (.slice A m c) with
  | none => exact .inl rfl
  | some k => exact .inr (fun e => (hs k (mem_ownB.2 hb)).2 e.symm)
section
variable {w w' : World} {M M' : Nat → Prop} {C : List (Nat × Nat)} {row : Option Nat} {B0 : Nat}
theorem FrameAt.keep (h : Step w w' C row) (hM : ∀ x,M x → x < w.heap.size ∧ Safe C row x) (hm : ∀ x,M x → M' x) {x : Fr} {up : Option Nat} (hx : ∀ y ∈ x.ms,Safe C row y) (hf : FrameAt w M B0 x up) : FrameAt w' M' B0 x up := by
  obtain ⟨Aw,cw,bl,kcs,h1,h2,h3,h4,h5,h6⟩:=hf
  have hc : ∀ p : Addr,M p.block → w'.cell? p = w.cell? p:=fun p hp => World.cell?_of_block (h.same (hM _ hp).1 (hM _ hp).2)
  have hb:=hx x.b (by simp [Fr.ms])
  exact ⟨Aw,cw,bl,kcs,h1.keep h hb.1 hb.2,h2,h3,h4.keep hm hc,h.own' h5 (fun y hy => hx y (by simp [Fr.ms,hy])),NodesOk.keep hm hc _ _ h6⟩
theorem StackAt.keep (h : Step w w' C row) (hM : ∀ x,M x → x < w.heap.size ∧ Safe C row x) (hm : ∀ x,M x → M' x) : ∀ {st : List Fr},(∀ y ∈ stM st,Safe C row y) → StackAt w M B0 st → StackAt w' M' B0 st
  | [],_,_ => trivial
  | x :: r,hs,hst => ⟨hst.1.keep h hM hm (fun y hy => hs y (by rw [stM_cons];simp [hy])),StackAt.keep h hM hm (fun y hy => hs y (by rw [stM_cons];simp [hy])) hst.2⟩
theorem ItemAt.keep (h : Step w w' C row) {x : It} {up : Option Nat} (hx : ∀ y ∈ x.ms,Safe C row y) (hi : ItemAt w B0 x up) : ItemAt w' B0 x up := by
  have hb:=hx x.b (by simp [It.ms])
  exact ⟨hi.1.keep h hb.1 hb.2,h.own' hi.2 (fun y hy => hx y (by simp [It.ms,hy]))⟩
theorem below_of_step {w0 : World} (hb : Below B0 w0 w) (h : Step w w' C row) (hB : B0 ≤ w.heap.size) (hs : ∀ x,x < B0 → Safe C row x) : Below B0 w0 w' :=
  ⟨h.os.trans hb.os,h.tape.trans hb.tape,h.output.trans hb.output,Nat.le_trans hb.size h.size,fun k hk => (h.same (by omega) (hs k hk)).trans (hb.block k hk)⟩
end
theorem safe_of {C : List (Nat × Nat)} {row : Option Nat} (T : List Nat) (hC : ∀ p ∈ C,p.1 ∈ T) (hr : ∀ y,row = some y → y ∈ T) {x : Nat} (hx : x ∉ T) : Safe C row x :=
  ⟨fun j hj => hx (hC _ hj),fun e => hx (hr _ e)⟩
theorem reads_of_own {w : World} {B0 : Nat} {e : TypeId} {size n c : Nat} {A : Option Addr} {xs : List Value} (h : w.ownsRow B0 e size (.slice A n c) n xs) (M : Nat → Prop) (hM : ∀ x ∈ ownB A,M x) : ReadsM w M size A n xs ∧ NilOk A c := by
  rcases h.2 with ⟨hv,hn⟩ | ⟨g,cap,cur,hv,_⟩
  · cases hv
    exact ⟨⟨h.1,fun hp => by omega⟩,fun _ => rfl⟩
  · cases hv
    exact ⟨⟨h.1,fun _ => ⟨_,rfl,hM g (by simp [ownB]),fun j u hu => h.cells (g:=g) rfl j u hu⟩⟩,fun e => by cases e⟩
/-- What holds between two tokens: the frames' blocks,the item's;M: the blocks that no one writes any more. -/
structure PI (w0 w : World) (M : Nat → Prop) (B0 r rb k : Nat) (st : List Fr) (io : Option It) : Prop where
  below : Below B0 w0 w
  stack : StackAt w M B0 st
  item : ∀ x,io = some x → ItemAt w B0 x (st.head?.map Fr.b)
  r0 : w.cell? ⟨r,0,none⟩ = some (.pointer ((st.head?.map Fr.b).map fun b => ⟨b,0,none⟩))
  r1 : w.cell? ⟨r,1,none⟩ = some (.pointer ((io.map It.b).map fun b => ⟨b,0,none⟩))
  r2 : w.cell? ⟨r,2,none⟩ = some (.int .i64 ((st.length : Int) - 1))
  rf : ∀ j,w.frozen? ⟨r,j,none⟩ = false
  nd : (r :: (stM st ++ ioM io)).Nodup
  bd : ∀ x ∈ r :: (stM st ++ ioM io),B0 ≤ x ∧ x < w.heap.size ∧ ¬ M x
  mb : ∀ x,M x → B0 ≤ x ∧ x < w.heap.size
  last : st.getLast?.map Fr.b = some rb
  kids : ∀ x ∈ st,x.f.kids.length ≤ k
  size : B0 ≤ w.heap.size
  words : ∀ x,io = some x → x.i.words.length ≤ 8
  len : st.length ≤ 7
  shp : ∀ x ∈ st,∃ cs t,w.heap[x.b]? = some (.cells cs t (0,0))
  ish : ∀ x,io = some x → ∃ cs t,w.heap[x.b]? = some (.cells cs t (0,0))
theorem mem_stM {x : Fr} {st : List Fr} (h : x ∈ st) : x.b ∈ stM st:=List.mem_flatMap.2 ⟨x,h,by simp [Fr.ms]⟩
def PInv (w0 w : World) (B0 r rb k : Nat) (fs : List FrameL) (it : Option ItemL) : Prop:=∃ M st io,fs = st.map Fr.f ∧ it = io.map It.i ∧ PI w0 w M B0 r rb k st io
def tokV (t : Tok) : Value:=.agg #[.int .i64 t.kind, .int .i64 t.pos, .int .i64 t.n, .string ⟨t.s.toArray⟩]
def StepPost (w0 w : World) (B0 r rb k : Nat) (R : StepR) (e : Ending) (w' : World) : Prop :=
  match R with
  | .bad c => c ≠ 0 ∧ e = .returned (.int .i64 c) ∧ Step w w' [] none
  | .fine fs it => e = .returned (.int .i64 0) ∧ PInv w0 w' B0 r rb (k + 1) fs it
/-! ### A token where an item begins -/
theorem begins_name {w0 w : World} {M : Nat → Prop} {B0 r rb k : Nat} {st : List Fr} (h : PI w0 w M B0 r rb k st none) (t : Tok) (ht : t.kind = 1) :
    Calls Tryz.prog 42 #[.pointer (some ⟨r,0,none⟩),tokV t] w (StepPost w0 w B0 r rb k (.fine (st.map Fr.f) (some ⟨t.s,t.pos,[]⟩))):=by
  cases st with
  | nil => have:=h.last;simp at this
  | cons x rest =>
    have hr0:=h.r0
    simp only [List.head?_cons,Option.map_some] at hr0
    unfold tokV
    rw [ht]
    refine (tree_begins_name w r x.b t.pos t.n ⟨t.s.toArray⟩ _ hr0 h.r1 (h.rf 1)).mono ?_
    rintro e w' ⟨rfl,g,hg1,hg2,hO,hr1,hshp,hS⟩
    have hnd:=h.nd
    have hbd:=h.bd
    have hsz:=h.size
    have lr:=(hbd r (by simp)).2.1
    have hrB:=(hbd r (by simp)).1
    have hrM:=(hbd r (by simp)).2.2
    have hsafe : ∀ y,y ≠ r → Safe [(r,1)] none y:=fun y hy => safe_of [r] (by simp) (by simp) (by simpa using hy)
    have hM : ∀ y,M y → y < w.heap.size ∧ Safe [(r,1)] none y:=fun y hy => ⟨(h.mb y hy).2,hsafe y (fun e => hrM (e ▸ hy))⟩
    have hstr : ∀ y ∈ stM (x :: rest),y ≠ r := by
      intro y hy e;subst e
      exact (List.nodup_cons.1 hnd).1 (by simp [hy])
    have hw':=hS.size
    refine ⟨rfl,M,x :: rest,some ⟨g,⟨t.s,t.pos,[]⟩,none,0⟩,rfl,rfl,?_⟩
    exact
      { below := below_of_step h.below hS hsz (fun y hy => hsafe y (by omega))
        stack:=h.stack.keep hS hM (fun _ hy => hy) (fun y hy => hsafe y (hstr y hy))
        item := fun y hy => by
          cases hy
          exact ⟨hO,⟨rfl, .inl ⟨rfl,rfl⟩⟩⟩
        r0:=(hS.cell r lr (by simp) 0 (by simp)).trans h.r0
        r1:=hr1
        r2:=(hS.cell r lr (by simp) 2 (by simp)).trans h.r2
        rf:=fun j => (hS.froz r lr (by simp) j).trans (h.rf j)
        nd := by
          have hg : g ∉ r :: stM (x :: rest) := fun hm => by
            have:=(hbd g (by simp only [List.mem_cons,List.mem_append] at hm ⊢;rcases hm with hm | hm <;> simp [hm])).2.1
            omega
          have hn2 : (r :: stM (x :: rest)).Nodup:=by simpa [ioM] using hnd
          show (r :: (stM (x :: rest) ++ [g])).Nodup
          rw [← List.cons_append,List.nodup_append]
          exact ⟨hn2,by simp,fun a ha b hb => by simp at hb;subst hb;exact fun e => hg (e ▸ ha)⟩
        bd := fun y hy => by
          have : y ∈ r :: (stM (x :: rest) ++ ioM none) ∨ y = g:=by simp [ioM,It.ms,ownB] at hy ⊢;rcases hy with hy | hy | hy <;> simp [hy]
          rcases this with hm | rfl
          · obtain ⟨a,b,c⟩:=hbd y hm;exact ⟨a,by omega,c⟩
          · exact ⟨by omega,hg2,fun hm => by have:=(h.mb _ hm).2;omega⟩
        mb:=fun y hy => by obtain ⟨a,b⟩:=h.mb y hy;exact ⟨a,by omega⟩
        last:=h.last
        kids:=fun y hy => by have:=h.kids y hy;omega
        size:=by omega
        words:=fun y hy => by cases hy;simp
        len:=h.len
        shp:=fun z hz => shape_keep hS (h.shp z hz) (by simp)
        ish:=fun z hz => by cases hz;exact hshp }
end
section
open Go.RowKit
theorem safe_nil (x : Nat) : Safe [] none x:=⟨fun j => by simp,by simp⟩
theorem PI.bad {w0 w w' : World} {M : Nat → Prop} {B0 r rb k : Nat} {st : List Fr} {io : Option It} (h : PI w0 w M B0 r rb k st io) (hs : Step w w' [] none) : Below B0 w0 w' :=
  below_of_step h.below hs h.size (fun x _ => safe_nil x)
theorem begins_bad {w0 w : World} {M : Nat → Prop} {B0 r rb k : Nat} {st : List Fr} (h : PI w0 w M B0 r rb k st none) (t : Tok) (h1 : t.kind ≠ 1) (h4 : t.kind ≠ 4 ∨ st.length ≤ 1) :
    Calls Tryz.prog 42 #[.pointer (some ⟨r,0,none⟩),tokV t] w (StepPost w0 w B0 r rb k (.bad 5)):=by
  cases st with
  | nil => have:=h.last;simp at this
  | cons x rest =>
    have hr0:=h.r0
    simp only [List.head?_cons,Option.map_some] at hr0
    obtain ⟨Aw,cw,bl,kcs,hO,_⟩:=h.stack.1
    unfold tokV
    refine (tree_begins_bad w r x.b t.kind t.pos t.n ⟨t.s.toArray⟩ _ hr0 hO.2.2.2.2.2.1 h1 ?_).mono ?_
    · rcases h4 with h4 | h4
      · exact .inl h4
      · right
        have : rest = []:=List.eq_nil_of_length_eq_zero (by simp only [List.length_cons] at h4;omega)
        subst this;rfl
    · rintro e w' ⟨rfl,hS⟩
      exact ⟨by decide,rfl,hS⟩
theorem begins_close {w0 w : World} {M : Nat → Prop} {B0 r rb k : Nat} {x y : Fr} {rest : List Fr} (h : PI w0 w M B0 r rb k (x :: y :: rest) none) (t : Tok) (ht : t.kind = 4) (hk : k ≤ 99999) :
    Calls Tryz.prog 42 #[.pointer (some ⟨r,0,none⟩),tokV t] w (StepPost w0 w B0 r rb k (.fine (y.f.add x.f.node :: rest.map Fr.f) none)):=by
  have hr0:=h.r0
  simp only [List.head?_cons,Option.map_some] at hr0
  obtain ⟨hx,hy,hrest⟩:=h.stack
  obtain ⟨Aw,cw,bl,kcx,hO,hbl,hnw,hrw,hox,hnx⟩:=hx
  obtain ⟨Aw',cw',bl',kcy,hO',hbl',hnw',hrw',hoy,hny⟩:=hy
  obtain rfl : bl = true:=hbl (by simp)
  have hnd:=h.nd
  have hbd:=h.bd
  have hsz:=h.size
  have e1 : r :: (stM (x :: y :: rest) ++ ioM none) = r :: (x.b :: (ownB x.A ++ (y.b :: (ownB y.A ++ stM rest)))):=by simp [stM_cons,Fr.ms,ioM]
  rw [e1] at hnd hbd
  have hky:=h.kids y (by simp)
  have hlen:=h.len
  simp only [List.length_cons] at hlen
  obtain ⟨R,hR⟩ : ∃ R,R = stM rest:=⟨_,rfl⟩
  rw [← hR] at hnd hbd
  have n1 : r ≠ y.b:=by grind
  have n2 : r ≠ x.b:=by grind
  have n3 : y.b ≠ x.b:=by grind
  have n4 : r ∉ ownB y.A:=by grind
  have n5 : y.b ∉ ownB y.A:=by grind
  have n6 : x.b ∉ ownB y.A:=by grind
  have nrx : (r :: y.b :: R).Nodup:=by grind
  have dT : ∀ z,z ∈ R ∨ z ∈ ownB x.A → z ∉ [y.b,r] ++ ownB y.A:=by grind
  have dg : ∀ z ∈ ownB y.A,z ∉ r :: x.b :: (ownB x.A ++ y.b :: R):=by grind
  have dx : ∀ z ∈ r :: y.b :: R,z ∉ ownB x.A:=by grind
  have hr2:=h.r2
  simp only [List.length_cons] at hr2
  unfold tokV
  rw [ht]
  refine (tree_begins_close w r x.b y.b B0 y.f.kids.length y.c y.A kcy _ t.pos t.n ⟨t.s.toArray⟩ ⟨x.f.name.toArray⟩ x.f.pos Aw x.A x.f.words.length cw x.f.kids.length x.c true _ hr0 h.r1 hr2 h.rf (by omega) hO
    hO'.2.2.2.2.1 (hO'.2.2.2.2.2.2 4) hoy (by omega) hsz (fun e => n4 (mem_ownB.2 e)) (fun e => n5 (mem_ownB.2 e)) (fun e => n6 (mem_ownB.2 e)) n1 n2 n3).mono ?_
  rintro e w' ⟨rfl,g,cap,ho1,hat,hglt,hp4,hr0',hr1',hr2',hS⟩
  have hgo : g ∈ ownB y.A ∨ w.heap.size ≤ g:=hat.imp mem_ownB.2 id
  have hw':=hS.size
  have hsafe : ∀ z,z ∉ [y.b,r] ++ ownB y.A → Safe [(y.b,4),(r,0),(r,1),(r,2)] (Value.ownBlock (.slice y.A y.f.kids.length y.c)) z := fun z hz =>
    safe_of ([y.b,r] ++ ownB y.A) (by simp) (fun u hu => by simp [mem_ownB.2 hu]) hz
  have hMT : ∀ z,M z → z ∉ [y.b,r] ++ ownB y.A := fun z hz hm => by
    have:=(hbd z (by simp only [List.mem_append,List.mem_cons,List.not_mem_nil,or_false] at hm ⊢;rcases hm with (hm | hm) | hm <;> simp [hm])).2.2
    exact this hz
  have hM : ∀ z,M z → z < w.heap.size ∧ Safe [(y.b,4),(r,0),(r,1),(r,2)] (Value.ownBlock (.slice y.A y.f.kids.length y.c)) z:=fun z hz => ⟨(h.mb z hz).2,hsafe z (hMT z hz)⟩
  have hxs : ∀ z ∈ ownB x.A,Safe [(y.b,4),(r,0),(r,1),(r,2)] (Value.ownBlock (.slice y.A y.f.kids.length y.c)) z:=fun z hz => hsafe z (dT z (.inr hz))
  have lyb:=(hbd y.b (by simp)).2.1
  have hgn : g ∉ r :: x.b :: (ownB x.A ++ y.b :: R) := fun hm => by
    rcases hgo with hg | hg
    · exact dg g hg hm
    · have := (hbd g (by simp only [List.mem_append,List.mem_cons] at hm ⊢; rcases hm with hm | hm | hm | hm | hm <;> simp [hm])).2.1
      omega
  have hgB : B0 ≤ g := by
    rcases hgo with hg | hg
    · exact (hbd g (by simp [hg])).1
    · omega
  have hgM : ¬ M g := fun hm => by
    rcases hgo with hg | hg
    · exact (hbd g (by simp [hg])).2.2 hm
    · have:=(h.mb g hm).2;omega
  have hup : (rest.head?.map Fr.b) = ((y :: rest).tail.head?.map Fr.b):=rfl
  have hrow : Value.ownBlock (.slice y.A y.f.kids.length y.c) ≠ some y.b:=fun e => n5 (mem_ownB.2 e)
  refine ⟨rfl,fun z => M z ∨ z ∈ ownB x.A,⟨y.b,y.f.add x.f.node,some ⟨g,0,none⟩,cap⟩ :: rest,none,rfl,rfl,?_⟩
  have hc : ∀ p : Addr,M p.block → w'.cell? p = w.cell? p:=fun p hp => World.cell?_of_block (hS.same (hM _ hp).1 (hM _ hp).2)
  have hox':=hS.own' hox hxs
  obtain ⟨hrk,hnk⟩:=reads_of_own hox' (fun z => M z ∨ z ∈ ownB x.A) (fun z hz => .inr hz)
  have hnode : NodeOk w' (fun z => M z ∨ z ∈ ownB x.A) x.f.node [.string ⟨x.f.name.toArray⟩, .int .i64 x.f.pos, .slice Aw x.f.words.length cw, .bool true, .slice x.A x.f.kids.length x.c] := by
    unfold FrameL.node
    simp only [NodeOk]
    exact ⟨Aw,cw,x.A,x.c,kcx,rfl,hnw,hnk,hrw.keep (fun _ hb => .inl hb) hc,hrk,NodesOk.keep (fun _ hb => .inl hb) hc _ _ hnx⟩
  have cy : ∀ j,j ≠ 4 → w'.cell? ⟨y.b,j,none⟩ = w.cell? ⟨y.b,j,none⟩:=fun j hj => hS.cell y.b lyb (fun e => hrow e.symm) j (by simp [hj,Ne.symm n1])
  exact
    { below := below_of_step h.below hS hsz (fun z hz => hsafe z (fun hm => by
        have:=(hbd z (by simp only [List.mem_append,List.mem_cons,List.not_mem_nil,or_false] at hm ⊢;rcases hm with (hm | hm) | hm <;> simp [hm])).1
        omega))
      stack := ⟨⟨Aw',cw',bl',kcy ++ [.string ⟨x.f.name.toArray⟩, .int .i64 x.f.pos, .slice Aw x.f.words.length cw, .bool true, .slice x.A x.f.kids.length x.c],
          ⟨(cy 0 (by decide)).trans hO'.1,(cy 1 (by decide)).trans hO'.2.1,(cy 2 (by decide)).trans hO'.2.2.1,(cy 3 (by decide)).trans hO'.2.2.2.1,by simpa [FrameL.add] using hp4,(cy 5 (by decide)).trans hO'.2.2.2.2.2.1,
            fun j => (hS.froz y.b lyb (fun e => hrow e.symm) j).trans (hO'.2.2.2.2.2.2 j)⟩,hbl',hnw',hrw'.keep (fun _ hb => .inl hb) hc,by simpa [FrameL.add] using ho1,
          NodesOk.append (NodesOk.keep (fun _ hb => .inl hb) hc _ _ hny) (NodesOk.one hnode)⟩,
        hrest.keep hS hM (fun _ hb => .inl hb) (fun z hz => hsafe z (dT z (.inl (by rw [hR];exact hz))))⟩
      item:=fun z hz => by cases hz
      r0:=hr0'
      r1:=hr1'
      r2:=by rw [hr2'];congr 2;simp only [List.length_cons];omega
      rf:=fun j => (hS.froz r (hbd r (by simp)).2.1 (fun e => n4 (mem_ownB.2 e.symm)) j).trans (h.rf j)
      nd := by
        show (r :: ((y.b :: [g]) ++ stM rest ++ [])).Nodup
        rw [← hR]
        have g1 : g ∉ r :: y.b :: R:=fun hm => hgn (by simp only [List.mem_append,List.mem_cons] at hm ⊢;rcases hm with hm | hm | hm <;> simp [hm])
        grind
      bd := fun z hz => by
        have hz' : z ∈ r :: y.b :: R ∨ z = g := by
          rw [hR]
          simp only [stM_cons,Fr.ms,ownB,ioM,List.mem_append,List.mem_cons,Option.map_some,Option.toList_some,List.not_mem_nil,or_false] at hz ⊢
          rcases hz with hz | (hz | hz) | hz <;> simp [hz]
        rcases hz' with hz' | rfl
        · obtain ⟨a,b,c⟩ := hbd z (by simp only [List.mem_append,List.mem_cons] at hz' ⊢; rcases hz' with hz' | hz' | hz' <;> simp [hz'])
          exact ⟨a,by omega,fun hm => hm.elim c (dx z hz')⟩
        · exact ⟨hgB,hglt,fun hm => hm.elim hgM (fun hm => hgn (by simp [hm]))⟩
      mb := fun z hz => by
        rcases hz with hz | hz
        · obtain ⟨a,b⟩:=h.mb z hz;exact ⟨a,by omega⟩
        · obtain ⟨a,b,_⟩:=hbd z (by simp [hz]);exact ⟨a,by omega⟩
      last := by
        have:=h.last
        cases rest with
        | nil => simpa using this
        | cons a b => simpa using this
      kids := fun z hz => by
        rcases List.mem_cons.1 hz with rfl | hz
        · simp only [FrameL.add,List.length_append,List.length_singleton];omega
        · have:=h.kids z (by simp [hz]);omega
      size:=by omega
      words:=fun z hz => by cases hz
      len:=by simp only [List.length_cons];omega
      shp := fun z hz => by
        rcases List.mem_cons.1 hz with rfl | hz
        · exact shape_keep hS (h.shp y (by simp)) hrow
        · refine shape_keep hS (h.shp z (by simp [hz])) (fun e => dT z.b (.inl (by rw [hR]; exact mem_stM hz)) ?_)
          have:=mem_ownB.2 e
          simp [this]
      ish:=fun z hz => by cases hz }
end
end Go.Proofs.YtjbniichcopnlaaGreatDoor
