/- Layer 9 (tree): the walk of begins. -/
import Derived.Test.YtjbniichcopnlaaGreatDoorPkS8
import Derived.Lib.SmallJoins
set_option linter.unusedVariables false
namespace Go.Proofs.YtjbniichcopnlaaGreatDoor
open Go.RowKit
open Go.Joins renaming cell_of_block → zb, unfrozen_of_block → zu
attribute [local go_sem ↓] Go.wp_at_zero Go.wp_at_succ
/-- The six cells of an open item. -/
def Open6 (w : World) (b : Nat) (S : ByteArray) (P : Int) (Aw : Option Addr) (nw cw : Nat) (bl : Bool) (Ak : Option Addr) (nk ck : Nat) (up : Option Nat) : Prop :=
  w.cell? ⟨b,0,none⟩ = some (.string S) ∧ w.cell? ⟨b,1,none⟩ = some (.int .i64 P) ∧ w.cell? ⟨b,2,none⟩ = some (.slice Aw nw cw) ∧ w.cell? ⟨b,3,none⟩ = some (.bool bl) ∧
    w.cell? ⟨b,4,none⟩ = some (.slice Ak nk ck) ∧ w.cell? ⟨b,5,none⟩ = some (.pointer (up.map fun b => ⟨b,0,none⟩)) ∧ ∀ j,w.frozen? ⟨b,j,none⟩ = false
theorem cell_drew (w : World) (p : Addr) : w.drew.cell? p = w.cell? p:=rfl
theorem alloc_at (W : World) (o : Obj) {n : Nat} (h : W.heap.size = n) : (W.alloc o).heap[n]? = some o:=by rw [← h];exact heap_alloc_new W o
theorem open6_of_block {w : World} {b : Nat} {S : ByteArray} {P : Int} {Aw : Option Addr} {nw cw : Nat} {bl : Bool} {Ak : Option Addr} {nk ck : Nat} {up : Option Nat} {t : TypeId}
    (h : w.heap[b]? = some (.cells #[.string S, .int .i64 P, .slice Aw nw cw, .bool bl, .slice Ak nk ck, .pointer (up.map fun b => ⟨b,0,none⟩)] t (0,0))) : Open6 w b S P Aw nw cw bl Ak nk ck up :=
  ⟨zb h 0,zb h 1,zb h 2,zb h 3,zb h 4,zb h 5,zu h⟩
/-- Nothing of it is touched. -/
theorem Open6.keep {w w' : World} {C : List (Nat × Nat)} {row : Option Nat} {b : Nat} {S : ByteArray} {P : Int} {Aw : Option Addr} {nw cw : Nat} {bl : Bool} {Ak : Option Addr} {nk ck : Nat} {up : Option Nat}
    (h : Open6 w b S P Aw nw cw bl Ak nk ck up) (hs : Step w w' C row) (hC : ∀ j,(b,j) ∉ C) (hr : row ≠ some b) : Open6 w' b S P Aw nw cw bl Ak nk ck up:=by
  have hb:=World.block_lt_of_cell? w _ h.1
  obtain ⟨h0,h1,h2,h3,h4,h5,hf⟩:=h
  exact ⟨(hs.cell b hb hr.symm 0 (hC 0)).trans h0,(hs.cell b hb hr.symm 1 (hC 1)).trans h1,(hs.cell b hb hr.symm 2 (hC 2)).trans h2,(hs.cell b hb hr.symm 3 (hC 3)).trans h3,
    (hs.cell b hb hr.symm 4 (hC 4)).trans h4,(hs.cell b hb hr.symm 5 (hC 5)).trans h5,fun j => (hs.froz b hb hr.symm j).trans (hf j)⟩
theorem Step.trans {w w1 w2 : World} {C1 C2 C : List (Nat × Nat)} {row : Option Nat} (h1 : Step w w1 C1 none) (h2 : Step w1 w2 C2 row) (hc1 : ∀ x ∈ C1,x ∈ C) (hc2 : ∀ x ∈ C2,x ∈ C) : Step w w2 C row := by
  have hs:=h1.size
  refine ⟨h2.os.trans h1.os,h2.tape.trans h1.tape,h2.output.trans h1.output,Nat.le_trans hs h2.size,fun k hk hC hr => ?_,fun k hk hr j hj => ?_,fun k hk hr j => ?_,fun k hk hr cs t f hh => ?_⟩
  · exact (h2.block k (by omega) (fun j hj => hC j (hc2 _ hj)) hr).trans (h1.block k hk (fun j hj => hC j (hc1 _ hj)) (by simp))
  · exact (h2.cell k (by omega) hr j (fun h => hj (hc2 _ h))).trans (h1.cell k hk (by simp) j (fun h => hj (hc1 _ h)))
  · exact (h2.froz k (by omega) hr j).trans (h1.froz k hk (by simp) j)
  · obtain ⟨cs',h'⟩ := h1.shape k hk (by simp) cs t f hh
    exact h2.shape k (by omega) hr cs' t f h'
theorem shape_keep {w w' : World} {C : List (Nat × Nat)} {row : Option Nat} (h : Step w w' C row) {b : Nat} (hx : ∃ cs t,w.heap[b]? = some (.cells cs t (0,0))) (hr : row ≠ some b) : ∃ cs t,w'.heap[b]? = some (.cells cs t (0,0)) := by
  obtain ⟨cs,t,hh⟩:=hx
  obtain ⟨cs',h'⟩:=h.shape b (Array.getElem?_eq_some_iff.1 hh).1 hr.symm cs t _ hh
  exact ⟨cs',t,h'⟩
set_option maxRecDepth 100000 in
set_option maxHeartbeats 2000000 in
theorem tree_begins_name (w : World) (r b0 : Nat) (P N : Int) (S : ByteArray) (v1 : Value) (hr0 : w.cell? ⟨r,0,none⟩ = some (.pointer (some ⟨b0,0,none⟩))) (hr1 : w.cell? ⟨r,1,none⟩ = some v1) (fr1 : w.frozen? ⟨r,1,none⟩ = false) :
    Calls Tryz.prog 42 #[.pointer (some ⟨r,0,none⟩), .agg #[.int .i64 1, .int .i64 P, .int .i64 N, .string S]] w fun e w' =>
      e = .returned (.int .i64 0) ∧ ∃ g,w.heap.size ≤ g ∧ g < w'.heap.size ∧ Open6 w' g S P none 0 0 false none 0 0 (some b0) ∧ w'.cell? ⟨r,1,none⟩ = some (.pointer (some ⟨g,0,none⟩)) ∧ (∃ cs t,w'.heap[g]? = some (.cells cs t (0,0))) ∧ Step w w' [(r,1)] none:=by
  have lr:=World.block_lt_of_cell? w _ hr0
  simp only at lr
  go_enter Tryz.func42,Tryz.ntmps42
  go_wp2_with fail
  go_region
  all_goals
    go_wp2
    go_ret
    refine ⟨rfl,w.heap.size + 1,by omega,by simp,open6_of_block (t := 81) ?_,?_,⟨_,_,by
      show (World.heap (World.alloc (World.alloc _ _) _))[w.heap.size + 1]? = _
      exact alloc_at _ _ (by simp)⟩,by (repeat (first | exact Step.refl _ _ _ | assumption | refine Step.drew ?_ | refine Step.alloc ?_ _ | refine Step.setCell ?_ (by first | exact Or.inr (Or.inl (by simp)) | exact Or.inl (by simp) | exact Or.inl (by simp;omega) | exact Or.inl (by omega)) _))⟩
    · show (World.heap (World.alloc (World.alloc _ _) _))[w.heap.size + 1]? = _
      exact alloc_at _ _ (by simp)
    · show World.cell? (World.alloc (World.alloc _ _) _) _ = _
      rw [World.cell?_alloc_lt _ _ _ (by simp;omega),World.cell?_alloc_lt _ _ _ (by simp;omega)]
      exact World.cell?_setCell_same _ _ _ hr1
set_option maxRecDepth 100000 in
set_option maxHeartbeats 2000000 in
theorem tree_begins_bad (w : World) (r b0 : Nat) (K P N : Int) (S : ByteArray) (up : Option Nat) (hr0 : w.cell? ⟨r,0,none⟩ = some (.pointer (some ⟨b0,0,none⟩))) (h5 : w.cell? ⟨b0,5,none⟩ = some (.pointer (up.map fun b => ⟨b,0,none⟩)))
    (h1 : K ≠ 1) (h4 : K ≠ 4 ∨ up = none) :
    Calls Tryz.prog 42 #[.pointer (some ⟨r,0,none⟩), .agg #[.int .i64 K, .int .i64 P, .int .i64 N, .string S]] w fun e w' => e = .returned (.int .i64 5) ∧ Step w w' [] none:=by
  have lr:=World.block_lt_of_cell? w _ hr0
  have lb:=World.block_lt_of_cell? w _ h5
  simp only at lr lb
  have k1 : (K == 1) = false:=beq_false_of_ne h1
  by_cases hk : K = 4
  · subst hk
    rcases h4 with h | h
    · exact absurd rfl h
    · subst h
      simp only [Option.map_none] at h5
      go_enter Tryz.func42,Tryz.ntmps42
      go_wp2
      go_ret
      exact ⟨rfl,by (repeat (first | exact Step.refl _ _ _ | assumption | refine Step.drew ?_ | refine Step.alloc ?_ _ | refine Step.setCell ?_ (by first | exact Or.inr (Or.inl (by simp)) | exact Or.inl (by simp) | exact Or.inl (by simp;omega) | exact Or.inl (by omega)) _))⟩
  · have k4 : (K == 4) = false := beq_false_of_ne hk
    clear h4 h1 hk
    go_enter Tryz.func42,Tryz.ntmps42
    go_wp2
    go_ret
    exact ⟨rfl,by (repeat (first | exact Step.refl _ _ _ | assumption | refine Step.drew ?_ | refine Step.alloc ?_ _ | refine Step.setCell ?_ (by first | exact Or.inr (Or.inl (by simp)) | exact Or.inl (by simp) | exact Or.inl (by simp;omega) | exact Or.inl (by omega)) _))⟩
theorem own_lt {w : World} {B0 e size g m cap n : Nat} {xs : List Value} (h : w.ownsRow B0 e size (.slice (some ⟨g,0,none⟩) m cap) n xs) (hx : xs ≠ []) : g < w.heap.size := by
  obtain ⟨u,r,rfl⟩:=List.exists_cons_of_ne_nil hx
  have:=h.cells (g:=g) rfl 0 u rfl
  exact World.block_lt_of_cell? w _ this
/-- What a block's end leaves: the block's cells behind its parent's kids. -/
def ClosedPost (w : World) (r p : Nat) (D : Int) (B0 n : Nat) (A : Option Addr) (c : Nat) (kcs news : List Value) (e : Ending) (w' : World) : Prop :=
  e = .returned (.int .i64 0) ∧ ∃ g cap,w'.ownsRow B0 44 5 (.slice (some ⟨g,0,none⟩) (n + 1) cap) (n + 1) (kcs ++ news) ∧
    (Value.ownBlock (.slice A n c) = some g ∨ w.heap.size ≤ g) ∧ g < w'.heap.size ∧ w'.cell? ⟨p,4,none⟩ = some (.slice (some ⟨g,0,none⟩) (n + 1) cap) ∧
    w'.cell? ⟨r,0,none⟩ = some (.pointer (some ⟨p,0,none⟩)) ∧ w'.cell? ⟨r,1,none⟩ = some (.pointer none) ∧ w'.cell? ⟨r,2,none⟩ = some (.int .i64 D) ∧
    Step w w' [(p,4),(r,0),(r,1),(r,2)] (Value.ownBlock (.slice A n c))
set_option maxRecDepth 100000 in
set_option maxHeartbeats 2000000 in
theorem tree_begins_close (w : World) (r b p B0 n c : Nat) (A : Option Addr) (kcs : List Value) (D P' N' : Int) (S' S : ByteArray) (P : Int) (Aw Ak : Option Addr) (nw cw nk ck : Nat) (bl : Bool) (v1 : Value)
    (hr0 : w.cell? ⟨r,0,none⟩ = some (.pointer (some ⟨b,0,none⟩))) (hr1 : w.cell? ⟨r,1,none⟩ = some v1) (hr2 : w.cell? ⟨r,2,none⟩ = some (.int .i64 D)) (fr : ∀ j,w.frozen? ⟨r,j,none⟩ = false) (hD : 1 ≤ D ∧ D ≤ 100)
    (hb : Open6 w b S P Aw nw cw bl Ak nk ck (some p))
    (hk : w.cell? ⟨p,4,none⟩ = some (.slice A n c)) (fk : w.frozen? ⟨p,4,none⟩ = false) (hown : w.ownsRow B0 44 5 (.slice A n c) n kcs)
    (hn : n ≤ 100000) (hB0 : B0 ≤ w.heap.size)
    (ar : Value.ownBlock (.slice A n c) ≠ some r) (ap : Value.ownBlock (.slice A n c) ≠ some p) (ab : Value.ownBlock (.slice A n c) ≠ some b) (hrp : r ≠ p) (hrb : r ≠ b) (hpb : p ≠ b) :
    Calls Tryz.prog 42 #[.pointer (some ⟨r,0,none⟩), .agg #[.int .i64 4, .int .i64 P', .int .i64 N', .string S']] w
      (ClosedPost w r p (D - 1) B0 n A c kcs [.string S, .int .i64 P, .slice Aw nw cw, .bool bl, .slice Ak nk ck]):=by
  have lr:=World.block_lt_of_cell? w _ hr0
  have lb:=World.block_lt_of_cell? w _ hb.1
  have lp:=World.block_lt_of_cell? w _ hk
  simp only at lr lb lp
  obtain ⟨b0,b1,b2,b3,b4,b5,bf⟩:=hb
  simp only [Option.map_some] at b5
  have fr0:=fr 0
  have fr1:=fr 1
  have fr2:=fr 2
  have hbr : b ≠ r:=fun h => hrb h.symm
  have hD1 : IntKind.i64.wrap (D - 1) = D - 1:=by rw [IntKind.wrap_i64];omega
  go_enter Tryz.func42,Tryz.ntmps42
  go_wp2_with fail
  go_region
  all_goals
    go_wp2_with fail
    have S1 : Step w ((((w.setCell ⟨r,2,none⟩ (.int .i64 (D - 1))).setCell ⟨r,1,none⟩ (.pointer (some ⟨b,0,none⟩))).setCell ⟨r,0,none⟩ (.pointer (some ⟨p,0,none⟩))).alloc (.cells #[.int .i64 4, .int .i64 P', .int .i64 N', .string S'] 86)).drew [(r,2),(r,1),(r,0)] none:=by (repeat (first | exact Step.refl _ _ _ | assumption | refine Step.drew ?_ | refine Step.alloc ?_ _ | refine Step.setCell ?_ (by first | exact Or.inr (Or.inl (by simp)) | exact Or.inl (by simp) | exact Or.inl (by simp;omega) | exact Or.inl (by omega)) _))
    have c0 : (((w.setCell ⟨r,2,none⟩ (.int .i64 (D - 1))).setCell ⟨r,1,none⟩ (.pointer (some ⟨b,0,none⟩))).setCell ⟨r,0,none⟩ (.pointer (some ⟨p,0,none⟩))).cell? ⟨r,0,none⟩ = some (.pointer (some ⟨p,0,none⟩)) :=
      World.cell?_setCell_same _ _ _ (by rw [World.cell?_setCell_other _ _ _ _ (by simp),World.cell?_setCell_other _ _ _ _ (by simp)];exact hr0)
    have c1 : (((w.setCell ⟨r,2,none⟩ (.int .i64 (D - 1))).setCell ⟨r,1,none⟩ (.pointer (some ⟨b,0,none⟩))).setCell ⟨r,0,none⟩ (.pointer (some ⟨p,0,none⟩))).cell? ⟨r,1,none⟩ = some (.pointer (some ⟨b,0,none⟩)) := by
      rw [World.cell?_setCell_other _ _ _ _ (by simp)]
      exact World.cell?_setCell_same _ _ _ (by rw [World.cell?_setCell_other _ _ _ _ (by simp)];exact hr1)
    have c2 : (((w.setCell ⟨r,2,none⟩ (.int .i64 (D - 1))).setCell ⟨r,1,none⟩ (.pointer (some ⟨b,0,none⟩))).setCell ⟨r,0,none⟩ (.pointer (some ⟨p,0,none⟩))).cell? ⟨r,2,none⟩ = some (.int .i64 (D - 1)) := by
      rw [World.cell?_setCell_other _ _ _ _ (by simp),World.cell?_setCell_other _ _ _ _ (by simp)]
      exact World.cell?_setCell_same _ _ _ hr2
    have e0:=(cell_drew _ _).trans ((World.cell?_alloc_lt _ (.cells #[.int .i64 4, .int .i64 P', .int .i64 N', .string S'] 86) ⟨r,0,none⟩ (by simpa using lr)).trans c0)
    have e1:=(cell_drew _ _).trans ((World.cell?_alloc_lt _ (.cells #[.int .i64 4, .int .i64 P', .int .i64 N', .string S'] 86) ⟨r,1,none⟩ (by simpa using lr)).trans c1)
    have e2:=(cell_drew _ _).trans ((World.cell?_alloc_lt _ (.cells #[.int .i64 4, .int .i64 P', .int .i64 N', .string S'] 86) ⟨r,2,none⟩ (by simpa using lr)).trans c2)
    have hsz : (((((w.setCell ⟨r,2,none⟩ (.int .i64 (D - 1))).setCell ⟨r,1,none⟩ (.pointer (some ⟨b,0,none⟩))).setCell ⟨r,0,none⟩ (.pointer (some ⟨p,0,none⟩))).alloc (.cells #[.int .i64 4, .int .i64 P', .int .i64 N', .string S'] 86)).drew).heap.size = w.heap.size + 1:=by simp
    generalize ((((w.setCell ⟨r,2,none⟩ (.int .i64 (D - 1))).setCell ⟨r,1,none⟩ (.pointer (some ⟨b,0,none⟩))).setCell ⟨r,0,none⟩ (.pointer (some ⟨p,0,none⟩))).alloc (.cells #[.int .i64 4, .int .i64 P', .int .i64 N', .string S'] 86)).drew = W1 at *
    have nb : ∀ j,(b,j) ∉ [(r,2),(r,1),(r,0)]:=fun j => by simp [hbr]
    have np : ∀ j,(p,j) ∉ [(r,2),(r,1),(r,0)]:=fun j => by simp [Ne.symm hrp]
    refine (tree_close W1 r p b B0 n c A kcs S P Aw Ak nw cw nk ck bl e0 e1 ((S1.froz r lr (by simp) 1).trans fr1) ((S1.cell p lp (by simp) 4 (np 4)).trans hk) ((S1.froz p lp (by simp) 4).trans fk)
      (S1.own hown (fun k hk j => by simp only [List.mem_cons,Prod.mk.injEq,List.not_mem_nil,or_false];intro h;rcases h with h | h | h <;> exact ar (by rw [hk,h.1])) (Classical.em _))
      ((S1.cell b lb (by simp) 0 (nb 0)).trans b0) ((S1.cell b lb (by simp) 1 (nb 1)).trans b1) ((S1.cell b lb (by simp) 2 (nb 2)).trans b2) ((S1.cell b lb (by simp) 3 (nb 3)).trans b3) ((S1.cell b lb (by simp) 4 (nb 4)).trans b4)
      hn (by omega) ar ap ab hrp hrb hpb).mono ?_
    rintro e w' ⟨rfl,g,cap,h1,h2,h3,h4,h5⟩
    go_wp2
    go_ret
    refine ⟨rfl,g,cap,h1,h2.imp id (fun h => by omega),own_lt h1 (by simp),h3,(h5.cell r (by omega) (fun e => ar e.symm) 0 (by simp [hrp])).trans e0,h4,(h5.cell r (by omega) (fun e => ar e.symm) 2 (by simp [hrp])).trans e2,?_⟩
    exact Step.trans S1 h5 (fun x hx => by simp at hx ⊢;rcases hx with h | h | h <;> simp [h]) (fun x hx => by simp at hx ⊢;rcases hx with h | h <;> simp [h])
end Go.Proofs.YtjbniichcopnlaaGreatDoor
