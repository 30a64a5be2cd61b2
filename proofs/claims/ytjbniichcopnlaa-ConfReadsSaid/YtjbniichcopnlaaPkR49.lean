/- Layer 9 (tree): the walk of the reference's item. -/
import Derived.Test.YtjbniichcopnlaaPkR48
import Derived.Deep.DeepCutAuto
set_option linter.unusedVariables false
set_option linter.unusedSimpArgs false
namespace Go.Proofs.Ytjbniichcopnlaa
open Go.RowKit
open Go.Joins renaming cell_of_block → zb, unfrozen_of_block → zu
open Go.Lib renaming hid → zh
attribute [local go_sem ↓] Go.wp_at_zero Go.wp_at_succ
def rdrK (w : World) (rb : Nat) : Nat :=
  match w.cell? ⟨rb,1,none⟩ with
  | some (.int _ n) => n.toNat
  | _ => 0
theorem Rdr.kAt {w : World} {rb : Nat} {L : Value} {k : Nat} {E p e : Int} (h : Rdr w rb L k E p e) : rdrK w rb = k := by
  unfold rdrK
  rw [zb h 1]
  simp
@[local simp] theorem rc_mem (rb : Nat) : (rb,1) ∈ RC rb:=by simp [RC]
theorem two_new (w : World) (o1 o2 o3 : Obj) : (((w.alloc o1).alloc o2).alloc o3).heap[w.heap.size + 2]? = some o3 := by
  have h:=heap_alloc_new ((w.alloc o1).alloc o2) o3
  have hs : ((w.alloc o1).alloc o2).heap.size = w.heap.size + 2:=by simp
  rw [hs] at h
  exact h
theorem one_new (w : World) (o1 o2 o3 : Obj) : (((w.alloc o1).alloc o2).alloc o3).heap[w.heap.size + 1]? = some o2 := by
  have h:=heap_alloc_new (w.alloc o1) o2
  have hs : (w.alloc o1).heap.size = w.heap.size + 1:=by simp
  rw [hs] at h
  exact alloc_keeps _ h
/-- What holds in the loop of item. -/
structure IwI (l : List Tok) (A : Option Addr) (c : Nat) (E : Int) (rb k0 d : Nat) (t : Tok) (w wr : World) (ws : List WordL) (k : Nat) (Aw : Option Addr) (cw : Nat) (p : Int) : Prop where
  node : wr.heap[w.heap.size + 2]? = some (.cells #[.string ⟨t.s.toArray⟩, .int .i64 t.pos, .slice Aw ws.length cw, .bool false, .slice none 0 0] 40 (0,0))
  res : wr.heap[w.heap.size + 1]? = some (.cells #[.string ⟨#[]⟩, .int .i64 0, .slice none 0 0, .bool false, .slice none 0 0] 40 (0,0))
  own : wr.ownsRow (w.heap.size + 3) 62 4 (.slice Aw ws.length cw) ws.length (ws.flatMap WordL.cells)
  rdr : Rdr wr rb (.slice A l.length c) k E p 0
  step : Step w wr (RC rb) none
  len : ws.length ≤ 8
  ge : k0 ≤ k
  le : k ≤ l.length
  ah : Ahead l E d k0 (some ⟨t.s,t.pos,[]⟩) k (some ⟨t.s,t.pos,ws⟩) []
section
variable {l : List Tok} {A : Option Addr} {c : Nat} {E : Int} {rb k0 d : Nat} {t : Tok} {w w1 w2 : World} {ws : List WordL} {k : Nat} {Aw : Option Addr} {cw : Nat} {p : Int}
theorem item_done {node : NodeL} {cs : List Value} {κ e : Int} (hS : Step w w2 (RC rb) none) (hk : ∀ b,b ≠ w.heap.size + 1 → w2.heap[b]? = w1.heap[b]?) (hsz : w2.heap.size = w1.heap.size) (hr : Rdr w1 rb (.slice A l.length c) κ E p e) (hrb : rb < w.heap.size)
    (hn : NodeCap w1 (fun b => w.heap.size + 3 ≤ b ∧ b < w1.heap.size) node cs) (hrel : ItemRel l E d k0 ⟨t.s,t.pos,[]⟩ node κ p e) {v : Value} (hv : v = .agg cs.toArray) : ItemPost l A c E rb k0 d t w (.returned v) w2:=by
  subst hv
  refine ⟨node,cs,κ,p,e,rfl,?_,(hk rb (by omega)).trans hr,hS,hrel⟩
  exact ⟨NodeOk.keep (fun b hb => ⟨by have:=hb.1;omega,by have:=hb.2;omega⟩) (fun q hq => World.cell?_of_block (hk q.block (by have:=hq.1;omega))) _ _ hn.1,hn.2⟩
theorem item_done2 {node : NodeL} {cs : List Value} {κ e : Int} (hS : Step w w2 (RC rb) none) (hk : ∀ b,w.heap.size + 3 ≤ b → w2.heap[b]? = w1.heap[b]?) (hsz : w2.heap.size = w1.heap.size) (hr : Rdr w2 rb (.slice A l.length c) κ E p e)
    (hn : NodeCap w1 (fun b => w.heap.size + 3 ≤ b ∧ b < w1.heap.size) node cs) (hrel : ItemRel l E d k0 ⟨t.s,t.pos,[]⟩ node κ p e) {v : Value} (hv : v = .agg cs.toArray) : ItemPost l A c E rb k0 d t w (.returned v) w2:=by
  subst hv
  refine ⟨node,cs,κ,p,e,rfl,?_,hr,hS,hrel⟩
  exact ⟨NodeOk.keep (fun b hb => ⟨by have:=hb.1;omega,by have:=hb.2;omega⟩) (fun q hq => World.cell?_of_block (hk q.block hq.1)) _ _ hn.1,hn.2⟩
theorem node_plain {B0 : Nat} {nm : List UInt8} {ps : Int} {bl : Bool} (hown : w1.ownsRow (w.heap.size + 3) 62 4 (.slice Aw ws.length cw) ws.length (ws.flatMap WordL.cells)) :
    NodeCap w1 (fun b => w.heap.size + 3 ≤ b ∧ b < w1.heap.size) (.mk nm ps ws bl []) [.string ⟨nm.toArray⟩, .int .i64 ps, .slice Aw ws.length cw, .bool bl, .slice none 0 0]:=by
  refine ⟨?_,fun A n c hm => by
    simp only [List.mem_cons,List.not_mem_nil,or_false,reduceCtorEq,false_or,Value.slice.injEq] at hm
    rcases hm with ⟨_,h1,h2⟩ | ⟨_,h1,h2⟩
    · have:=own_cap hown;omega
    · omega⟩
  simp only [NodeOk]
  obtain ⟨h1,h2⟩:=reads_of_own hown (fun b => w.heap.size + 3 ≤ b ∧ b < w1.heap.size) (fun x hx => by have:=own_ge hown x hx;omega)
  exact ⟨Aw,cw,none,0,[],rfl,h2,fun _ => rfl,h1,ReadsM.nil _ _ _ _,rfl⟩
theorem node_block {w0 : World} {nm : List UInt8} {ps : Int} {out : List NodeL} {A' : Option Addr} {c' : Nat} {kcs : List Value} (h0 : w.heap.size + 3 ≤ w0.heap.size)
    (hown : w1.ownsRow (w.heap.size + 3) 62 4 (.slice Aw ws.length cw) ws.length (ws.flatMap WordL.cells)) (hnil : ItemsCap A' c' out kcs) (hr : ReadsM w1 (Fresh w0 w1) 5 A' out.length kcs) (hn : NodesOk w1 (Fresh w0 w1) out kcs) :
    NodeCap w1 (fun b => w.heap.size + 3 ≤ b ∧ b < w1.heap.size) (.mk nm ps ws true out) [.string ⟨nm.toArray⟩, .int .i64 ps, .slice Aw ws.length cw, .bool true, .slice A' out.length c']:=by
  refine ⟨?_,fun A n c hm => by
    simp only [List.mem_cons,List.not_mem_nil,or_false,reduceCtorEq,false_or,Value.slice.injEq] at hm
    rcases hm with ⟨_,h1,h2⟩ | ⟨_,h1,h2⟩
    · have:=own_cap hown;omega
    · have:=hnil.2.1;omega⟩
  simp only [NodeOk]
  obtain ⟨h1,h2⟩:=reads_of_own hown (fun b => w.heap.size + 3 ≤ b ∧ b < w1.heap.size) (fun x hx => by have:=own_ge hown x hx;omega)
  have hm : ∀ b,Fresh w0 w1 b → w.heap.size + 3 ≤ b ∧ b < w1.heap.size:=fun b hb => by have:=hb.1;have:=hb.2;omega
  exact ⟨Aw,cw,A',c',kcs,rfl,h2,hnil.1,h1,hr.keep hm (fun _ _ => rfl),NodesOk.keep hm (fun _ _ => rfl) _ _ hn⟩
theorem far_frozen {o : Obj} {w4 : World} {n : Nat} {xs : List Value} {b j : Nat} (hg : (w1.alloc o).grownBy w4 (Value.ownBlock (.slice Aw n cw))) (hown : w1.ownsRow (w.heap.size + 3) 62 4 (.slice Aw n cw) n xs) (hb : b < w.heap.size + 3 ∧ b < w1.heap.size)
    (hf : w1.frozen? ⟨b,j,none⟩ = false) : w4.frozen? ⟨b,j,none⟩ = false:=by
  refine (hg.frozen_far ⟨b,j,none⟩ (by simp;omega) (fun e => ?_)).trans ((World.frozen?_alloc_old w1 o ⟨b,j,none⟩ (by show b ≠ _;omega)).trans hf)
  have:=(own_ge hown b (mem_ownB.2 e.symm)).1
  omega
theorem far_cell {o : Obj} {w4 : World} {n : Nat} {xs : List Value} {b j : Nat} {v : Value} (hg : (w1.alloc o).grownBy w4 (Value.ownBlock (.slice Aw n cw))) (hown : w1.ownsRow (w.heap.size + 3) 62 4 (.slice Aw n cw) n xs) (hb : b < w.heap.size + 3 ∧ b < w1.heap.size)
    (hf : w1.cell? ⟨b,j,none⟩ = some v) : w4.cell? ⟨b,j,none⟩ = some v:=by
  refine (hg.cell_far ⟨b,j,none⟩ (by simp;omega) (fun e => ?_)).trans ((World.cell?_alloc_lt w1 o ⟨b,j,none⟩ (by show b < _;omega)).trans hf)
  have:=(own_ge hown b (mem_ownB.2 e.symm)).1
  omega
theorem w64 {k : Nat} (h : k ≤ 70000) : wrap64 ((k : Int) + 1) = ((k + 1 : Nat) : Int):=by unfold wrap64;omega
theorem step5 {w w4 : World} {rb : Nat} (v0 v1 v2 v3 v4 : Value) (h : Step w w4 (RC rb) none) :
    Step w (((((w4.setCell ⟨w.heap.size + 1,0,none⟩ v0).setCell ⟨w.heap.size + 1,1,none⟩ v1).setCell ⟨w.heap.size + 1,2,none⟩ v2).setCell ⟨w.heap.size + 1,3,none⟩ v3).setCell ⟨w.heap.size + 1,4,none⟩ v4) (RC rb) none:=by
  have a1 : w.heap.size ≤ w.heap.size + 1:=by omega
  exact ((((h.setCell (.inl a1) _).setCell (.inl a1) _).setCell (.inl a1) _).setCell (.inl a1) _).setCell (.inl a1) _
theorem keep5 (w4 : World) (b B : Nat) (v0 v1 v2 v3 v4 : Value) (h1 : b ≠ B + 1) :
    (((((w4.setCell ⟨B + 1,0,none⟩ v0).setCell ⟨B + 1,1,none⟩ v1).setCell ⟨B + 1,2,none⟩ v2).setCell ⟨B + 1,3,none⟩ v3).setCell ⟨B + 1,4,none⟩ v4).heap[b]? = w4.heap[b]?:=by
  rw [Go.heap_setCell_other _ _ b _ h1,Go.heap_setCell_other _ _ b _ h1,Go.heap_setCell_other _ _ b _ h1,Go.heap_setCell_other _ _ b _ h1,Go.heap_setCell_other _ _ b _ h1]
theorem step7 {w w4 : World} {rb : Nat} (v x v0 v1 v2 v3 v4 : Value) (h : Step w w4 (RC rb) none) :
    Step w (((((((w4.setCell ⟨w.heap.size + 1 + 1,4,none⟩ v).setCell ⟨rb,1,none⟩ x).setCell ⟨w.heap.size + 1,0,none⟩ v0).setCell ⟨w.heap.size + 1,1,none⟩ v1).setCell ⟨w.heap.size + 1,2,none⟩ v2).setCell ⟨w.heap.size + 1,3,none⟩ v3).setCell ⟨w.heap.size + 1,4,none⟩ v4) (RC rb) none:=by
  have a1 : w.heap.size ≤ w.heap.size + 1:=by omega
  have a2 : w.heap.size ≤ w.heap.size + 1 + 1:=by omega
  exact ((((((h.setCell (.inl a2) _).setCell (.inr (.inl (rc_mem rb))) _).setCell (.inl a1) _).setCell (.inl a1) _).setCell (.inl a1) _).setCell (.inl a1) _).setCell (.inl a1) _
theorem keep7 (w4 : World) (rb b B : Nat) (v x v0 v1 v2 v3 v4 : Value) (h1 : b ≠ B + 1) (h2 : b ≠ B + 1 + 1) (h3 : b ≠ rb) :
    (((((((w4.setCell ⟨B + 1 + 1,4,none⟩ v).setCell ⟨rb,1,none⟩ x).setCell ⟨B + 1,0,none⟩ v0).setCell ⟨B + 1,1,none⟩ v1).setCell ⟨B + 1,2,none⟩ v2).setCell ⟨B + 1,3,none⟩ v3).setCell ⟨B + 1,4,none⟩ v4).heap[b]? = w4.heap[b]?:=by
  rw [Go.heap_setCell_other _ _ b _ h1,Go.heap_setCell_other _ _ b _ h1,Go.heap_setCell_other _ _ b _ h1,Go.heap_setCell_other _ _ b _ h1,Go.heap_setCell_other _ _ b _ h1,Go.heap_setCell_other _ _ b _ h3,Go.heap_setCell_other _ _ b _ h2]
theorem rdr7 {w4 : World} {rb B : Nat} {L : Value} {κ E p e x : Int} (v v0 v1 v2 v3 v4 : Value) (y : Value) (hy : y = .int .i64 x) (h1 : rb ≠ B + 1) (h2 : rb ≠ B + 1 + 1) (h : Rdr w4 rb L κ E p e) :
    Rdr (((((((w4.setCell ⟨B + 1 + 1,4,none⟩ v).setCell ⟨rb,1,none⟩ y).setCell ⟨B + 1,0,none⟩ v0).setCell ⟨B + 1,1,none⟩ v1).setCell ⟨B + 1,2,none⟩ v2).setCell ⟨B + 1,3,none⟩ v3).setCell ⟨B + 1,4,none⟩ v4) rb L x E p e:=by
  subst hy
  unfold Rdr
  rw [Go.heap_setCell_other _ _ rb _ h1,Go.heap_setCell_other _ _ rb _ h1,Go.heap_setCell_other _ _ rb _ h1,Go.heap_setCell_other _ _ rb _ h1,Go.heap_setCell_other _ _ rb _ h1]
  have:=set_block (o:=1) (.int .i64 x) ((Go.heap_setCell_other w4 ⟨B + 1 + 1,4,none⟩ rb v h2).trans h)
  simpa using this
/-- One more word: behind it. -/
theorem IwI.next {w3 w4 : World} {o : Obj} {u : Tok} {g cap : Nat} (hrb : rb < w.heap.size) (h3 : w.heap.size + 3 ≤ w3.heap.size)
    (hnode : w3.heap[w.heap.size + 2]? = some (.cells #[.string ⟨t.s.toArray⟩, .int .i64 t.pos, .slice Aw ws.length cw, .bool false, .slice none 0 0] 40 (0,0)))
    (hres : w3.heap[w.heap.size + 1]? = some (.cells #[.string ⟨#[]⟩, .int .i64 0, .slice none 0 0, .bool false, .slice none 0 0] 40 (0,0)))
    (hrow : w3.ownsRow (w.heap.size + 3) 62 4 (.slice Aw ws.length cw) ws.length (ws.flatMap WordL.cells))
    (hr : Rdr w3 rb (.slice A l.length c) ((k + 1 : Nat) : Int) E p 0) (hS : Step w w3 (RC rb) none) (hlen : ws.length < 8) (hge : k0 ≤ k) (hu : l[k]? = some u) (hk : u.kind = 1 ∨ u.kind = 2)
    (hah : Ahead l E d k0 (some ⟨t.s,t.pos,[]⟩) k (some ⟨t.s,t.pos,ws⟩) [])
    (hown : w4.ownsRow (w.heap.size + 3) 62 4 (.slice (some ⟨g,0,none⟩) (ws.length + 1) cap) (ws.length + 1) (ws.flatMap WordL.cells ++ WordL.cells ⟨decide (u.kind = 2),u.n,u.s,u.pos⟩))
    (hg : (w3.alloc o).grownBy w4 (Value.ownBlock (.slice Aw ws.length cw))) :
    IwI l A c E rb k0 d t w (w4.setCell ⟨w.heap.size + 2,2,none⟩ (.slice (some ⟨g,0,none⟩) (ws.length + 1) cap)) (ws ++ [⟨decide (u.kind = 2),u.n,u.s,u.pos⟩]) (k + 1) (some ⟨g,0,none⟩) cap p:=by
  have hge2:=own_ge hrow
  have hz4:=hg.size
  simp at hz4
  have hlt:=(List.getElem?_eq_some_iff.1 hu).1
  have hb : ∀ b,b < w.heap.size + 3 → w4.heap[b]? = w3.heap[b]? := fun b hb => by
    refine (hg.block b (by simp;omega) (fun e => ?_)).trans (heap_alloc_old w3 o (by omega))
    have:=(hge2 b (mem_ownB.2 e.symm)).1
    omega
  have hb2 : ∀ b,b ≠ w.heap.size + 2 → (w4.setCell ⟨w.heap.size + 2,2,none⟩ (.slice (some ⟨g,0,none⟩) (ws.length + 1) cap)).heap[b]? = w4.heap[b]?:=fun b hb => Go.heap_setCell_other w4 _ b _ hb
  have hg3 : w.heap.size + 3 ≤ g:=(own_ge hown g (by simp [ownB])).1
  have hS4 : Step w w4 (RC rb) none:=(hS.alloc o).grown hg (fun x hx => .inr (by have:=(hge2 x (mem_ownB.2 hx)).1;omega))
  constructor
  · have := set_block (o := 2) (.slice (some ⟨g,0,none⟩) (ws.length + 1) cap) ((hb _ (by omega)).trans hnode)
    simpa using this
  · rw [hb2 _ (by omega),hb _ (by omega)];exact hres
  · have h2 : Step w4 (w4.setCell ⟨w.heap.size + 2,2,none⟩ (.slice (some ⟨g,0,none⟩) (ws.length + 1) cap)) [(w.heap.size + 2,2)] none := (Step.refl _ _ _).setCell (.inr (.inl (by simp))) _
    have := h2.own' hown (fun x hx => by
      simp [ownB] at hx
      subst hx
      exact ⟨fun j hj => by simp at hj;omega,by simp⟩)
    simpa [List.flatMap_append] using this
  · exact (hb2 rb (by omega)).trans ((hb rb (by omega)).trans hr)
  · exact hS4.setCell (.inl (by omega)) _
  · simp only [List.length_append,List.length_singleton];omega
  · omega
  · omega
  · have := hah.trans (ahead_word (E := E) (d := d) (i := ⟨t.s,t.pos,ws⟩) hu hk (by show ws.length ≠ 8; omega))
    simpa using this
end
set_option maxRecDepth 100000 in
set_option maxHeartbeats 20000000 in
theorem ref9_item_step (l : List Tok) (A : Option Addr) (c : Nat) (E : Int) (B0 rb k0 : Nat) (hl : l.length ≤ 65536) (hk0 : k0 ≤ l.length) (hB : B0 ≤ rb) (ih : ∀ k',k0 < k' → k' ≤ l.length → ItemsAt l A c E B0 rb k') : ItemAt9 l A c E B0 rb k0 := by
  intro d w p0 t hd hrd hr0
  have HRD:=zh hrd
  have HR0:=zh hr0
  have HIH:=zh ih
  have hrlt:=hr0.lt
  clear ih hrd hr0
  unfold tokV
  go_enter Try.func60,Try.ntmps60
  go_wp2_with fail
  go_loopw [] (fun wr => ∃ (ws : List WordL) (k : Nat) (Aw : Option Addr) (cw : Nat) (p : Int),IwI l A c E rb k0 d t w wr ws k Aw cw p) (fun wr => l.length - rdrK wr rb)
  case atStart =>
    refine ⟨[],k0,none,0,p0,⟨?_,?_,⟨rfl, .inl ⟨rfl,rfl⟩⟩,alloc_keeps _ (alloc_keeps _ (alloc_keeps _ HR0.out)),?_,by simp,Nat.le_refl _,hk0,ahead_refl⟩⟩
    · exact two_new _ _ _ _
    · exact one_new _ _ _ _
    · (repeat (first | exact Step.refl _ _ _ | assumption | refine Step.drew ?_ | refine Step.alloc ?_ _ | refine Step.setCell ?_ (by first | exact Or.inr (Or.inl (by simp)) | exact Or.inl (by simp) | exact Or.inl (by simp;omega) | exact Or.inl (by omega)) _))
  case round =>
    obtain ⟨ws,k,Aw,cw,p,hi⟩:=hrel
    have hwz:=hi.step.size
    have hz3:=(Array.getElem?_eq_some_iff.1 hi.node).1
    have g0:=zb hi.rdr 0
    have g1:=zb hi.rdr 1
    have g2:=zb hi.rdr 2
    have gf:=zu hi.rdr
    have f1:=gf 1
    have glt:=hi.rdr.lt
    have HIT:=zh hi
    have hkl:=hi.le
    have hkg:=hi.ge
    have hw8:=hi.len
    have hz3w:=hz3
    clear hi gf
    by_cases hlt : k < l.length
    · obtain ⟨u,hu⟩ : ∃ u,l[k]? = some u := ⟨_,List.getElem?_eq_getElem hlt⟩
      obtain ⟨ad,hA,hadb,t0,t1,t2,t3⟩:=tok_cells (HIT.out.step.keepReads hB hrlt HRD.out) k u hu
      subst hA
      have HU:=zh hu
      clear hu
      have lk : (k : Int) < l.length:=by omega
      have lk0 : (0 : Int) ≤ k:=by omega
      have w1f : IntKind.i64.wrap ((k : Int) + 1) = (k : Int) + 1:=by rw [IntKind.wrap_i64];omega
      go_wp2_with fail
      go_quiet (fail)
      generalize hW : wr.drewN _ = W
      have hG : ∀ q,W.cell? q = wr.cell? q:=fun q => by rw [← hW];rfl
      have hGf : ∀ q,W.frozen? q = wr.frozen? q:=fun q => by rw [← hW];rfl
      have hGh : W.heap = wr.heap:=by rw [← hW];rfl
      rw [← hG] at g0 g1 g2 t0 t1 t2 t3
      rw [← hGf] at f1
      rw [← hGh] at glt hz3
      have hlad : ad.block < W.heap.size:=by rw [hGh];omega
      have hne1 : ad.block ≠ W.heap.size:=by omega
      have hz : ∀ q : Addr,q.block < W.heap.size → (W.alloc (.cells #[.int .i64 0, .int .i64 0, .int .i64 0, .string ⟨#[]⟩] 58)).cell? q = W.cell? q:=fun q hq => World.cell?_alloc_lt W _ q hq
      have z0:=(hz _ (by rw [block_of_add];exact hlad)).trans t0
      have z1:=(hz _ (by show (ad.add (k * 4)).block < _;rw [block_of_add];exact hlad)).trans t1
      have z2:=(hz _ (by show (ad.add (k * 4)).block < _;rw [block_of_add];exact hlad)).trans t2
      have z3:=(hz _ (by show (ad.add (k * 4)).block < _;rw [block_of_add];exact hlad)).trans t3
      clear hz
      have HSW:=zh (show Step wr W [] none by rw [← hW];exact (Step.refl _ [] _).drewN _)
      clear hW hG hGf hGh
      go_wp2_with fail
      go_region
      obtain ⟨W1,hW1⟩ : ∃ W1,W1 = (W.alloc (.cells #[.int .i64 u.kind, .int .i64 u.pos, .int .i64 u.n, .string ⟨u.s.toArray⟩] 58)).drew:=⟨_,rfl⟩
      rw [← hW1]
      have hs1 : Step wr W1 [] none := by
        rw [hW1]
        exact ((HSW.out).alloc _).drew
      have hr1 : Rdr W1 rb (.slice (some ad) l.length c) k E p 0:=HIT.out.rdr.keep hs1 ⟨fun j hj => (by cases hj),by simp⟩
      have hb1 : W1.heap[W.heap.size]? = some (.cells #[.int .i64 u.kind, .int .i64 u.pos, .int .i64 u.n, .string ⟨u.s.toArray⟩] 58 (0,0)) := by
        rw [hW1];exact heap_alloc_new W _
      have hne : rb ≠ W.heap.size:=by omega
      generalize W.heap.size = tb at *
      clear hW1 g0 g1 g2 t0 t1 t2 t3 z0 z1 z2 z3 f1
      have y1:=zb hr1 1
      have yf:=zu hr1
      have f1:=yf 1
      have x0:=zb hb1 0
      have HR1:=zh hr1
      have HS1:=zh hs1
      have HB1:=zh hb1
      clear yf hr1 hs1 hb1
      go_upto_region 5 with fail
      generalize hW2 : W1.setCell _ _ = W2
      have hr2 : Rdr W2 rb (.slice (some ad) l.length c) ((k + 1 : Nat) : Int) E p 0 := by
        rw [← hW2]
        have:=set_block (o:=1) (.int .i64 ((k : Int) + 1)) HR1.out
        simpa [Rdr] using this
      have hs2 : Step wr W2 (RC rb) none := by
        rw [← hW2]
        exact Step.setCell (Step.trans HS1.out (Step.refl _ [] _) rc_nil rc_nil) (.inr (.inl (rc_mem rb))) _
      have hb2 : W2.heap[tb]? = some (.cells #[.int .i64 u.kind, .int .i64 u.pos, .int .i64 u.n, .string ⟨u.s.toArray⟩] 58 (0,0)) := by
        rw [← hW2]
        exact (Go.heap_setCell_other W1 _ tb _ (Ne.symm hne)).trans HB1.out
      clear hW2 y1 f1 x0 HR1 HS1 HB1
      have hsafe : ∀ x,w.heap.size ≤ x → Safe (RC rb) none x:=fun x hx => ⟨fun j hj => by simp [RC] at hj;omega,by simp⟩
      have x0:=zb hb2 0
      have x1:=zb hb2 1
      have x2:=zb hb2 2
      have x3:=zb hb2 3
      have y1:=zb hr2 1
      have yf:=zu hr2
      have f1:=yf 1
      have hnb : W2.heap[w.heap.size + 1 + 1]? = _:=(hs2.same (by omega) (hsafe _ (by omega))).trans HIT.out.node
      have hqb : W2.heap[w.heap.size + 1]? = _:=(hs2.same (by omega) (hsafe _ (by omega))).trans HIT.out.res
      have n0:=zb hnb 0
      have n1:=zb hnb 1
      have n2:=zb hnb 2
      have n3:=zb hnb 3
      have n4:=zb hnb 4
      have q0:=zb hqb 0
      have q1:=zb hqb 1
      have q2:=zb hqb 2
      have q3:=zb hqb 3
      have q4:=zb hqb 4
      have nf:=zu hnb
      have qf:=zu hqb
      have nf0:=nf 0
      have nf1:=nf 1
      have nf2:=nf 2
      have nf3:=nf 3
      have nf4:=nf 4
      have qf0:=qf 0
      have qf1:=qf 1
      have qf2:=qf 2
      have qf3:=qf 3
      have qf4:=qf 4
      have HNB:=zh hnb
      have HQB:=zh hqb
      clear nf qf hnb hqb
      have HO2:=zh (hs2.own' HIT.out.own (fun x hx => hsafe x (by have:=own_ge HIT.out.own x hx;omega)))
      have HR2:=zh hr2
      have HS2:=zh hs2
      have d1 : rb ≠ w.heap.size + 1:=by omega
      have d2 : rb ≠ w.heap.size + 1 + 1:=by omega
      have d3 : tb ≠ w.heap.size + 1:=by omega
      have d4 : tb ≠ w.heap.size + 1 + 1:=by omega
      have hz2:=hs2.size
      clear hb2 hr2 hs2 yf hsafe
      by_cases h12 : u.kind = 1 ∨ u.kind = 2
      · by_cases h8 : ws.length = 8
        · have l8 : ((ws.length : Int) == 8) = true := by simp [h8]
          have HWR:=zh (wrong_words (E:=E) (d:=d) (i:=⟨t.s,t.pos,ws⟩) HU.out h12 h8)
          rcases h12 with h12 | h12
          · have k1 : (u.kind == 1) = true := by simp [h12]
            clear h12 h8
            go_wp2_with fail
            clear n0 n1 n2 n3 n4 q0 q1 q2 q3 q4 nf0 nf1 nf2 nf3 nf4 qf0 qf1 qf2 qf3 qf4 HNB HQB
            refine (ref9_fail_none _ rb _ _ _ _ _ _ HR2.out).mono ?_
            rintro e w3 ⟨rfl,hr3,hs3⟩
            have hS3 : Step wr w3 (RC rb) none:=Step.trans HS2.out hs3 (fun _ h => h) (fun _ h => h)
            have hsafe : ∀ x,w.heap.size ≤ x → Safe (RC rb) none x:=fun x hx => ⟨fun j hj => by simp [RC] at hj;omega,by simp⟩
            have hnb : w3.heap[w.heap.size + 1 + 1]? = _:=(hS3.same (by omega) (hsafe _ (by omega))).trans HIT.out.node
            have hqb : w3.heap[w.heap.size + 1]? = _:=(hS3.same (by omega) (hsafe _ (by omega))).trans HIT.out.res
            have n0:=zb hnb 0
            have n1:=zb hnb 1
            have n2:=zb hnb 2
            have n3:=zb hnb 3
            have n4:=zb hnb 4
            have q0:=zb hqb 0
            have q1:=zb hqb 1
            have q2:=zb hqb 2
            have q3:=zb hqb 3
            have q4:=zb hqb 4
            have nf:=zu hnb
            have qf:=zu hqb
            have nf0:=nf 0
            have nf1:=nf 1
            have nf2:=nf 2
            have nf3:=nf 3
            have nf4:=nf 4
            have qf0:=qf 0
            have qf1:=qf 1
            have qf2:=qf 2
            have qf3:=qf 3
            have qf4:=qf 4
            have HNB:=zh hnb
            have HQB:=zh hqb
            clear nf qf hnb hqb
            have HO3:=zh (hS3.own' HIT.out.own (fun x hx => hsafe x (by have:=own_ge HIT.out.own x hx;omega)))
            have HR3:=zh hr3
            have HS3:=zh hS3
            clear hr3 hs3 hS3 hsafe
            go_wp2_with fail
            have hSw : Step w w3 (RC rb) none:=Step.trans HIT.out.step HS3.out (fun _ h => h) (fun _ h => h)
            refine bodyPost_ret (v:=.agg #[.string ⟨t.s.toArray⟩, .int .i64 t.pos, .slice Aw ws.length cw, .bool false, .slice none 0 0]) (by simp [results,Try.results60,go_sem, *]) rfl ?_
            refine item_done (w1:=w3) (cs:=[.string ⟨t.s.toArray⟩, .int .i64 t.pos, .slice Aw ws.length cw, .bool false, .slice none 0 0]) ?_ ?_ (by simp) HR3.out hrlt (node_plain (B0:=0) HO3.out) (.inr ⟨by decide,HIT.out.ah.wrong HWR.out⟩) rfl
            · exact step5 _ _ _ _ _ hSw
            · exact fun b hb => keep5 _ b _ _ _ _ _ _ hb
          · have k1 : (u.kind == 1) = false := by simp [h12]
            have k2 : (u.kind == 2) = true:=by simp [h12]
            clear h12 h8
            go_wp2_with fail
            clear n0 n1 n2 n3 n4 q0 q1 q2 q3 q4 nf0 nf1 nf2 nf3 nf4 qf0 qf1 qf2 qf3 qf4 HNB HQB
            refine (ref9_fail_none _ rb _ _ _ _ _ _ HR2.out).mono ?_
            rintro e w3 ⟨rfl,hr3,hs3⟩
            have hS3 : Step wr w3 (RC rb) none:=Step.trans HS2.out hs3 (fun _ h => h) (fun _ h => h)
            have hsafe : ∀ x,w.heap.size ≤ x → Safe (RC rb) none x:=fun x hx => ⟨fun j hj => by simp [RC] at hj;omega,by simp⟩
            have hnb : w3.heap[w.heap.size + 1 + 1]? = _:=(hS3.same (by omega) (hsafe _ (by omega))).trans HIT.out.node
            have hqb : w3.heap[w.heap.size + 1]? = _:=(hS3.same (by omega) (hsafe _ (by omega))).trans HIT.out.res
            have n0:=zb hnb 0
            have n1:=zb hnb 1
            have n2:=zb hnb 2
            have n3:=zb hnb 3
            have n4:=zb hnb 4
            have q0:=zb hqb 0
            have q1:=zb hqb 1
            have q2:=zb hqb 2
            have q3:=zb hqb 3
            have q4:=zb hqb 4
            have nf:=zu hnb
            have qf:=zu hqb
            have nf0:=nf 0
            have nf1:=nf 1
            have nf2:=nf 2
            have nf3:=nf 3
            have nf4:=nf 4
            have qf0:=qf 0
            have qf1:=qf 1
            have qf2:=qf 2
            have qf3:=qf 3
            have qf4:=qf 4
            have HNB:=zh hnb
            have HQB:=zh hqb
            clear nf qf hnb hqb
            have HO3:=zh (hS3.own' HIT.out.own (fun x hx => hsafe x (by have:=own_ge HIT.out.own x hx;omega)))
            have HR3:=zh hr3
            have HS3:=zh hS3
            clear hr3 hs3 hS3 hsafe
            go_wp2_with fail
            have hSw : Step w w3 (RC rb) none:=Step.trans HIT.out.step HS3.out (fun _ h => h) (fun _ h => h)
            refine bodyPost_ret (v:=.agg #[.string ⟨t.s.toArray⟩, .int .i64 t.pos, .slice Aw ws.length cw, .bool false, .slice none 0 0]) (by simp [results,Try.results60,go_sem, *]) rfl ?_
            refine item_done (w1:=w3) (cs:=[.string ⟨t.s.toArray⟩, .int .i64 t.pos, .slice Aw ws.length cw, .bool false, .slice none 0 0]) ?_ ?_ (by simp) HR3.out hrlt (node_plain (B0:=0) HO3.out) (.inr ⟨by decide,HIT.out.ah.wrong HWR.out⟩) rfl
            · exact step5 _ _ _ _ _ hSw
            · exact fun b hb => keep5 _ b _ _ _ _ _ _ hb
        · have l8 : ((ws.length : Int) == 8) = false := beq_false_of_ne (by omega)
          rcases h12 with h12 | h12
          · have k1 : (u.kind == 1) = true := by simp [h12]
            have k2 : (u.kind == 2) = false:=by simp [h12]
            have H12:=zh h12
            clear h12
            obtain ⟨i0,hi0,hz0,hz1,hz2'⟩:=info_parts info_word
            go_wp2_with (first | (at_builtin;refine wpList_append_lies _ (by rfl) _ _ _ (by rfl) (w.heap.size + 3) 62 i0 _ 4 40 Try.underlying38 hi0 hz0 hz1 hz2' rfl (by decide) _ _ _ rfl (HO2.out.alloc _) ⟨W2.heap.size,0,none⟩ 1 1 [.bool false, .int .i64 u.n, .string ⟨u.s.toArray⟩, .int .i64 u.pos] rfl rfl (cells_new _ [.bool false, .int .i64 u.n, .string ⟨u.s.toArray⟩, .int .i64 u.pos] _ _ (by simp)) (by simp [Value.oneCell']) (by decide) (by unfold maxLen;omega) (by omega) (by simp;omega) (W2.heap.size + 1) (by simp) ?_;intro g cap w4 hown4 hg4 hat4 hlt4;have nf2' : w4.frozen? ⟨w.heap.size + 1 + 1,2,none⟩ = false:=far_frozen hg4 HO2.out (by omega) nf2;have c2' : w4.cell? ⟨w.heap.size + 1 + 1,2,none⟩ = some (.slice Aw ws.length cw):=far_cell hg4 HO2.out (by omega) n2))
            have hc : WordL.cells ⟨decide (u.kind = 2),u.n,u.s,u.pos⟩ = [.bool false, .int .i64 u.n, .string ⟨u.s.toArray⟩, .int .i64 u.pos]:=by simp [WordL.cells,H12.out]
            have hnx:=IwI.next (o:=.cells #[.bool false, .int .i64 u.n, .string ⟨u.s.toArray⟩, .int .i64 u.pos] 62) hrlt (by omega) HNB.out HQB.out HO2.out HR2.out (Step.trans HIT.out.step HS2.out (fun _ h => h) (fun _ h => h)) (by omega) hkg HU.out (.inl H12.out) HIT.out.ah (by rw [hc];exact hown4) hg4
            go_roundw
            case rel => exact ⟨_,_,_,_,_,hnx⟩
            case measure =>
              rw [HIT.out.rdr.kAt]
              refine Nat.lt_of_le_of_lt (Nat.le_of_eq (congrArg (l.length - ·) hnx.rdr.kAt)) ?_
              omega
          · have k1 : (u.kind == 1) = false := by simp [h12]
            have k2 : (u.kind == 2) = true:=by simp [h12]
            have H12:=zh h12
            clear h12
            obtain ⟨i0,hi0,hz0,hz1,hz2'⟩:=info_parts info_word
            go_wp2_with (first | (at_builtin;refine wpList_append_lies _ (by rfl) _ _ _ (by rfl) (w.heap.size + 3) 62 i0 _ 4 40 Try.underlying38 hi0 hz0 hz1 hz2' rfl (by decide) _ _ _ rfl (HO2.out.alloc _) ⟨W2.heap.size,0,none⟩ 1 1 [.bool true, .int .i64 u.n, .string ⟨u.s.toArray⟩, .int .i64 u.pos] rfl rfl (cells_new _ [.bool true, .int .i64 u.n, .string ⟨u.s.toArray⟩, .int .i64 u.pos] _ _ (by simp)) (by simp [Value.oneCell']) (by decide) (by unfold maxLen;omega) (by omega) (by simp;omega) (W2.heap.size + 1) (by simp) ?_;intro g cap w4 hown4 hg4 hat4 hlt4;have nf2' : w4.frozen? ⟨w.heap.size + 1 + 1,2,none⟩ = false:=far_frozen hg4 HO2.out (by omega) nf2;have c2' : w4.cell? ⟨w.heap.size + 1 + 1,2,none⟩ = some (.slice Aw ws.length cw):=far_cell hg4 HO2.out (by omega) n2))
            have hc : WordL.cells ⟨decide (u.kind = 2),u.n,u.s,u.pos⟩ = [.bool true, .int .i64 u.n, .string ⟨u.s.toArray⟩, .int .i64 u.pos]:=by simp [WordL.cells,H12.out]
            have hnx:=IwI.next (o:=.cells #[.bool true, .int .i64 u.n, .string ⟨u.s.toArray⟩, .int .i64 u.pos] 62) hrlt (by omega) HNB.out HQB.out HO2.out HR2.out (Step.trans HIT.out.step HS2.out (fun _ h => h) (fun _ h => h)) (by omega) hkg HU.out (.inr H12.out) HIT.out.ah (by rw [hc];exact hown4) hg4
            go_roundw
            case rel => exact ⟨_,_,_,_,_,hnx⟩
            case measure =>
              rw [HIT.out.rdr.kAt]
              refine Nat.lt_of_le_of_lt (Nat.le_of_eq (congrArg (l.length - ·) hnx.rdr.kAt)) ?_
              omega
      · have k1 : (u.kind == 1) = false := beq_false_of_ne (by omega)
        have k2 : (u.kind == 2) = false:=beq_false_of_ne (by omega)
        by_cases h5 : u.kind = 5
        · have k5 : (u.kind == 5) = true := by simp [h5]
          have HAE:=zh (ahead_end (E:=E) (d:=d) (i:=⟨t.s,t.pos,ws⟩) HU.out h5)
          clear h5
          go_wp2_with fail
          have hSw : Step w W2 (RC rb) none:=Step.trans HIT.out.step HS2.out (fun _ h => h) (fun _ h => h)
          refine bodyPost_ret (v:=.agg #[.string ⟨t.s.toArray⟩, .int .i64 t.pos, .slice Aw ws.length cw, .bool false, .slice none 0 0]) (by simp [results,Try.results60,go_sem, *]) rfl ?_
          refine item_done (w1:=W2) (cs:=[.string ⟨t.s.toArray⟩, .int .i64 t.pos, .slice Aw ws.length cw, .bool false, .slice none 0 0]) ?_ ?_ (by simp) HR2.out hrlt (node_plain (B0:=0) HO2.out) (.inl ⟨rfl,k + 1,rfl,by omega,by omega,HIT.out.ah.trans HAE.out⟩) rfl
          · exact step5 _ _ _ _ _ hSw
          · exact fun b hb => keep5 _ b _ _ _ _ _ _ hb
        · have k5 : (u.kind == 5) = false := beq_false_of_ne h5
          by_cases h3 : u.kind = 3
          · have k3 : (u.kind == 3) = true := by simp [h3]
            by_cases h6 : d = 6
            · have l6 : ((d : Int) == 6) = true := by simp [h6]
              have HWR:=zh (wrong_deep (E:=E) (i:=⟨t.s,t.pos,ws⟩) HU.out h3 h6)
              clear h3 h6
              go_wp2_with fail
              clear n0 n1 n2 n3 n4 q0 q1 q2 q3 q4 nf0 nf1 nf2 nf3 nf4 qf0 qf1 qf2 qf3 qf4 HNB HQB
              refine (ref9_fail_none _ rb _ _ _ _ _ _ HR2.out).mono ?_
              rintro e w3 ⟨rfl,hr3,hs3⟩
              have hS3 : Step wr w3 (RC rb) none:=Step.trans HS2.out hs3 (fun _ h => h) (fun _ h => h)
              have hsafe : ∀ x,w.heap.size ≤ x → Safe (RC rb) none x:=fun x hx => ⟨fun j hj => by simp [RC] at hj;omega,by simp⟩
              have hnb : w3.heap[w.heap.size + 1 + 1]? = _:=(hS3.same (by omega) (hsafe _ (by omega))).trans HIT.out.node
              have hqb : w3.heap[w.heap.size + 1]? = _:=(hS3.same (by omega) (hsafe _ (by omega))).trans HIT.out.res
              have n0:=zb hnb 0
              have n1:=zb hnb 1
              have n2:=zb hnb 2
              have n3:=zb hnb 3
              have n4:=zb hnb 4
              have q0:=zb hqb 0
              have q1:=zb hqb 1
              have q2:=zb hqb 2
              have q3:=zb hqb 3
              have q4:=zb hqb 4
              have nf:=zu hnb
              have qf:=zu hqb
              have nf0:=nf 0
              have nf1:=nf 1
              have nf2:=nf 2
              have nf3:=nf 3
              have nf4:=nf 4
              have qf0:=qf 0
              have qf1:=qf 1
              have qf2:=qf 2
              have qf3:=qf 3
              have qf4:=qf 4
              have HNB:=zh hnb
              have HQB:=zh hqb
              clear nf qf hnb hqb
              have HO3:=zh (hS3.own' HIT.out.own (fun x hx => hsafe x (by have:=own_ge HIT.out.own x hx;omega)))
              have HR3:=zh hr3
              have HS3:=zh hS3
              clear hr3 hs3 hS3 hsafe
              go_wp2_with fail
              have hSw : Step w w3 (RC rb) none:=Step.trans HIT.out.step HS3.out (fun _ h => h) (fun _ h => h)
              refine bodyPost_ret (v:=.agg #[.string ⟨t.s.toArray⟩, .int .i64 t.pos, .slice Aw ws.length cw, .bool false, .slice none 0 0]) (by simp [results,Try.results60,go_sem, *]) rfl ?_
              refine item_done (w1:=w3) (cs:=[.string ⟨t.s.toArray⟩, .int .i64 t.pos, .slice Aw ws.length cw, .bool false, .slice none 0 0]) ?_ ?_ (by simp) HR3.out hrlt (node_plain (B0:=0) HO3.out) (.inr ⟨by decide,HIT.out.ah.wrong HWR.out⟩) rfl
              · exact step5 _ _ _ _ _ hSw
              · exact fun b hb => keep5 _ b _ _ _ _ _ _ hb
            · have l6 : ((d : Int) == 6) = false := beq_false_of_ne (by omega)
              have wd : IntKind.i64.wrap ((d : Int) + 1) = ((d + 1 : Nat) : Int):=by rw [IntKind.wrap_i64];omega
              have HU3:=zh h3
              clear h3
              go_wp2_with fail
              have hsafe : ∀ x,w.heap.size ≤ x → Safe (RC rb) none x:=fun x hx => ⟨fun j hj => by simp [RC] at hj;omega,by simp⟩
              generalize hW3 : W2.setCell _ _ = W3
              have hr3 : Rdr W3 rb (.slice (some ad) l.length c) ((k + 1 : Nat) : Int) E p 0 := by
                rw [← hW3];exact (Go.heap_setCell_other W2 _ rb _ d2).trans HR2.out
              have hs3 : Step w W3 (RC rb) none := by
                rw [← hW3];exact (Step.trans HIT.out.step HS2.out (fun _ h => h) (fun _ h => h)).setCell (.inl (by omega)) _
              have hnb3 : W3.heap[w.heap.size + 1 + 1]? = some (.cells #[.string ⟨t.s.toArray⟩, .int .i64 t.pos, .slice Aw ws.length cw, .bool true, .slice none 0 0] 40 (0,0)) := by
                rw [← hW3]
                have:=set_block (o:=3) (.bool true) HNB.out
                simpa using this
              have hqb3 : W3.heap[w.heap.size + 1]? = some (.cells #[.string ⟨#[]⟩, .int .i64 0, .slice none 0 0, .bool false, .slice none 0 0] 40 (0,0)) := by
                rw [← hW3];exact (Go.heap_setCell_other W2 _ (w.heap.size + 1) _ (by show w.heap.size + 1 ≠ w.heap.size + 1 + 1;omega)).trans HQB.out
              have hz3 : W3.heap.size = W2.heap.size:=by rw [← hW3];simp
              have ho3 : W3.ownsRow (w.heap.size + 3) 62 4 (.slice Aw ws.length cw) ws.length (ws.flatMap WordL.cells) := by
                rw [← hW3]
                refine Step.own' ((Step.refl W2 [(w.heap.size + 1 + 1,3)] none).setCell (.inr (.inl (by simp))) _) HO2.out (fun x hx => ?_)
                have:=(own_ge HO2.out x hx).1
                exact ⟨fun j hj => by simp at hj;omega,by simp⟩
              clear hW3
              clear n0 n1 n2 n3 n4 q0 q1 q2 q3 q4 nf0 nf1 nf2 nf3 nf4 qf0 qf1 qf2 qf3 qf4 HNB HQB
              have hc:=HIH.out (k + 1) (by omega) (by omega) (d + 1) W3 p (by omega) (Step.keepReads hs3 hB hrlt HRD.out) hr3
              refine hc.mono ?_
              rintro e w4 ⟨out,A',c',kcs,κ,p',e',rfl,hnil,hrk,hnk,hr4,hs4,hrel4⟩
              have hnb : w4.heap[w.heap.size + 1 + 1]? = _:=(hs4.same (by omega) (hsafe _ (by omega))).trans hnb3
              have hqb : w4.heap[w.heap.size + 1]? = _:=(hs4.same (by omega) (hsafe _ (by omega))).trans hqb3
              have n0:=zb hnb 0
              have n1:=zb hnb 1
              have n2:=zb hnb 2
              have n3:=zb hnb 3
              have n4:=zb hnb 4
              have q0:=zb hqb 0
              have q1:=zb hqb 1
              have q2:=zb hqb 2
              have q3:=zb hqb 3
              have q4:=zb hqb 4
              have nf:=zu hnb
              have qf:=zu hqb
              have nf0:=nf 0
              have nf1:=nf 1
              have nf2:=nf 2
              have nf3:=nf 3
              have nf4:=nf 4
              have qf0:=qf 0
              have qf1:=qf 1
              have qf2:=qf 2
              have qf3:=qf 3
              have qf4:=qf 4
              have HNB:=zh hnb
              have HQB:=zh hqb
              clear nf qf hnb hqb
              have HO4:=zh (hs4.own' ho3 (fun x hx => hsafe x (by have:=own_ge ho3 x hx;omega)))
              have g1:=zb hr4 1
              have gf:=zu hr4
              have f1:=gf 1
              have hz4:=hs4.size
              have hS4:=Step.trans hs3 hs4 (fun _ h => h) (fun _ h => h)
              have HR4:=zh hr4
              have HS4:=zh hS4
              have HRK:=zh hrk
              have HNK:=zh hnk
              have HNI:=zh hnil
              have HREL:=zh hrel4
              clear gf hr4 hs4 hS4 hrk hnk hnil hrel4 hc hsafe hr3 hs3 ho3
              go_wp2_with fail
              refine bodyPost_ret (v:=.agg #[.string ⟨t.s.toArray⟩, .int .i64 t.pos, .slice Aw ws.length cw, .bool true, .slice A' out.length c']) (by simp [results,Try.results60,go_sem, *]) rfl ?_
              have hSw:=HS4.out
              refine item_done2 (w1:=w4) (κ:=wrap64 (κ + 1)) (p:=p') (e:=e') (cs:=[.string ⟨t.s.toArray⟩, .int .i64 t.pos, .slice Aw ws.length cw, .bool true, .slice A' out.length c']) ?_ ?_ (by simp) ?_ (node_block (w0:=W3) (by omega) HO4.out HNI.out HRK.out HNK.out) ?_ rfl
              · exact step7 _ _ _ _ _ _ _ HS4.out
              · exact fun b hb => keep7 w4 rb b _ _ _ _ _ _ _ _ (by omega) (by omega) (by omega)
              · exact rdr7 _ _ _ _ _ _ _ rfl d1 d2 HR4.out
              · rcases HREL.out with ⟨rfl,k',hκ,hk1,hk2,ha,h4,h0⟩ | ⟨he,hw⟩
                · obtain ⟨t',ht',hk4⟩ := h4 (by omega)
                  have hlt':=(List.getElem?_eq_some_iff.1 ht').1
                  exact .inl ⟨rfl,k' + 1,by rw [hκ];exact w64 (by omega),by omega,by omega,HIT.out.ah.trans (ahead_block (i:=⟨t.s,t.pos,ws⟩) HU.out HU3.out h6 ha ht' hk4)⟩
                · exact .inr ⟨he,HIT.out.ah.wrong (wrong_block (i:=⟨t.s,t.pos,ws⟩) HU.out HU3.out h6 hw)⟩
          · have k3 : (u.kind == 3) = false := beq_false_of_ne h3
            have HWR:=zh (wrong_else (E:=E) (d:=d) (i:=⟨t.s,t.pos,ws⟩) HU.out ⟨fun e => h12 (.inl e),fun e => h12 (.inr e),h3,h5⟩)
            clear h3
            go_wp2_with fail
            clear n0 n1 n2 n3 n4 q0 q1 q2 q3 q4 nf0 nf1 nf2 nf3 nf4 qf0 qf1 qf2 qf3 qf4 HNB HQB
            refine (ref9_fail_none _ rb _ _ _ _ _ _ HR2.out).mono ?_
            rintro e w3 ⟨rfl,hr3,hs3⟩
            have hS3 : Step wr w3 (RC rb) none:=Step.trans HS2.out hs3 (fun _ h => h) (fun _ h => h)
            have hsafe : ∀ x,w.heap.size ≤ x → Safe (RC rb) none x:=fun x hx => ⟨fun j hj => by simp [RC] at hj;omega,by simp⟩
            have hnb : w3.heap[w.heap.size + 1 + 1]? = _:=(hS3.same (by omega) (hsafe _ (by omega))).trans HIT.out.node
            have hqb : w3.heap[w.heap.size + 1]? = _:=(hS3.same (by omega) (hsafe _ (by omega))).trans HIT.out.res
            have n0:=zb hnb 0
            have n1:=zb hnb 1
            have n2:=zb hnb 2
            have n3:=zb hnb 3
            have n4:=zb hnb 4
            have q0:=zb hqb 0
            have q1:=zb hqb 1
            have q2:=zb hqb 2
            have q3:=zb hqb 3
            have q4:=zb hqb 4
            have nf:=zu hnb
            have qf:=zu hqb
            have nf0:=nf 0
            have nf1:=nf 1
            have nf2:=nf 2
            have nf3:=nf 3
            have nf4:=nf 4
            have qf0:=qf 0
            have qf1:=qf 1
            have qf2:=qf 2
            have qf3:=qf 3
            have qf4:=qf 4
            have HNB:=zh hnb
            have HQB:=zh hqb
            clear nf qf hnb hqb
            have HO3:=zh (hS3.own' HIT.out.own (fun x hx => hsafe x (by have:=own_ge HIT.out.own x hx;omega)))
            have HR3:=zh hr3
            have HS3:=zh hS3
            clear hr3 hs3 hS3 hsafe
            go_wp2_with fail
            have hSw : Step w w3 (RC rb) none:=Step.trans HIT.out.step HS3.out (fun _ h => h) (fun _ h => h)
            refine bodyPost_ret (v:=.agg #[.string ⟨t.s.toArray⟩, .int .i64 t.pos, .slice Aw ws.length cw, .bool false, .slice none 0 0]) (by simp [results,Try.results60,go_sem, *]) rfl ?_
            refine item_done (w1:=w3) (cs:=[.string ⟨t.s.toArray⟩, .int .i64 t.pos, .slice Aw ws.length cw, .bool false, .slice none 0 0]) ?_ ?_ (by simp) HR3.out hrlt (node_plain (B0:=0) HO3.out) (.inr ⟨by decide,HIT.out.ah.wrong HWR.out⟩) rfl
            · exact step5 _ _ _ _ _ hSw
            · exact fun b hb => keep5 _ b _ _ _ _ _ _ hb
    · have lk : ¬ (k : Int) < l.length := by omega
      go_wp2_with fail
      go_quiet (fail)
      go_wp2_with fail
      generalize hW : wr.drewN _ = W
      have hr1 : Rdr W rb (.slice A l.length c) k E p 0:=by rw [← hW];exact HIT.out.rdr
      have hs1 : Step wr W (RC rb) none:=by rw [← hW];exact (Step.refl _ (RC rb) _).drewN _
      clear hW
      refine (ref9_fail_none _ rb _ _ _ _ _ _ hr1).mono ?_
      rintro e w3 ⟨rfl,hr3,hs3⟩
      have hS3 : Step wr w3 (RC rb) none:=Step.trans hs1 hs3 (fun _ h => h) (fun _ h => h)
      have hsafe : ∀ x,w.heap.size ≤ x → Safe (RC rb) none x:=fun x hx => ⟨fun j hj => by simp [RC] at hj;omega,by simp⟩
      have hnb : w3.heap[w.heap.size + 1 + 1]? = _:=(hS3.same (by omega) (hsafe _ (by omega))).trans HIT.out.node
      have hqb : w3.heap[w.heap.size + 1]? = _:=(hS3.same (by omega) (hsafe _ (by omega))).trans HIT.out.res
      have n0:=zb hnb 0
      have n1:=zb hnb 1
      have n2:=zb hnb 2
      have n3:=zb hnb 3
      have n4:=zb hnb 4
      have q0:=zb hqb 0
      have q1:=zb hqb 1
      have q2:=zb hqb 2
      have q3:=zb hqb 3
      have q4:=zb hqb 4
      have nf:=zu hnb
      have qf:=zu hqb
      have nf0:=nf 0
      have nf1:=nf 1
      have nf2:=nf 2
      have nf3:=nf 3
      have nf4:=nf 4
      have qf0:=qf 0
      have qf1:=qf 1
      have qf2:=qf 2
      have qf3:=qf 3
      have qf4:=qf 4
      have HNB:=zh hnb
      have HQB:=zh hqb
      clear nf qf hnb hqb
      have HO3:=zh (hS3.own' HIT.out.own (fun x hx => hsafe x (by have:=own_ge HIT.out.own x hx;omega)))
      have HR3:=zh hr3
      have HS3:=zh hS3
      clear hr3 hs3 hS3 hsafe
      go_wp2_with fail
      have hSw : Step w w3 (RC rb) none:=Step.trans HIT.out.step HS3.out (fun _ h => h) (fun _ h => h)
      refine bodyPost_ret (v:=.agg #[.string ⟨t.s.toArray⟩, .int .i64 t.pos, .slice Aw ws.length cw, .bool false, .slice none 0 0]) (by simp [results,Try.results60,go_sem, *]) rfl ?_
      refine item_done (w1:=w3) (cs:=[.string ⟨t.s.toArray⟩, .int .i64 t.pos, .slice Aw ws.length cw, .bool false, .slice none 0 0]) ?_ ?_ (by simp) HR3.out hrlt (node_plain (B0:=0) HO3.out) (.inr ⟨by decide,HIT.out.ah.wrong (wrong_open (by omega))⟩) rfl
      · exact step5 _ _ _ _ _ hSw
      · exact fun b hb => keep5 _ b _ _ _ _ _ _ hb
end Go.Proofs.Ytjbniichcopnlaa
