/- Layer 11 (field), in plain Lean: the block that tells a calendar. Then: Layer 11 (field), in plain Lean: a calendar's block is read as the calendar. -/
import Derived.Test.YtjbniichcopnlaaGreatDoorPkS7
import Derived.Test.YtjbniichcopnlaaGreatDoorPkS39
import Derived.Test.YtjbniichcopnlaaGreatDoorPkS22
import Derived.Test.YtjbniichcopnlaaGreatDoorPkS30
set_option linter.unusedVariables false
namespace Go.Proofs.YtjbniichcopnlaaGreatDoor
section
open Go.RowKit
open Go.Joins renaming cell_of_block → zb, unfrozen_of_block → zu
def saysC (c : CalL) : List Bytes:=[endsL.getD (c.kind - 1).toNat []] ++ (if c.kind = 1 ∨ c.kind = 2 then [days.getD (c.day - 1).toNat []] else []) ++ (if standsC c.kind b_named then [mons.getD (c.month - 1).toNat []] else [])
def shapeC (c : CalL) : List NodeL:=if c.shape = 1 then [itemL b_periods [] [c.p0,c.p1,c.p2]] else if c.shape = 2 then [itemL b_periods [] [4]] else if c.shape = 3 then [itemL b_pay [] [c.cycle]] else []
def endI (c : CalL) : List NodeL:=[itemL b_end (saysC c) []]
def namedI (c : CalL) : List NodeL:=if standsC c.kind b_named then [itemL b_named [shifts.getD c.shift.toNat []] []] else []
def extraI (c : CalL) : List NodeL:=if standsC c.kind b_extra then shapeC c ++ [itemL b_extra [] [c.extra]] else []
def serveI (c : CalL) : List NodeL:=[itemL b_serve [] [c.first,c.last],itemL b_compare [pols.getD (c.policy - 1).toNat []] []]
def kidsC (c : CalL) : List NodeL:=endI c ++ namedI c ++ extraI c ++ serveI c
def nodeC (c : CalL) : NodeL:=.mk b_calendar 0 [wS c.name] true (kidsC c)
/-- What holds of a calendar that may be,as far as its block wants it. -/
structure NodeFit (c : CalL) : Prop where
  k1 : 1 ≤ c.kind
  k6 : c.kind ≤ 6
  day : c.kind = 1 ∨ c.kind = 2 → 1 ≤ c.day ∧ c.day ≤ 7
  mon : 1 ≤ c.month ∧ c.month ≤ 12
  shf : 0 ≤ c.shift ∧ c.shift ≤ 1
  pol : 1 ≤ c.policy ∧ c.policy ≤ 4
theorem nodeFit (c : CalL) (h : okC c = true) : NodeFit c := by
  unfold okC at h
  simp only [Bool.and_eq_true] at h
  obtain ⟨⟨⟨_,hp⟩,_⟩,hr⟩:=h
  have hp' : 1 ≤ c.policy ∧ c.policy ≤ 4 := by
    unfold policyC tween at hp
    simp at hp
    exact hp.1
  have hr':=hr
  unfold ruledC fixedC at hr'
  by_cases h3 : c.kind = 3
  · rw [if_pos h3] at hr'
    have h':=of_decide_eq_true hr'
    have e1 : c.month = 1:=by rw [h'];rfl
    have e2 : c.shift = 1:=by rw [h'];rfl
    exact ⟨by omega,by omega,fun h => by omega,by omega,by omega,hp'⟩
  rw [if_neg h3] at hr'
  by_cases h4 : c.kind = 4
  · rw [if_pos h4] at hr'
    have h':=of_decide_eq_true hr'
    have e1 : c.month = 12:=by rw [h'];rfl
    have e2 : c.shift = 0:=by rw [h'];rfl
    exact ⟨by omega,by omega,fun h => by omega,by omega,by omega,hp'⟩
  rw [if_neg h4] at hr'
  dsimp only at hr'
  split at hr'
  · simp at hr'
  · next hms =>
    have hm : 1 ≤ c.month ∧ c.month ≤ 12 ∧ 0 ≤ c.shift ∧ c.shift ≤ 1 := by
      unfold tween at hms
      simp at hms
      omega
    split at hr'
    · next hk =>
      have hd : 1 ≤ c.day ∧ c.day ≤ 7 := by
        simp only [Bool.and_eq_true] at hr'
        have:=hr'.1
        unfold tween at this
        simp at this
        exact this
      exact ⟨by omega,by omega,fun _ => hd,⟨hm.1,hm.2.1⟩,hm.2.2,hp'⟩
    · split at hr'
      · exact ⟨by omega,by omega,fun h => by omega,⟨hm.1,hm.2.1⟩,hm.2.2,hp'⟩
      · split at hr'
        · exact ⟨by omega,by omega,fun h => by omega,⟨hm.1,hm.2.1⟩,hm.2.2,hp'⟩
        · simp at hr'
def NdI (c : CalL) (w wx : World) : Prop:=Below w.heap.size w wx ∧ CalBlk wx w.heap.size c ∧ NodeBlk wx (w.heap.size + 1) [] 0 (.slice none 0 0) false (.slice none 0 0) ∧ w.heap.size + 2 ≤ wx.heap.size
theorem NdI.below {c : CalL} {w wx wy : World} (h : NdI c w wx) (hb : Below wx.heap.size wx wy) : NdI c w wy :=
  ⟨h.1.trans (hb.mono h.1.size),h.2.1.keep hb,h.2.2.1.keep hb,Nat.le_trans h.2.2.2 hb.size⟩
theorem NdI.grown {c : CalL} {w wx wy : World} {row : Option Nat} (h : NdI c w wx) (hg : wx.grownBy wy row) (hr : ∀ k,row = some k → w.heap.size + 2 ≤ k) : NdI c w wy :=
  ⟨h.1.grown hg h.1.size (fun k hk => by have:=hr k hk;omega),(hg.block _ h.2.1.lt (fun e => by have:=hr _ e.symm;omega)).trans h.2.1,h.2.2.1.grown hg (fun e => by have:=hr _ e.symm;omega),Nat.le_trans h.2.2.2 hg.size⟩
theorem OwnStrs.read {w : World} {base : Nat} {A : Option Addr} {n c : Nat} {l : List Bytes} (h : OwnStrs w base (.slice A n c) l) : ∀ k s,l[k]? = some s → ∃ a,A = some a ∧ a.block < w.heap.size ∧ w.cell? (a.add k) = some (.string ⟨s.toArray⟩) := by
  intro k s hk
  rcases h.2 with ⟨_,hn⟩ | ⟨g,cap,cur,hv,hb,hg,h1,h2,h3,h4⟩
  · rw [List.eq_nil_of_length_eq_zero hn] at hk;cases hk
  · injection hv with e1 e2 e3
    refine ⟨⟨g,0,none⟩,e1,(Array.getElem?_eq_some_iff.1 hg).1,?_⟩
    rw [add_blk0,zb hg k]
    have hl:=(List.getElem?_eq_some_iff.1 hk).1
    have h5 : (cur.toList.take (l.length * 1))[k]? = some (.string ⟨s.toArray⟩):=by rw [h4,List.getElem?_map,hk];rfl
    rw [List.getElem?_take_of_lt (by omega)] at h5
    simpa using h5
theorem StrBlk.cell {w : World} {g : Nat} {l : List Bytes} (h : StrBlk w g l) (k : Nat) (s : Bytes) (hk : l[k]? = some s) : w.cell? ⟨g,k,none⟩ = some (.string ⟨s.toArray⟩) := by
  obtain ⟨T,h⟩:=h
  rw [zb h k]
  simp [hk]
theorem below_alloc1 {w w' : World} (h : Below w.heap.size w w') (o : Obj) : Below w.heap.size w (w'.alloc o):=h.alloc h.size o
/-- Items of a row of the call's own. -/
def OwnNodes (w : World) (base : Nat) (v : Value) (l : List NodeL) : Prop:=∃ kcs,w.ownsRow base 44 5 v l.length kcs ∧ NodesOk w (fun b => base ≤ b ∧ (b < w.heap.size ∧ some b ≠ v.ownBlock)) l kcs
theorem NodeOk.keepB {w w' : World} {M M' : Nat → Prop} {n : NodeL} {cs : List Value} (hm : ∀ b,M b → M' b) (hk : ∀ b,M b → w'.heap[b]? = w.heap[b]?) (h : NodeOk w M n cs) : NodeOk w' M' n cs :=
  NodeOk.keep hm (fun p hp => World.cell?_of_block (hk _ hp)) _ _ h
theorem NodesOk.keepB {w w' : World} {M M' : Nat → Prop} {l : List NodeL} {cs : List Value} (hm : ∀ b,M b → M' b) (hk : ∀ b,M b → w'.heap[b]? = w.heap[b]?) (h : NodesOk w M l cs) : NodesOk w' M' l cs :=
  NodesOk.keep hm (fun p hp => World.cell?_of_block (hk _ hp)) _ _ h
theorem OwnNodes.below {w w' : World} {base : Nat} {v : Value} {l : List NodeL} (h : OwnNodes w base v l) (hb : Below w.heap.size w w') : OwnNodes w' base v l := by
  obtain ⟨kcs,h1,h2⟩:=h
  exact ⟨kcs,own_below h1 hb,h2.keepB (fun b h => ⟨h.1,Nat.lt_of_lt_of_le h.2.1 hb.size,h.2.2⟩) (fun b h => hb.block b h.2.1)⟩
/-- Items put behind: their cells have been laid into a block,and are appended. -/
theorem OwnNodes.push {wa wr wx : World} {base g cap m : Nat} {v : Value} {l r : List NodeL} {kcs ncs : List Value} (hb : Below wa.heap.size wa wr) (h1 : wa.ownsRow base 44 5 v l.length kcs)
    (h2 : NodesOk wa (fun b => base ≤ b ∧ (b < wa.heap.size ∧ some b ≠ v.ownBlock)) l kcs) (hba : base ≤ wa.heap.size) (hn : NodesOk wr (fun b => wa.heap.size ≤ b ∧ b < wr.heap.size) r ncs)
    (hown : wx.ownsRow base 44 5 (.slice (some ⟨g,0,none⟩) m cap) (l.length + r.length) (kcs ++ ncs)) (hgr : wr.grownBy wx v.ownBlock) (hat : v.ownBlock = some g ∨ wr.heap.size ≤ g) :
    OwnNodes wx base (.slice (some ⟨g,0,none⟩) m cap) (l ++ r):=by
  have hs:=hgr.size
  have hsb:=hb.size
  refine ⟨kcs ++ ncs,by rw [List.length_append];exact hown,NodesOk.append ?_ ?_⟩
  · refine NodesOk.keepB (fun b h => ⟨h.1,by omega,fun e => ?_⟩) (fun b h => ?_) h2
    · have e' : b = g := by injection e
      rcases hat with hat | hat
      · exact h.2.2 (by rw [hat,e'])
      · have:=h.2.1;omega
    · exact (hgr.block b (by have:=h.2.1;omega) h.2.2).trans (hb.block b h.2.1)
  · refine NodesOk.keepB (fun b h => ⟨by omega,by omega,fun e => ?_⟩) (fun b h => ?_) hn
    · have e' : b = g := by injection e
      rcases hat with hat | hat
      · have:=(h1.lt g hat).2;omega
      · omega
    · exact hgr.block b h.2 (fun e => by have:=(h1.lt b e.symm).2;omega)
theorem OwnWords.nodeM {w : World} {base : Nat} {v : Value} {l : List WordL} (h : OwnWords w base v l) (nm : Bytes) :
    NodeOk w (fun b => base ≤ b ∧ b < w.heap.size) (.mk nm 0 l false []) [.string ⟨nm.toArray⟩, .int .i64 0,v, .bool false, .slice none 0 0]:=by
  simp only [NodeOk]
  unfold OwnWords at h
  rcases h.2 with ⟨rfl,hn⟩ | ⟨g,cap,cur,rfl,hb,hg,h1,h2,h3,h4⟩
  · have : l = [] := List.eq_nil_of_length_eq_zero hn
    subst this
    exact ⟨none,0,none,0,[],rfl,fun _ => rfl,fun _ => rfl,ReadsM.nil _ _ _ _,ReadsM.nil _ _ _ _,rfl⟩
  · refine ⟨some ⟨g,0,none⟩,cap,none,0,[],rfl,(fun h => by cases h),(fun _ => rfl),⟨h.1,fun _ => ⟨_,rfl,⟨hb,(Array.getElem?_eq_some_iff.1 hg).1⟩,fun j u hu => ?_⟩⟩,ReadsM.nil _ _ _ _,rfl⟩
    rw [add_blk0,zb hg j]
    have hj:=(List.getElem?_eq_some_iff.1 hu).1
    rw [← h4] at hu hj
    rw [List.getElem?_take_of_lt (by rw [List.length_take] at hj;omega)] at hu
    simpa using hu
theorem OwnNodes.new {w : World} {B base : Nat} {n : NodeL} {cs : List Value} (h : NodeOk w (fun b => B ≤ b ∧ b < w.heap.size) n cs) (hb : base ≤ w.heap.size) (hB : base ≤ B) :
    OwnNodes (w.alloc (.cells cs.toArray 44)) base (.slice (some ⟨w.heap.size,0,none⟩) 1 1) [n]:=by
  refine ⟨cs,⟨h.len, .inr ⟨w.heap.size,1,_,rfl,hb,heap_alloc_new w _,Nat.le_refl _,by decide,by simpa using h.len,by simpa using List.take_of_length_le (Nat.le_of_eq h.len)⟩⟩,NodesOk.one ?_⟩
  refine NodeOk.keepB (fun b hb => ⟨by omega,by have:=hb.2;simp;omega,fun e => ?_⟩) (fun b hb => heap_alloc_old w _ hb.2) h
  injection e with e
  have:=hb.2
  have e' : b = w.heap.size:=e
  omega
/-- What the append of one item leaves. -/
theorem push_item {c : CalL} {w wc w3 wx : World} {B g cap m : Nat} {v6 v : Value} {l : List NodeL} {kcs : List Value} {nm : Bytes} {ws : List WordL} (hnd : NdI c w wc) (hb : Below wc.heap.size wc w3)
    (ho : wc.ownsRow (w.heap.size + 2) 44 5 v6 l.length kcs) (hk : NodesOk wc (fun b => w.heap.size + 2 ≤ b ∧ (b < wc.heap.size ∧ some b ≠ v6.ownBlock)) l kcs) (hw : OwnWords w3 B v ws) (hB : wc.heap.size ≤ B)
    (hown : wx.ownsRow (w.heap.size + 2) 44 5 (.slice (some ⟨g,0,none⟩) m cap) (l.length + 1) (kcs ++ [.string ⟨nm.toArray⟩, .int .i64 0,v, .bool false, .slice none 0 0]))
    (hgr : (w3.alloc (.cells #[.string ⟨nm.toArray⟩, .int .i64 0,v, .bool false, .slice none 0 0] 44)).grownBy wx v6.ownBlock) (hat : v6.ownBlock = some g ∨ g = w3.heap.size + 1) :
    NdI c w wx ∧ OwnNodes wx (w.heap.size + 2) (.slice (some ⟨g,0,none⟩) m cap) (l ++ [.mk nm 0 ws false []]):=by
  have hba:=below_alloc1 hb (.cells #[.string ⟨nm.toArray⟩, .int .i64 0,v, .bool false, .slice none 0 0] 44)
  have hs:=hb.size
  refine ⟨(hnd.below hba).grown hgr (fun k hk => (ho.lt k hk).1),?_⟩
  refine OwnNodes.push hba ho hk hnd.2.2.2 (NodesOk.one (NodeOk.keepB (fun b h => ⟨by omega,by simp;omega⟩) (fun b h => heap_alloc_old w3 _ h.2) (hw.nodeM nm))) hown hgr ?_
  rcases hat with h | h
  · exact .inl h
  · right;rw [h];simp
/-- What the append of two items leaves. -/
theorem push_two {c : CalL} {w wc w3 w5 wx : World} {B3 B5 g cap m : Nat} {v6 v3 v5 : Value} {l : List NodeL} {kcs : List Value} {nm3 nm5 : Bytes} {ws3 ws5 : List WordL} (hnd : NdI c w wc) (hb3 : Below wc.heap.size wc w3) (hb5 : Below w3.heap.size w3 w5)
    (ho : wc.ownsRow (w.heap.size + 2) 44 5 v6 l.length kcs) (hk : NodesOk wc (fun b => w.heap.size + 2 ≤ b ∧ (b < wc.heap.size ∧ some b ≠ v6.ownBlock)) l kcs) (hw3 : OwnWords w3 B3 v3 ws3) (hB3 : wc.heap.size ≤ B3) (hw5 : OwnWords w5 B5 v5 ws5) (hB5 : wc.heap.size ≤ B5)
    (hown : wx.ownsRow (w.heap.size + 2) 44 5 (.slice (some ⟨g,0,none⟩) m cap) (l.length + 2) (kcs ++ [.string ⟨nm3.toArray⟩, .int .i64 0,v3, .bool false, .slice none 0 0, .string ⟨nm5.toArray⟩, .int .i64 0,v5, .bool false, .slice none 0 0]))
    (hgr : (w5.alloc (.cells #[.string ⟨nm3.toArray⟩, .int .i64 0,v3, .bool false, .slice none 0 0, .string ⟨nm5.toArray⟩, .int .i64 0,v5, .bool false, .slice none 0 0] 44)).grownBy wx v6.ownBlock) (hat : v6.ownBlock = some g ∨ g = w5.heap.size + 1) :
    NdI c w wx ∧ OwnNodes wx (w.heap.size + 2) (.slice (some ⟨g,0,none⟩) m cap) (l ++ [.mk nm3 0 ws3 false [], .mk nm5 0 ws5 false []]):=by
  have hb35 : Below wc.heap.size wc w5:=hb3.trans (hb5.mono hb3.size)
  have hba:=below_alloc1 hb35 (.cells #[.string ⟨nm3.toArray⟩, .int .i64 0,v3, .bool false, .slice none 0 0, .string ⟨nm5.toArray⟩, .int .i64 0,v5, .bool false, .slice none 0 0] 44)
  have hs3:=hb3.size
  have hs5:=hb5.size
  refine ⟨(hnd.below hba).grown hgr (fun k hk => (ho.lt k hk).1),?_⟩
  have n3:=(hw3.nodeM nm3).keepB (w':=w5.alloc (.cells #[.string ⟨nm3.toArray⟩, .int .i64 0,v3, .bool false, .slice none 0 0, .string ⟨nm5.toArray⟩, .int .i64 0,v5, .bool false, .slice none 0 0] 44)) (M':=fun b => wc.heap.size ≤ b ∧ b < (w5.alloc (.cells #[.string ⟨nm3.toArray⟩, .int .i64 0,v3, .bool false, .slice none 0 0, .string ⟨nm5.toArray⟩, .int .i64 0,v5, .bool false, .slice none 0 0] 44)).heap.size) (fun b h => ⟨by omega,by simp;omega⟩) (fun b h => (heap_alloc_old w5 _ (by omega)).trans (hb5.block b h.2))
  have n5:=(hw5.nodeM nm5).keepB (w':=w5.alloc (.cells #[.string ⟨nm3.toArray⟩, .int .i64 0,v3, .bool false, .slice none 0 0, .string ⟨nm5.toArray⟩, .int .i64 0,v5, .bool false, .slice none 0 0] 44)) (M':=fun b => wc.heap.size ≤ b ∧ b < (w5.alloc (.cells #[.string ⟨nm3.toArray⟩, .int .i64 0,v3, .bool false, .slice none 0 0, .string ⟨nm5.toArray⟩, .int .i64 0,v5, .bool false, .slice none 0 0] 44)).heap.size) (fun b h => ⟨by omega,by simp;omega⟩) (fun b h => heap_alloc_old w5 _ h.2)
  refine OwnNodes.push hba ho hk hnd.2.2.2 (r:=[.mk nm3 0 ws3 false [], .mk nm5 0 ws5 false []]) (ncs:=[.string ⟨nm3.toArray⟩, .int .i64 0,v3, .bool false, .slice none 0 0] ++ [.string ⟨nm5.toArray⟩, .int .i64 0,v5, .bool false, .slice none 0 0]) (NodesOk.append (l:=[_]) (m:=[_]) (NodesOk.one n3) (NodesOk.one n5)) hown hgr ?_
  rcases hat with h | h
  · exact .inl h
  · right;rw [h];simp
theorem ints2_ok (x y : Int) : ∀ k n,[x,y][k]? = some n → #[Value.int .i64 x, .int .i64 y][0 + k]? = some (.int .i64 n)
  | 0,n,h => by injection h with h;subst h;rfl
  | 1,n,h => by injection h with h;subst h;rfl
  | k + 2,n,h => by simp at h
theorem item_strs (nm s : Bytes) (W : World) (A : Option Addr) (cc : Nat) (h : ∀ k x,[s][k]? = some x → ∃ a,A = some a ∧ a.block < W.heap.size ∧ W.cell? (a.add k) = some (.string ⟨x.toArray⟩)) :
    Calls Tryz.prog 31 #[.string ⟨nm.toArray⟩, .slice A 1 cc, .slice none 0 0] W fun e w' =>
      ∃ v,e = .returned (.agg #[.string ⟨nm.toArray⟩, .int .i64 0,v, .bool false, .slice none 0 0]) ∧ OwnWords w' W.heap.size v ([s].map wS ++ ([] : List Int).map wN) ∧ Below W.heap.size W w' :=
  field_item nm [s] [] A none cc 0 W (by simp) (by simp) h (fun k n h => by simp at h)
theorem one_str {W : World} {g off : Nat} {s : Bytes} {cs : Array Value} {T : TypeId} {fr : Nat × Nat} (h : W.heap[g]? = some (.cells cs T fr)) (hc : cs[off]? = some (.string ⟨s.toArray⟩)) :
    ∀ k x,[s][k]? = some x → ∃ a,some (⟨g,off,none⟩ : Addr) = some a ∧ a.block < W.heap.size ∧ W.cell? (a.add k) = some (.string ⟨x.toArray⟩):=by
  intro k x hk
  have hk0 : k = 0 := by
    have:=(List.getElem?_eq_some_iff.1 hk).1
    simpa using this
  subst hk0
  injection hk with hk
  subst hk
  refine ⟨_,rfl,(Array.getElem?_eq_some_iff.1 h).1,?_⟩
  rw [show (⟨g,off,none⟩ : Addr).add 0 = ⟨g,off,none⟩ from rfl,zb h off,hc]
theorem StrBlk.one {w : World} {g : Nat} {l : List Bytes} (h : StrBlk w g l) (k : Nat) (s : Bytes) (hk : l[k]? = some s) : ∀ j x,[s][j]? = some x → ∃ a,some (⟨g,k,none⟩ : Addr) = some a ∧ a.block < w.heap.size ∧ w.cell? (a.add j) = some (.string ⟨x.toArray⟩) := by
  obtain ⟨T,h⟩:=h
  exact one_str h (by simp [hk])
theorem ints_at {W : World} {g off : Nat} {l : List Int} {cs : Array Value} {T : TypeId} {fr : Nat × Nat} (h : W.heap[g]? = some (.cells cs T fr)) (hc : ∀ k n,l[k]? = some n → cs[off + k]? = some (.int .i64 n)) :
    ∀ k n,l[k]? = some n → ∃ a,some (⟨g,off,none⟩ : Addr) = some a ∧ a.block < W.heap.size ∧ W.cell? (a.add k) = some (.int .i64 n):=by
  intro k n hk
  refine ⟨_,rfl,(Array.getElem?_eq_some_iff.1 h).1,?_⟩
  have : (⟨g,off,none⟩ : Addr).add k = ⟨g,off + k,none⟩ := by
    unfold Addr.add
    split
    · next h0 => subst h0;rfl
    · rfl
  rw [this,zb h (off + k),hc k n hk]
theorem int1_ok (x : Int) : ∀ k n,[x][k]? = some n → #[Value.int .i64 x][0 + k]? = some (.int .i64 n)
  | 0,n,h => by injection h with h;subst h;rfl
  | k + 1,n,h => by simp at h
theorem len1 (l : List NodeL) (h : l.length ≤ 20) (X : NodeL) : (l ++ [X]).length + 1 ≤ maxLen ∧ ((l ++ [X]).length + 1) * 80 ≤ 140737488355328 := by
  rw [List.length_append,List.length_singleton]
  unfold maxLen
  omega
theorem pat_ok (nm : Bytes) (a b c d e p q r f g i j k x : Int) : ∀ m n,[p,q,r][m]? = some n → #[Value.string ⟨nm.toArray⟩, .int .i64 a, .int .i64 b, .int .i64 c, .int .i64 d, .int .i64 e, .int .i64 p, .int .i64 q, .int .i64 r, .int .i64 f, .int .i64 g, .int .i64 i, .int .i64 j, .int .i64 k][6 + m]? = some (.int .i64 n)
  | 0,n,h => by injection h with h;subst h;rfl
  | 1,n,h => by injection h with h;subst h;rfl
  | 2,n,h => by injection h with h;subst h;rfl
  | m + 3,n,h => by simp at h
theorem item_nums (nm : Bytes) (ks : List Int) (hk : ks.length ≤ 100) (W : World) (A : Option Addr) (cc : Nat) (h : ∀ k n,ks[k]? = some n → ∃ a,A = some a ∧ a.block < W.heap.size ∧ W.cell? (a.add k) = some (.int .i64 n)) :
    Calls Tryz.prog 31 #[.string ⟨nm.toArray⟩, .slice none 0 0, .slice A ks.length cc] W fun e w' =>
      ∃ v,e = .returned (.agg #[.string ⟨nm.toArray⟩, .int .i64 0,v, .bool false, .slice none 0 0]) ∧ OwnWords w' W.heap.size v (([] : List Bytes).map wS ++ ks.map wN) ∧ Below W.heap.size W w' :=
  field_item nm [] ks none A 0 cc W (by simp) hk (fun k s h => by simp at h) h
/-- What Node leaves of a calendar that may be. -/
def NodePost (c : CalL) (w : World) (e : Ending) (w' : World) : Prop :=
  ∃ gw g cap,e = .returned (.tuple #[.agg #[.string ⟨b_calendar.toArray⟩, .int .i64 0, .slice (some ⟨gw,0,none⟩) 1 1, .bool true, .slice (some ⟨g,0,none⟩) (kidsC c).length cap], .int .i64 0]) ∧
    w.heap.size ≤ gw ∧ gw ≠ g ∧ w'.heap[gw]? = some (.cells #[.bool false, .int .i64 0, .string ⟨c.name.toArray⟩, .int .i64 0] 61 (0,0)) ∧
    OwnNodes w' w.heap.size (.slice (some ⟨g,0,none⟩) (kidsC c).length cap) (kidsC c) ∧ Below w.heap.size w w'
/-- The last store: the block that is told,and its name's word. -/
theorem node_fin {w wc : World} {gr g N cap : Nat} {l : List NodeL} {kcs : List Value} {nm : Bytes} (hb : Below w.heap.size w wc) (ho : wc.ownsRow (w.heap.size + 2) 44 5 (.slice (some ⟨g,0,none⟩) N cap) N kcs)
    (hk : NodesOk wc (fun b => w.heap.size + 2 ≤ b ∧ (b < wc.heap.size ∧ some b ≠ (Value.slice (some ⟨g,0,none⟩) N cap).ownBlock)) l kcs) (hgr : w.heap.size ≤ gr ∧ gr < w.heap.size + 2) (hg : w.heap.size + 2 ≤ g) (hl : gr < wc.heap.size) (hN : l.length = N)
    (v0 v1 v2 v3 v4 : Value) :
    (((((((wc.setCell ⟨gr,0,none⟩ v0).setCell ⟨gr,1,none⟩ v1).setCell ⟨gr,2,none⟩ v2).setCell ⟨gr,3,none⟩ v3).setCell ⟨gr,4,none⟩ v4).alloc (.cells #[.bool false, .int .i64 0, .string ⟨nm.toArray⟩, .int .i64 0] 61)).heap[wc.heap.size]? = some (.cells #[.bool false, .int .i64 0, .string ⟨nm.toArray⟩, .int .i64 0] 61 (0,0))) ∧
    OwnNodes (((((((wc.setCell ⟨gr,0,none⟩ v0).setCell ⟨gr,1,none⟩ v1).setCell ⟨gr,2,none⟩ v2).setCell ⟨gr,3,none⟩ v3).setCell ⟨gr,4,none⟩ v4).alloc (.cells #[.bool false, .int .i64 0, .string ⟨nm.toArray⟩, .int .i64 0] 61))) w.heap.size (.slice (some ⟨g,0,none⟩) N cap) l ∧
    Below w.heap.size w (((((((wc.setCell ⟨gr,0,none⟩ v0).setCell ⟨gr,1,none⟩ v1).setCell ⟨gr,2,none⟩ v2).setCell ⟨gr,3,none⟩ v3).setCell ⟨gr,4,none⟩ v4).alloc (.cells #[.bool false, .int .i64 0, .string ⟨nm.toArray⟩, .int .i64 0] 61))):=by
  obtain ⟨Wz,hWz⟩ : ∃ Wz,((((wc.setCell ⟨gr,0,none⟩ v0).setCell ⟨gr,1,none⟩ v1).setCell ⟨gr,2,none⟩ v2).setCell ⟨gr,3,none⟩ v3).setCell ⟨gr,4,none⟩ v4 = Wz:=⟨_,rfl⟩
  rw [hWz]
  have hs : Wz.heap.size = wc.heap.size:=by rw [← hWz];simp
  have hz : ∀ b,b ≠ gr → Wz.heap[b]? = wc.heap[b]? := fun b hb => by
    rw [← hWz]
    rw [heap_setCell_other _ _ _ _ hb,heap_setCell_other _ _ _ _ hb,heap_setCell_other _ _ _ _ hb,heap_setCell_other _ _ _ _ hb,heap_setCell_other _ _ _ _ hb]
  have hbz : Below w.heap.size w Wz := by
    rw [← hWz]
    exact ((((hb.setCell hgr.1 _).setCell hgr.1 _).setCell hgr.1 _).setCell hgr.1 _).setCell hgr.1 _
  refine ⟨?_,?_,hbz.alloc hbz.size _⟩
  · rw [← hs];exact heap_alloc_new Wz _
  · have hoz : Wz.ownsRow (w.heap.size + 2) 44 5 (.slice (some ⟨g,0,none⟩) N cap) N kcs := by
      have hq : ∀ j,(Value.slice (some ⟨g,0,none⟩) N cap).ownBlock ≠ some (⟨gr,j,none⟩ : Addr).block := fun j e => by
        have e' : g = gr:=by injection e
        omega
      rw [← hWz]
      exact own_set (own_set (own_set (own_set (own_set ho (hq 0) _) (hq 1) _) (hq 2) _) (hq 3) _) (hq 4) _
    have hkz : NodesOk Wz (fun b => w.heap.size ≤ b ∧ (b < Wz.heap.size ∧ some b ≠ (Value.slice (some ⟨g,0,none⟩) N cap).ownBlock)) l kcs :=
      hk.keepB (fun b h => ⟨by omega,by rw [hs];exact h.2.1,h.2.2⟩) (fun b h => hz b (by omega))
    exact OwnNodes.below ⟨kcs,by rw [hN];exact own_down (by omega) hoz,hkz⟩ ((Below.refl _ _).alloc (Nat.le_refl _) _)
end
section
set_option maxRecDepth 100000
theorem mem_kids (c : CalL) (k : NodeL) : k ∈ kidsC c ↔ k = itemL b_end (saysC c) [] ∨ (standsC c.kind b_named = true ∧ k = itemL b_named [shifts.getD c.shift.toNat []] []) ∨
    (standsC c.kind b_extra = true ∧ ((c.shape = 1 ∧ k = itemL b_periods [] [c.p0,c.p1,c.p2]) ∨ (c.shape = 2 ∧ k = itemL b_periods [] [4]) ∨ (c.shape = 3 ∧ k = itemL b_pay [] [c.cycle]) ∨ k = itemL b_extra [] [c.extra])) ∨
    k = itemL b_serve [] [c.first,c.last] ∨ k = itemL b_compare [pols.getD (c.policy - 1).toNat []] []:=by
  unfold kidsC endI namedI extraI serveI shapeC
  by_cases h1 : c.shape = 1
  · cases standsC c.kind b_named <;> cases standsC c.kind b_extra <;> simp [h1,or_assoc]
  · by_cases h2 : c.shape = 2
    · cases standsC c.kind b_named <;> cases standsC c.kind b_extra <;> simp [h2,or_assoc]
    · by_cases h3 : c.shape = 3
      · cases standsC c.kind b_named <;> cases standsC c.kind b_extra <;> simp [h3,or_assoc]
      · cases standsC c.kind b_named <;> cases standsC c.kind b_extra <;> simp [h1,h2,h3]
theorem itemL_name (nm : Bytes) (a : List Bytes) (b : List Int) : (itemL nm a b).name = nm:=rfl
theorem itemL_words (nm : Bytes) (a : List Bytes) (b : List Int) : (itemL nm a b).words = a.map wS ++ b.map wN:=rfl
end
end Go.Proofs.YtjbniichcopnlaaGreatDoor
