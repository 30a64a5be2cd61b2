/- Layer 11 (field): the walk of item. -/
import Derived.Test.YtjbniichcopnlaaGreatDoorPkS38
import Derived.Test.YtjbniichcopnlaaGreatDoorPkS13
set_option linter.unusedVariables false
set_option linter.unusedSimpArgs false
set_option maxRecDepth 100000
namespace Go.Proofs.YtjbniichcopnlaaGreatDoor
open Go.RowKit
open Go.Joins renaming cell_of_block → zb, unfrozen_of_block → zu
open Go.Lib renaming hid → zh
def wS (s : Bytes) : WordL:=⟨false,0,s,0⟩
def wN (k : Int) : WordL:=⟨true,k,[],0⟩
/-- An item of names,and then numbers. -/
def itemL (nm : Bytes) (ss : List Bytes) (ks : List Int) : NodeL:=.mk nm 0 (ss.map wS ++ ks.map wN) false []
/-- The block of an item. -/
def NodeBlk (w : World) (g : Nat) (nm : Bytes) (p : Int) (v : Value) (b : Bool) (kv : Value) : Prop:=w.heap[g]? = some (.cells #[.string ⟨nm.toArray⟩, .int .i64 p,v, .bool b,kv] 44 (0,0))
section
variable {w : World} {g : Nat} {nm : Bytes} {p : Int} {v : Value} {b : Bool} {kv : Value}
theorem NodeBlk.keep {w' : World} (h : NodeBlk w g nm p v b kv) (hb : Below w.heap.size w w') : NodeBlk w' g nm p v b kv:=(hb.block g (Array.getElem?_eq_some_iff.1 h).1).trans h
theorem NodeBlk.lt (h : NodeBlk w g nm p v b kv) : g < w.heap.size:=(Array.getElem?_eq_some_iff.1 h).1
theorem NodeBlk.grown {w' : World} {row : Option Nat} (h : NodeBlk w g nm p v b kv) (hg : w.grownBy w' row) (hne : some g ≠ row) : NodeBlk w' g nm p v b kv:=(hg.block g h.lt hne).trans h
theorem NodeBlk.sname (h : NodeBlk w g nm p v b kv) (x : Bytes) : NodeBlk (w.setCell ⟨g,0,none⟩ (.string ⟨x.toArray⟩)) g x p v b kv := by
  have:=Joins.block_setCell h (i:=0) (.string ⟨x.toArray⟩)
  simpa [NodeBlk] using this
theorem NodeBlk.swords (h : NodeBlk w g nm p v b kv) (x : Value) : NodeBlk (w.setCell ⟨g,2,none⟩ x) g nm p x b kv := by
  have:=Joins.block_setCell h (i:=2) x
  simpa [NodeBlk] using this
theorem NodeBlk.other (h : NodeBlk w g nm p v b kv) {q : Addr} (hq : q.block ≠ g) (x : Value) : NodeBlk (w.setCell q x) g nm p v b kv:=(heap_setCell_other w q g x (fun e => hq e.symm)).trans h
end
theorem info_wordI : (Tryz.prog.info? 61).map (fun i => (i.zero,i.size,i.bytes)) = some (some (.agg #[.bool false, .int .i64 0, .string ⟨#[]⟩, .int .i64 0]),4,40):=by kernel_rfl
/-- Words of a row of the call's own. -/
def OwnWords (w : World) (base : Nat) (v : Value) (l : List WordL) : Prop:=w.ownsRow base 61 4 v l.length (l.flatMap WordL.cells)
theorem OwnWords.node {w : World} {base : Nat} {v : Value} {l : List WordL} (h : OwnWords w base v l) (nm : Bytes) :
    NodeOk w (· < w.heap.size) (.mk nm 0 l false []) [.string ⟨nm.toArray⟩, .int .i64 0,v, .bool false, .slice none 0 0]:=by
  simp only [NodeOk]
  unfold OwnWords at h
  rcases h.2 with ⟨rfl,hn⟩ | ⟨g,cap,cur,rfl,hb,hg,h1,h2,h3,h4⟩
  · have : l = [] := List.eq_nil_of_length_eq_zero hn
    subst this
    exact ⟨none,0,none,0,[],rfl,fun _ => rfl,fun _ => rfl,ReadsM.nil _ _ _ _,ReadsM.nil _ _ _ _,rfl⟩
  · refine ⟨some ⟨g,0,none⟩,cap,none,0,[],rfl,(fun h => by cases h),(fun _ => rfl),⟨h.1,fun _ => ⟨_,rfl,(Array.getElem?_eq_some_iff.1 hg).1,fun j u hu => ?_⟩⟩,ReadsM.nil _ _ _ _,rfl⟩
    rw [add_blk0,zb hg j]
    have hj:=(List.getElem?_eq_some_iff.1 hu).1
    rw [← h4] at hu hj
    rw [List.getElem?_take_of_lt (by rw [List.length_take] at hj;omega)] at hu
    simpa using hu
theorem own_down {w : World} {b b' : Nat} {e : TypeId} {size n : Nat} {v : Value} {xs : List Value} (hb : b' ≤ b) (h : w.ownsRow b e size v n xs) : w.ownsRow b' e size v n xs := by
  refine ⟨h.1,?_⟩
  rcases h.2 with h2 | ⟨g,cap,cur,h1,h2,h3⟩
  · exact .inl h2
  · exact .inr ⟨g,cap,cur,h1,by omega,h3⟩
theorem own_push {w : World} {base : Nat} {v : Value} {l : List WordL} {x : WordL} (h : w.ownsRow base 61 4 v (l.length + 1) (l.flatMap WordL.cells ++ x.cells)) : OwnWords w base v (l ++ [x]) := by
  unfold OwnWords
  rw [List.length_append,List.flatMap_append]
  simpa using h
theorem item_keep {w wr w3 : World} {n : Nat} {v : Value} {xs : List Value} {o : Obj} {g6 g7 : Nat} {nm nm' : Bytes} {v6 v7 k6 k7 : Value} {b6 b7 : Bool} {p6 p7 : Int} (hown : wr.ownsRow (w.heap.size + 2) 61 4 v n xs) (hb : Below w.heap.size w wr) (hsz : w.heap.size + 2 ≤ wr.heap.size)
    (h6 : NodeBlk wr g6 nm p6 v6 b6 k6) (h7 : NodeBlk wr g7 nm' p7 v7 b7 k7) (hg : (wr.alloc o).grownBy w3 v.ownBlock) (e6 : g6 = w.heap.size) (e7 : g7 = w.heap.size + 1) :
    Below w.heap.size w w3 ∧ w.heap.size + 2 ≤ w3.heap.size ∧ NodeBlk w3 g6 nm p6 v6 b6 k6 ∧ NodeBlk w3 g7 nm' p7 v7 b7 k7:=by
  have hba:=Below.alloc hb hb.size o
  have hs:=hg.size
  have hs' : (wr.alloc o).heap.size = wr.heap.size + 1:=by simp
  refine ⟨below_own hba hg hba.size (hown.alloc o) (by omega),by omega,?_,?_⟩
  · exact (NodeBlk.keep h6 ((Below.refl _ _).alloc (Nat.le_refl _) o)).grown hg (fun e => by have:=(hown.lt g6 e.symm).1;omega)
  · exact (NodeBlk.keep h7 ((Below.refl _ _).alloc (Nat.le_refl _) o)).grown hg (fun e => by have:=(hown.lt g7 e.symm).1;omega)
set_option maxHeartbeats 8000000 in
theorem field_item (nm : Bytes) (ss : List Bytes) (ks : List Int) (A1 A2 : Option Addr) (c1 c2 : Nat) (w : World) (hs : ss.length ≤ 100) (hk : ks.length ≤ 100)
    (h1 : ∀ k s,ss[k]? = some s → ∃ a,A1 = some a ∧ a.block < w.heap.size ∧ w.cell? (a.add k) = some (.string ⟨s.toArray⟩))
    (h2 : ∀ k n,ks[k]? = some n → ∃ a,A2 = some a ∧ a.block < w.heap.size ∧ w.cell? (a.add k) = some (.int .i64 n)) :
    Calls Tryz.prog 31 #[.string ⟨nm.toArray⟩, .slice A1 ss.length c1, .slice A2 ks.length c2] w fun e w' =>
      ∃ v,e = .returned (.agg #[.string ⟨nm.toArray⟩, .int .i64 0,v, .bool false, .slice none 0 0]) ∧ OwnWords w' w.heap.size v (ss.map wS ++ ks.map wN) ∧ Below w.heap.size w w':=by
  obtain ⟨i0,hi,hz0,hz1,hz2⟩:=info_parts info_wordI
  have H1:=zh h1
  have H2:=zh h2
  clear h1 h2
  go_enter Tryz.func31,Tryz.ntmps31
  go_wp2_with fail
  obtain ⟨g6,hg6⟩ : ∃ g,g = w.heap.size:=⟨_,rfl⟩
  obtain ⟨g7,hg7⟩ : ∃ g,g = w.heap.size + 1:=⟨_,rfl⟩
  generalize hW0 : World.alloc (World.alloc _ _) _ = W0
  have hb0 : Below w.heap.size w W0:=by rw [← hW0];(repeat (first | exact Below.refl _ _ | assumption | refine Below.setCell ?_ (by first | (simp;done) | (simp;omega) | omega) _ | refine Below.alloc ?_ (by first | (simp;done) | (simp;omega) | omega) _ | refine Below.drew ?_ | refine below_drewN ?_ _ | refine Below.trans ?_ (Below.mono (by assumption) (by first | (simp;done) | (simp;omega) | omega))))
  have h6 : NodeBlk W0 g6 [] 0 (.slice none 0 0) false (.slice none 0 0) := by
    rw [← hW0,hg6]
    exact (Below.block ((Below.refl (w.alloc _).heap.size (w.alloc _)).alloc (Nat.le_refl _) _) w.heap.size (by simp)).trans (heap_alloc_new w _)
  have h7 : NodeBlk W0 g7 nm 0 (.slice none 0 0) false (.slice none 0 0) := by
    rw [← hW0,hg7]
    have:=heap_alloc_new (w.alloc (.cells #[.string ⟨#[]⟩, .int .i64 0, .slice none 0 0, .bool false, .slice none 0 0] 44)) (.cells #[.string ⟨nm.toArray⟩, .int .i64 0, .slice none 0 0, .bool false, .slice none 0 0] 44)
    simpa [NodeBlk] using this
  have hz0' : w.heap.size + 2 ≤ W0.heap.size:=by have:=h7.lt;omega
  rw [← hg7,← hg6]
  have HG:=zh (And.intro hg6 hg7)
  have H0:=zh (And.intro hb0 (And.intro h6 h7))
  have hne : g6 ≠ g7:=by omega
  clear hW0 hb0 h6 h7 hg6 hg7
  go_loopw [16] (fun i wr => ∃ (k : Nat) (v : Value),k ≤ ss.length ∧ i = .int .i64 k ∧ Below w.heap.size w wr ∧ w.heap.size + 2 ≤ wr.heap.size ∧ NodeBlk wr g6 [] 0 (.slice none 0 0) false (.slice none 0 0) ∧ NodeBlk wr g7 nm 0 v false (.slice none 0 0) ∧ OwnWords wr (w.heap.size + 2) v ((ss.take k).map wS)) (fun i _ => ss.length - (intOf i).toNat)
  case atStart => exact ⟨0,_,Nat.zero_le _,rfl,H0.out.1,hz0',H0.out.2.1,H0.out.2.2,World.ownsRow_nil _ _ _ _⟩
  case round =>
    obtain ⟨k,v,hkl,rfl,hb,hsz,h6,h7,hown⟩:=hrel
    obtain ⟨A,c,hv,hnc⟩:=own_form hown
    have hlenk : ((ss.take k).map wS).length = k:=by simp;omega
    rw [hlenk] at hv hnc
    subst hv
    by_cases hlt : k < ss.length
    · obtain ⟨x,hx⟩ : ∃ x,ss[k]? = some x := ⟨_,List.getElem?_eq_getElem hlt⟩
      obtain ⟨a,hA1,hal,hc⟩:=H1.out k x hx
      have hcr:=(hb.cell (p:=a.add k) (by rw [block_of_add];exact hal)).trans hc
      subst hA1
      have htk : ss.take (k + 1) = ss.take k ++ [x]:=by rw [List.take_add_one,hx];rfl
      have HTK:=zh htk
      have c72:=zb h7 2
      have lk : (k : Int) < ss.length:=by omega
      have lk0 : (0 : Int) ≤ k:=by omega
      have w1f : IntKind.i64.wrap ((k : Int) + 1) = (k : Int) + 1:=by rw [IntKind.wrap_i64];omega
      have HOW:=zh hown
      have HL:=zh hlenk
      have HB:=zh hb
      have H67:=zh (And.intro h6 h7)
      clear htk hx hown hb h6 h7 hc hlenk
      have t1:=cells_new wr [.bool false, .int .i64 0, .string ⟨x.toArray⟩, .int .i64 0] 61 wr.heap.size rfl
      have t2 : ∀ u ∈ [Value.bool false, .int .i64 0, .string ⟨x.toArray⟩, .int .i64 0],u.oneCell' = true:=by intro y hy;simp only [List.mem_cons,List.not_mem_nil,or_false] at hy;rcases hy with rfl | rfl | rfl | rfl <;> rfl
      have t3 : ((ss.take k).map wS).length + 1 ≤ maxLen:=by rw [HL.out];unfold maxLen;omega
      have t4 : (((ss.take k).map wS).length + 1) * 40 ≤ 140737488355328:=by rw [HL.out];omega
      have t5 : w.heap.size + 2 ≤ (wr.alloc (.cells #[.bool false, .int .i64 0, .string ⟨x.toArray⟩, .int .i64 0] 61)).heap.size:=by simp;omega
      have t6 : (wr.alloc (.cells #[.bool false, .int .i64 0, .string ⟨x.toArray⟩, .int .i64 0] 61)).ownsRow (w.heap.size + 2) 61 4 (.slice A k c) ((ss.take k).map wS).length _:=HOW.out.alloc _
      go_wp2_with (first | (at_builtin;go_loud (refine wpList_append_own _ rfl _ _ 42 rfl (w.heap.size + 2) 61 i0 _ 4 40 Tryz.underlying42 hi hz0 hz1 hz2 rfl (by decide) (.slice A k c) ((ss.take k).map wS).length _ rfl t6 ⟨wr.heap.size,0,none⟩ 1 1 [.bool false, .int .i64 0, .string ⟨x.toArray⟩, .int .i64 0] rfl rfl t1 t2 t3 t4 t5 ?_);intro v' w3 hown3 hgrow3 _;go_loud (have H672:=item_keep HOW.out HB.out hsz H67.out.1 H67.out.2 hgrow3 HG.out.1 HG.out.2);have H673:=zh H672;have HOW3:=zh hown3;obtain ⟨A',c',rfl,hc'⟩:=own_form hown3;have c73:=zb H672.2.2.2 2;have f73:=zu H672.2.2.2 2;clear H672 hown3 hgrow3))
      refine ⟨⟨k + 1,_,by omega,by go_num,Below.setCell H673.out.1 (by show w.heap.size ≤ g7;have:=HG.out.2;omega) _,?_,NodeBlk.other H673.out.2.2.1 (fun e => hne e.symm) _,H673.out.2.2.2.swords _,?_⟩,by simp [intOf];omega⟩
      · have:=H673.out.2.1;simpa using this
      · rw [HTK.out,List.map_append]
        have ho3:=own_push (x:=wS x) HOW3.out
        simp only [HL.out] at ho3
        exact own_set ho3 (fun e => by have:=(World.ownsRow.lt ho3 g7 e).1;have:=HG.out.2;omega) _
    · have hk2 : k = ss.length := by omega
      have lk : ¬ (k : Int) < ss.length:=by omega
      have hown' : OwnWords wr (w.heap.size + 2) (.slice A k c) (ss.map wS ++ (ks.take 0).map wN) := by
        rw [hk2,List.take_length] at hown
        simpa [hk2] using hown
      have HI:=zh (And.intro hb (And.intro hsz (And.intro h6 (And.intro h7 hown'))))
      clear hb hsz h6 h7 hown hown' hlenk hnc
      go_wp2_with fail
      go_loopw [30] (fun i wr => ∃ (k : Nat) (v : Value),k ≤ ks.length ∧ i = .int .i64 k ∧ Below w.heap.size w wr ∧ w.heap.size + 2 ≤ wr.heap.size ∧ NodeBlk wr g6 [] 0 (.slice none 0 0) false (.slice none 0 0) ∧ NodeBlk wr g7 nm 0 v false (.slice none 0 0) ∧ OwnWords wr (w.heap.size + 2) v (ss.map wS ++ (ks.take k).map wN)) (fun i _ => ks.length - (intOf i).toNat)
      case atStart => exact ⟨0,_,Nat.zero_le _,rfl,HI.out.1,HI.out.2.1,HI.out.2.2.1,HI.out.2.2.2.1,HI.out.2.2.2.2⟩
      case round =>
        clear HI hk2 lk hkl
        obtain ⟨k',v,hkl,rfl,hb,hsz,h6,h7,hown⟩:=hrel
        obtain ⟨A',c',hv,hnc⟩:=own_form hown
        have hlenk : (ss.map wS ++ (ks.take k').map wN).length = ss.length + k':=by simp;omega
        rw [hlenk] at hv hnc
        subst hv
        by_cases hlt : k' < ks.length
        · obtain ⟨x,hx⟩ : ∃ x,ks[k']? = some x := ⟨_,List.getElem?_eq_getElem hlt⟩
          obtain ⟨a,hA2,hal,hc⟩:=H2.out k' x hx
          have hcr:=(hb.cell (p:=a.add k') (by rw [block_of_add];exact hal)).trans hc
          subst hA2
          have htk : ks.take (k' + 1) = ks.take k' ++ [x]:=by rw [List.take_add_one,hx];rfl
          have HTK:=zh htk
          have c72:=zb h7 2
          have lk : (k' : Int) < ks.length:=by omega
          have lk0 : (0 : Int) ≤ k':=by omega
          have w1f : IntKind.i64.wrap ((k' : Int) + 1) = (k' : Int) + 1:=by rw [IntKind.wrap_i64];omega
          have HOW:=zh hown
          have HL:=zh hlenk
          have HB:=zh hb
          have H67:=zh (And.intro h6 h7)
          clear htk hx hown hb h6 h7 hc hlenk
          have t1:=cells_new wr [.bool true, .int .i64 x, .string ⟨#[]⟩, .int .i64 0] 61 wr.heap.size rfl
          have t2 : ∀ u ∈ [Value.bool true, .int .i64 x, .string ⟨#[]⟩, .int .i64 0],u.oneCell' = true:=by intro y hy;simp only [List.mem_cons,List.not_mem_nil,or_false] at hy;rcases hy with rfl | rfl | rfl | rfl <;> rfl
          have t3 : (ss.map wS ++ (ks.take k').map wN).length + 1 ≤ maxLen:=by rw [HL.out];unfold maxLen;omega
          have t4 : ((ss.map wS ++ (ks.take k').map wN).length + 1) * 40 ≤ 140737488355328:=by rw [HL.out];omega
          have t5 : w.heap.size + 2 ≤ (wr.alloc (.cells #[.bool true, .int .i64 x, .string ⟨#[]⟩, .int .i64 0] 61)).heap.size:=by simp;omega
          have t6 : (wr.alloc (.cells #[.bool true, .int .i64 x, .string ⟨#[]⟩, .int .i64 0] 61)).ownsRow (w.heap.size + 2) 61 4 (.slice A' (ss.length + k') c') (ss.map wS ++ (ks.take k').map wN).length _:=HOW.out.alloc _
          go_wp2_with (first | (at_builtin;go_loud (refine wpList_append_own _ rfl _ _ 42 rfl (w.heap.size + 2) 61 i0 _ 4 40 Tryz.underlying42 hi hz0 hz1 hz2 rfl (by decide) (.slice A' (ss.length + k') c') (ss.map wS ++ (ks.take k').map wN).length _ rfl t6 ⟨wr.heap.size,0,none⟩ 1 1 [.bool true, .int .i64 x, .string ⟨#[]⟩, .int .i64 0] rfl rfl t1 t2 t3 t4 t5 ?_);intro v' w3 hown3 hgrow3 _;go_loud (have H672:=item_keep HOW.out HB.out hsz H67.out.1 H67.out.2 hgrow3 HG.out.1 HG.out.2);have H673:=zh H672;have HOW3:=zh hown3;obtain ⟨A'',c'',rfl,hc''⟩:=own_form hown3;have c73:=zb H672.2.2.2 2;have f73:=zu H672.2.2.2 2;clear H672 hown3 hgrow3))
          refine ⟨⟨k' + 1,_,by omega,by go_num,Below.setCell H673.out.1 (by show w.heap.size ≤ g7;have:=HG.out.2;omega) _,?_,NodeBlk.other H673.out.2.2.1 (fun e => hne e.symm) _,H673.out.2.2.2.swords _,?_⟩,by simp [intOf];omega⟩
          · have:=H673.out.2.1;simpa using this
          · rw [HTK.out,List.map_append,← List.append_assoc]
            have ho3:=own_push (x:=wN x) HOW3.out
            simp only [HL.out] at ho3
            exact own_set ho3 (fun e => by have:=(World.ownsRow.lt ho3 g7 e).1;have:=HG.out.2;omega) _
        · have hk2 : k' = ks.length := by omega
          have lk : ¬ (k' : Int) < ks.length:=by omega
          rw [hk2,List.take_length] at hown
          have hc6:=h6
          have q60:=zu h6 0
          have q61:=zu h6 1
          have q62:=zu h6 2
          have q63:=zu h6 3
          have q64:=zu h6 4
          have p60:=zb h6 0
          have p61:=zb h6 1
          have p62:=zb h6 2
          have p63:=zb h6 3
          have p64:=zb h6 4
          have p70:=zb h7 0
          have p71:=zb h7 1
          have p72:=zb h7 2
          have p73:=zb h7 3
          have p74:=zb h7 4
          have HI:=zh (And.intro hb (And.intro hsz (And.intro h6 (And.intro h7 hown))))
          clear hb hsz h6 h7 hown hlenk hnc hc6
          go_wp2_with fail
          refine bodyPost_ret (v:=.agg #[.string ⟨nm.toArray⟩, .int .i64 0, .slice A' (ss.length + ks.length) c', .bool false, .slice none 0 0]) (by simp [results,Tryz.results31,go_sem, *]) rfl ⟨_,rfl,?_,?_⟩
          · have ho := HI.out.2.2.2.2
            have e6:=HG.out.1
            refine own_down (b:=w.heap.size + 2) (by omega) ?_
            have hq : ∀ j,(Value.slice A' (ss.length + ks.length) c').ownBlock ≠ some (⟨g6,j,none⟩ : Addr).block:=fun j e => by have:=(World.ownsRow.lt ho g6 e).1;omega
            exact own_set (own_set (own_set (own_set (own_set ho (hq 0) _) (hq 1) _) (hq 2) _) (hq 3) _) (hq 4) _
          · have hb := HI.out.1
            have e6 : w.heap.size ≤ g6:=by have:=HG.out.1;omega
            exact ((((hb.setCell e6 _).setCell e6 _).setCell e6 _).setCell e6 _).setCell e6 _
end Go.Proofs.YtjbniichcopnlaaGreatDoor
