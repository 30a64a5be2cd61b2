/- Layer 11 (field), the reference: the walk of line. Then: Layer 11 (field), the reference: what its Node goes through: the list of items, and one more put behind it. -/
import Derived.Test.YtjbniichcopnlaaGreatDoorPkS39
import Derived.Deep.AppendLies
import Derived.OrdersHeld
import Derived.Deep.RegionHeld
import Derived.Test.YtjbniichcopnlaaGreatDoorPkS40
import Derived.Test.YtjbniichcopnlaaGreatDoorPkS43
import Derived.Test.YtjbniichcopnlaaGreatDoorPkS45
import Derived.Test.YtjbniichcopnlaaGreatDoorPkS7
set_option linter.unusedVariables false
set_option maxRecDepth 100000
namespace Go.Proofs.YtjbniichcopnlaaGreatDoor
section
set_option linter.unusedSimpArgs false
open Go.RowKit
open Go.Joins renaming cell_of_block → zb, unfrozen_of_block → zu
open Go.Lib renaming hid → zh
open List renaming setIfInBounds_toArray → zA, set_cons_succ → zB, set_cons_zero → zC, getElem_toArray → zD, getElem_cons_succ → zE, getElem_cons_zero → zG
theorem add_next (a : Addr) (k : Nat) : (⟨(a.add k).block,(a.add k).off + 1,none⟩ : Addr) = a.add (k + 1) := by
  rw [← add_of_add]
  rfl
set_option maxHeartbeats 8000000 in
theorem line_strs (nm : Bytes) (ss : List Bytes) (A1 : Option Addr) (c1 : Nat) (w : World) (hs : ss.length ≤ 100) (hne : ∀ (k : Nat) (s : Bytes),ss[k]? = some s → s ≠ [])
    (h1 : ∀ (k : Nat) (s : Bytes),ss[k]? = some s → ∃ a,A1 = some a ∧ a.block < w.heap.size ∧ w.cell? (a.add k) = some (.string ⟨s.toArray⟩)) :
    Calls Tryz.prog 47 #[.string ⟨nm.toArray⟩, .slice A1 ss.length c1, .slice none 0 0] w fun e w' =>
      ∃ v,e = .returned (.agg #[.string ⟨nm.toArray⟩, .int .i64 0,v, .bool false, .slice none 0 0]) ∧ OwnWords w' w.heap.size v (ss.map wS ++ ([] : List Int).map wN) ∧ Below w.heap.size w w':=by
  obtain ⟨i0,hi,hz0,hz1,hz2⟩:=info_parts info_wordI
  have H1:=zh h1
  have HNE:=zh hne
  clear h1 hne
  go_enter Tryz.func47,Tryz.ntmps47
  go_wp2_with fail
  obtain ⟨g6,hg6⟩ : ∃ g,g = w.heap.size:=⟨_,rfl⟩
  obtain ⟨g7,hg7⟩ : ∃ g,g = w.heap.size + 1:=⟨_,rfl⟩
  generalize hW0 : World.alloc (World.alloc _ _) _ = W0
  have hb0 : Below w.heap.size w W0:=by rw [← hW0];(repeat (first | exact Below.refl _ _ | assumption | refine Below.setCell ?_ (by first | (simp;done) | (simp;omega) | omega) _ | refine Below.alloc ?_ (by first | (simp;done) | (simp;omega) | omega) _ | refine Below.drew ?_ | refine below_drewN ?_ _ | refine Below.trans ?_ (Below.mono (by assumption) (by first | (simp;done) | (simp;omega) | omega))))
  have h6 : NodeBlk W0 g6 [] 0 (.slice none 0 0) false (.slice none 0 0) := by
    rw [← hW0,hg6]
    exact (Below.block ((Below.refl (w.alloc _).heap.size (w.alloc _)).alloc (Nat.le_refl _) _) w.heap.size (by simp)).trans (heap_alloc_new w _)
  have h7 : NodeBlk W0 g7 nm 0 (.slice none 0 0) false (.slice none 0 0) := by
    rw [← hW0,hg7]
    have:=heap_alloc_new (w.alloc (.cells #[.string ⟨#[]⟩, .int .i64 0, .slice none 0 0, .bool false, .slice none 0 0] 44)) (.cells #[.string ⟨nm.toArray⟩, .int .i64 0, .slice none 0 0, .bool false, .slice none 0 0] 44)
    simpa [NodeBlk] using this
  have hz0' : w.heap.size + 2 ≤ W0.heap.size:=by have:=h7.lt;omega
  rw [← hg7,← hg6]
  have HG:=zh (And.intro hg6 hg7)
  have H0:=zh (And.intro hb0 (And.intro h6 h7))
  have hne : g6 ≠ g7:=by omega
  clear hW0 hb0 h6 h7 hg6 hg7
  go_loopw [14] (fun i wr => ∃ (k : Nat) (v : Value),k ≤ ss.length ∧ i = .int .i64 k ∧ Below w.heap.size w wr ∧ w.heap.size + 2 ≤ wr.heap.size ∧ NodeBlk wr g6 [] 0 (.slice none 0 0) false (.slice none 0 0) ∧ NodeBlk wr g7 nm 0 v false (.slice none 0 0) ∧ OwnWords wr (w.heap.size + 2) v ((ss.take k).map wS)) (fun i _ => ss.length - (intOf i).toNat)
  case atStart => exact ⟨0,_,Nat.zero_le _,rfl,H0.out.1,hz0',H0.out.2.1,H0.out.2.2,World.ownsRow_nil _ _ _ _⟩
  case round =>
    obtain ⟨k,v,hkl,rfl,hb,hsz,h6,h7,hown⟩:=hrel
    obtain ⟨A,c,hv,hnc⟩:=own_form hown
    have hlenk : ((ss.take k).map wS).length = k:=by simp;omega
    rw [hlenk] at hv hnc
    subst hv
    by_cases hlt : k < ss.length
    · obtain ⟨x,hx⟩ : ∃ x,ss[k]? = some x := ⟨_,List.getElem?_eq_getElem hlt⟩
      obtain ⟨a,hA1,hal,hc⟩:=H1.out k x hx
      have hcr:=(hb.cell (p:=a.add k) (by rw [block_of_add];exact hal)).trans hc
      subst hA1
      have hxe : x.isEmpty = false := by cases x with
        | nil => exact absurd rfl (HNE.out k [] hx)
        | cons a r => rfl
      have htk : ss.take (k + 1) = ss.take k ++ [x]:=by rw [List.take_add_one,hx];rfl
      have HTK:=zh htk
      have c72:=zb h7 2
      have lk : (k : Int) < ss.length:=by omega
      have lk0 : (0 : Int) ≤ k:=by omega
      have w1f : IntKind.i64.wrap ((k : Int) + 1) = (k : Int) + 1:=by rw [IntKind.wrap_i64];omega
      have HOW:=zh hown
      have HL:=zh hlenk
      have HB:=zh hb
      have H67:=zh (And.intro h6 h7)
      clear htk hx hown hb h6 h7 hc hlenk
      have t1:=cells_new wr [.bool false, .int .i64 0, .string ⟨x.toArray⟩, .int .i64 0] 61 wr.heap.size rfl
      have t2 : ∀ u ∈ [Value.bool false, .int .i64 0, .string ⟨x.toArray⟩, .int .i64 0],u.oneCell' = true:=by intro y hy;simp only [List.mem_cons,List.not_mem_nil,or_false] at hy;rcases hy with rfl | rfl | rfl | rfl <;> rfl
      have t3 : ((ss.take k).map wS).length + 1 ≤ maxLen:=by rw [HL.out];unfold maxLen;omega
      have t4 : (((ss.take k).map wS).length + 1) * 40 ≤ 140737488355328:=by rw [HL.out];omega
      have t5 : w.heap.size + 2 ≤ (wr.alloc (.cells #[.bool false, .int .i64 0, .string ⟨x.toArray⟩, .int .i64 0] 61)).heap.size:=by simp;omega
      have t6 : (wr.alloc (.cells #[.bool false, .int .i64 0, .string ⟨x.toArray⟩, .int .i64 0] 61)).ownsRow (w.heap.size + 2) 61 4 (.slice A k c) ((ss.take k).map wS).length _:=HOW.out.alloc _
      go_wp2_with (first | (at_builtin;go_loud (refine wpList_append_own _ rfl _ _ 42 rfl (w.heap.size + 2) 61 i0 _ 4 40 Tryz.underlying42 hi hz0 hz1 hz2 rfl (by decide) (.slice A k c) ((ss.take k).map wS).length _ rfl t6 ⟨wr.heap.size,0,none⟩ 1 1 [.bool false, .int .i64 0, .string ⟨x.toArray⟩, .int .i64 0] rfl rfl t1 t2 t3 t4 t5 ?_);intro v' w3 hown3 hgrow3 _;go_loud (have H672:=item_keep HOW.out HB.out hsz H67.out.1 H67.out.2 hgrow3 HG.out.1 HG.out.2);have H673:=zh H672;have HOW3:=zh hown3;obtain ⟨A',c',rfl,hc'⟩:=own_form hown3;have c73:=zb H672.2.2.2 2;have f73:=zu H672.2.2.2 2;clear H672 hown3 hgrow3))
      refine ⟨⟨k + 1,_,by omega,by go_num,Below.setCell H673.out.1 (by show w.heap.size ≤ g7;have:=HG.out.2;omega) _,?_,NodeBlk.other H673.out.2.2.1 (fun e => hne e.symm) _,H673.out.2.2.2.swords _,?_⟩,by simp [intOf];omega⟩
      · have:=H673.out.2.1;simpa using this
      · rw [HTK.out,List.map_append]
        have ho3:=own_push (x:=wS x) HOW3.out
        simp only [HL.out] at ho3
        exact own_set ho3 (fun e => by have:=(World.ownsRow.lt ho3 g7 e).1;have:=HG.out.2;omega) _
    · have hk2 : k = ss.length := by omega
      have lk : ¬ (k : Int) < ss.length:=by omega
      rw [hk2,List.take_length] at hown
      (have hc6:=h6;have q60:=zu h6 0;have q61:=zu h6 1;have q62:=zu h6 2;have q63:=zu h6 3;have q64:=zu h6 4;have p60:=zb h6 0;have p61:=zb h6 1;have p62:=zb h6 2;have p63:=zb h6 3;have p64:=zb h6 4;have p70:=zb h7 0;have p71:=zb h7 1;have p72:=zb h7 2;have p73:=zb h7 3;have p74:=zb h7 4;have hown2 : OwnWords wr (w.heap.size + 2) (.slice A k c) (ss.map wS ++ ([] : List Int).map wN):=(by simpa [hk2] using hown);have HI:=zh (And.intro hb (And.intro hsz (And.intro h6 (And.intro h7 hown2))));clear hb hsz h6 h7 hown hown2 hlenk hnc hc6;go_wp2_with fail;refine bodyPost_ret (v:=.agg #[.string ⟨nm.toArray⟩, .int .i64 0, .slice A k c, .bool false, .slice none 0 0]) (by simp [results,Tryz.results47,go_sem, *]) rfl ⟨_,rfl,?_,?_⟩;(focus (have ho:=HI.out.2.2.2.2;have e6:=HG.out.1;refine own_down (b:=w.heap.size + 2) (by omega) ?_;have hq : ∀ j,(Value.slice A k c).ownBlock ≠ some (⟨g6,j,none⟩ : Addr).block:=(fun j e => by have:=(World.ownsRow.lt ho g6 e).1;omega);have hz:=own_set (own_set (own_set (own_set (own_set ho (hq 0) (.string ⟨nm.toArray⟩)) (hq 1) (.int .i64 0)) (hq 2) (.slice A k c)) (hq 3) (.bool false)) (hq 4) (.slice none 0 0);(try simp only [hk2,List.map_nil,List.append_nil] at hz);(try simp only [hk2,List.map_nil,List.append_nil]);exact hz));(focus (have hb:=HI.out.1;have e6 : w.heap.size ≤ g6:=(by have:=HG.out.1;omega);exact ((((hb.setCell e6 _).setCell e6 _).setCell e6 _).setCell e6 _).setCell e6 _)))
set_option maxHeartbeats 8000000 in
theorem line_nums (nm : Bytes) (ks : List Int) (a1 a2 : Addr) (c1 : Nat) (w : World) (hs : ks.length ≤ 100)
    (h1 : ∀ k,k < ks.length → a1.block < w.heap.size ∧ w.cell? (a1.add k) = some (.string ⟨#[]⟩))
    (h2 : ∀ k n,ks[k]? = some n → a2.block < w.heap.size ∧ w.cell? (a2.add k) = some (.int .i64 n)) :
    Calls Tryz.prog 47 #[.string ⟨nm.toArray⟩, .slice (some a1) ks.length c1, .slice (some a2) ks.length ks.length] w fun e w' =>
      ∃ v,e = .returned (.agg #[.string ⟨nm.toArray⟩, .int .i64 0,v, .bool false, .slice none 0 0]) ∧ OwnWords w' w.heap.size v (([] : List Bytes).map wS ++ ks.map wN) ∧ Below w.heap.size w w':=by
  obtain ⟨i0,hi,hz0,hz1,hz2⟩:=info_parts info_wordI
  have H1:=zh h1
  have H2:=zh h2
  clear h1 h2
  go_enter Tryz.func47,Tryz.ntmps47
  go_wp2_with fail
  obtain ⟨g6,hg6⟩ : ∃ g,g = w.heap.size:=⟨_,rfl⟩
  obtain ⟨g7,hg7⟩ : ∃ g,g = w.heap.size + 1:=⟨_,rfl⟩
  generalize hW0 : World.alloc (World.alloc _ _) _ = W0
  have hb0 : Below w.heap.size w W0:=by rw [← hW0];(repeat (first | exact Below.refl _ _ | assumption | refine Below.setCell ?_ (by first | (simp;done) | (simp;omega) | omega) _ | refine Below.alloc ?_ (by first | (simp;done) | (simp;omega) | omega) _ | refine Below.drew ?_ | refine below_drewN ?_ _ | refine Below.trans ?_ (Below.mono (by assumption) (by first | (simp;done) | (simp;omega) | omega))))
  have h6 : NodeBlk W0 g6 [] 0 (.slice none 0 0) false (.slice none 0 0) := by
    rw [← hW0,hg6]
    exact (Below.block ((Below.refl (w.alloc _).heap.size (w.alloc _)).alloc (Nat.le_refl _) _) w.heap.size (by simp)).trans (heap_alloc_new w _)
  have h7 : NodeBlk W0 g7 nm 0 (.slice none 0 0) false (.slice none 0 0) := by
    rw [← hW0,hg7]
    have:=heap_alloc_new (w.alloc (.cells #[.string ⟨#[]⟩, .int .i64 0, .slice none 0 0, .bool false, .slice none 0 0] 44)) (.cells #[.string ⟨nm.toArray⟩, .int .i64 0, .slice none 0 0, .bool false, .slice none 0 0] 44)
    simpa [NodeBlk] using this
  have hz0' : w.heap.size + 2 ≤ W0.heap.size:=by have:=h7.lt;omega
  rw [← hg7,← hg6]
  have HG:=zh (And.intro hg6 hg7)
  have H0:=zh (And.intro hb0 (And.intro h6 h7))
  have hne : g6 ≠ g7:=by omega
  clear hW0 hb0 h6 h7 hg6 hg7
  obtain ⟨lv,hlv0,hlv⟩ : ∃ lv : Nat → Addr,lv 0 = a2 ∧ ∀ k,k < ks.length → lv k = a2.add k:=⟨fun k => if k < ks.length then a2.add k else a2.add (k - 1),by by_cases h : 0 < ks.length <;> simp [h,Addr.add],fun k h => if_pos h⟩
  go_loopw [14,2] (fun i l wr => ∃ (k : Nat) (v : Value) (b2 : Addr),k ≤ ks.length ∧ i = .int .i64 k ∧ l = .slice (some b2) (ks.length - k) (ks.length - k) ∧ (k < ks.length → b2 = a2.add k) ∧ Below w.heap.size w wr ∧ w.heap.size + 2 ≤ wr.heap.size ∧ NodeBlk wr g6 [] 0 (.slice none 0 0) false (.slice none 0 0) ∧ NodeBlk wr g7 nm 0 v false (.slice none 0 0) ∧ OwnWords wr (w.heap.size + 2) v ((ks.take k).map wN)) (fun i _ _ => ks.length - (intOf i).toNat)
  case atStart => exact ⟨0,_,a2,Nat.zero_le _,rfl,rfl,fun _ => by simp [Addr.add],H0.out.1,hz0',H0.out.2.1,H0.out.2.2,World.ownsRow_nil _ _ _ _⟩
  case round =>
    obtain ⟨k,v,b2,hkl,rfl,rfl,hb2,hb,hsz,h6,h7,hown⟩:=hrel
    obtain ⟨A,c,hv,hnc⟩:=own_form hown
    have hlenk : ((ks.take k).map wN).length = k:=by simp;omega
    rw [hlenk] at hv hnc
    subst hv
    by_cases hlt : k < ks.length
    · obtain ⟨x,hx⟩ : ∃ x,ks[k]? = some x := ⟨_,List.getElem?_eq_getElem hlt⟩
      obtain rfl:=hb2 hlt
      obtain ⟨hal1,hc1⟩:=H1.out k hlt
      obtain ⟨hal,hc⟩:=H2.out k x hx
      have hcr:=(hb.cell (p:=a1.add k) (by rw [block_of_add];exact hal1)).trans hc1
      have hcn:=(hb.cell (p:=a2.add k) (by rw [block_of_add];exact hal)).trans hc
      have htk : ks.take (k + 1) = ks.take k ++ [x]:=by rw [List.take_add_one,hx];rfl
      have HTK:=zh htk
      have c72:=zb h7 2
      have f72:=zu h7 2
      have lk : (k : Int) < ks.length:=by omega
      have lk0 : (0 : Int) ≤ k:=by omega
      obtain ⟨r,hr⟩ : ∃ r,ks.length - k = r + 1:=⟨ks.length - k - 1,by omega⟩
      rw [hr]
      have HRK:=zh hr
      have lr : (0 : Int) < ((r + 1 : Nat) : Int):=by omega
      have lr2 : (0 : Int) < (r : Int) + 1:=by omega
      have w1f : IntKind.i64.wrap ((k : Int) + 1) = (k : Int) + 1:=by rw [IntKind.wrap_i64];omega
      have HOW:=zh hown
      have HL:=zh hlenk
      have HB:=zh hb
      have H67:=zh (And.intro h6 h7)
      have hc0:=hc
      clear hr htk hx hown hb h6 h7 hc hlenk hc1
      go_wp2_with fail
      refine wp_region_held_drew (S:=fun X => X.cell? (a2.add k) = some (.int .i64 x)) (by kernel_rfl) ?_ (fun hHeld => ?_)
      · exact hcn
      have hd : Below wr.heap.size wr wr.drew:=(Below.refl _ _).drew
      have HOWD:=zh (own_below HOW.out hd)
      have HBD:=zh (HB.out.trans (hd.mono HB.out.size))
      have H67D:=zh (And.intro (H67.out.1.keep hd) (H67.out.2.keep hd))
      have hszd : w.heap.size + 2 ≤ wr.drew.heap.size:=hsz
      have HCW:=zh hc0
      generalize wr.drew = wd at *
      have c7d:=zb H67D.out.2 2
      have l7d:=H67D.out.2.lt
      have t2 : ∀ u ∈ [Value.bool true, .int .i64 x, .string ⟨#[]⟩, .int .i64 0],u.oneCell' = true:=by intro y hy;simp only [List.mem_cons,List.not_mem_nil,or_false] at hy;rcases hy with rfl | rfl | rfl | rfl <;> rfl
      have t3 : ((ks.take k).map wN).length + 1 ≤ maxLen:=by rw [HL.out];unfold maxLen;omega
      have t4 : (((ks.take k).map wN).length + 1) * 40 ≤ 140737488355328:=by rw [HL.out];omega
      have t5 : w.heap.size + 2 ≤ (wd.alloc (.cells #[.bool true, .int .i64 x, .string ⟨#[]⟩, .int .i64 0] 61)).heap.size:=by simp;omega
      have t6 : (wd.alloc (.cells #[.bool true, .int .i64 x, .string ⟨#[]⟩, .int .i64 0] 61)).ownsRow (w.heap.size + 2) 61 4 (.slice A k c) ((ks.take k).map wN).length _:=HOWD.out.alloc _
      clear hd c72 f72 hcr
      refine wtk (v:=?_) 0 rfl (Or.inl ⟨by rfl,?_⟩) ?_;rotate_left;(focus (intro X hSw;(try dsimp only at hSw);go_simp;try with_reducible rfl));try simp only [Act.put,zA,zB,zC,zD,zE,zG]
      refine wtk (v:=?_) 2 rfl (Or.inl ⟨by rfl,?_⟩) ?_;rotate_left;(focus (intro X hSw;(try dsimp only at hSw);go_simp;try with_reducible rfl));try simp only [Act.put,zA,zB,zC,zD,zE,zG]
      refine wtk (v:=?_) 3 rfl (Or.inl ⟨by rfl,?_⟩) ?_;rotate_left;(focus (intro X hSw;(try dsimp only at hSw);go_simp;try with_reducible rfl));try simp only [Act.put,zA,zB,zC,zD,zE,zG]
      refine wtk (v:=?_) 4 rfl (Or.inl ⟨by rfl,?_⟩) ?_;rotate_left;(focus (intro X hSw;(try dsimp only at hSw);go_simp;try with_reducible rfl));try simp only [Act.put,zA,zB,zC,zD,zE,zG]
      refine wtk (v:=?_) 5 rfl (Or.inl ⟨by rfl,?_⟩) ?_;rotate_left;(focus (intro X hSw;(try dsimp only at hSw);go_simp;try with_reducible rfl));try simp only [Act.put,zA,zB,zC,zD,zE,zG]
      refine wpAnyH_ready (rs:=[1,6]) (by kernel_rfl) (by simp) ?_
      refine AllReadyH.cons rfl (fun K hK => ?_) ?_
      · go_simp
        refine hK.out _ _ hHeld (fun hHeld => ?_)
        clear hK K
        try simp only [Act.put,zA,zB,zC,zD,zE,zG]
        refine wpAnyH_ready (rs:=[6]) (by kernel_rfl) (by simp) ?_
        refine AllReadyH.cons rfl (fun K hK => ?_) AllReadyH.nil
        go_simp
        refine hK.out _ _ ((World.cell?_alloc_lt _ _ _ (by rw [block_of_add];omega)).trans hHeld) (fun hHeld => ?_)
        clear hK K
        try simp only [Act.put,zA,zB,zC,zD,zE,zG]
        refine wpAnyH_ready (rs:=[7]) (by kernel_rfl) (by simp) ?_
        refine AllReadyH.cons rfl (fun K hK => ?_) AllReadyH.nil
        refine step_append_lies _ (by rfl) _ _ _ (by rfl) (w.heap.size + 2) 61 i0 _ 4 40 Tryz.underlying42 hi hz0 hz1 hz2 rfl (by decide) (.slice A k c) ((ks.take k).map wN).length _ (by rfl) t6 ⟨wd.heap.size,0,none⟩ 1 1 [.bool true, .int .i64 x, .string ⟨#[]⟩, .int .i64 0] (by rfl) (by rfl) (World.news_of_block (heap_alloc_new wd _)) t2 (by decide) t3 t4 t5 (wd.heap.size + 1) (by simp) ?_
        intro g3 cap3 w3 hown3 hgrow3 hat3 hlt3
        have H672:=item_keep HOWD.out HBD.out hszd H67D.out.1 H67D.out.2 hgrow3 HG.out.1 HG.out.2
        have hS3 : w3.cell? (a2.add k) = some (.int .i64 x):=(H672.1.cell (p:=a2.add k) (by rw [block_of_add];exact hal)).trans HCW.out
        refine hK.out _ _ hS3 (fun hHeld => ?_)
        clear hK K
        try simp only [Act.put,zA,zB,zC,zD,zE,zG]
        have H673:=zh H672
        have HOW3:=zh hown3
        have c73:=zb H672.2.2.2 2
        have f73:=zu H672.2.2.2 2
        clear H672 hown3 hgrow3 hat3
        refine wtk (v:=?_) 8 rfl (Or.inl ⟨by rfl,?_⟩) ?_;rotate_left;(focus (intro X hSw;(try dsimp only at hSw);go_simp;try with_reducible rfl));try simp only [Act.put,zA,zB,zC,zD,zE,zG]
        refine wpAnyH_ready (rs:=[9]) (by kernel_rfl) (by simp) ?_
        refine AllReadyH.cons rfl (fun K hK => ?_) AllReadyH.nil
        go_simp
        refine hK.out _ _ ((World.cell?_setCell_far _ ⟨g7,2,none⟩ (a2.add k) _ (by rw [block_of_add];show g7 ≠ a2.block;have:=HG.out.2;omega)).trans hS3) (fun hHeld => ?_)
        clear hK K hS3
        try simp only [Act.put,zA,zB,zC,zD,zE,zG]
        refine wpAnyH_done (by kernel_rfl) ?_ _
        go_wp2_with fail
        have hrk:=HRK.out
        have e7:=HG.out.2
        refine ⟨⟨k + 1, .slice (some ⟨g3,0,none⟩) (k + 1) cap3,if r = 0 then a2.add k else ⟨(a2.add k).block,(a2.add k).off + 1,none⟩,by omega,by go_num,by rw [show ks.length - (k + 1) = r by omega];split <;> rfl,fun h => by rw [if_neg (by omega)];exact add_next a2 k,Below.setCell H673.out.1 (by show w.heap.size ≤ g7;omega) _,by have:=H673.out.2.1;simpa using this,NodeBlk.other H673.out.2.2.1 (fun e => hne e.symm) _,H673.out.2.2.2.swords _,?_⟩,by simp [intOf];omega⟩
        rw [HTK.out,List.map_append]
        have ho3:=own_push (x:=wN x) HOW3.out
        simp only [HL.out] at ho3
        exact own_set ho3 (fun e => by have:=(World.ownsRow.lt ho3 g7 e).1;omega) _
      refine AllReadyH.cons rfl (fun K hK => ?_) AllReadyH.nil
      go_simp
      refine hK.out _ _ ((World.cell?_alloc_lt _ _ _ (by rw [block_of_add];omega)).trans hHeld) (fun hHeld => ?_)
      clear hK K
      try simp only [Act.put,zA,zB,zC,zD,zE,zG]
      have c7a : (wd.alloc (.cells #[.bool true, .int .i64 x, .string ⟨#[]⟩, .int .i64 0] 61)).cell? ⟨g7,2,none⟩ = some (.slice A k c):=(World.cell?_alloc_lt _ _ _ l7d).trans c7d
      refine wpAnyH_ready (rs:=[1]) (by kernel_rfl) (by simp) ?_
      refine AllReadyH.cons rfl (fun K hK => ?_) AllReadyH.nil
      go_simp
      refine hK.out _ _ hHeld (fun hHeld => ?_)
      clear hK K
      try simp only [Act.put,zA,zB,zC,zD,zE,zG]
      refine wpAnyH_ready (rs:=[7]) (by kernel_rfl) (by simp) ?_
      refine AllReadyH.cons rfl (fun K hK => ?_) AllReadyH.nil
      refine step_append_lies _ (by rfl) _ _ _ (by rfl) (w.heap.size + 2) 61 i0 _ 4 40 Tryz.underlying42 hi hz0 hz1 hz2 rfl (by decide) (.slice A k c) ((ks.take k).map wN).length _ (by rfl) t6 ⟨wd.heap.size,0,none⟩ 1 1 [.bool true, .int .i64 x, .string ⟨#[]⟩, .int .i64 0] (by rfl) (by rfl) (World.news_of_block (heap_alloc_new wd _)) t2 (by decide) t3 t4 t5 (wd.heap.size + 1) (by simp) ?_
      intro g3 cap3 w3 hown3 hgrow3 hat3 hlt3
      have H672:=item_keep HOWD.out HBD.out hszd H67D.out.1 H67D.out.2 hgrow3 HG.out.1 HG.out.2
      have hS3 : w3.cell? (a2.add k) = some (.int .i64 x):=(H672.1.cell (p:=a2.add k) (by rw [block_of_add];exact hal)).trans HCW.out
      refine hK.out _ _ hS3 (fun hHeld => ?_)
      clear hK K
      try simp only [Act.put,zA,zB,zC,zD,zE,zG]
      have H673:=zh H672
      have HOW3:=zh hown3
      have c73:=zb H672.2.2.2 2
      have f73:=zu H672.2.2.2 2
      clear H672 hown3 hgrow3 hat3
      refine wtk (v:=?_) 8 rfl (Or.inl ⟨by rfl,?_⟩) ?_;rotate_left;(focus (intro X hSw;(try dsimp only at hSw);go_simp;try with_reducible rfl));try simp only [Act.put,zA,zB,zC,zD,zE,zG]
      refine wpAnyH_ready (rs:=[9]) (by kernel_rfl) (by simp) ?_
      refine AllReadyH.cons rfl (fun K hK => ?_) AllReadyH.nil
      go_simp
      refine hK.out _ _ ((World.cell?_setCell_far _ ⟨g7,2,none⟩ (a2.add k) _ (by rw [block_of_add];show g7 ≠ a2.block;have:=HG.out.2;omega)).trans hS3) (fun hHeld => ?_)
      clear hK K hS3
      try simp only [Act.put,zA,zB,zC,zD,zE,zG]
      refine wpAnyH_done (by kernel_rfl) ?_ _
      go_wp2_with fail
      have hrk:=HRK.out
      have e7:=HG.out.2
      refine ⟨⟨k + 1, .slice (some ⟨g3,0,none⟩) (k + 1) cap3,if r = 0 then a2.add k else ⟨(a2.add k).block,(a2.add k).off + 1,none⟩,by omega,by go_num,by rw [show ks.length - (k + 1) = r by omega];split <;> rfl,fun h => by rw [if_neg (by omega)];exact add_next a2 k,Below.setCell H673.out.1 (by show w.heap.size ≤ g7;omega) _,by have:=H673.out.2.1;simpa using this,NodeBlk.other H673.out.2.2.1 (fun e => hne e.symm) _,H673.out.2.2.2.swords _,?_⟩,by simp [intOf];omega⟩
      rw [HTK.out,List.map_append]
      have ho3:=own_push (x:=wN x) HOW3.out
      simp only [HL.out] at ho3
      exact own_set ho3 (fun e => by have:=(World.ownsRow.lt ho3 g7 e).1;omega) _
    · have hk2 : k = ks.length := by omega
      have lk : ¬ (k : Int) < ks.length:=by omega
      rw [hk2,List.take_length] at hown
      (have hc6:=h6;have q60:=zu h6 0;have q61:=zu h6 1;have q62:=zu h6 2;have q63:=zu h6 3;have q64:=zu h6 4;have p60:=zb h6 0;have p61:=zb h6 1;have p62:=zb h6 2;have p63:=zb h6 3;have p64:=zb h6 4;have p70:=zb h7 0;have p71:=zb h7 1;have p72:=zb h7 2;have p73:=zb h7 3;have p74:=zb h7 4;have hown2 : OwnWords wr (w.heap.size + 2) (.slice A k c) (([] : List Bytes).map wS ++ ks.map wN):=(by simpa [hk2] using hown);have HI:=zh (And.intro hb (And.intro hsz (And.intro h6 (And.intro h7 hown2))));clear hb hsz h6 h7 hown hown2 hlenk hnc hc6;go_wp2_with fail;refine bodyPost_ret (v:=.agg #[.string ⟨nm.toArray⟩, .int .i64 0, .slice A k c, .bool false, .slice none 0 0]) (by simp [results,Tryz.results47,go_sem, *]) rfl ⟨_,rfl,?_,?_⟩;(focus (have ho:=HI.out.2.2.2.2;have e6:=HG.out.1;refine own_down (b:=w.heap.size + 2) (by omega) ?_;have hq : ∀ j,(Value.slice A k c).ownBlock ≠ some (⟨g6,j,none⟩ : Addr).block:=(fun j e => by have:=(World.ownsRow.lt ho g6 e).1;omega);have hz:=own_set (own_set (own_set (own_set (own_set ho (hq 0) (.string ⟨nm.toArray⟩)) (hq 1) (.int .i64 0)) (hq 2) (.slice A k c)) (hq 3) (.bool false)) (hq 4) (.slice none 0 0);(try simp only [hk2,List.map_nil,List.append_nil] at hz);(try simp only [hk2,List.map_nil,List.append_nil]);exact hz));(focus (have hb:=HI.out.1;have e6 : w.heap.size ≤ g6:=(by have:=HG.out.1;omega);exact ((((hb.setCell e6 _).setCell e6 _).setCell e6 _).setCell e6 _).setCell e6 _)))
end
section
open Go.RowKit
open Go.Joins renaming cell_of_block → zb, unfrozen_of_block → zu
/-- A region that draws: a stronger condition may be held from here on. -/
theorem wpAnyH_strong {P : Program} {md : Region.Mode} {ops : Array Oper} {Q : Exit → Act → World → Prop} {S S2 : World → Prop} (hS : ∀ w,S2 w → S w) :
    ∀ (fuel : Nat) (listed : Array Bool) (a : Act) (w : World),wpAnyH P md ops Q S2 fuel listed a w → wpAnyH P md ops Q S fuel listed a w
  | 0,_,_,_,h => h
  | fuel + 1,_,_,_,h => ⟨h.1,fun i hi => wpOp_mono (fun a' w' h' => ⟨hS _ h'.1,wpAnyH_strong hS fuel _ a' w' h'.2⟩) (h.2 i hi)⟩
/-- The items so far,the calendar's block and the result's beside them. -/
def KidsAt (c : CalL) (w wx : World) (v : Value) (l : List NodeL) : Prop:=NdI c w wx ∧ OwnNodes wx (w.heap.size + 2) v l ∧ l.length ≤ 10
theorem KidsAt.nil {c : CalL} {w wx : World} (h : NdI c w wx) : KidsAt c w wx (.slice none 0 0) [] :=
  ⟨h,⟨[],World.ownsRow_nil _ _ _ _,(by simp only [NodesOk])⟩,Nat.zero_le _⟩
theorem KidsAt.below {c : CalL} {w wx wy : World} {v : Value} {l : List NodeL} (h : KidsAt c w wx v l) (hb : Below wx.heap.size wx wy) : KidsAt c w wy v l :=
  ⟨h.1.below hb,h.2.1.below hb,h.2.2⟩
section
variable {c : CalL} {w wc w3 : World} {B : Nat} {v5 v3 : Value} {l : List NodeL} {nm : Bytes} {ws : List WordL} {ops : Array Oper} {rest : List Oper} {o : Oper} {a : Act} {Q : Exit → Act → World → Prop}
theorem push_wp {K : Act → World → Prop} (s x : Operand) (ho : o.op = .call { callee := .builtin .append,args := #[s,x],argTypes := #[41,41] }) (hk : KidsAt c w wc v5 l) (hl : l.length ≤ 9) (hb : Below wc.heap.size wc w3) (hw : OwnWords w3 B v3 ws) (hB : wc.heap.size ≤ B)
    (hs : a.eval s = v5) (hx : a.eval x = .slice (some ⟨w3.heap.size,0,none⟩) 1 1) (h : ∀ v' w',KidsAt c w w' v' (l ++ [.mk nm 0 ws false []]) → (w3.alloc (.cells #[.string ⟨nm.toArray⟩, .int .i64 0,v3, .bool false, .slice none 0 0] 44)).grownBy w' v5.ownBlock → K (a.put o.dst v') w') :
    Oper.wp Tryz.prog o a (w3.alloc (.cells #[.string ⟨nm.toArray⟩, .int .i64 0,v3, .bool false, .slice none 0 0] 44)) K Q:=by
  obtain ⟨j0,hj0,hy0,hy1,hy2⟩:=info_parts info_nodeN
  obtain ⟨hnd,⟨kcs,ho',hk'⟩,hl'⟩:=hk
  obtain ⟨A,cap,rfl,hcap⟩:=own_form ho'
  have hwk : v3.oneCell' = true := by
    obtain ⟨Av,cv,rfl,hcv⟩:=own_form hw
    rfl
  refine wp_append_lies _ s x 41 ho (w.heap.size + 2) 44 j0 _ 5 80 Tryz.underlying41 hj0 hy0 hy1 hy2 rfl (by decide) (.slice A l.length cap) l.length kcs hs (own_one (own_below ho' hb) _) ⟨w3.heap.size,0,none⟩ 1 1 [.string ⟨nm.toArray⟩, .int .i64 0,v3, .bool false, .slice none 0 0] hx rfl (World.news_of_block (heap_alloc_new w3 _)) (by intro u hu;simp only [List.mem_cons,List.not_mem_nil,or_false] at hu;rcases hu with rfl | rfl | rfl | rfl | rfl <;> first | rfl | exact hwk) (by decide) (by unfold maxLen;omega) (by omega) (Nat.le_trans (hnd.below hb).2.2.2 (by simp)) (w3.heap.size + 1) (by simp) ?_
  intro g cap' w' hown hgrow hat hlt
  refine h _ _ ?_ hgrow
  obtain ⟨p1,p2⟩:=push_item hnd hb ho' hk' hw hB hown hgrow hat
  exact ⟨p1,p2,by rw [List.length_append,List.length_singleton];omega⟩
theorem push_list (s x : Operand) (hgd : o.guard = none) (ho : o.op = .call { callee := .builtin .append,args := #[s,x],argTypes := #[41,41] }) (hk : KidsAt c w wc v5 l) (hl : l.length ≤ 9) (hb : Below wc.heap.size wc w3) (hw : OwnWords w3 B v3 ws) (hB : wc.heap.size ≤ B)
    (hs : a.eval s = v5) (hx : a.eval x = .slice (some ⟨w3.heap.size,0,none⟩) 1 1) (h : ∀ v' w',KidsAt c w w' v' (l ++ [.mk nm 0 ws false []]) → wpList Tryz.prog ops Q rest (a.put o.dst v') w') :
    wpList Tryz.prog ops Q (o :: rest) a (w3.alloc (.cells #[.string ⟨nm.toArray⟩, .int .i64 0,v3, .bool false, .slice none 0 0] 44)) :=
  wpList_plain hgd fun _ hK => push_wp s x ho hk hl hb hw hB hs hx fun v' w' h' _ => hK _ _ (h v' w' h')
theorem push_step {K : Act → World → Prop} {E : Prop} (s x : Operand) (hgd : o.guard = none) (ho : o.op = .call { callee := .builtin .append,args := #[s,x],argTypes := #[41,41] }) (hk : KidsAt c w wc v5 l) (hl : l.length ≤ 9) (hb : Below wc.heap.size wc w3) (hw : OwnWords w3 B v3 ws) (hB : wc.heap.size ≤ B)
    (hs : a.eval s = v5) (hx : a.eval x = .slice (some ⟨w3.heap.size,0,none⟩) 1 1) (h : ∀ v' w',KidsAt c w w' v' (l ++ [.mk nm 0 ws false []]) → (w3.alloc (.cells #[.string ⟨nm.toArray⟩, .int .i64 0,v3, .bool false, .slice none 0 0] 44)).grownBy w' v5.ownBlock → K (a.put o.dst v') w') :
    if Region.wanted o (yielded ops a.tmps) = true then Oper.wp Tryz.prog o a (w3.alloc (.cells #[.string ⟨nm.toArray⟩, .int .i64 0,v3, .bool false, .slice none 0 0] 44)) K Q else E:=by
  rw [if_pos (by simp [Region.wanted,hgd])]
  exact push_wp s x ho hk hl hb hw hB hs hx h
end
theorem ne_all {l : List Bytes} (h : ∀ s ∈ l,s ≠ [])  : ∀ (k : Nat) (s : Bytes),l[k]? = some s → s ≠ []:=fun k s e => h s (List.mem_of_getElem? e)
theorem strs_at {W : World} {g : Nat} {cs : Array Value} {T : TypeId} {fr : Nat × Nat} {l : List Bytes} (h : W.heap[g]? = some (.cells cs T fr)) (hc : cs = (l.map fun s => Value.string ⟨s.toArray⟩).toArray) :
    ∀ (k : Nat) (x : Bytes),l[k]? = some x → ∃ a,some (⟨g,0,none⟩ : Addr) = some a ∧ a.block < W.heap.size ∧ W.cell? (a.add k) = some (.string ⟨x.toArray⟩):=fun k x hk => by
  refine ⟨_,rfl,(Array.getElem?_eq_some_iff.1 h).1,?_⟩
  rw [add_blk0,zb h k,hc]
  simp [hk]
theorem two_at (w : World) (o : Obj) (cs : Array Value) (T : TypeId) : ((w.alloc o).alloc (.cells cs T)).heap[w.heap.size + 1]? = some (.cells cs T (0,0)) := by
  have:=heap_alloc_new (w.alloc o) (.cells cs T)
  simpa using this
theorem nums_at (w : World) (ss is : Array Value) (T T2 : TypeId) (ks : List Int) (hs : ss = (List.replicate ks.length (Value.string ⟨#[]⟩)).toArray) (hi : is = (ks.map fun n => Value.int .i64 n).toArray) :
    (∀ k,k < ks.length → (⟨w.heap.size,0,none⟩ : Addr).block < ((w.alloc (.cells ss T)).alloc (.cells is T2)).heap.size ∧ ((w.alloc (.cells ss T)).alloc (.cells is T2)).cell? ((⟨w.heap.size,0,none⟩ : Addr).add k) = some (.string ⟨#[]⟩)) ∧
    (∀ (k : Nat) (n : Int),ks[k]? = some n → (⟨w.heap.size + 1,0,none⟩ : Addr).block < ((w.alloc (.cells ss T)).alloc (.cells is T2)).heap.size ∧ ((w.alloc (.cells ss T)).alloc (.cells is T2)).cell? ((⟨w.heap.size + 1,0,none⟩ : Addr).add k) = some (.int .i64 n)):=by
  have e0 : ((w.alloc (.cells ss T)).alloc (.cells is T2)).heap[w.heap.size]? = some (.cells ss T (0,0)):=(Go.heap_alloc_old _ _ (by simp)).trans (heap_alloc_new w _)
  have e1 : ((w.alloc (.cells ss T)).alloc (.cells is T2)).heap[w.heap.size + 1]? = some (.cells is T2 (0,0)) := by
    have:=heap_alloc_new (w.alloc (.cells ss T)) (.cells is T2)
    simpa using this
  refine ⟨fun k hk => ⟨(Array.getElem?_eq_some_iff.1 e0).1,?_⟩,fun k n hk => ⟨(Array.getElem?_eq_some_iff.1 e1).1,?_⟩⟩
  · rw [add_blk0,zb e0 k,hs]
    simp [hk]
  · rw [add_blk0,zb e1 k,hi]
    simp [hk]
theorem below_twoN (w : World) (o o2 : Obj) : Below w.heap.size w ((w.alloc o).alloc o2):=((Below.refl _ _).alloc (Nat.le_refl _) o).alloc (by simp) o2
/-- A year of weeks has a shape of weeks. -/
theorem okC_shape (c : CalL) (h : okC c = true) (he : standsC c.kind b_extra = true) : c.shape = 1 ∨ c.shape = 2 ∨ c.shape = 3 := by
  have hk : c.kind ≠ 3 ∧ c.kind ≠ 4 ∧ c.kind ≠ 6 := by
    unfold standsC at he
    rw [if_neg (by decide),if_pos (.inr (.inr rfl))] at he
    simp only [Bool.and_eq_true,decide_eq_true_eq] at he
    exact ⟨he.1.1,he.1.2,he.2⟩
  have hw : weeksC c = true := by
    unfold okC at h
    simp only [Bool.and_eq_true] at h
    have hr:=h.2
    unfold ruledC fixedC at hr
    rw [if_neg hk.1,if_neg hk.2.1] at hr
    dsimp only at hr
    split at hr
    · cases hr
    · split at hr
      · simp only [Bool.and_eq_true] at hr;exact hr.2
      · split at hr
        · simp only [Bool.and_eq_true] at hr;exact hr.2
        · rw [if_neg hk.2.2] at hr;cases hr
  unfold weeksC at hw
  by_cases h1 : c.shape = 1
  · exact .inl h1
  · rw [if_neg h1] at hw
    by_cases h2 : c.shape = 2
    · exact .inr (.inl h2)
    · rw [if_neg h2] at hw
      by_cases h3 : c.shape = 3
      · exact .inr (.inr h3)
      · rw [if_neg h3] at hw;cases hw
end
end Go.Proofs.YtjbniichcopnlaaGreatDoor
