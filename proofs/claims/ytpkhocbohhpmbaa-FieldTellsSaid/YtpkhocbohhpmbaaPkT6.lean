/- Layer 11 (field), the reference: the walk of line. -/
import Derived.Test.YtpkhocbohhpmbaaPkT0
import Derived.Deep.AppendLies
import Derived.OrdersHeld
import Derived.Deep.RegionHeld
set_option linter.unusedVariables false
set_option linter.unusedSimpArgs false
set_option maxRecDepth 100000
namespace Go.Proofs.Ytpkhocbohhpmbaa
open Go.RowKit
open Go.Joins renaming cell_of_block → zb, unfrozen_of_block → zu
open Go.Lib renaming hid → zh
open List renaming setIfInBounds_toArray → zA, set_cons_succ → zB, set_cons_zero → zC, getElem_toArray → zD, getElem_cons_succ → zE, getElem_cons_zero → zF
theorem add_next (a : Addr) (k : Nat) : (⟨(a.add k).block,(a.add k).off + 1,none⟩ : Addr) = a.add (k + 1) := by
  rw [← add_of_add]
  rfl
set_option maxHeartbeats 8000000 in
theorem line_strs (nm : Bytes) (ss : List Bytes) (A1 : Option Addr) (c1 : Nat) (w : World) (hs : ss.length ≤ 100) (hne : ∀ (k : Nat) (s : Bytes),ss[k]? = some s → s ≠ [])
    (h1 : ∀ (k : Nat) (s : Bytes),ss[k]? = some s → ∃ a,A1 = some a ∧ a.block < w.heap.size ∧ w.cell? (a.add k) = some (.string ⟨s.toArray⟩)) :
    Calls Try.prog 33 #[.string ⟨nm.toArray⟩, .slice A1 ss.length c1, .slice none 0 0] w fun e w' =>
      ∃ v,e = .returned (.agg #[.string ⟨nm.toArray⟩, .int .i64 0,v, .bool false, .slice none 0 0]) ∧ OwnWords w' w.heap.size v (ss.map wS ++ ([] : List Int).map wN) ∧ Below w.heap.size w w':=by
  obtain ⟨i0,hi,hz0,hz1,hz2⟩:=info_parts info_wordI
  have H1:=zh h1
  have HNE:=zh hne
  clear h1 hne
  go_enter Try.func33,Try.ntmps33
  go_wp2_with fail
  obtain ⟨g6,hg6⟩ : ∃ g,g = w.heap.size:=⟨_,rfl⟩
  obtain ⟨g7,hg7⟩ : ∃ g,g = w.heap.size + 1:=⟨_,rfl⟩
  generalize hW0 : World.alloc (World.alloc _ _) _ = W0
  have hb0 : Below w.heap.size w W0:=by rw [← hW0];(repeat (first | exact Below.refl _ _ | assumption | refine Below.setCell ?_ (by first | (simp;done) | (simp;omega) | omega) _ | refine Below.alloc ?_ (by first | (simp;done) | (simp;omega) | omega) _ | refine Below.drew ?_ | refine below_drewN ?_ _ | refine Below.trans ?_ (Below.mono (by assumption) (by first | (simp;done) | (simp;omega) | omega))))
  have h6 : NodeBlk W0 g6 [] 0 (.slice none 0 0) false (.slice none 0 0) := by
    rw [← hW0,hg6]
    exact (Below.block ((Below.refl (w.alloc _).heap.size (w.alloc _)).alloc (Nat.le_refl _) _) w.heap.size (by simp)).trans (heap_alloc_new w _)
  have h7 : NodeBlk W0 g7 nm 0 (.slice none 0 0) false (.slice none 0 0) := by
    rw [← hW0,hg7]
    have:=heap_alloc_new (w.alloc (.cells #[.string ⟨#[]⟩, .int .i64 0, .slice none 0 0, .bool false, .slice none 0 0] 25)) (.cells #[.string ⟨nm.toArray⟩, .int .i64 0, .slice none 0 0, .bool false, .slice none 0 0] 25)
    simpa [NodeBlk] using this
  have hz0' : w.heap.size + 2 ≤ W0.heap.size:=by have:=h7.lt;omega
  rw [← hg7,← hg6]
  have HG:=zh (And.intro hg6 hg7)
  have H0:=zh (And.intro hb0 (And.intro h6 h7))
  have hne : g6 ≠ g7:=by omega
  clear hW0 hb0 h6 h7 hg6 hg7
  go_loopw [14] (fun i wr => ∃ (k : Nat) (v : Value),k ≤ ss.length ∧ i = .int .i64 k ∧ Below w.heap.size w wr ∧ w.heap.size + 2 ≤ wr.heap.size ∧ NodeBlk wr g6 [] 0 (.slice none 0 0) false (.slice none 0 0) ∧ NodeBlk wr g7 nm 0 v false (.slice none 0 0) ∧ OwnWords wr (w.heap.size + 2) v ((ss.take k).map wS)) (fun i _ => ss.length - (intOf i).toNat)
  case atStart => exact ⟨0,_,Nat.zero_le _,rfl,H0.out.1,hz0',H0.out.2.1,H0.out.2.2,World.ownsRow_nil _ _ _ _⟩
  case round =>
    obtain ⟨k,v,hkl,rfl,hb,hsz,h6,h7,hown⟩:=hrel
    obtain ⟨A,c,hv,hnc⟩:=own_form hown
    have hlenk : ((ss.take k).map wS).length = k:=by simp;omega
    rw [hlenk] at hv hnc
    subst hv
    by_cases hlt : k < ss.length
    · obtain ⟨x,hx⟩ : ∃ x,ss[k]? = some x := ⟨_,List.getElem?_eq_getElem hlt⟩
      obtain ⟨a,hA1,hal,hc⟩:=H1.out k x hx
      have hcr:=(hb.cell (p:=a.add k) (by rw [block_of_add];exact hal)).trans hc
      subst hA1
      have hxe : x.isEmpty = false := by cases x with
        | nil => exact absurd rfl (HNE.out k [] hx)
        | cons a r => rfl
      have htk : ss.take (k + 1) = ss.take k ++ [x]:=by rw [List.take_add_one,hx];rfl
      have HTK:=zh htk
      have c72:=zb h7 2
      have lk : (k : Int) < ss.length:=by omega
      have lk0 : (0 : Int) ≤ k:=by omega
      have w1f : IntKind.i64.wrap ((k : Int) + 1) = (k : Int) + 1:=by rw [IntKind.wrap_i64];omega
      have HOW:=zh hown
      have HL:=zh hlenk
      have HB:=zh hb
      have H67:=zh (And.intro h6 h7)
      clear htk hx hown hb h6 h7 hc hlenk
      have t1:=cells_new wr [.bool false, .int .i64 0, .string ⟨x.toArray⟩, .int .i64 0] 47 wr.heap.size rfl
      have t2 : ∀ u ∈ [Value.bool false, .int .i64 0, .string ⟨x.toArray⟩, .int .i64 0],u.oneCell' = true:=by intro y hy;simp only [List.mem_cons,List.not_mem_nil,or_false] at hy;rcases hy with rfl | rfl | rfl | rfl <;> rfl
      have t3 : ((ss.take k).map wS).length + 1 ≤ maxLen:=by rw [HL.out];unfold maxLen;omega
      have t4 : (((ss.take k).map wS).length + 1) * 40 ≤ 140737488355328:=by rw [HL.out];omega
      have t5 : w.heap.size + 2 ≤ (wr.alloc (.cells #[.bool false, .int .i64 0, .string ⟨x.toArray⟩, .int .i64 0] 47)).heap.size:=by simp;omega
      have t6 : (wr.alloc (.cells #[.bool false, .int .i64 0, .string ⟨x.toArray⟩, .int .i64 0] 47)).ownsRow (w.heap.size + 2) 47 4 (.slice A k c) ((ss.take k).map wS).length _:=HOW.out.alloc _
      go_wp2_with (first | (at_builtin;go_loud (refine wpList_append_own _ rfl _ _ 22 rfl (w.heap.size + 2) 47 i0 _ 4 40 Try.underlying22 hi hz0 hz1 hz2 rfl (by decide) (.slice A k c) ((ss.take k).map wS).length _ rfl t6 ⟨wr.heap.size,0,none⟩ 1 1 [.bool false, .int .i64 0, .string ⟨x.toArray⟩, .int .i64 0] rfl rfl t1 t2 t3 t4 t5 ?_);intro v' w3 hown3 hgrow3 _;go_loud (have H672:=item_keep HOW.out HB.out hsz H67.out.1 H67.out.2 hgrow3 HG.out.1 HG.out.2);have H673:=zh H672;have HOW3:=zh hown3;obtain ⟨A',c',rfl,hc'⟩:=own_form hown3;have c73:=zb H672.2.2.2 2;have f73:=zu H672.2.2.2 2;clear H672 hown3 hgrow3))
      refine ⟨⟨k + 1,_,by omega,by go_num,Below.setCell H673.out.1 (by show w.heap.size ≤ g7;have:=HG.out.2;omega) _,?_,NodeBlk.other H673.out.2.2.1 (fun e => hne e.symm) _,H673.out.2.2.2.swords _,?_⟩,by simp [intOf];omega⟩
      · have:=H673.out.2.1;simpa using this
      · rw [HTK.out,List.map_append]
        have ho3:=own_push (x:=wS x) HOW3.out
        simp only [HL.out] at ho3
        exact own_set ho3 (fun e => by have:=(World.ownsRow.lt ho3 g7 e).1;have:=HG.out.2;omega) _
    · have hk2 : k = ss.length := by omega
      have lk : ¬ (k : Int) < ss.length:=by omega
      rw [hk2,List.take_length] at hown
      (have hc6:=h6;have q60:=zu h6 0;have q61:=zu h6 1;have q62:=zu h6 2;have q63:=zu h6 3;have q64:=zu h6 4;have p60:=zb h6 0;have p61:=zb h6 1;have p62:=zb h6 2;have p63:=zb h6 3;have p64:=zb h6 4;have p70:=zb h7 0;have p71:=zb h7 1;have p72:=zb h7 2;have p73:=zb h7 3;have p74:=zb h7 4;have hown2 : OwnWords wr (w.heap.size + 2) (.slice A k c) (ss.map wS ++ ([] : List Int).map wN):=(by simpa [hk2] using hown);have HI:=zh (And.intro hb (And.intro hsz (And.intro h6 (And.intro h7 hown2))));clear hb hsz h6 h7 hown hown2 hlenk hnc hc6;go_wp2_with fail;refine bodyPost_ret (v:=.agg #[.string ⟨nm.toArray⟩, .int .i64 0, .slice A k c, .bool false, .slice none 0 0]) (by simp [results,Try.results33,go_sem, *]) rfl ⟨_,rfl,?_,?_⟩;(focus (have ho:=HI.out.2.2.2.2;have e6:=HG.out.1;refine own_down (b:=w.heap.size + 2) (by omega) ?_;have hq : ∀ j,(Value.slice A k c).ownBlock ≠ some (⟨g6,j,none⟩ : Addr).block:=(fun j e => by have:=(World.ownsRow.lt ho g6 e).1;omega);have hz:=own_set (own_set (own_set (own_set (own_set ho (hq 0) (.string ⟨nm.toArray⟩)) (hq 1) (.int .i64 0)) (hq 2) (.slice A k c)) (hq 3) (.bool false)) (hq 4) (.slice none 0 0);(try simp only [hk2,List.map_nil,List.append_nil] at hz);(try simp only [hk2,List.map_nil,List.append_nil]);exact hz));(focus (have hb:=HI.out.1;have e6 : w.heap.size ≤ g6:=(by have:=HG.out.1;omega);exact ((((hb.setCell e6 _).setCell e6 _).setCell e6 _).setCell e6 _).setCell e6 _)))
set_option maxHeartbeats 8000000 in
theorem line_nums (nm : Bytes) (ks : List Int) (a1 a2 : Addr) (c1 : Nat) (w : World) (hs : ks.length ≤ 100)
    (h1 : ∀ k,k < ks.length → a1.block < w.heap.size ∧ w.cell? (a1.add k) = some (.string ⟨#[]⟩))
    (h2 : ∀ k n,ks[k]? = some n → a2.block < w.heap.size ∧ w.cell? (a2.add k) = some (.int .i64 n)) :
    Calls Try.prog 33 #[.string ⟨nm.toArray⟩, .slice (some a1) ks.length c1, .slice (some a2) ks.length ks.length] w fun e w' =>
      ∃ v,e = .returned (.agg #[.string ⟨nm.toArray⟩, .int .i64 0,v, .bool false, .slice none 0 0]) ∧ OwnWords w' w.heap.size v (([] : List Bytes).map wS ++ ks.map wN) ∧ Below w.heap.size w w':=by
  obtain ⟨i0,hi,hz0,hz1,hz2⟩:=info_parts info_wordI
  have H1:=zh h1
  have H2:=zh h2
  clear h1 h2
  go_enter Try.func33,Try.ntmps33
  go_wp2_with fail
  obtain ⟨g6,hg6⟩ : ∃ g,g = w.heap.size:=⟨_,rfl⟩
  obtain ⟨g7,hg7⟩ : ∃ g,g = w.heap.size + 1:=⟨_,rfl⟩
  generalize hW0 : World.alloc (World.alloc _ _) _ = W0
  have hb0 : Below w.heap.size w W0:=by rw [← hW0];(repeat (first | exact Below.refl _ _ | assumption | refine Below.setCell ?_ (by first | (simp;done) | (simp;omega) | omega) _ | refine Below.alloc ?_ (by first | (simp;done) | (simp;omega) | omega) _ | refine Below.drew ?_ | refine below_drewN ?_ _ | refine Below.trans ?_ (Below.mono (by assumption) (by first | (simp;done) | (simp;omega) | omega))))
  have h6 : NodeBlk W0 g6 [] 0 (.slice none 0 0) false (.slice none 0 0) := by
    rw [← hW0,hg6]
    exact (Below.block ((Below.refl (w.alloc _).heap.size (w.alloc _)).alloc (Nat.le_refl _) _) w.heap.size (by simp)).trans (heap_alloc_new w _)
  have h7 : NodeBlk W0 g7 nm 0 (.slice none 0 0) false (.slice none 0 0) := by
    rw [← hW0,hg7]
    have:=heap_alloc_new (w.alloc (.cells #[.string ⟨#[]⟩, .int .i64 0, .slice none 0 0, .bool false, .slice none 0 0] 25)) (.cells #[.string ⟨nm.toArray⟩, .int .i64 0, .slice none 0 0, .bool false, .slice none 0 0] 25)
    simpa [NodeBlk] using this
  have hz0' : w.heap.size + 2 ≤ W0.heap.size:=by have:=h7.lt;omega
  rw [← hg7,← hg6]
  have HG:=zh (And.intro hg6 hg7)
  have H0:=zh (And.intro hb0 (And.intro h6 h7))
  have hne : g6 ≠ g7:=by omega
  clear hW0 hb0 h6 h7 hg6 hg7
  obtain ⟨lv,hlv0,hlv⟩ : ∃ lv : Nat → Addr,lv 0 = a2 ∧ ∀ k,k < ks.length → lv k = a2.add k:=⟨fun k => if k < ks.length then a2.add k else a2.add (k - 1),by by_cases h : 0 < ks.length <;> simp [h,Addr.add],fun k h => if_pos h⟩
  go_loopw [14,2] (fun i l wr => ∃ (k : Nat) (v : Value) (b2 : Addr),k ≤ ks.length ∧ i = .int .i64 k ∧ l = .slice (some b2) (ks.length - k) (ks.length - k) ∧ (k < ks.length → b2 = a2.add k) ∧ Below w.heap.size w wr ∧ w.heap.size + 2 ≤ wr.heap.size ∧ NodeBlk wr g6 [] 0 (.slice none 0 0) false (.slice none 0 0) ∧ NodeBlk wr g7 nm 0 v false (.slice none 0 0) ∧ OwnWords wr (w.heap.size + 2) v ((ks.take k).map wN)) (fun i _ _ => ks.length - (intOf i).toNat)
  case atStart => exact ⟨0,_,a2,Nat.zero_le _,rfl,rfl,fun _ => by simp [Addr.add],H0.out.1,hz0',H0.out.2.1,H0.out.2.2,World.ownsRow_nil _ _ _ _⟩
  case round =>
    obtain ⟨k,v,b2,hkl,rfl,rfl,hb2,hb,hsz,h6,h7,hown⟩:=hrel
    obtain ⟨A,c,hv,hnc⟩:=own_form hown
    have hlenk : ((ks.take k).map wN).length = k:=by simp;omega
    rw [hlenk] at hv hnc
    subst hv
    by_cases hlt : k < ks.length
    · obtain ⟨x,hx⟩ : ∃ x,ks[k]? = some x := ⟨_,List.getElem?_eq_getElem hlt⟩
      obtain rfl:=hb2 hlt
      obtain ⟨hal1,hc1⟩:=H1.out k hlt
      obtain ⟨hal,hc⟩:=H2.out k x hx
      have hcr:=(hb.cell (p:=a1.add k) (by rw [block_of_add];exact hal1)).trans hc1
      have hcn:=(hb.cell (p:=a2.add k) (by rw [block_of_add];exact hal)).trans hc
      have htk : ks.take (k + 1) = ks.take k ++ [x]:=by rw [List.take_add_one,hx];rfl
      have HTK:=zh htk
      have c72:=zb h7 2
      have f72:=zu h7 2
      have lk : (k : Int) < ks.length:=by omega
      have lk0 : (0 : Int) ≤ k:=by omega
      obtain ⟨r,hr⟩ : ∃ r,ks.length - k = r + 1:=⟨ks.length - k - 1,by omega⟩
      rw [hr]
      have HRK:=zh hr
      have lr : (0 : Int) < ((r + 1 : Nat) : Int):=by omega
      have lr2 : (0 : Int) < (r : Int) + 1:=by omega
      have w1f : IntKind.i64.wrap ((k : Int) + 1) = (k : Int) + 1:=by rw [IntKind.wrap_i64];omega
      have HOW:=zh hown
      have HL:=zh hlenk
      have HB:=zh hb
      have H67:=zh (And.intro h6 h7)
      have hc0:=hc
      clear hr htk hx hown hb h6 h7 hc hlenk hc1
      go_wp2_with fail
      refine wp_region_held_drew (S:=fun X => X.cell? (a2.add k) = some (.int .i64 x)) (by kernel_rfl) ?_ (fun hHeld => ?_)
      · exact hcn
      have hd : Below wr.heap.size wr wr.drew:=(Below.refl _ _).drew
      have HOWD:=zh (own_below HOW.out hd)
      have HBD:=zh (HB.out.trans (hd.mono HB.out.size))
      have H67D:=zh (And.intro (H67.out.1.keep hd) (H67.out.2.keep hd))
      have hszd : w.heap.size + 2 ≤ wr.drew.heap.size:=hsz
      have HCW:=zh hc0
      generalize wr.drew = wd at *
      have c7d:=zb H67D.out.2 2
      have l7d:=H67D.out.2.lt
      have t2 : ∀ u ∈ [Value.bool true, .int .i64 x, .string ⟨#[]⟩, .int .i64 0],u.oneCell' = true:=by intro y hy;simp only [List.mem_cons,List.not_mem_nil,or_false] at hy;rcases hy with rfl | rfl | rfl | rfl <;> rfl
      have t3 : ((ks.take k).map wN).length + 1 ≤ maxLen:=by rw [HL.out];unfold maxLen;omega
      have t4 : (((ks.take k).map wN).length + 1) * 40 ≤ 140737488355328:=by rw [HL.out];omega
      have t5 : w.heap.size + 2 ≤ (wd.alloc (.cells #[.bool true, .int .i64 x, .string ⟨#[]⟩, .int .i64 0] 47)).heap.size:=by simp;omega
      have t6 : (wd.alloc (.cells #[.bool true, .int .i64 x, .string ⟨#[]⟩, .int .i64 0] 47)).ownsRow (w.heap.size + 2) 47 4 (.slice A k c) ((ks.take k).map wN).length _:=HOWD.out.alloc _
      clear hd c72 f72 hcr
      refine wpAnyH_take (i:=0) (v:=?_) rfl (by kernel_rfl) (by kernel_rfl) (by kernel_rfl) (fun _ _ _ h => h) (Or.inl ⟨by rfl,?_⟩) hHeld ?_;rotate_left;(focus (intro X hSw;(try dsimp only at hSw);go_simp;try with_reducible rfl));try simp only [Act.put,zA,zB,zC,zD,zE,zF]
      refine wpAnyH_take (i:=2) (v:=?_) rfl (by kernel_rfl) (by kernel_rfl) (by kernel_rfl) (fun _ _ _ h => h) (Or.inl ⟨by rfl,?_⟩) hHeld ?_;rotate_left;(focus (intro X hSw;(try dsimp only at hSw);go_simp;try with_reducible rfl));try simp only [Act.put,zA,zB,zC,zD,zE,zF]
      refine wpAnyH_take (i:=3) (v:=?_) rfl (by kernel_rfl) (by kernel_rfl) (by kernel_rfl) (fun _ _ _ h => h) (Or.inl ⟨by rfl,?_⟩) hHeld ?_;rotate_left;(focus (intro X hSw;(try dsimp only at hSw);go_simp;try with_reducible rfl));try simp only [Act.put,zA,zB,zC,zD,zE,zF]
      refine wpAnyH_take (i:=4) (v:=?_) rfl (by kernel_rfl) (by kernel_rfl) (by kernel_rfl) (fun _ _ _ h => h) (Or.inl ⟨by rfl,?_⟩) hHeld ?_;rotate_left;(focus (intro X hSw;(try dsimp only at hSw);go_simp;try with_reducible rfl));try simp only [Act.put,zA,zB,zC,zD,zE,zF]
      refine wpAnyH_take (i:=5) (v:=?_) rfl (by kernel_rfl) (by kernel_rfl) (by kernel_rfl) (fun _ _ _ h => h) (Or.inl ⟨by rfl,?_⟩) hHeld ?_;rotate_left;(focus (intro X hSw;(try dsimp only at hSw);go_simp;try with_reducible rfl));try simp only [Act.put,zA,zB,zC,zD,zE,zF]
      refine wpAnyH_ready (rs:=[1,6]) (by kernel_rfl) (by simp) ?_
      refine AllReadyH.cons rfl (fun K hK => ?_) ?_
      · go_simp
        refine hK.out _ _ hHeld (fun hHeld => ?_)
        clear hK K
        try simp only [Act.put,zA,zB,zC,zD,zE,zF]
        refine wpAnyH_ready (rs:=[6]) (by kernel_rfl) (by simp) ?_
        refine AllReadyH.cons rfl (fun K hK => ?_) AllReadyH.nil
        go_simp
        refine hK.out _ _ ((World.cell?_alloc_lt _ _ _ (by rw [block_of_add];omega)).trans hHeld) (fun hHeld => ?_)
        clear hK K
        try simp only [Act.put,zA,zB,zC,zD,zE,zF]
        refine wpAnyH_ready (rs:=[7]) (by kernel_rfl) (by simp) ?_
        refine AllReadyH.cons rfl (fun K hK => ?_) AllReadyH.nil
        refine step_append_lies _ (by rfl) _ _ _ (by rfl) (w.heap.size + 2) 47 i0 _ 4 40 Try.underlying22 hi hz0 hz1 hz2 rfl (by decide) (.slice A k c) ((ks.take k).map wN).length _ (by rfl) t6 ⟨wd.heap.size,0,none⟩ 1 1 [.bool true, .int .i64 x, .string ⟨#[]⟩, .int .i64 0] (by rfl) (by rfl) (World.news_of_block (heap_alloc_new wd _)) t2 (by decide) t3 t4 t5 (wd.heap.size + 1) (by simp) ?_
        intro g3 cap3 w3 hown3 hgrow3 hat3 hlt3
        have H672:=item_keep HOWD.out HBD.out hszd H67D.out.1 H67D.out.2 hgrow3 HG.out.1 HG.out.2
        have hS3 : w3.cell? (a2.add k) = some (.int .i64 x):=(H672.1.cell (p:=a2.add k) (by rw [block_of_add];exact hal)).trans HCW.out
        refine hK.out _ _ hS3 (fun hHeld => ?_)
        clear hK K
        try simp only [Act.put,zA,zB,zC,zD,zE,zF]
        have H673:=zh H672
        have HOW3:=zh hown3
        have c73:=zb H672.2.2.2 2
        have f73:=zu H672.2.2.2 2
        clear H672 hown3 hgrow3 hat3
        refine wpAnyH_take (i:=8) (v:=?_) rfl (by kernel_rfl) (by kernel_rfl) (by kernel_rfl) (fun _ _ _ h => h) (Or.inl ⟨by rfl,?_⟩) hHeld ?_;rotate_left;(focus (intro X hSw;(try dsimp only at hSw);go_simp;try with_reducible rfl));try simp only [Act.put,zA,zB,zC,zD,zE,zF]
        refine wpAnyH_ready (rs:=[9]) (by kernel_rfl) (by simp) ?_
        refine AllReadyH.cons rfl (fun K hK => ?_) AllReadyH.nil
        go_simp
        refine hK.out _ _ ((World.cell?_setCell_far _ ⟨g7,2,none⟩ (a2.add k) _ (by rw [block_of_add];show g7 ≠ a2.block;have:=HG.out.2;omega)).trans hS3) (fun hHeld => ?_)
        clear hK K hS3
        try simp only [Act.put,zA,zB,zC,zD,zE,zF]
        refine wpAnyH_done (by kernel_rfl) ?_ _
        go_wp2_with fail
        have hrk:=HRK.out
        have e7:=HG.out.2
        refine ⟨⟨k + 1, .slice (some ⟨g3,0,none⟩) (k + 1) cap3,if r = 0 then a2.add k else ⟨(a2.add k).block,(a2.add k).off + 1,none⟩,by omega,by go_num,by rw [show ks.length - (k + 1) = r by omega];split <;> rfl,fun h => by rw [if_neg (by omega)];exact add_next a2 k,Below.setCell H673.out.1 (by show w.heap.size ≤ g7;omega) _,by have:=H673.out.2.1;simpa using this,NodeBlk.other H673.out.2.2.1 (fun e => hne e.symm) _,H673.out.2.2.2.swords _,?_⟩,by simp [intOf];omega⟩
        rw [HTK.out,List.map_append]
        have ho3:=own_push (x:=wN x) HOW3.out
        simp only [HL.out] at ho3
        exact own_set ho3 (fun e => by have:=(World.ownsRow.lt ho3 g7 e).1;omega) _
      refine AllReadyH.cons rfl (fun K hK => ?_) AllReadyH.nil
      go_simp
      refine hK.out _ _ ((World.cell?_alloc_lt _ _ _ (by rw [block_of_add];omega)).trans hHeld) (fun hHeld => ?_)
      clear hK K
      try simp only [Act.put,zA,zB,zC,zD,zE,zF]
      have c7a : (wd.alloc (.cells #[.bool true, .int .i64 x, .string ⟨#[]⟩, .int .i64 0] 47)).cell? ⟨g7,2,none⟩ = some (.slice A k c):=(World.cell?_alloc_lt _ _ _ l7d).trans c7d
      refine wpAnyH_ready (rs:=[1]) (by kernel_rfl) (by simp) ?_
      refine AllReadyH.cons rfl (fun K hK => ?_) AllReadyH.nil
      go_simp
      refine hK.out _ _ hHeld (fun hHeld => ?_)
      clear hK K
      try simp only [Act.put,zA,zB,zC,zD,zE,zF]
      refine wpAnyH_ready (rs:=[7]) (by kernel_rfl) (by simp) ?_
      refine AllReadyH.cons rfl (fun K hK => ?_) AllReadyH.nil
      refine step_append_lies _ (by rfl) _ _ _ (by rfl) (w.heap.size + 2) 47 i0 _ 4 40 Try.underlying22 hi hz0 hz1 hz2 rfl (by decide) (.slice A k c) ((ks.take k).map wN).length _ (by rfl) t6 ⟨wd.heap.size,0,none⟩ 1 1 [.bool true, .int .i64 x, .string ⟨#[]⟩, .int .i64 0] (by rfl) (by rfl) (World.news_of_block (heap_alloc_new wd _)) t2 (by decide) t3 t4 t5 (wd.heap.size + 1) (by simp) ?_
      intro g3 cap3 w3 hown3 hgrow3 hat3 hlt3
      have H672:=item_keep HOWD.out HBD.out hszd H67D.out.1 H67D.out.2 hgrow3 HG.out.1 HG.out.2
      have hS3 : w3.cell? (a2.add k) = some (.int .i64 x):=(H672.1.cell (p:=a2.add k) (by rw [block_of_add];exact hal)).trans HCW.out
      refine hK.out _ _ hS3 (fun hHeld => ?_)
      clear hK K
      try simp only [Act.put,zA,zB,zC,zD,zE,zF]
      have H673:=zh H672
      have HOW3:=zh hown3
      have c73:=zb H672.2.2.2 2
      have f73:=zu H672.2.2.2 2
      clear H672 hown3 hgrow3 hat3
      refine wpAnyH_take (i:=8) (v:=?_) rfl (by kernel_rfl) (by kernel_rfl) (by kernel_rfl) (fun _ _ _ h => h) (Or.inl ⟨by rfl,?_⟩) hHeld ?_;rotate_left;(focus (intro X hSw;(try dsimp only at hSw);go_simp;try with_reducible rfl));try simp only [Act.put,zA,zB,zC,zD,zE,zF]
      refine wpAnyH_ready (rs:=[9]) (by kernel_rfl) (by simp) ?_
      refine AllReadyH.cons rfl (fun K hK => ?_) AllReadyH.nil
      go_simp
      refine hK.out _ _ ((World.cell?_setCell_far _ ⟨g7,2,none⟩ (a2.add k) _ (by rw [block_of_add];show g7 ≠ a2.block;have:=HG.out.2;omega)).trans hS3) (fun hHeld => ?_)
      clear hK K hS3
      try simp only [Act.put,zA,zB,zC,zD,zE,zF]
      refine wpAnyH_done (by kernel_rfl) ?_ _
      go_wp2_with fail
      have hrk:=HRK.out
      have e7:=HG.out.2
      refine ⟨⟨k + 1, .slice (some ⟨g3,0,none⟩) (k + 1) cap3,if r = 0 then a2.add k else ⟨(a2.add k).block,(a2.add k).off + 1,none⟩,by omega,by go_num,by rw [show ks.length - (k + 1) = r by omega];split <;> rfl,fun h => by rw [if_neg (by omega)];exact add_next a2 k,Below.setCell H673.out.1 (by show w.heap.size ≤ g7;omega) _,by have:=H673.out.2.1;simpa using this,NodeBlk.other H673.out.2.2.1 (fun e => hne e.symm) _,H673.out.2.2.2.swords _,?_⟩,by simp [intOf];omega⟩
      rw [HTK.out,List.map_append]
      have ho3:=own_push (x:=wN x) HOW3.out
      simp only [HL.out] at ho3
      exact own_set ho3 (fun e => by have:=(World.ownsRow.lt ho3 g7 e).1;omega) _
    · have hk2 : k = ks.length := by omega
      have lk : ¬ (k : Int) < ks.length:=by omega
      rw [hk2,List.take_length] at hown
      (have hc6:=h6;have q60:=zu h6 0;have q61:=zu h6 1;have q62:=zu h6 2;have q63:=zu h6 3;have q64:=zu h6 4;have p60:=zb h6 0;have p61:=zb h6 1;have p62:=zb h6 2;have p63:=zb h6 3;have p64:=zb h6 4;have p70:=zb h7 0;have p71:=zb h7 1;have p72:=zb h7 2;have p73:=zb h7 3;have p74:=zb h7 4;have hown2 : OwnWords wr (w.heap.size + 2) (.slice A k c) (([] : List Bytes).map wS ++ ks.map wN):=(by simpa [hk2] using hown);have HI:=zh (And.intro hb (And.intro hsz (And.intro h6 (And.intro h7 hown2))));clear hb hsz h6 h7 hown hown2 hlenk hnc hc6;go_wp2_with fail;refine bodyPost_ret (v:=.agg #[.string ⟨nm.toArray⟩, .int .i64 0, .slice A k c, .bool false, .slice none 0 0]) (by simp [results,Try.results33,go_sem, *]) rfl ⟨_,rfl,?_,?_⟩;(focus (have ho:=HI.out.2.2.2.2;have e6:=HG.out.1;refine own_down (b:=w.heap.size + 2) (by omega) ?_;have hq : ∀ j,(Value.slice A k c).ownBlock ≠ some (⟨g6,j,none⟩ : Addr).block:=(fun j e => by have:=(World.ownsRow.lt ho g6 e).1;omega);have hz:=own_set (own_set (own_set (own_set (own_set ho (hq 0) (.string ⟨nm.toArray⟩)) (hq 1) (.int .i64 0)) (hq 2) (.slice A k c)) (hq 3) (.bool false)) (hq 4) (.slice none 0 0);(try simp only [hk2,List.map_nil,List.append_nil] at hz);(try simp only [hk2,List.map_nil,List.append_nil]);exact hz));(focus (have hb:=HI.out.1;have e6 : w.heap.size ≤ g6:=(by have:=HG.out.1;omega);exact ((((hb.setCell e6 _).setCell e6 _).setCell e6 _).setCell e6 _).setCell e6 _)))
end Go.Proofs.Ytpkhocbohhpmbaa
