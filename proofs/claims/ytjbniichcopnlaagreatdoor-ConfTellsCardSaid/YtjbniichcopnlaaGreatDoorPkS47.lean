/- Layer 11 (field), the reference: the walk of Node. Written by wip/gen_node.py. -/
import Derived.Test.YtjbniichcopnlaaGreatDoorPkS46
import Derived.Deep.DeepCutAuto
import Derived.Deep.CutBlock
set_option linter.unusedVariables false
set_option linter.unusedSimpArgs false
set_option maxRecDepth 100000
namespace Go.Proofs.YtjbniichcopnlaaGreatDoor
open Go.RowKit
open Go.Joins renaming cell_of_block → zb, unfrozen_of_block → zu
open Go.Lib renaming hid → zh
open List renaming setIfInBounds_toArray → zA, set_cons_succ → zB, set_cons_zero → zC, getElem_toArray → zD, getElem_cons_succ → zE, getElem_cons_zero → zG
set_option maxHeartbeats 16000000 in
theorem r11_Node_ok (c : CalL) (hok : okC c = true) (hl : c.name.length ≤ maxLen) (w0 : World) : Calls Tryz.prog 23 #[calV c] w0 (NodePost c w0) := by
  obtain ⟨k1,k6,hday,hmon,hshf,hpol⟩:=nodeFit c hok
  have HSHP:=zh (okC_shape c hok)
  have HCH:=zh (fun W => r11_Check c hl W)
  have hec : errC c = 0:=by unfold errC;rw [hok];rfl
  rw [hec] at HCH
  obtain ⟨km,hkm⟩ : ∃ k : Nat,c.month = (k : Int) + 1:=⟨(c.month - 1).toNat,by omega⟩
  have HMN:=zh (pre_idx mons c.month km hkm (by show km < 12;omega) (by decide))
  obtain ⟨kp,hkp⟩ : ∃ k : Nat,c.policy = (k : Int) + 1:=⟨(c.policy - 1).toNat,by omega⟩
  have HKQ:=zh (show c.policy = (kp : Int) + 1 ∧ kp < 4 from ⟨hkp,by omega⟩)
  have HDN : Hid (c.kind = 1 ∨ c.kind = 2 → ∃ kd : Nat,days[kd]? = some (days.getD (c.day - 1).toNat []) ∧ (0 : Int) ≤ kd ∧ (kd : Int) < (days.length : Int) ∧ IntKind.i64.wrap (c.day - 1) = (kd : Int)) := zh (fun h => by
    have hd:=hday h
    exact ⟨(c.day - 1).toNat,pre_idx days c.day _ (by omega) (by show (c.day - 1).toNat < 7;omega) (by decide)⟩)
  obtain ⟨stn,hstn⟩ : ∃ b,standsC c.kind b_named = b:=⟨_,rfl⟩
  obtain ⟨ste,hste⟩ : ∃ b,standsC c.kind b_extra = b:=⟨_,rfl⟩
  have hWN:=fun W => r11_with c.kind b_named W k1 k6
  have hWE:=fun W => r11_with c.kind b_extra W k1 k6
  rw [hstn] at hWN
  rw [hste] at hWE HSHP
  have HWN:=zh hWN
  have HWE:=zh hWE
  have HSTN:=zh hstn
  have HSTE:=zh hste
  clear hWN hWE hstn hste
  have HEI:=zh (show endI c = [itemL b_end (saysC c) []] from rfl)
  generalize hQ : NodePost c w0 = Q
  have HQ:=zh hQ
  have HKD:=zh (And.intro k1 k6)
  have HSF:=zh hshf
  clear hec hok hl hQ k1 k6 hkm hkp hday hmon hpol hshf
  obtain ⟨nm,kind,day,month,shift,shape,p0,p1,p2,cycle,extra,first,last,policy⟩:=c
  obtain ⟨c,hcd⟩ : ∃ c : CalL,c = ⟨nm,kind,day,month,shift,shape,p0,p1,p2,cycle,extra,first,last,policy⟩:=⟨_,rfl⟩
  have HCD:=zh hcd
  dsimp only at *
  rw [← hcd] at HEI
  dsimp only [calV] at HCH
  dsimp only [calV]
  unfold b_named at HWN
  unfold b_extra at HWE
  go_enter Tryz.func23,Tryz.ntmps23
  go_wp2_with fail
  refine (HCH.out _).mono ?_
  rintro e w1 ⟨rfl,hb1⟩
  have hnd : NdI c w0 w1 := by
    refine NdI.below (wx:=(w0.alloc _).alloc _) ⟨?_,?_,?_,?_⟩ hb1
    · (repeat (first | exact Below.refl _ _ | assumption | refine Below.setCell ?_ (by first | (simp;done) | (simp;omega) | omega) _ | refine Below.alloc ?_ (by first | (simp;done) | (simp;omega) | omega) _ | refine Below.drew ?_ | refine below_drewN ?_ _ | refine Below.trans ?_ (Below.mono (by assumption) (by first | (simp;done) | (simp;omega) | omega))))
    · rw [HCD.out]
      exact (Below.block ((Below.refl (w0.alloc _).heap.size (w0.alloc _)).alloc (Nat.le_refl _) _) w0.heap.size (by simp)).trans (heap_alloc_new w0 _)
    · have := heap_alloc_new (w0.alloc (.cells #[.string ⟨nm.toArray⟩, .int .i64 kind, .int .i64 day, .int .i64 month, .int .i64 shift, .int .i64 shape, .int .i64 p0, .int .i64 p1, .int .i64 p2, .int .i64 cycle, .int .i64 extra, .int .i64 first, .int .i64 last, .int .i64 policy] 37)) (.cells #[.string ⟨#[]⟩, .int .i64 0, .slice none 0 0, .bool false, .slice none 0 0] 44)
      simpa [NodeBlk] using this
    · simp
  have HCB : Hid (∀ W,NdI c w0 W → CalBlk W w0.heap.size ⟨nm,kind,day,month,shift,shape,p0,p1,p2,cycle,extra,first,last,policy⟩):=zh (fun W h => by rw [← HCD.out];exact h.2.1)
  have HKA0:=zh (KidsAt.nil hnd)
  have c1:=zb (HCB.out _ hnd) 1
  clear hb1 HCH hcd hnd
  go_upto_block 0 with fail
  obtain ⟨wc,hwc⟩ : ∃ wc,wc = w1:=⟨_,rfl⟩
  subst hwc
  clear c1
  go_cut [5] (fun s5 wx => KidsAt c w0 wx s5 (endI c))
  case first =>
    have hc:=HCB.out _ HKA0.out.1
    have c1:=zb hc 1
    have c2:=zb hc 2
    have c3:=zb hc 3
    have lc:=hc.lt
    have HKA:=HKA0
    clear hc
    generalize hdn' : days.getD (day - 1).toNat [] = dn at *
    generalize hmn' : mons.getD (month - 1).toNat [] = mn at *
    obtain ⟨m0,m1,m2,m3⟩:=HMN.out
    have HXM:=zh m0
    have hmne : mn ≠ []:=(show ∀ s ∈ mons,s ≠ [] by decide) mn (List.mem_of_getElem? m0)
    clear m0
    have hkk : kind = 1 ∨ kind = 2 ∨ kind = 3 ∨ kind = 4 ∨ kind = 5 ∨ kind = 6:=by have:=HKD.out;omega
    rcases hkk with rfl | rfl | rfl | rfl | rfl | rfl
    · have HSAY : Hid (endI c = [itemL b_end [[108,97,115,116],dn,mn] []]) := zh (by rw [HEI.out,HCD.out,← hdn',← hmn']; rfl)
      obtain ⟨kd,x0,x1,x2,x3⟩:=HDN.out (by first | exact .inl rfl | exact .inr rfl)
      have HXD:=zh x0
      have hdne : dn ≠ []:=(show ∀ s ∈ days,s ≠ [] by decide) dn (List.mem_of_getElem? x0)
      clear x0
      have HNE:=zh (ne_all (l:=[[108,97,115,116],dn,mn]) (by intro s hs;simp only [List.mem_cons,List.not_mem_nil,or_false] at hs;rcases hs with rfl | rfl | rfl <;> first | assumption | decide))
      clear hmne hdne hdn' hmn'
      go_wp2_with fail
      refine wp_region_held_drew (S:=Below wc.heap.size wc) (by kernel_rfl) ?_ (fun hHeld => ?_)
      · exact (Below.refl wc.heap.size wc).drew
      generalize hwd : wc.drew = wd at *
      have hsd : wd.heap.size = wc.heap.size:=by rw [← hwd];rfl
      clear hwd
      refine wtk (v:=?_) 0 rfl (Or.inl ⟨by rfl,?_⟩) ?_;rotate_left;(focus (intro w hSw;have c2:=(Below.cell (p:=⟨w0.heap.size,2,none⟩) hSw lc).trans c2;have c3:=(Below.cell (p:=⟨w0.heap.size,3,none⟩) hSw lc).trans c3;go_simp;try with_reducible rfl));try simp only [Act.put,zA,zB,zC,zD,zE,zG]
      refine wtk (v:=?_) 2 rfl (Or.inl ⟨by rfl,?_⟩) ?_;rotate_left;(focus (intro w hSw;have c2:=(Below.cell (p:=⟨w0.heap.size,2,none⟩) hSw lc).trans c2;have c3:=(Below.cell (p:=⟨w0.heap.size,3,none⟩) hSw lc).trans c3;go_simp;try with_reducible rfl));try simp only [Act.put,zA,zB,zC,zD,zE,zG]
      refine wtk (v:=?_) 3 rfl (Or.inl ⟨by rfl,?_⟩) ?_;rotate_left;(focus (intro w hSw;have c2:=(Below.cell (p:=⟨w0.heap.size,2,none⟩) hSw lc).trans c2;have c3:=(Below.cell (p:=⟨w0.heap.size,3,none⟩) hSw lc).trans c3;go_simp;try with_reducible rfl));try simp only [Act.put,zA,zB,zC,zD,zE,zG]
      refine wtk (v:=?_) 4 rfl (Or.inl ⟨by rfl,?_⟩) ?_;rotate_left;(focus (intro w hSw;have c2:=(Below.cell (p:=⟨w0.heap.size,2,none⟩) hSw lc).trans c2;have c3:=(Below.cell (p:=⟨w0.heap.size,3,none⟩) hSw lc).trans c3;go_simp;try with_reducible rfl));try simp only [Act.put,zA,zB,zC,zD,zE,zG]
      refine wtk (v:=?_) 8 rfl (Or.inl ⟨by rfl,?_⟩) ?_;rotate_left;(focus (intro w hSw;have c2:=(Below.cell (p:=⟨w0.heap.size,2,none⟩) hSw lc).trans c2;have c3:=(Below.cell (p:=⟨w0.heap.size,3,none⟩) hSw lc).trans c3;go_simp;try with_reducible rfl));try simp only [Act.put,zA,zB,zC,zD,zE,zG]
      refine wtk (v:=?_) 9 rfl (Or.inl ⟨by rfl,?_⟩) ?_;rotate_left;(focus (intro w hSw;have c2:=(Below.cell (p:=⟨w0.heap.size,2,none⟩) hSw lc).trans c2;have c3:=(Below.cell (p:=⟨w0.heap.size,3,none⟩) hSw lc).trans c3;go_simp;try with_reducible rfl));try simp only [Act.put,zA,zB,zC,zD,zE,zG]
      refine wtk (v:=?_) 10 rfl (Or.inl ⟨by rfl,?_⟩) ?_;rotate_left;(focus (intro w hSw;have c2:=(Below.cell (p:=⟨w0.heap.size,2,none⟩) hSw lc).trans c2;have c3:=(Below.cell (p:=⟨w0.heap.size,3,none⟩) hSw lc).trans c3;go_simp;try with_reducible rfl));try simp only [Act.put,zA,zB,zC,zD,zE,zG]
      refine wpAnyH_ready (rs:=[1]) (by kernel_rfl) (by simp) ?_
      refine AllReadyH.cons rfl (fun K hK => ?_) AllReadyH.nil
      go_simp
      refine Calls.mono (r11_days _) ?_
      rintro e w2 ⟨rfl,hg2,hb2⟩
      rw [hsd] at hg2
      have hx2:=hHeld.trans (hb2.mono hHeld.size)
      have y2:=hg2.cell kd _ HXD.out
      have l2 : wc.heap.size < w2.heap.size:=by obtain ⟨T,hT⟩:=hg2;exact (Array.getElem?_eq_some_iff.1 hT).1
      refine hK.out _ _ hx2 (fun hHeld => ?_)
      refine wpAnyH_strong (S2:=Below w2.heap.size w2) (fun X h => hx2.trans (h.mono hx2.size)) _ _ _ _ ?_
      replace hHeld:=Below.refl w2.heap.size w2
      clear hK K hb2 hg2
      try simp only [Act.put,zA,zB,zC,zD,zE,zG]
      refine wtk (v:=?_) 5 rfl (Or.inl ⟨by rfl,?_⟩) ?_;rotate_left;(focus (intro w hSw;have y2:=(Below.cell (p:=⟨wc.heap.size,kd,none⟩) hSw l2).trans y2;go_simp;try with_reducible rfl));try simp only [Act.put,zA,zB,zC,zD,zE,zG]
      refine wtk (v:=?_) 6 rfl (Or.inl ⟨by rfl,?_⟩) ?_;rotate_left;(focus (intro w hSw;have y2:=(Below.cell (p:=⟨wc.heap.size,kd,none⟩) hSw l2).trans y2;go_simp;try with_reducible rfl));try simp only [Act.put,zA,zB,zC,zD,zE,zG]
      refine wpAnyH_ready (rs:=[7]) (by kernel_rfl) (by simp) ?_
      refine AllReadyH.cons rfl (fun K hK => ?_) AllReadyH.nil
      go_simp
      refine Calls.mono (r11_months _) ?_
      rintro e w3 ⟨rfl,hg3,hb3⟩
      have hx3 : Below wc.heap.size wc w3:=hx2.trans (hb3.mono hx2.size)
      have y3:=hg3.cell km _ HXM.out
      have l3 : w2.heap.size < w3.heap.size:=by obtain ⟨T,hT⟩:=hg3;exact (Array.getElem?_eq_some_iff.1 hT).1
      refine hK.out _ _ (hHeld.trans (hb3.mono hHeld.size)) (fun hHeld => ?_)
      refine wpAnyH_strong (S2:=Below w3.heap.size w3) (fun X h => hb3.trans (h.mono hb3.size)) _ _ _ _ ?_
      replace hHeld:=Below.refl w3.heap.size w3
      clear hK K hb3 hg3
      try simp only [Act.put,zA,zB,zC,zD,zE,zG]
      refine wtk (v:=?_) 11 rfl (Or.inl ⟨by rfl,?_⟩) ?_;rotate_left;(focus (intro w hSw;have y3:=(Below.cell (p:=⟨w2.heap.size,km,none⟩) hSw l3).trans y3;go_simp;try with_reducible rfl));try simp only [Act.put,zA,zB,zC,zD,zE,zG]
      refine wtk (v:=?_) 12 rfl (Or.inl ⟨by rfl,?_⟩) ?_;rotate_left;(focus (intro w hSw;have y3:=(Below.cell (p:=⟨w2.heap.size,km,none⟩) hSw l3).trans y3;go_simp;try with_reducible rfl));try simp only [Act.put,zA,zB,zC,zD,zE,zG]
      refine wpAnyH_ready (rs:=[13]) (by kernel_rfl) (by simp) ?_
      refine AllReadyH.cons rfl (fun K hK => ?_) AllReadyH.nil
      go_simp
      have hb4:=below_cal w3 (.cells #[.string ⟨#[108,97,115,116]⟩, .string ⟨dn.toArray⟩, .string ⟨mn.toArray⟩] 9)
      refine hK.out _ _ (hHeld.trans hb4) (fun hHeld => ?_)
      clear hK K
      try simp only [Act.put,zA,zB,zC,zD,zE,zG]
      refine wpAnyH_ready (rs:=[14]) (by kernel_rfl) (by simp) ?_
      refine AllReadyH.cons rfl (fun K hK => ?_) AllReadyH.nil
      go_simp
      refine Calls.mono (line_strs b_end [[108,97,115,116],dn,mn] (some ⟨w3.heap.size,0,none⟩) _ _ (by simp) HNE.out (strs_at (heap_alloc_new w3 _) rfl)) ?_
      rintro e w5 ⟨v5,rfl,hw5,hb5⟩
      have hx5 : Below w3.heap.size w3 w5:=hb4.trans (hb5.mono hb4.size)
      refine hK.out _ _ hx5 (fun hHeld => ?_)
      clear hK K hb5
      try simp only [Act.put,zA,zB,zC,zD,zE,zG]
      refine wpAnyH_ready (rs:=[15]) (by kernel_rfl) (by simp) ?_
      refine AllReadyH.cons rfl (fun K hK => ?_) AllReadyH.nil
      go_simp
      refine hK.out _ _ (hx5.trans ((below_cal w5 _).mono hx5.size)) (fun hHeld => ?_)
      clear hK K
      try simp only [Act.put,zA,zB,zC,zD,zE,zG]
      refine wpAnyH_ready (rs:=[16]) (by kernel_rfl) (by simp) ?_
      refine AllReadyH.cons rfl (fun K hK => ?_) AllReadyH.nil
      refine push_step (.tmp 27) (.tmp 42) rfl rfl HKA.out (by decide) (hx3.trans (hx5.mono hx3.size)) hw5 (Nat.le_trans hx3.size hb4.size) rfl rfl ?_
      intro v6 w6 hk6 hgr6
      have hb56:=hx5.trans ((below_cal w5 (.cells #[.string ⟨b_end.toArray⟩, .int .i64 0,v5, .bool false, .slice none 0 0] 44)).mono hx5.size)
      refine hK.out _ _ (hb56.grown hgr6 hb56.size (fun k hk => by cases hk)) (fun hHeld => ?_)
      clear hK K
      try simp only [Act.put,zA,zB,zC,zD,zE,zG]
      refine wtk (v:=?_) 17 rfl (Or.inl ⟨by rfl,?_⟩) ?_;rotate_left;(focus (intro w hSw;go_simp;try with_reducible rfl));try simp only [Act.put,zA,zB,zC,zD,zE,zG]
      refine wpAnyH_done (by kernel_rfl) ?_ _
      go_wp2_with fail
      go_meet
      rw [HSAY.out]
      exact hk6
    · have HSAY : Hid (endI c = [itemL b_end [[110,101,97,114],dn,mn] []]) := zh (by rw [HEI.out,HCD.out,← hdn',← hmn']; rfl)
      obtain ⟨kd,x0,x1,x2,x3⟩:=HDN.out (by first | exact .inl rfl | exact .inr rfl)
      have HXD:=zh x0
      have hdne : dn ≠ []:=(show ∀ s ∈ days,s ≠ [] by decide) dn (List.mem_of_getElem? x0)
      clear x0
      have HNE:=zh (ne_all (l:=[[110,101,97,114],dn,mn]) (by intro s hs;simp only [List.mem_cons,List.not_mem_nil,or_false] at hs;rcases hs with rfl | rfl | rfl <;> first | assumption | decide))
      clear hmne hdne hdn' hmn'
      go_wp2_with fail
      refine wp_region_held_drew (S:=Below wc.heap.size wc) (by kernel_rfl) ?_ (fun hHeld => ?_)
      · exact (Below.refl wc.heap.size wc).drew
      generalize hwd : wc.drew = wd at *
      have hsd : wd.heap.size = wc.heap.size:=by rw [← hwd];rfl
      clear hwd
      refine wtk (v:=?_) 0 rfl (Or.inl ⟨by rfl,?_⟩) ?_;rotate_left;(focus (intro w hSw;have c2:=(Below.cell (p:=⟨w0.heap.size,2,none⟩) hSw lc).trans c2;have c3:=(Below.cell (p:=⟨w0.heap.size,3,none⟩) hSw lc).trans c3;go_simp;try with_reducible rfl));try simp only [Act.put,zA,zB,zC,zD,zE,zG]
      refine wtk (v:=?_) 2 rfl (Or.inl ⟨by rfl,?_⟩) ?_;rotate_left;(focus (intro w hSw;have c2:=(Below.cell (p:=⟨w0.heap.size,2,none⟩) hSw lc).trans c2;have c3:=(Below.cell (p:=⟨w0.heap.size,3,none⟩) hSw lc).trans c3;go_simp;try with_reducible rfl));try simp only [Act.put,zA,zB,zC,zD,zE,zG]
      refine wtk (v:=?_) 3 rfl (Or.inl ⟨by rfl,?_⟩) ?_;rotate_left;(focus (intro w hSw;have c2:=(Below.cell (p:=⟨w0.heap.size,2,none⟩) hSw lc).trans c2;have c3:=(Below.cell (p:=⟨w0.heap.size,3,none⟩) hSw lc).trans c3;go_simp;try with_reducible rfl));try simp only [Act.put,zA,zB,zC,zD,zE,zG]
      refine wtk (v:=?_) 4 rfl (Or.inl ⟨by rfl,?_⟩) ?_;rotate_left;(focus (intro w hSw;have c2:=(Below.cell (p:=⟨w0.heap.size,2,none⟩) hSw lc).trans c2;have c3:=(Below.cell (p:=⟨w0.heap.size,3,none⟩) hSw lc).trans c3;go_simp;try with_reducible rfl));try simp only [Act.put,zA,zB,zC,zD,zE,zG]
      refine wtk (v:=?_) 8 rfl (Or.inl ⟨by rfl,?_⟩) ?_;rotate_left;(focus (intro w hSw;have c2:=(Below.cell (p:=⟨w0.heap.size,2,none⟩) hSw lc).trans c2;have c3:=(Below.cell (p:=⟨w0.heap.size,3,none⟩) hSw lc).trans c3;go_simp;try with_reducible rfl));try simp only [Act.put,zA,zB,zC,zD,zE,zG]
      refine wtk (v:=?_) 9 rfl (Or.inl ⟨by rfl,?_⟩) ?_;rotate_left;(focus (intro w hSw;have c2:=(Below.cell (p:=⟨w0.heap.size,2,none⟩) hSw lc).trans c2;have c3:=(Below.cell (p:=⟨w0.heap.size,3,none⟩) hSw lc).trans c3;go_simp;try with_reducible rfl));try simp only [Act.put,zA,zB,zC,zD,zE,zG]
      refine wtk (v:=?_) 10 rfl (Or.inl ⟨by rfl,?_⟩) ?_;rotate_left;(focus (intro w hSw;have c2:=(Below.cell (p:=⟨w0.heap.size,2,none⟩) hSw lc).trans c2;have c3:=(Below.cell (p:=⟨w0.heap.size,3,none⟩) hSw lc).trans c3;go_simp;try with_reducible rfl));try simp only [Act.put,zA,zB,zC,zD,zE,zG]
      refine wpAnyH_ready (rs:=[1]) (by kernel_rfl) (by simp) ?_
      refine AllReadyH.cons rfl (fun K hK => ?_) AllReadyH.nil
      go_simp
      refine Calls.mono (r11_days _) ?_
      rintro e w2 ⟨rfl,hg2,hb2⟩
      rw [hsd] at hg2
      have hx2:=hHeld.trans (hb2.mono hHeld.size)
      have y2:=hg2.cell kd _ HXD.out
      have l2 : wc.heap.size < w2.heap.size:=by obtain ⟨T,hT⟩:=hg2;exact (Array.getElem?_eq_some_iff.1 hT).1
      refine hK.out _ _ hx2 (fun hHeld => ?_)
      refine wpAnyH_strong (S2:=Below w2.heap.size w2) (fun X h => hx2.trans (h.mono hx2.size)) _ _ _ _ ?_
      replace hHeld:=Below.refl w2.heap.size w2
      clear hK K hb2 hg2
      try simp only [Act.put,zA,zB,zC,zD,zE,zG]
      refine wtk (v:=?_) 5 rfl (Or.inl ⟨by rfl,?_⟩) ?_;rotate_left;(focus (intro w hSw;have y2:=(Below.cell (p:=⟨wc.heap.size,kd,none⟩) hSw l2).trans y2;go_simp;try with_reducible rfl));try simp only [Act.put,zA,zB,zC,zD,zE,zG]
      refine wtk (v:=?_) 6 rfl (Or.inl ⟨by rfl,?_⟩) ?_;rotate_left;(focus (intro w hSw;have y2:=(Below.cell (p:=⟨wc.heap.size,kd,none⟩) hSw l2).trans y2;go_simp;try with_reducible rfl));try simp only [Act.put,zA,zB,zC,zD,zE,zG]
      refine wpAnyH_ready (rs:=[7]) (by kernel_rfl) (by simp) ?_
      refine AllReadyH.cons rfl (fun K hK => ?_) AllReadyH.nil
      go_simp
      refine Calls.mono (r11_months _) ?_
      rintro e w3 ⟨rfl,hg3,hb3⟩
      have hx3 : Below wc.heap.size wc w3:=hx2.trans (hb3.mono hx2.size)
      have y3:=hg3.cell km _ HXM.out
      have l3 : w2.heap.size < w3.heap.size:=by obtain ⟨T,hT⟩:=hg3;exact (Array.getElem?_eq_some_iff.1 hT).1
      refine hK.out _ _ (hHeld.trans (hb3.mono hHeld.size)) (fun hHeld => ?_)
      refine wpAnyH_strong (S2:=Below w3.heap.size w3) (fun X h => hb3.trans (h.mono hb3.size)) _ _ _ _ ?_
      replace hHeld:=Below.refl w3.heap.size w3
      clear hK K hb3 hg3
      try simp only [Act.put,zA,zB,zC,zD,zE,zG]
      refine wtk (v:=?_) 11 rfl (Or.inl ⟨by rfl,?_⟩) ?_;rotate_left;(focus (intro w hSw;have y3:=(Below.cell (p:=⟨w2.heap.size,km,none⟩) hSw l3).trans y3;go_simp;try with_reducible rfl));try simp only [Act.put,zA,zB,zC,zD,zE,zG]
      refine wtk (v:=?_) 12 rfl (Or.inl ⟨by rfl,?_⟩) ?_;rotate_left;(focus (intro w hSw;have y3:=(Below.cell (p:=⟨w2.heap.size,km,none⟩) hSw l3).trans y3;go_simp;try with_reducible rfl));try simp only [Act.put,zA,zB,zC,zD,zE,zG]
      refine wpAnyH_ready (rs:=[13]) (by kernel_rfl) (by simp) ?_
      refine AllReadyH.cons rfl (fun K hK => ?_) AllReadyH.nil
      go_simp
      have hb4:=below_cal w3 (.cells #[.string ⟨#[110,101,97,114]⟩, .string ⟨dn.toArray⟩, .string ⟨mn.toArray⟩] 9)
      refine hK.out _ _ (hHeld.trans hb4) (fun hHeld => ?_)
      clear hK K
      try simp only [Act.put,zA,zB,zC,zD,zE,zG]
      refine wpAnyH_ready (rs:=[14]) (by kernel_rfl) (by simp) ?_
      refine AllReadyH.cons rfl (fun K hK => ?_) AllReadyH.nil
      go_simp
      refine Calls.mono (line_strs b_end [[110,101,97,114],dn,mn] (some ⟨w3.heap.size,0,none⟩) _ _ (by simp) HNE.out (strs_at (heap_alloc_new w3 _) rfl)) ?_
      rintro e w5 ⟨v5,rfl,hw5,hb5⟩
      have hx5 : Below w3.heap.size w3 w5:=hb4.trans (hb5.mono hb4.size)
      refine hK.out _ _ hx5 (fun hHeld => ?_)
      clear hK K hb5
      try simp only [Act.put,zA,zB,zC,zD,zE,zG]
      refine wpAnyH_ready (rs:=[15]) (by kernel_rfl) (by simp) ?_
      refine AllReadyH.cons rfl (fun K hK => ?_) AllReadyH.nil
      go_simp
      refine hK.out _ _ (hx5.trans ((below_cal w5 _).mono hx5.size)) (fun hHeld => ?_)
      clear hK K
      try simp only [Act.put,zA,zB,zC,zD,zE,zG]
      refine wpAnyH_ready (rs:=[16]) (by kernel_rfl) (by simp) ?_
      refine AllReadyH.cons rfl (fun K hK => ?_) AllReadyH.nil
      refine push_step (.tmp 46) (.tmp 61) rfl rfl HKA.out (by decide) (hx3.trans (hx5.mono hx3.size)) hw5 (Nat.le_trans hx3.size hb4.size) rfl rfl ?_
      intro v6 w6 hk6 hgr6
      have hb56:=hx5.trans ((below_cal w5 (.cells #[.string ⟨b_end.toArray⟩, .int .i64 0,v5, .bool false, .slice none 0 0] 44)).mono hx5.size)
      refine hK.out _ _ (hb56.grown hgr6 hb56.size (fun k hk => by cases hk)) (fun hHeld => ?_)
      clear hK K
      try simp only [Act.put,zA,zB,zC,zD,zE,zG]
      refine wtk (v:=?_) 17 rfl (Or.inl ⟨by rfl,?_⟩) ?_;rotate_left;(focus (intro w hSw;go_simp;try with_reducible rfl));try simp only [Act.put,zA,zB,zC,zD,zE,zG]
      refine wpAnyH_done (by kernel_rfl) ?_ _
      go_wp2_with fail
      go_meet
      rw [HSAY.out]
      exact hk6
    · have HSAY : Hid (endI c = [itemL b_end [[110,114,102]] []]) := zh (by rw [HEI.out,HCD.out]; rfl)
      have hw1 : IntKind.i64.wrap (3 - 3) = 0:=rfl
      have hw2 : IntKind.i64.wrap 0 = 0:=rfl
      clear hmne hdn' hmn' m1 m2 m3
      go_wp2_with (first | (go_at_call 47;refine Calls.mono (line_strs b_end [[110,114,102]] _ _ _ (by simp) (ne_all (by simp)) (strs_at (two_at wc _ _ _) rfl)) ?_;rintro e w5 ⟨v5,rfl,hw5,hb5⟩;have hb2:=below_twoN wc (.cells #[.string ⟨#[110,114,102]⟩, .string ⟨#[98,114,111,97,100,99,97,115,116]⟩, .string ⟨#[105,115,111]⟩] 9) (.cells #[.string ⟨#[110,114,102]⟩] 9);have hx5:=hb2.trans (hb5.mono hb2.size);have hB5 : wc.heap.size ≤ _:=hb2.size) | (at_builtin;refine push_list (.tmp 14) (.tmp 23) rfl rfl HKA.out (by first | omega | decide) hx5 hw5 hB5 rfl rfl ?_;intro v6 w6 hk6))
      go_meet
      rw [HSAY.out]
      exact hk6
    · have HSAY : Hid (endI c = [itemL b_end [[98,114,111,97,100,99,97,115,116]] []]) := zh (by rw [HEI.out,HCD.out]; rfl)
      have hw1 : IntKind.i64.wrap (4 - 3) = 1:=rfl
      have hw2 : IntKind.i64.wrap 1 = 1:=rfl
      clear hmne hdn' hmn' m1 m2 m3
      go_wp2_with (first | (go_at_call 47;refine Calls.mono (line_strs b_end [[98,114,111,97,100,99,97,115,116]] _ _ _ (by simp) (ne_all (by simp)) (strs_at (two_at wc _ _ _) rfl)) ?_;rintro e w5 ⟨v5,rfl,hw5,hb5⟩;have hb2:=below_twoN wc (.cells #[.string ⟨#[110,114,102]⟩, .string ⟨#[98,114,111,97,100,99,97,115,116]⟩, .string ⟨#[105,115,111]⟩] 9) (.cells #[.string ⟨#[98,114,111,97,100,99,97,115,116]⟩] 9);have hx5:=hb2.trans (hb5.mono hb2.size);have hB5 : wc.heap.size ≤ _:=hb2.size) | (at_builtin;refine push_list (.tmp 14) (.tmp 23) rfl rfl HKA.out (by first | omega | decide) hx5 hw5 hB5 rfl rfl ?_;intro v6 w6 hk6))
      go_meet
      rw [HSAY.out]
      exact hk6
    · have HSAY : Hid (endI c = [itemL b_end [[105,115,111]] []]) := zh (by rw [HEI.out,HCD.out]; rfl)
      have hw1 : IntKind.i64.wrap (5 - 3) = 2:=rfl
      have hw2 : IntKind.i64.wrap 2 = 2:=rfl
      clear hmne hdn' hmn' m1 m2 m3
      go_wp2_with (first | (go_at_call 47;refine Calls.mono (line_strs b_end [[105,115,111]] _ _ _ (by simp) (ne_all (by simp)) (strs_at (two_at wc _ _ _) rfl)) ?_;rintro e w5 ⟨v5,rfl,hw5,hb5⟩;have hb2:=below_twoN wc (.cells #[.string ⟨#[110,114,102]⟩, .string ⟨#[98,114,111,97,100,99,97,115,116]⟩, .string ⟨#[105,115,111]⟩] 9) (.cells #[.string ⟨#[105,115,111]⟩] 9);have hx5:=hb2.trans (hb5.mono hb2.size);have hB5 : wc.heap.size ≤ _:=hb2.size) | (at_builtin;refine push_list (.tmp 14) (.tmp 23) rfl rfl HKA.out (by first | omega | decide) hx5 hw5 hB5 rfl rfl ?_;intro v6 w6 hk6))
      go_meet
      rw [HSAY.out]
      exact hk6
    · have HSAY : Hid (endI c = [itemL b_end [[109,111,110,116,104],mn] []]) := zh (by rw [HEI.out,HCD.out,← hmn']; rfl)
      have HNE:=zh (ne_all (l:=[[109,111,110,116,104],mn]) (by intro s hs;simp only [List.mem_cons,List.not_mem_nil,or_false] at hs;rcases hs with rfl | rfl <;> first | assumption | decide))
      clear hmne hdn' hmn'
      go_wp2_with fail
      refine wp_region_held_drew (S:=Below wc.heap.size wc) (by kernel_rfl) ?_ (fun hHeld => ?_)
      · exact (Below.refl wc.heap.size wc).drew
      generalize hwd : wc.drew = wd at *
      have hsd : wd.heap.size = wc.heap.size:=by rw [← hwd];rfl
      clear hwd
      refine wtk (v:=?_) 0 rfl (Or.inl ⟨by rfl,?_⟩) ?_;rotate_left;(focus (intro w hSw;have c2:=(Below.cell (p:=⟨w0.heap.size,2,none⟩) hSw lc).trans c2;have c3:=(Below.cell (p:=⟨w0.heap.size,3,none⟩) hSw lc).trans c3;go_simp;try with_reducible rfl));try simp only [Act.put,zA,zB,zC,zD,zE,zG]
      refine wtk (v:=?_) 2 rfl (Or.inl ⟨by rfl,?_⟩) ?_;rotate_left;(focus (intro w hSw;have c2:=(Below.cell (p:=⟨w0.heap.size,2,none⟩) hSw lc).trans c2;have c3:=(Below.cell (p:=⟨w0.heap.size,3,none⟩) hSw lc).trans c3;go_simp;try with_reducible rfl));try simp only [Act.put,zA,zB,zC,zD,zE,zG]
      refine wtk (v:=?_) 3 rfl (Or.inl ⟨by rfl,?_⟩) ?_;rotate_left;(focus (intro w hSw;have c2:=(Below.cell (p:=⟨w0.heap.size,2,none⟩) hSw lc).trans c2;have c3:=(Below.cell (p:=⟨w0.heap.size,3,none⟩) hSw lc).trans c3;go_simp;try with_reducible rfl));try simp only [Act.put,zA,zB,zC,zD,zE,zG]
      refine wtk (v:=?_) 4 rfl (Or.inl ⟨by rfl,?_⟩) ?_;rotate_left;(focus (intro w hSw;have c2:=(Below.cell (p:=⟨w0.heap.size,2,none⟩) hSw lc).trans c2;have c3:=(Below.cell (p:=⟨w0.heap.size,3,none⟩) hSw lc).trans c3;go_simp;try with_reducible rfl));try simp only [Act.put,zA,zB,zC,zD,zE,zG]
      refine wpAnyH_ready (rs:=[1]) (by kernel_rfl) (by simp) ?_
      refine AllReadyH.cons rfl (fun K hK => ?_) AllReadyH.nil
      go_simp
      refine Calls.mono (r11_months _) ?_
      rintro e w3 ⟨rfl,hg3,hb3⟩
      rw [hsd] at hg3
      have hx3 : Below wc.heap.size wc w3:=hHeld.trans (hb3.mono hHeld.size)
      have y3:=hg3.cell km _ HXM.out
      have l3 : wc.heap.size < w3.heap.size:=by obtain ⟨T,hT⟩:=hg3;exact (Array.getElem?_eq_some_iff.1 hT).1
      refine hK.out _ _ (hHeld.trans (hb3.mono hHeld.size)) (fun hHeld => ?_)
      refine wpAnyH_strong (S2:=Below w3.heap.size w3) (fun X h => hx3.trans (h.mono hx3.size)) _ _ _ _ ?_
      replace hHeld:=Below.refl w3.heap.size w3
      clear hK K hb3 hg3
      try simp only [Act.put,zA,zB,zC,zD,zE,zG]
      refine wtk (v:=?_) 5 rfl (Or.inl ⟨by rfl,?_⟩) ?_;rotate_left;(focus (intro w hSw;have y3:=(Below.cell (p:=⟨wc.heap.size,km,none⟩) hSw l3).trans y3;go_simp;try with_reducible rfl));try simp only [Act.put,zA,zB,zC,zD,zE,zG]
      refine wtk (v:=?_) 6 rfl (Or.inl ⟨by rfl,?_⟩) ?_;rotate_left;(focus (intro w hSw;have y3:=(Below.cell (p:=⟨wc.heap.size,km,none⟩) hSw l3).trans y3;go_simp;try with_reducible rfl));try simp only [Act.put,zA,zB,zC,zD,zE,zG]
      refine wpAnyH_ready (rs:=[7]) (by kernel_rfl) (by simp) ?_
      refine AllReadyH.cons rfl (fun K hK => ?_) AllReadyH.nil
      go_simp
      have hb4:=below_cal w3 (.cells #[.string ⟨#[109,111,110,116,104]⟩, .string ⟨mn.toArray⟩] 9)
      refine hK.out _ _ (hHeld.trans hb4) (fun hHeld => ?_)
      clear hK K
      try simp only [Act.put,zA,zB,zC,zD,zE,zG]
      refine wpAnyH_ready (rs:=[8]) (by kernel_rfl) (by simp) ?_
      refine AllReadyH.cons rfl (fun K hK => ?_) AllReadyH.nil
      go_simp
      refine Calls.mono (line_strs b_end [[109,111,110,116,104],mn] (some ⟨w3.heap.size,0,none⟩) _ _ (by simp) HNE.out (strs_at (heap_alloc_new w3 _) rfl)) ?_
      rintro e w5 ⟨v5,rfl,hw5,hb5⟩
      have hx5 : Below w3.heap.size w3 w5:=hb4.trans (hb5.mono hb4.size)
      refine hK.out _ _ hx5 (fun hHeld => ?_)
      clear hK K hb5
      try simp only [Act.put,zA,zB,zC,zD,zE,zG]
      refine wpAnyH_ready (rs:=[9]) (by kernel_rfl) (by simp) ?_
      refine AllReadyH.cons rfl (fun K hK => ?_) AllReadyH.nil
      go_simp
      refine hK.out _ _ (hx5.trans ((below_cal w5 _).mono hx5.size)) (fun hHeld => ?_)
      clear hK K
      try simp only [Act.put,zA,zB,zC,zD,zE,zG]
      refine wpAnyH_ready (rs:=[10]) (by kernel_rfl) (by simp) ?_
      refine AllReadyH.cons rfl (fun K hK => ?_) AllReadyH.nil
      refine push_step (.tmp 65) (.tmp 74) rfl rfl HKA.out (by decide) (hx3.trans (hx5.mono hx3.size)) hw5 (Nat.le_trans hx3.size hb4.size) rfl rfl ?_
      intro v6 w6 hk6 hgr6
      have hb56:=hx5.trans ((below_cal w5 (.cells #[.string ⟨b_end.toArray⟩, .int .i64 0,v5, .bool false, .slice none 0 0] 44)).mono hx5.size)
      refine hK.out _ _ (hb56.grown hgr6 hb56.size (fun k hk => by cases hk)) (fun hHeld => ?_)
      clear hK K
      try simp only [Act.put,zA,zB,zC,zD,zE,zG]
      refine wtk (v:=?_) 11 rfl (Or.inl ⟨by rfl,?_⟩) ?_;rotate_left;(focus (intro w hSw;go_simp;try with_reducible rfl));try simp only [Act.put,zA,zB,zC,zD,zE,zG]
      refine wpAnyH_done (by kernel_rfl) ?_ _
      go_wp2_with fail
      go_meet
      rw [HSAY.out]
      exact hk6
  case rest =>
  have HKA:=zh hcut
  have hc:=HCB.out _ hcut.1
  have c1:=zb hc 1
  clear hcut hc HKA0 HEI
  have HNI : Hid (namedI c = if stn = true then [itemL b_named [shifts.getD shift.toNat []] []] else []):=zh (by rw [HCD.out,← HSTN.out];rfl)
  have HXI : Hid (extraI c = if ste = true then shapeC c ++ [itemL b_extra [] [extra]] else []):=zh (by rw [HCD.out,← HSTE.out];rfl)
  clear HDN HMN
  go_upto_if 78 with (go_at_call 50;refine (HWN.out _).mono ?_;rintro e w2 ⟨rfl,hw2⟩;subst hw2)
  clear c1
  obtain ⟨L1,hL1⟩ : ∃ L,endI c = L:=⟨_,rfl⟩
  have hl1 : L1.length ≤ 1:=by rw [← hL1];exact Nat.le_refl 1
  rw [hL1] at HKA
  have HL1:=zh hL1
  clear hL1
  go_cut [5] (fun s5 wx => KidsAt c w0 wx s5 (L1 ++ namedI c))
  case first =>
    have hc:=HCB.out _ HKA.out.1
    have c4:=zb hc 4
    have lc:=hc.lt
    clear hc
    cases stn
    · have HE := zh (HNI.out.trans (if_neg (by decide)))
      go_wp2_with fail
      go_meet
      rw [HE.out,List.append_nil]
      exact HKA.out
    · have hs01 : shift = 0 ∨ shift = 1 := by have := HSF.out; omega
      have hll : L1.length ≤ 9:=by omega
      rcases hs01 with rfl | rfl
      · have HE : Hid (namedI c = [itemL b_named [[108,97,115,116]] []]) := zh (HNI.out.trans (if_pos rfl))
        go_wp2_with (first | (go_at_call 47;refine Calls.mono (line_strs b_named [[108,97,115,116]] _ _ _ (by simp) (ne_all (by simp)) (strs_at (two_at wc _ _ _) rfl)) ?_;rintro e w5 ⟨v5,rfl,hw5,hb5⟩;have hb2:=below_twoN wc (.cells #[.string ⟨#[108,97,115,116]⟩, .string ⟨#[102,105,114,115,116]⟩] 9) (.cells #[.string ⟨#[108,97,115,116]⟩] 9);have hx5:=hb2.trans (hb5.mono hb2.size);have hB5 : wc.heap.size ≤ _:=hb2.size) | (at_builtin;refine push_list (.tmp 79) (.tmp 87) rfl rfl HKA.out (by first | omega | decide) hx5 hw5 hB5 rfl rfl ?_;intro v6 w6 hk6))
        go_meet
        rw [HE.out]
        exact hk6
      · have HE : Hid (namedI c = [itemL b_named [[102,105,114,115,116]] []]) := zh (HNI.out.trans (if_pos rfl))
        go_wp2_with (first | (go_at_call 47;refine Calls.mono (line_strs b_named [[102,105,114,115,116]] _ _ _ (by simp) (ne_all (by simp)) (strs_at (two_at wc _ _ _) rfl)) ?_;rintro e w5 ⟨v5,rfl,hw5,hb5⟩;have hb2:=below_twoN wc (.cells #[.string ⟨#[108,97,115,116]⟩, .string ⟨#[102,105,114,115,116]⟩] 9) (.cells #[.string ⟨#[102,105,114,115,116]⟩] 9);have hx5:=hb2.trans (hb5.mono hb2.size);have hB5 : wc.heap.size ≤ _:=hb2.size) | (at_builtin;refine push_list (.tmp 79) (.tmp 87) rfl rfl HKA.out (by first | omega | decide) hx5 hw5 hB5 rfl rfl ?_;intro v6 w6 hk6))
        go_meet
        rw [HE.out]
        exact hk6
  case rest =>
  clear HKA HNI hl1 HSF
  have HKA:=zh hcut
  have hc:=HCB.out _ hcut.1
  have c1:=zb hc 1
  obtain ⟨L2,hL2⟩ : ∃ L,L1 ++ namedI c = L:=⟨_,rfl⟩
  rw [hL2] at HKA
  have hl2 : L2.length ≤ 2:=by rw [← hL2,← HL1.out,List.length_append];unfold namedI endI;split <;> simp
  have HL2:=zh hL2
  clear hcut hc hL2
  go_upto_if 91 with (go_at_call 50;refine (HWE.out _).mono ?_;rintro e w2 ⟨rfl,hw2⟩;subst hw2)
  clear c1
  go_cut [5] (fun s5 wx => KidsAt c w0 wx s5 (L2 ++ extraI c))
  case first =>
    cases ste
    · have HE := zh (HXI.out.trans (if_neg (by decide)))
      go_wp2_with fail
      go_meet
      rw [HE.out,List.append_nil]
      exact HKA.out
    · have HE := zh (HXI.out.trans (if_pos rfl))
      have hc:=HCB.out _ HKA.out.1
      have c5:=zb hc 5
      have hsh:=HSHP.out rfl
      clear hc
      go_upto_block 1 with fail
      obtain ⟨wd,hwd⟩ : ∃ wd,wd = wc:=⟨_,rfl⟩
      subst hwd
      go_cut [5] (fun s5 wx => KidsAt c w0 wx s5 (L2 ++ shapeC c))
      case first =>
        have hc:=HCB.out _ HKA.out.1
        have c6:=zb hc 6
        have c7:=zb hc 7
        have c8:=zb hc 8
        have c9:=zb hc 9
        have lc:=hc.lt
        have hll : L2.length ≤ 9:=by omega
        clear hc c5
        obtain ⟨wc,hwc⟩ : ∃ wc,wc = wd:=⟨_,rfl⟩
        subst hwc
        rcases hsh with rfl | rfl | rfl
        · have HS : Hid (shapeC c = [itemL b_periods [] [p0,p1,p2]]) := zh (by rw [HCD.out]; rfl)
          go_wp2_with (first | (go_at_call 47;refine Calls.mono (line_nums b_periods [p0,p1,p2] ⟨wc.heap.size,0,none⟩ ⟨wc.heap.size + 1,0,none⟩ _ _ (by simp) (nums_at wc #[.string ⟨#[]⟩, .string ⟨#[]⟩, .string ⟨#[]⟩] #[.int .i64 p0, .int .i64 p1, .int .i64 p2] 9 3 [p0,p1,p2] rfl rfl).1 (nums_at wc #[.string ⟨#[]⟩, .string ⟨#[]⟩, .string ⟨#[]⟩] #[.int .i64 p0, .int .i64 p1, .int .i64 p2] 9 3 [p0,p1,p2] rfl rfl).2) ?_;rintro e w5 ⟨v5,rfl,hw5,hb5⟩;have hb2:=below_twoN wc (.cells #[.string ⟨#[]⟩, .string ⟨#[]⟩, .string ⟨#[]⟩] 9) (.cells #[.int .i64 p0, .int .i64 p1, .int .i64 p2] 3);have hx5:=hb2.trans (hb5.mono hb2.size);have hB5 : wc.heap.size ≤ _:=hb2.size) | (at_builtin;refine push_list (.tmp 104) (.tmp 117) rfl rfl HKA.out (by first | omega | decide) hx5 hw5 hB5 rfl rfl ?_;intro v6 w6 hk6))
          go_meet
          rw [HS.out]
          exact hk6
        · have HS : Hid (shapeC c = [itemL b_periods [] [4]]) := zh (by rw [HCD.out]; rfl)
          go_wp2_with (first | (go_at_call 47;refine Calls.mono (line_nums b_periods [4] ⟨wc.heap.size,0,none⟩ ⟨wc.heap.size + 1,0,none⟩ _ _ (by simp) (nums_at wc #[.string ⟨#[]⟩] #[.int .i64 4] 9 3 [4] rfl rfl).1 (nums_at wc #[.string ⟨#[]⟩] #[.int .i64 4] 9 3 [4] rfl rfl).2) ?_;rintro e w5 ⟨v5,rfl,hw5,hb5⟩;have hb2:=below_twoN wc (.cells #[.string ⟨#[]⟩] 9) (.cells #[.int .i64 4] 3);have hx5:=hb2.trans (hb5.mono hb2.size);have hB5 : wc.heap.size ≤ _:=hb2.size) | (at_builtin;refine push_list (.tmp 121) (.tmp 125) rfl rfl HKA.out (by first | omega | decide) hx5 hw5 hB5 rfl rfl ?_;intro v6 w6 hk6))
          go_meet
          rw [HS.out]
          exact hk6
        · have HS : Hid (shapeC c = [itemL b_pay [] [cycle]]) := zh (by rw [HCD.out]; rfl)
          go_wp2_with (first | (go_at_call 47;refine Calls.mono (line_nums b_pay [cycle] ⟨wc.heap.size,0,none⟩ ⟨wc.heap.size + 1,0,none⟩ _ _ (by simp) (nums_at wc #[.string ⟨#[]⟩] #[.int .i64 cycle] 9 3 [cycle] rfl rfl).1 (nums_at wc #[.string ⟨#[]⟩] #[.int .i64 cycle] 9 3 [cycle] rfl rfl).2) ?_;rintro e w5 ⟨v5,rfl,hw5,hb5⟩;have hb2:=below_twoN wc (.cells #[.string ⟨#[]⟩] 9) (.cells #[.int .i64 cycle] 3);have hx5:=hb2.trans (hb5.mono hb2.size);have hB5 : wc.heap.size ≤ _:=hb2.size) | (at_builtin;refine push_list (.tmp 94) (.tmp 100) rfl rfl HKA.out (by first | omega | decide) hx5 hw5 hB5 rfl rfl ?_;intro v6 w6 hk6))
          go_meet
          rw [HS.out]
          exact hk6
      case rest =>
        have HKB:=zh hcut
        have hc:=HCB.out _ hcut.1
        have c10:=zb hc 10
        have lc:=hc.lt
        obtain ⟨L3,hL3⟩ : ∃ L,L2 ++ shapeC c = L:=⟨_,rfl⟩
        rw [hL3] at HKB
        have hll : L3.length ≤ 9:=by rw [← hL3,List.length_append];unfold shapeC;(repeat' split) <;> simp <;> omega
        have HL3:=zh hL3
        clear hcut hc hL3 c5
        go_wp2_with (first | (go_at_call 47;refine Calls.mono (line_nums b_extra [extra] ⟨wc.heap.size,0,none⟩ ⟨wc.heap.size + 1,0,none⟩ _ _ (by simp) (nums_at wc #[.string ⟨#[]⟩] #[.int .i64 extra] 9 3 [extra] rfl rfl).1 (nums_at wc #[.string ⟨#[]⟩] #[.int .i64 extra] 9 3 [extra] rfl rfl).2) ?_;rintro e w5 ⟨v5,rfl,hw5,hb5⟩;have hb2:=below_twoN wc (.cells #[.string ⟨#[]⟩] 9) (.cells #[.int .i64 extra] 3);have hx5:=hb2.trans (hb5.mono hb2.size);have hB5 : wc.heap.size ≤ _:=hb2.size) | (at_builtin;refine push_list (.tmp 127) (.tmp 133) rfl rfl HKB.out (by first | omega | decide) hx5 hw5 hB5 rfl rfl ?_;intro v6 w6 hk6))
        go_meet
        rw [HE.out,← List.append_assoc,HL3.out]
        exact hk6
  case rest =>
  clear HKA HXI HSHP
  have HKA:=zh hcut
  obtain ⟨L4,hL4⟩ : ∃ L,L2 ++ extraI c = L:=⟨_,rfl⟩
  rw [hL4] at HKA
  have hl4 : L4.length ≤ 4:=by rw [← hL4,List.length_append];unfold extraI shapeC;(repeat' split) <;> simp <;> omega
  have HL4:=zh hL4
  clear hcut hL4 hl2
  go_upto_region 23 with fail
  go_cut [5] (fun s5 wx => KidsAt c w0 wx s5 (L4 ++ [itemL b_serve [] [first,last]]))
  case first =>
    have hc:=HCB.out _ HKA.out.1
    have c11:=zb hc 11
    have c12:=zb hc 12
    have lc:=hc.lt
    have hll : L4.length ≤ 9:=by omega
    clear hc
    go_wp2_with (first | (go_at_call 47;refine Calls.mono (line_nums b_serve [first,last] ⟨wc.heap.size,0,none⟩ ⟨wc.heap.size + 1,0,none⟩ _ _ (by simp) (nums_at wc #[.string ⟨#[]⟩, .string ⟨#[]⟩] #[.int .i64 first, .int .i64 last] 9 3 [first,last] rfl rfl).1 (nums_at wc #[.string ⟨#[]⟩, .string ⟨#[]⟩] #[.int .i64 first, .int .i64 last] 9 3 [first,last] rfl rfl).2) ?_;rintro e w5 ⟨v5,rfl,hw5,hb5⟩;have hb2:=below_twoN wc (.cells #[.string ⟨#[]⟩, .string ⟨#[]⟩] 9) (.cells #[.int .i64 first, .int .i64 last] 3);have hx5:=hb2.trans (hb5.mono hb2.size);have hB5 : wc.heap.size ≤ _:=hb2.size) | (at_builtin;refine push_list (.tmp 135) (.tmp 143) rfl rfl HKA.out (by first | omega | decide) hx5 hw5 hB5 rfl rfl ?_;intro v6 w6 hk6))
    go_meet
    exact hk6
  case rest =>
  clear HKA
  have HKA:=zh hcut
  obtain ⟨L5,hL5⟩ : ∃ L,L4 ++ [itemL b_serve [] [first,last]] = L:=⟨_,rfl⟩
  rw [hL5] at HKA
  have hl5 : L5.length ≤ 5:=by rw [← hL5,List.length_append];simp;omega
  have HL5:=zh hL5
  clear hcut hL5 hl4
  go_upto_region 24 with fail
  go_cut [5] (fun s5 wx => KidsAt c w0 wx s5 (kidsC c))
  case first =>
    have hc:=HCB.out _ HKA.out.1
    have c13:=zb hc 13
    have lc:=hc.lt
    have hll : L5.length ≤ 9:=by omega
    have hpc : (policy = 1 ∧ kp = 0) ∨ (policy = 2 ∧ kp = 1) ∨ (policy = 3 ∧ kp = 2) ∨ (policy = 4 ∧ kp = 3):=four_cases policy kp HKQ.out
    clear hc
    rcases hpc with ⟨rfl,rfl⟩ | ⟨rfl,rfl⟩ | ⟨rfl,rfl⟩ | ⟨rfl,rfl⟩
    · have HK : Hid (kidsC c = L5 ++ [itemL b_compare [[115,116,97,114,116]] []]) := zh (by rw [← HL5.out,← HL4.out,← HL2.out,← HL1.out]; unfold kidsC serveI; rw [HCD.out]; simp only [List.append_assoc]; rfl)
      have hw1 : IntKind.i64.wrap (1 - 1) = 0:=rfl
      have hw2 : IntKind.i64.wrap 0 = 0:=rfl
      go_wp2_with (first | (go_at_call 47;refine Calls.mono (line_strs b_compare [[115,116,97,114,116]] _ _ _ (by simp) (ne_all (by simp)) (strs_at (two_at wc _ _ _) rfl)) ?_;rintro e w5 ⟨v5,rfl,hw5,hb5⟩;have hb2:=below_twoN wc (.cells #[.string ⟨#[115,116,97,114,116]⟩, .string ⟨#[115,104,105,102,116]⟩, .string ⟨#[100,114,111,112]⟩, .string ⟨#[99,108,97,109,112]⟩] 9) (.cells #[.string ⟨#[115,116,97,114,116]⟩] 9);have hx5:=hb2.trans (hb5.mono hb2.size);have hB5 : wc.heap.size ≤ _:=hb2.size) | (at_builtin;refine push_list (.tmp 145) (.tmp 154) rfl rfl HKA.out (by first | omega | decide) hx5 hw5 hB5 rfl rfl ?_;intro v6 w6 hk6))
      go_meet
      rw [HK.out]
      exact hk6
    · have HK : Hid (kidsC c = L5 ++ [itemL b_compare [[115,104,105,102,116]] []]) := zh (by rw [← HL5.out,← HL4.out,← HL2.out,← HL1.out]; unfold kidsC serveI; rw [HCD.out]; simp only [List.append_assoc]; rfl)
      have hw1 : IntKind.i64.wrap (2 - 1) = 1:=rfl
      have hw2 : IntKind.i64.wrap 1 = 1:=rfl
      go_wp2_with (first | (go_at_call 47;refine Calls.mono (line_strs b_compare [[115,104,105,102,116]] _ _ _ (by simp) (ne_all (by simp)) (strs_at (two_at wc _ _ _) rfl)) ?_;rintro e w5 ⟨v5,rfl,hw5,hb5⟩;have hb2:=below_twoN wc (.cells #[.string ⟨#[115,116,97,114,116]⟩, .string ⟨#[115,104,105,102,116]⟩, .string ⟨#[100,114,111,112]⟩, .string ⟨#[99,108,97,109,112]⟩] 9) (.cells #[.string ⟨#[115,104,105,102,116]⟩] 9);have hx5:=hb2.trans (hb5.mono hb2.size);have hB5 : wc.heap.size ≤ _:=hb2.size) | (at_builtin;refine push_list (.tmp 145) (.tmp 154) rfl rfl HKA.out (by first | omega | decide) hx5 hw5 hB5 rfl rfl ?_;intro v6 w6 hk6))
      go_meet
      rw [HK.out]
      exact hk6
    · have HK : Hid (kidsC c = L5 ++ [itemL b_compare [[100,114,111,112]] []]) := zh (by rw [← HL5.out,← HL4.out,← HL2.out,← HL1.out]; unfold kidsC serveI; rw [HCD.out]; simp only [List.append_assoc]; rfl)
      have hw1 : IntKind.i64.wrap (3 - 1) = 2:=rfl
      have hw2 : IntKind.i64.wrap 2 = 2:=rfl
      go_wp2_with (first | (go_at_call 47;refine Calls.mono (line_strs b_compare [[100,114,111,112]] _ _ _ (by simp) (ne_all (by simp)) (strs_at (two_at wc _ _ _) rfl)) ?_;rintro e w5 ⟨v5,rfl,hw5,hb5⟩;have hb2:=below_twoN wc (.cells #[.string ⟨#[115,116,97,114,116]⟩, .string ⟨#[115,104,105,102,116]⟩, .string ⟨#[100,114,111,112]⟩, .string ⟨#[99,108,97,109,112]⟩] 9) (.cells #[.string ⟨#[100,114,111,112]⟩] 9);have hx5:=hb2.trans (hb5.mono hb2.size);have hB5 : wc.heap.size ≤ _:=hb2.size) | (at_builtin;refine push_list (.tmp 145) (.tmp 154) rfl rfl HKA.out (by first | omega | decide) hx5 hw5 hB5 rfl rfl ?_;intro v6 w6 hk6))
      go_meet
      rw [HK.out]
      exact hk6
    · have HK : Hid (kidsC c = L5 ++ [itemL b_compare [[99,108,97,109,112]] []]) := zh (by rw [← HL5.out,← HL4.out,← HL2.out,← HL1.out]; unfold kidsC serveI; rw [HCD.out]; simp only [List.append_assoc]; rfl)
      have hw1 : IntKind.i64.wrap (4 - 1) = 3:=rfl
      have hw2 : IntKind.i64.wrap 3 = 3:=rfl
      go_wp2_with (first | (go_at_call 47;refine Calls.mono (line_strs b_compare [[99,108,97,109,112]] _ _ _ (by simp) (ne_all (by simp)) (strs_at (two_at wc _ _ _) rfl)) ?_;rintro e w5 ⟨v5,rfl,hw5,hb5⟩;have hb2:=below_twoN wc (.cells #[.string ⟨#[115,116,97,114,116]⟩, .string ⟨#[115,104,105,102,116]⟩, .string ⟨#[100,114,111,112]⟩, .string ⟨#[99,108,97,109,112]⟩] 9) (.cells #[.string ⟨#[99,108,97,109,112]⟩] 9);have hx5:=hb2.trans (hb5.mono hb2.size);have hB5 : wc.heap.size ≤ _:=hb2.size) | (at_builtin;refine push_list (.tmp 145) (.tmp 154) rfl rfl HKA.out (by first | omega | decide) hx5 hw5 hB5 rfl rfl ?_;intro v6 w6 hk6))
      go_meet
      rw [HK.out]
      exact hk6
  case rest =>
  clear HKA HL1 HL2 HL4 HL5 HKQ
  obtain ⟨hnd,⟨kcs9,ho,hk⟩,hl10⟩:=hcut
  obtain ⟨N,hN⟩ : ∃ N,(kidsC c).length = N:=⟨_,rfl⟩
  have hpos : 0 < (kidsC c).length:=by unfold kidsC endI;simp
  rw [hN] at ho hpos
  obtain ⟨g9,cp9,rfl,hg9a,hg9b⟩:=own_head ho hpos
  have HND:=zh hnd
  have HNN:=zh hN
  have hc:=HCB.out _ HND.out
  have lc:=hc.lt
  have c0:=zb hc 0
  have h2:=hnd.2.2.1
  have l2:=h2.lt
  have q0:=zu h2 0
  have q1:=zu h2 1
  have q2:=zu h2 2
  have q3:=zu h2 3
  have q4:=zu h2 4
  have p0':=zb h2 0
  have p1':=zb h2 1
  have p2':=zb h2 2
  have p3':=zb h2 3
  have p4':=zb h2 4
  have HFIN:=zh (node_fin (gr:=w0.heap.size + 1) (nm:=nm) hnd.1 ho hk (by omega) hg9a l2 hN)
  clear hnd hc h2 ho hk hpos hN
  go_wp2_with fail
  refine bodyPost_ret (v:=.tuple #[.agg #[.string ⟨b_calendar.toArray⟩, .int .i64 0, .slice (some ⟨wc.heap.size,0,none⟩) 1 1, .bool true, .slice (some ⟨g9,0,none⟩) N cp9], .int .i64 0]) (by simp [results,b_calendar,Tryz.results23,go_sem, *]) rfl ?_
  rw [← HQ.out]
  refine ⟨wc.heap.size,g9,cp9,?_,HND.out.1.size,by omega,?_⟩
  · rw [← HCD.out,HNN.out]
  · rw [← HCD.out,HNN.out]
    rw [show c.name = nm by rw [HCD.out]]
    exact HFIN.out _ _ _ _ _
end Go.Proofs.YtjbniichcopnlaaGreatDoor
