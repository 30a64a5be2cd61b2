/- Layer 11 (field): the walk of Node. -/
import Derived.Test.YtjbniichcopnlaaGreatDoorPkS40
import Derived.Test.YtjbniichcopnlaaGreatDoorPkS25
import Derived.Deep.AppendLies
import Derived.Deep.DeepCutAuto
import Derived.Deep.RegionHeld3
set_option linter.unusedVariables false
set_option linter.unusedSimpArgs false
set_option maxRecDepth 100000
namespace Go.Proofs.YtjbniichcopnlaaGreatDoor
open Go.RowKit
open Go.Joins renaming cell_of_block → zb, unfrozen_of_block → zu
open Go.Lib renaming hid → zh
theorem info_str1 : (Tryz.prog.info? 9).map (fun i => (i.zero,i.size,i.bytes)) = some (some (.string ⟨#[]⟩),1,16):=by kernel_rfl
theorem info_nodeN : (Tryz.prog.info? 44).map (fun i => (i.zero,i.size,i.bytes)) = some (some (.agg #[.string ⟨#[]⟩, .int .i64 0, .slice none 0 0, .bool false, .slice none 0 0]),5,80):=by kernel_rfl
theorem getD_some {α : Type} (l : List α) (k : Nat) (d : α) (h : k < l.length) : l[k]? = some (l.getD k d):=by rw [List.getD_eq_getElem?_getD,List.getElem?_eq_getElem h];rfl
theorem four_cases (p : Int) (k : Nat) (h : p = (k : Int) + 1 ∧ k < 4) : (p = 1 ∧ k = 0) ∨ (p = 2 ∧ k = 1) ∨ (p = 3 ∧ k = 2) ∨ (p = 4 ∧ k = 3):=by omega
theorem field_policies4 (w : World) : Calls Tryz.prog 32 #[] w fun e w' => e = .returned (.slice (some ⟨w.heap.size,0,none⟩) 4 4) ∧ StrBlk w' w.heap.size pols ∧ Below w.heap.size w w':=field_policies w
theorem own_one {w : World} {base : Nat} {e : TypeId} {size : Nat} {v : Value} {n : Nat} {xs : List Value} (h : w.ownsRow base e size v n xs) (o : Obj) : (w.alloc o).ownsRow base e size v n xs:=h.alloc o
theorem pre_idx (l : List Bytes) (x : Int) (k : Nat) (hx : x = (k : Int) + 1) (hk : k < l.length) (hs : l.length ≤ 100) : l[k]? = some (l.getD (x - 1).toNat []) ∧ (0 : Int) ≤ k ∧ (k : Int) < (l.length : Int) ∧ IntKind.i64.wrap (x - 1) = (k : Int) :=
  ⟨by rw [show (x - 1).toNat = k by omega];exact getD_some l k [] hk,by omega,by omega,by rw [IntKind.wrap_i64];omega⟩
set_option maxHeartbeats 16000000 in
theorem field_Node_ok (c : CalL) (hok : okC c = true) (hl : c.name.length ≤ maxLen) (w : World) : Calls Tryz.prog 17 #[calV c] w (NodePost c w) := by
  obtain ⟨k1,k6,hday,hmon,hshf,hpol⟩:=nodeFit c hok
  obtain ⟨i0,hi0,hz0,hz1,hz2⟩:=info_parts info_str1
  obtain ⟨j0,hj0,hy0,hy1,hy2⟩:=info_parts info_nodeN
  have HCH:=zh (fun W => field_Check c hl W)
  have hec : errC c = 0:=by unfold errC;rw [hok];rfl
  rw [hec] at HCH
  obtain ⟨k,hk⟩ : ∃ k : Nat,c.kind = (k : Int) + 1:=⟨(c.kind - 1).toNat,by omega⟩
  have HEN:=zh (pre_idx endsL c.kind k hk (by show k < 6;omega) (by decide))
  obtain ⟨km,hkm⟩ : ∃ k : Nat,c.month = (k : Int) + 1:=⟨(c.month - 1).toNat,by omega⟩
  have HMN:=zh (pre_idx mons c.month km hkm (by show km < 12;omega) (by decide))
  obtain ⟨kp,hkp⟩ : ∃ k : Nat,c.policy = (k : Int) + 1:=⟨(c.policy - 1).toNat,by omega⟩
  have HKQ:=zh (show c.policy = (kp : Int) + 1 ∧ kp < 4 from ⟨hkp,by omega⟩)
  have HPN:=zh (pre_idx pols c.policy kp hkp (by show kp < 4;omega) (by decide))
  obtain ⟨b1,hb1⟩ : ∃ b,(c.kind == 1) = b:=⟨_,rfl⟩
  obtain ⟨b2,hb2⟩ : ∃ b,(c.kind == 2) = b:=⟨_,rfl⟩
  obtain ⟨bb,hbb⟩ : ∃ b,(b1 || b2) = b:=⟨_,rfl⟩
  have HDN : Hid (bb = true → ∃ kd : Nat,days[kd]? = some (days.getD (c.day - 1).toNat []) ∧ (0 : Int) ≤ kd ∧ (kd : Int) < (days.length : Int) ∧ IntKind.i64.wrap (c.day - 1) = (kd : Int)) := zh (fun h => by
    have hd:=hday (by rw [← hbb,← hb1,← hb2] at h;simpa using h)
    exact ⟨(c.day - 1).toNat,pre_idx days c.day _ (by omega) (by show (c.day - 1).toNat < 7;omega) (by decide)⟩)
  have HSTN:=zh (fun W => field_stands c.kind b_named W)
  have HSTE:=zh (fun W => field_stands c.kind b_extra W)
  have hsay : saysC c = [endsL.getD (c.kind - 1).toNat []] ++ (if bb = true then [days.getD (c.day - 1).toNat []] else []) ++ (if standsC c.kind b_named then [mons.getD (c.month - 1).toNat []] else []) := by
    unfold saysC
    rw [← hbb,← hb1,← hb2]
    simp only [Bool.or_eq_true,beq_iff_eq]
  have HSAY:=zh hsay
  generalize endsL.getD (c.kind - 1).toNat [] = en at *
  generalize days.getD (c.day - 1).toNat [] = dn at *
  generalize mons.getD (c.month - 1).toNat [] = mn at *
  obtain ⟨pn,hpn⟩ : ∃ s,pols.getD (c.policy - 1).toNat [] = s:=⟨_,rfl⟩
  rw [hpn] at HPN
  have HPV:=zh hpn
  generalize hQ : NodePost c w = Q
  have HQ:=zh hQ
  clear hpn hec hok hl hQ k1 k6 hk hkm hkp hday hmon hpol hsay
  obtain ⟨nm,kind,day,month,shift,shape,p0,p1,p2,cycle,extra,first,last,policy⟩:=c
  obtain ⟨c,hcd⟩ : ∃ c : CalL,c = ⟨nm,kind,day,month,shift,shape,p0,p1,p2,cycle,extra,first,last,policy⟩:=⟨_,rfl⟩
  have HCD:=zh hcd
  dsimp only at *
  generalize hstn : standsC kind b_named = stn at *
  generalize hste : standsC kind b_extra = ste at *
  have HSN:=zh hstn
  have HSE:=zh hste
  clear hstn hste
  dsimp only [calV] at HCH
  dsimp only [calV]
  go_enter Tryz.func17,Tryz.ntmps17
  go_wp2_with fail
  refine (HCH.out _).mono ?_
  rintro e w1 ⟨rfl,hb1⟩
  have hnd : NdI c w w1 := by
    refine NdI.below (wx:=(w.alloc _).alloc _) ⟨?_,?_,?_,?_⟩ hb1
    · (repeat (first | exact Below.refl _ _ | assumption | refine Below.setCell ?_ (by first | (simp;done) | (simp;omega) | omega) _ | refine Below.alloc ?_ (by first | (simp;done) | (simp;omega) | omega) _ | refine Below.drew ?_ | refine below_drewN ?_ _ | refine Below.trans ?_ (Below.mono (by assumption) (by first | (simp;done) | (simp;omega) | omega))))
    · rw [HCD.out]
      exact (Below.block ((Below.refl (w.alloc _).heap.size (w.alloc _)).alloc (Nat.le_refl _) _) w.heap.size (by simp)).trans (heap_alloc_new w _)
    · have := heap_alloc_new (w.alloc (.cells #[.string ⟨nm.toArray⟩, .int .i64 kind, .int .i64 day, .int .i64 month, .int .i64 shift, .int .i64 shape, .int .i64 p0, .int .i64 p1, .int .i64 p2, .int .i64 cycle, .int .i64 extra, .int .i64 first, .int .i64 last, .int .i64 policy] 37)) (.cells #[.string ⟨#[]⟩, .int .i64 0, .slice none 0 0, .bool false, .slice none 0 0] 44)
      simpa [NodeBlk] using this
    · simp
  have HCB : Hid (∀ W,NdI c w W → CalBlk W w.heap.size ⟨nm,kind,day,month,shift,shape,p0,p1,p2,cycle,extra,first,last,policy⟩):=zh (fun W h => by rw [← HCD.out];exact h.2.1)
  have HND:=zh hnd
  clear hb1 HCH hnd hcd
  go_wp2_with fail
  go_cut [5] (fun s5 wx => NdI c w wx ∧ OwnStrs wx (w.heap.size + 2) s5 [en])
  case first =>
    have hc:=HCB.out _ HND.out
    have c1:=zb hc 1
    have lc:=hc.lt
    obtain ⟨x0,x1,x2,x3⟩:=HEN.out
    have HX:=zh x0
    clear hc x0
    go_region_with (first | (go_at_call 27;refine (field_ends _).mono ?_;rintro e w2 ⟨rfl,hg2,hb2⟩;replace hg2 : StrBlk w2 w1.heap.size endsL:=hg2;have y1:=(hb2.cell (p:=⟨w.heap.size,1,none⟩) lc).trans c1;have ys:=hg2.cell k _ HX.out))
    all_goals (
      go_wp2_with fail
      go_meet
      have hw2 : Below w1.heap.size w1 w2:=⟨hb2.os,hb2.tape,hb2.output,hb2.size,hb2.block⟩
      have hn2:=HND.out.below hw2
      exact ⟨hn2.below (below_cal w2 _),OwnStrs.new w2 (w.heap.size + 2) en hn2.2.2.2⟩)
  case rest =>
    obtain ⟨hnd,hos⟩:=hcut
    obtain ⟨A,cp,rfl,hcp⟩:=own_form hos
    have HND:=zh hnd
    have HOS:=zh hos
    clear hnd hos
    obtain ⟨wa,hwa⟩ : ∃ wa,wa = wc:=⟨_,rfl⟩
    subst hwa
    go_upto_region 5 with fail
    go_cut [27] (fun s27 wx => s27 = .bool bb ∧ wx = wa)
    case first =>
      have hc:=HCB.out _ HND.out
      have c1:=zb hc 1
      clear hc
      have HBB:=zh hbb
      clear hbb
      cases b1 <;> cases b2 <;> (
        go_wp2_with fail
        go_meet
        exact ⟨congrArg Value.bool HBB.out,rfl⟩)
    case rest =>
    clear hb1 hb2 hbb
    obtain ⟨rfl,hwc⟩:=hcut
    subst hwc
    go_upto_if 27 with fail
    go_cut [5] (fun s5 wx => NdI c w wx ∧ OwnStrs wx (w.heap.size + 2) s5 ([en] ++ if bb = true then [dn] else []))
    case first =>
      have hc:=HCB.out _ HND.out
      have c2:=zb hc 2
      have lc:=hc.lt
      cases bb
      · clear hc
        go_wp2_with fail
        go_meet
        exact ⟨HND.out,HOS.out⟩
      · obtain ⟨kd,x0,x1,x2,x3⟩ := HDN.out rfl
        have HX:=zh x0
        clear hc x0
        go_wp2_with fail
        go_region_law (first
          | (refine step_append_lies _ (by rfl) _ _ _ (by rfl) (w.heap.size + 2) 9 i0 _ 1 16 Tryz.underlying55 hi0 hz0 hz1 hz2 rfl (by omega) (.slice A [en].length cp) [en].length _ (by rfl) hw5 ⟨w2.heap.size,0,none⟩ 1 1 [.string ⟨dn.toArray⟩] (by rfl) (by rfl) (World.news_of_block (cs:=#[.string ⟨dn.toArray⟩]) (t:=9) (fr:=(0,0)) (heap_alloc_new w2 _)) h1c (by omega) (by show 1 + 1 ≤ maxLen;decide) (by show (1 + 1) * 16 ≤ 140737488355328;decide) hbs (w2.heap.size + 1) (by simp) ?_;intro g cap w4 hown4 hgrow4 hat hlt)
          | (go_simp;go_at_call 28;refine (field_weekdays _).mono ?_;rintro e w2 ⟨rfl,hg2,hb2⟩;replace hg2 : StrBlk w2 wc.heap.size days:=hg2;have y2:=(hb2.cell (p:=⟨w.heap.size,2,none⟩) lc).trans c2;have ys:=hg2.cell kd _ HX.out;have hw2 : Below wc.heap.size wc w2:=⟨hb2.os,hb2.tape,hb2.output,hb2.size,hb2.block⟩;have hn2:=HND.out.below hw2;have hw5:=own_one (HOS.out.below hw2) (.cells #[.string ⟨dn.toArray⟩] 9);have h1c : ∀ u ∈ [Value.string ⟨dn.toArray⟩],u.oneCell' = true:=(by simp [Value.oneCell']);have hbs : w.heap.size + 2 ≤ (w2.alloc (.cells #[.string ⟨dn.toArray⟩] 9)).heap.size:=Nat.le_trans hn2.2.2.2 (by simp)))
        all_goals (
          go_wp2_with fail
          go_meet
          refine ⟨(hn2.below (below_cal w2 _)).grown hgrow4 (fun k hk => (hw5.lt k hk).1),hown4⟩)
    case rest =>
    clear HND HOS HDN
    obtain ⟨hnd,hos⟩:=hcut
    generalize hL1 : ([en] ++ if bb = true then [dn] else []) = L1 at *
    have hll : L1.length ≤ 2:=by rw [← hL1];cases bb <;> simp
    clear hL1
    obtain ⟨A,cp,rfl,hcp⟩:=own_form hos
    have HND:=zh hnd
    have HOS:=zh hos
    have hc:=HCB.out _ HND.out
    have c1:=zb hc 1
    clear hnd hos hc
    go_upto_if 39 with (go_at_call 29;refine (HSTN.out _).mono ?_;rintro e w2 ⟨rfl,hb2⟩)
    replace HND:=zh (HND.out.below hb2)
    replace HOS:=zh (HOS.out.below hb2)
    clear hb2 c1
    go_cut [5] (fun s5 wx => NdI c w wx ∧ OwnStrs wx (w.heap.size + 2) s5 (L1 ++ if stn = true then [mn] else []))
    case first =>
      have hc:=HCB.out _ HND.out
      have c3:=zb hc 3
      have lc:=hc.lt
      cases stn
      · clear hc
        go_wp2_with fail
        go_meet
        exact ⟨HND.out,by simpa using HOS.out⟩
      · obtain ⟨x0,x1,x2,x3⟩ := HMN.out
        have HX:=zh x0
        clear hc x0
        go_wp2_with fail
        go_region_law (first
          | (refine step_append_lies _ (by rfl) _ _ _ (by rfl) (w.heap.size + 2) 9 i0 _ 1 16 Tryz.underlying55 hi0 hz0 hz1 hz2 rfl (by omega) (.slice A L1.length cp) L1.length _ (by rfl) hw5 ⟨w3.heap.size,0,none⟩ 1 1 [.string ⟨mn.toArray⟩] (by rfl) (by rfl) (World.news_of_block (cs:=#[.string ⟨mn.toArray⟩]) (t:=9) (fr:=(0,0)) (heap_alloc_new w3 _)) h1c (by omega) (by unfold maxLen;omega) (by omega) hbs (w3.heap.size + 1) (by simp) ?_;intro g cap w4 hown4 hgrow4 hat hlt)
          | (go_simp;go_at_call 30;refine (field_months _).mono ?_;rintro e w3 ⟨rfl,hg3,hb3⟩;replace hg3 : StrBlk w3 w2.heap.size mons:=hg3;have y3:=(hb3.cell (p:=⟨w.heap.size,3,none⟩) lc).trans c3;have ys:=hg3.cell km _ HX.out;have hw3 : Below w2.heap.size w2 w3:=⟨hb3.os,hb3.tape,hb3.output,hb3.size,hb3.block⟩;have hn3:=HND.out.below hw3;have hw5:=own_one (HOS.out.below hw3) (.cells #[.string ⟨mn.toArray⟩] 9);have h1c : ∀ u ∈ [Value.string ⟨mn.toArray⟩],u.oneCell' = true:=(by simp [Value.oneCell']);have hbs : w.heap.size + 2 ≤ (w3.alloc (.cells #[.string ⟨mn.toArray⟩] 9)).heap.size:=Nat.le_trans hn3.2.2.2 (by simp)))
        all_goals (
          go_wp2_with fail
          go_meet
          refine ⟨(hn3.below (below_cal w3 _)).grown hgrow4 (fun k hk => (hw5.lt k hk).1),?_⟩
          unfold OwnStrs
          simp only [if_true,List.length_append,List.map_append]
          exact hown4)
    case rest =>
    clear HND HOS HMN
    obtain ⟨hnd,hos⟩:=hcut
    obtain ⟨LS,hLS⟩ : ∃ LS,(L1 ++ if stn = true then [mn] else []) = LS:=⟨_,rfl⟩
    rw [hLS] at hos
    have hll' : LS.length ≤ 3 := by
      rw [← hLS,List.length_append]
      cases stn <;> simp <;> omega
    have HLS:=zh (HSAY.out.trans hLS)
    clear HSAY hLS hll
    obtain ⟨A',cp',rfl,hcp'⟩:=own_form hos
    have HND:=zh hnd
    have HOS:=zh hos
    clear hnd hos
    go_upto_region 9 with fail
    go_cut [6] (fun s6 wx => NdI c w wx ∧ OwnNodes wx (w.heap.size + 2) s6 [itemL b_end LS []])
    case first =>
      have hr:=HOS.out.read
      have HIT:=zh (field_item b_end LS [] A' none cp' 0 wc (by omega) (by simp) hr (fun k n h => by simp at h))
      clear hr
      unfold b_end at HIT
      go_wp2_with (go_at_call 31;refine HIT.out.mono ?_;rintro e w3 ⟨v,rfl,hw3,hb3⟩)
      go_meet
      have hn3:=HND.out.below hb3
      exact ⟨hn3.below (below_cal w3 _),OwnNodes.new (B:=wc.heap.size) (n:=itemL b_end LS []) (hw3.nodeM b_end) hn3.2.2.2 HND.out.2.2.2⟩
    case rest =>
    clear HOS
    obtain ⟨hnd,hos⟩:=hcut
    generalize hL6 : [itemL b_end LS []] = L6 at *
    have hl6 : L6.length ≤ 1:=by rw [← hL6];exact Nat.le_refl 1
    have HL6:=zh hL6
    clear hL6
    obtain ⟨kcs,ho,hk⟩:=hos
    obtain ⟨A6,cp6,rfl,hcp6⟩:=own_form ho
    have HND:=zh hnd
    have HO:=zh ho
    have HK:=zh hk
    have hc:=HCB.out _ HND.out
    have c1:=zb hc 1
    clear hnd ho hk hc
    go_upto_if 54 with (go_at_call 29;refine (HSTN.out _).mono ?_;rintro e w2 ⟨rfl,hb2⟩)
    replace HK:=zh (HK.out.keepB (w':=w2) (M':=fun b => w.heap.size + 2 ≤ b ∧ (b < w2.heap.size ∧ some b ≠ (Value.slice A6 L6.length cp6).ownBlock)) (fun b h => ⟨h.1,Nat.lt_of_lt_of_le h.2.1 hb2.size,h.2.2⟩) (fun b h => hb2.block b h.2.1))
    replace HND:=zh (HND.out.below hb2)
    replace HO:=zh (own_below HO.out hb2)
    clear hb2 c1
    have HSH:=zh hshf
    go_cut [6] (fun s6 wx => NdI c w wx ∧ OwnNodes wx (w.heap.size + 2) s6 (L6 ++ if stn = true then [itemL b_named [shifts.getD shift.toNat []] []] else []))
    case first =>
      have hc:=HCB.out _ HND.out
      have c4:=zb hc 4
      have lc:=hc.lt
      have h63 : L6.length + 1 ≤ maxLen:=by unfold maxLen;omega
      have hby : (L6.length + 1) * 80 ≤ 140737488355328:=by omega
      cases stn
      · clear hc
        go_wp2_with fail
        go_meet
        exact ⟨HND.out,kcs,by simpa using HO.out,by simpa using HK.out⟩
      · obtain ⟨off,sh,hsh,hsc,hof⟩ : ∃ (off : Nat) (sh : Bytes),shifts.getD shift.toNat [] = sh ∧ (#[Value.string ⟨#[108,97,115,116]⟩, .string ⟨#[102,105,114,115,116]⟩])[off]? = some (.string ⟨sh.toArray⟩) ∧ (shift = off ∧ (off = 0 ∨ off = 1)) := by
          have : shift = 0 ∨ shift = 1:=by have:=HSH.out;omega
          rcases this with h | h <;> subst h
          · exact ⟨0,[108,97,115,116],rfl,rfl,rfl, .inl rfl⟩
          · exact ⟨1,[102,105,114,115,116],rfl,rfl,rfl, .inr rfl⟩
        have HSV:=zh hsh
        have HIT:=zh (fun c1 => field_item b_named [sh] [] (some ⟨w2.heap.size,off,none⟩) none c1 0 (w2.alloc (.cells #[.string ⟨#[108,97,115,116]⟩, .string ⟨#[102,105,114,115,116]⟩] 9)) (by simp) (by simp) (one_str (heap_alloc_new w2 _) hsc) (fun k n h => by simp at h))
        unfold b_named at HIT
        clear hc hsh hsc
        obtain ⟨rfl,rfl | rfl⟩ := hof <;> (
          go_wp2_with (first
            | (go_at_call 31;refine (HIT.out _).mono ?_;rintro e w3 ⟨v3,rfl,hw3,hb3⟩;obtain ⟨Av3,cv3,rfl,hcv3⟩:=own_form hw3;have hB3:=(below_cal w2 (.cells #[.string ⟨#[108,97,115,116]⟩, .string ⟨#[102,105,114,115,116]⟩] 9)).trans (hb3.mono (below_cal w2 (.cells #[.string ⟨#[108,97,115,116]⟩, .string ⟨#[102,105,114,115,116]⟩] 9)).size);have ho3:=own_one (own_below HO.out hB3) (.cells #[.string ⟨b_named.toArray⟩, .int .i64 0, .slice Av3 ([sh].map wS ++ ([] : List Int).map wN).length cv3, .bool false, .slice none 0 0] 44);have hn3:=World.news_of_block (cs:=#[.string ⟨b_named.toArray⟩, .int .i64 0, .slice Av3 ([sh].map wS ++ ([] : List Int).map wN).length cv3, .bool false, .slice none 0 0]) (t:=44) (fr:=(0,0)) (heap_alloc_new w3 _);have h1c3 : ∀ u ∈ [Value.string ⟨b_named.toArray⟩, .int .i64 0, .slice Av3 ([sh].map wS ++ ([] : List Int).map wN).length cv3, .bool false, .slice none 0 0],u.oneCell' = true:=(by simp [Value.oneCell']);have hbs3 : w.heap.size + 2 ≤ (w3.alloc (.cells #[.string ⟨b_named.toArray⟩, .int .i64 0, .slice Av3 ([sh].map wS ++ ([] : List Int).map wN).length cv3, .bool false, .slice none 0 0] 44)).heap.size:=Nat.le_trans (HND.out.below hB3).2.2.2 (by simp))
            | (at_builtin;refine wpList_append_lies _ (by rfl) _ _ _ (by rfl) (w.heap.size + 2) 44 j0 _ 5 80 Tryz.underlying41 hj0 hy0 hy1 hy2 rfl (by omega) (.slice A6 L6.length cp6) (L6.length) (kcs) (by rfl) ho3 ⟨w3.heap.size,0,none⟩ 1 1 [.string ⟨b_named.toArray⟩, .int .i64 0, .slice Av3 ([sh].map wS ++ ([] : List Int).map wN).length cv3, .bool false, .slice none 0 0] (by rfl) (by rfl) hn3 h1c3 (by omega) h63 hby hbs3 (w3.heap.size + 1) (by simp) ?_;intro g4 cap4 w4 hown4 hgrow4 hat4 hlt4;skip))
          go_meet
          simp only [if_true]
          rw [HSV.out]
          exact push_item HND.out hB3 HO.out HK.out hw3 (below_cal w2 _).size hown4 hgrow4 hat4)
    case rest =>
    clear HND HO HK HSH
    obtain ⟨hnd,hos⟩:=hcut
    obtain ⟨L7,hL7⟩ : ∃ L,(L6 ++ if stn = true then [itemL b_named [shifts.getD shift.toNat []] []] else []) = L:=⟨_,rfl⟩
    rw [hL7] at hos
    have hl7 : L7.length ≤ 2 := by
      rw [← hL7,List.length_append]
      cases stn <;> simp <;> omega
    have HL7:=zh hL7
    obtain ⟨XS,hXS⟩ : ∃ XS,(if shape = 1 then [itemL b_periods [] [p0,p1,p2]] else if shape = 2 then [itemL b_periods [] [4]] else if shape = 3 then [itemL b_pay [] [cycle]] else []) = XS:=⟨_,rfl⟩
    have HXS:=zh hXS
    clear hL7 hl6 hXS
    obtain ⟨kcs7,ho,hk⟩:=hos
    obtain ⟨A7,cp7,rfl,hcp7⟩:=own_form ho
    have HND:=zh hnd
    have HO:=zh ho
    have HK:=zh hk
    have hc:=HCB.out _ HND.out
    have c1:=zb hc 1
    clear hnd ho hk hc
    go_upto_if 66 with (go_at_call 29;refine (HSTE.out _).mono ?_;rintro e w2 ⟨rfl,hb2⟩)
    replace HK:=zh (HK.out.keepB (w':=w2) (M':=fun b => w.heap.size + 2 ≤ b ∧ (b < w2.heap.size ∧ some b ≠ (Value.slice A7 L7.length cp7).ownBlock)) (fun b h => ⟨h.1,Nat.lt_of_lt_of_le h.2.1 hb2.size,h.2.2⟩) (fun b h => hb2.block b h.2.1))
    replace HND:=zh (HND.out.below hb2)
    replace HO:=zh (own_below HO.out hb2)
    clear hb2 c1
    go_cut [6] (fun s6 wx => NdI c w wx ∧ OwnNodes wx (w.heap.size + 2) s6 (L7 ++ if ste = true then XS ++ [itemL b_extra [] [extra]] else []))
    case first =>
      have hc:=HCB.out _ HND.out
      have lc:=hc.lt
      have c5:=zb hc 5
      have h63 : L7.length + 1 ≤ maxLen:=by unfold maxLen;omega
      have hby : (L7.length + 1) * 80 ≤ 140737488355328:=by omega
      have HLEN:=zh (len1 L7 (by omega))
      have HITX:=zh (fun W A cc h => item_nums b_extra [extra] (Nat.le_of_ble_eq_true rfl) W A cc h)
      have HCX:=zh (int1_ok extra)
      unfold b_extra at HITX
      cases ste
      · clear hc
        go_wp2_with fail
        go_meet
        exact ⟨HND.out,kcs7,by simpa using HO.out,by simpa using HK.out⟩
      · by_cases hs1 : shape = 1
        · subst hs1
          have HX:=zh (HXS.out.symm.trans (if_pos rfl))
          have hci:=ints_at (off:=6) (l:=[p0,p1,p2]) hc (pat_ok nm kind day month shift 1 p0 p1 p2 cycle extra first last policy 0)
          have HIT:=zh (fun cc => item_nums b_periods [p0,p1,p2] (Nat.le_of_ble_eq_true rfl) w2 (some ⟨w.heap.size,6,none⟩) cc hci)
          unfold b_periods at HIT
          clear hc hci
          go_wp2_with (first
            | (go_at_call 31;have hq4:=hown4;refine (HITX.out (w4.alloc (.cells #[.int .i64 extra] 3)) (some ⟨w4.heap.size,0,none⟩) _ (ints_at (off:=0) (l:=[extra]) (heap_alloc_new w4 _) HCX.out)).mono ?_;rintro e w5 ⟨v5,rfl,hw5,hb5⟩;obtain ⟨Av5,cv5,rfl,hcv5⟩:=own_form hw5;have hB5:=(below_cal w4 (.cells #[.int .i64 extra] 3)).trans (hb5.mono (below_cal w4 (.cells #[.int .i64 extra] 3)).size);have ho5:=own_one (own_below ho4 hB5) (.cells #[.string ⟨b_extra.toArray⟩, .int .i64 0, .slice Av5 (([] : List Bytes).map wS ++ [extra].map wN).length cv5, .bool false, .slice none 0 0] 44);have hn5:=World.news_of_block (cs:=#[.string ⟨b_extra.toArray⟩, .int .i64 0, .slice Av5 (([] : List Bytes).map wS ++ [extra].map wN).length cv5, .bool false, .slice none 0 0]) (t:=44) (fr:=(0,0)) (heap_alloc_new w5 _);have h1c5 : ∀ u ∈ [Value.string ⟨b_extra.toArray⟩, .int .i64 0, .slice Av5 (([] : List Bytes).map wS ++ [extra].map wN).length cv5, .bool false, .slice none 0 0],u.oneCell' = true:=(by simp [Value.oneCell']);have hbs5 : w.heap.size + 2 ≤ (w5.alloc (.cells #[.string ⟨b_extra.toArray⟩, .int .i64 0, .slice Av5 (([] : List Bytes).map wS ++ [extra].map wN).length cv5, .bool false, .slice none 0 0] 44)).heap.size:=Nat.le_trans (hnd4.below hB5).2.2.2 (by simp))
            | (go_at_call 31;refine (HIT.out _).mono ?_;rintro e w3 ⟨v3,rfl,hw3,hb3⟩;obtain ⟨Av3,cv3,rfl,hcv3⟩:=own_form hw3;have hB3:=hb3;have ho3:=own_one (own_below HO.out hB3) (.cells #[.string ⟨b_periods.toArray⟩, .int .i64 0, .slice Av3 (([] : List Bytes).map wS ++ [p0,p1,p2].map wN).length cv3, .bool false, .slice none 0 0] 44);have hn3:=World.news_of_block (cs:=#[.string ⟨b_periods.toArray⟩, .int .i64 0, .slice Av3 (([] : List Bytes).map wS ++ [p0,p1,p2].map wN).length cv3, .bool false, .slice none 0 0]) (t:=44) (fr:=(0,0)) (heap_alloc_new w3 _);have h1c3 : ∀ u ∈ [Value.string ⟨b_periods.toArray⟩, .int .i64 0, .slice Av3 (([] : List Bytes).map wS ++ [p0,p1,p2].map wN).length cv3, .bool false, .slice none 0 0],u.oneCell' = true:=(by simp [Value.oneCell']);have hbs3 : w.heap.size + 2 ≤ (w3.alloc (.cells #[.string ⟨b_periods.toArray⟩, .int .i64 0, .slice Av3 (([] : List Bytes).map wS ++ [p0,p1,p2].map wN).length cv3, .bool false, .slice none 0 0] 44)).heap.size:=Nat.le_trans (HND.out.below hB3).2.2.2 (by simp))
            | (at_builtin;have hq5:=hw5;refine wpList_append_lies _ (by rfl) _ _ _ (by rfl) (w.heap.size + 2) 44 j0 _ 5 80 Tryz.underlying41 hj0 hy0 hy1 hy2 rfl (by omega) (.slice (some ⟨g4,0,none⟩) (L7.length + 1) cap4) ((L7 ++ [itemL b_periods [] [p0,p1,p2]]).length) (kcs4) (by rfl) ho5 ⟨w5.heap.size,0,none⟩ 1 1 [.string ⟨b_extra.toArray⟩, .int .i64 0, .slice Av5 (([] : List Bytes).map wS ++ [extra].map wN).length cv5, .bool false, .slice none 0 0] (by rfl) (by rfl) hn5 h1c5 (by omega) (HLEN.out _).1 (HLEN.out _).2 hbs5 (w5.heap.size + 1) (by simp) ?_;intro g6 cap6 w6 hown6 hgrow6 hat6 hlt6;skip)
            | (at_builtin;refine wpList_append_lies _ (by rfl) _ _ _ (by rfl) (w.heap.size + 2) 44 j0 _ 5 80 Tryz.underlying41 hj0 hy0 hy1 hy2 rfl (by omega) (.slice A7 L7.length cp7) (L7.length) (kcs7) (by rfl) ho3 ⟨w3.heap.size,0,none⟩ 1 1 [.string ⟨b_periods.toArray⟩, .int .i64 0, .slice Av3 (([] : List Bytes).map wS ++ [p0,p1,p2].map wN).length cv3, .bool false, .slice none 0 0] (by rfl) (by rfl) hn3 h1c3 (by omega) h63 hby hbs3 (w3.heap.size + 1) (by simp) ?_;intro g4 cap4 w4 hown4 hgrow4 hat4 hlt4;obtain ⟨hnd4,kcs4,ho4,hk4⟩:=push_item HND.out hB3 HO.out HK.out hw3 (Nat.le_refl _) hown4 hgrow4 hat4;have hc4:=HCB.out _ hnd4;have c410:=zb hc4 10;have lc4:=hc4.lt;clear hc4))
          go_meet
          simp only [if_true]
          rw [HX.out,← List.append_assoc]
          have hp:=push_item hnd4 hB5 ho4 hk4 hw5 (below_cal w4 _).size hown6 hgrow6 hat6
          rw [List.length_append,List.length_singleton] at hp
          exact hp
        · by_cases hs2 : shape = 2
          · subst hs2
            have HX:=zh (HXS.out.symm.trans ((if_neg hs1).trans (if_pos rfl)))
            have HIT:=zh (fun cc => item_nums b_periods [4] (Nat.le_of_ble_eq_true rfl) (w2.alloc (.cells #[.int .i64 4] 3)) (some ⟨w2.heap.size,0,none⟩) cc (ints_at (off:=0) (l:=[4]) (heap_alloc_new w2 _) (int1_ok 4)))
            unfold b_periods at HIT
            clear hc
            go_wp2_with (first
              | (go_at_call 31;have hq4:=hown4;refine (HITX.out (w4.alloc (.cells #[.int .i64 extra] 3)) (some ⟨w4.heap.size,0,none⟩) _ (ints_at (off:=0) (l:=[extra]) (heap_alloc_new w4 _) HCX.out)).mono ?_;rintro e w5 ⟨v5,rfl,hw5,hb5⟩;obtain ⟨Av5,cv5,rfl,hcv5⟩:=own_form hw5;have hB5:=(below_cal w4 (.cells #[.int .i64 extra] 3)).trans (hb5.mono (below_cal w4 (.cells #[.int .i64 extra] 3)).size);have ho5:=own_one (own_below ho4 hB5) (.cells #[.string ⟨b_extra.toArray⟩, .int .i64 0, .slice Av5 (([] : List Bytes).map wS ++ [extra].map wN).length cv5, .bool false, .slice none 0 0] 44);have hn5:=World.news_of_block (cs:=#[.string ⟨b_extra.toArray⟩, .int .i64 0, .slice Av5 (([] : List Bytes).map wS ++ [extra].map wN).length cv5, .bool false, .slice none 0 0]) (t:=44) (fr:=(0,0)) (heap_alloc_new w5 _);have h1c5 : ∀ u ∈ [Value.string ⟨b_extra.toArray⟩, .int .i64 0, .slice Av5 (([] : List Bytes).map wS ++ [extra].map wN).length cv5, .bool false, .slice none 0 0],u.oneCell' = true:=(by simp [Value.oneCell']);have hbs5 : w.heap.size + 2 ≤ (w5.alloc (.cells #[.string ⟨b_extra.toArray⟩, .int .i64 0, .slice Av5 (([] : List Bytes).map wS ++ [extra].map wN).length cv5, .bool false, .slice none 0 0] 44)).heap.size:=Nat.le_trans (hnd4.below hB5).2.2.2 (by simp))
              | (go_at_call 31;refine (HIT.out _).mono ?_;rintro e w3 ⟨v3,rfl,hw3,hb3⟩;obtain ⟨Av3,cv3,rfl,hcv3⟩:=own_form hw3;have hB3:=(below_cal w2 (.cells #[.int .i64 4] 3)).trans (hb3.mono (below_cal w2 (.cells #[.int .i64 4] 3)).size);have ho3:=own_one (own_below HO.out hB3) (.cells #[.string ⟨b_periods.toArray⟩, .int .i64 0, .slice Av3 (([] : List Bytes).map wS ++ [(4 : Int)].map wN).length cv3, .bool false, .slice none 0 0] 44);have hn3:=World.news_of_block (cs:=#[.string ⟨b_periods.toArray⟩, .int .i64 0, .slice Av3 (([] : List Bytes).map wS ++ [(4 : Int)].map wN).length cv3, .bool false, .slice none 0 0]) (t:=44) (fr:=(0,0)) (heap_alloc_new w3 _);have h1c3 : ∀ u ∈ [Value.string ⟨b_periods.toArray⟩, .int .i64 0, .slice Av3 (([] : List Bytes).map wS ++ [(4 : Int)].map wN).length cv3, .bool false, .slice none 0 0],u.oneCell' = true:=(by simp [Value.oneCell']);have hbs3 : w.heap.size + 2 ≤ (w3.alloc (.cells #[.string ⟨b_periods.toArray⟩, .int .i64 0, .slice Av3 (([] : List Bytes).map wS ++ [(4 : Int)].map wN).length cv3, .bool false, .slice none 0 0] 44)).heap.size:=Nat.le_trans (HND.out.below hB3).2.2.2 (by simp))
              | (at_builtin;have hq5:=hw5;refine wpList_append_lies _ (by rfl) _ _ _ (by rfl) (w.heap.size + 2) 44 j0 _ 5 80 Tryz.underlying41 hj0 hy0 hy1 hy2 rfl (by omega) (.slice (some ⟨g4,0,none⟩) (L7.length + 1) cap4) ((L7 ++ [itemL b_periods [] [(4 : Int)]]).length) (kcs4) (by rfl) ho5 ⟨w5.heap.size,0,none⟩ 1 1 [.string ⟨b_extra.toArray⟩, .int .i64 0, .slice Av5 (([] : List Bytes).map wS ++ [extra].map wN).length cv5, .bool false, .slice none 0 0] (by rfl) (by rfl) hn5 h1c5 (by omega) (HLEN.out _).1 (HLEN.out _).2 hbs5 (w5.heap.size + 1) (by simp) ?_;intro g6 cap6 w6 hown6 hgrow6 hat6 hlt6;skip)
              | (at_builtin;refine wpList_append_lies _ (by rfl) _ _ _ (by rfl) (w.heap.size + 2) 44 j0 _ 5 80 Tryz.underlying41 hj0 hy0 hy1 hy2 rfl (by omega) (.slice A7 L7.length cp7) (L7.length) (kcs7) (by rfl) ho3 ⟨w3.heap.size,0,none⟩ 1 1 [.string ⟨b_periods.toArray⟩, .int .i64 0, .slice Av3 (([] : List Bytes).map wS ++ [(4 : Int)].map wN).length cv3, .bool false, .slice none 0 0] (by rfl) (by rfl) hn3 h1c3 (by omega) h63 hby hbs3 (w3.heap.size + 1) (by simp) ?_;intro g4 cap4 w4 hown4 hgrow4 hat4 hlt4;obtain ⟨hnd4,kcs4,ho4,hk4⟩:=push_item HND.out hB3 HO.out HK.out hw3 (below_cal w2 _).size hown4 hgrow4 hat4;have hc4:=HCB.out _ hnd4;have c410:=zb hc4 10;have lc4:=hc4.lt;clear hc4))
            go_meet
            simp only [if_true]
            rw [HX.out,← List.append_assoc]
            have hp:=push_item hnd4 hB5 ho4 hk4 hw5 (below_cal w4 _).size hown6 hgrow6 hat6
            rw [List.length_append,List.length_singleton] at hp
            exact hp
          · by_cases hs3 : shape = 3
            · subst hs3
              have HX:=zh (HXS.out.symm.trans ((if_neg hs1).trans ((if_neg hs2).trans (if_pos rfl))))
              have c9:=zb hc 9
              have HIT:=zh (fun cc => item_nums b_pay [cycle] (Nat.le_of_ble_eq_true rfl) (w2.alloc (.cells #[.int .i64 cycle] 3)) (some ⟨w2.heap.size,0,none⟩) cc (ints_at (off:=0) (l:=[cycle]) (heap_alloc_new w2 _) (int1_ok cycle)))
              unfold b_pay at HIT
              clear hc
              go_wp2_with (first
                | (go_at_call 31;have hq4:=hown4;refine (HITX.out (w4.alloc (.cells #[.int .i64 extra] 3)) (some ⟨w4.heap.size,0,none⟩) _ (ints_at (off:=0) (l:=[extra]) (heap_alloc_new w4 _) HCX.out)).mono ?_;rintro e w5 ⟨v5,rfl,hw5,hb5⟩;obtain ⟨Av5,cv5,rfl,hcv5⟩:=own_form hw5;have hB5:=(below_cal w4 (.cells #[.int .i64 extra] 3)).trans (hb5.mono (below_cal w4 (.cells #[.int .i64 extra] 3)).size);have ho5:=own_one (own_below ho4 hB5) (.cells #[.string ⟨b_extra.toArray⟩, .int .i64 0, .slice Av5 (([] : List Bytes).map wS ++ [extra].map wN).length cv5, .bool false, .slice none 0 0] 44);have hn5:=World.news_of_block (cs:=#[.string ⟨b_extra.toArray⟩, .int .i64 0, .slice Av5 (([] : List Bytes).map wS ++ [extra].map wN).length cv5, .bool false, .slice none 0 0]) (t:=44) (fr:=(0,0)) (heap_alloc_new w5 _);have h1c5 : ∀ u ∈ [Value.string ⟨b_extra.toArray⟩, .int .i64 0, .slice Av5 (([] : List Bytes).map wS ++ [extra].map wN).length cv5, .bool false, .slice none 0 0],u.oneCell' = true:=(by simp [Value.oneCell']);have hbs5 : w.heap.size + 2 ≤ (w5.alloc (.cells #[.string ⟨b_extra.toArray⟩, .int .i64 0, .slice Av5 (([] : List Bytes).map wS ++ [extra].map wN).length cv5, .bool false, .slice none 0 0] 44)).heap.size:=Nat.le_trans (hnd4.below hB5).2.2.2 (by simp))
                | (go_at_call 31;refine (HIT.out _).mono ?_;rintro e w3 ⟨v3,rfl,hw3,hb3⟩;obtain ⟨Av3,cv3,rfl,hcv3⟩:=own_form hw3;have hB3:=(below_cal w2 (.cells #[.int .i64 cycle] 3)).trans (hb3.mono (below_cal w2 (.cells #[.int .i64 cycle] 3)).size);have ho3:=own_one (own_below HO.out hB3) (.cells #[.string ⟨b_pay.toArray⟩, .int .i64 0, .slice Av3 (([] : List Bytes).map wS ++ [cycle].map wN).length cv3, .bool false, .slice none 0 0] 44);have hn3:=World.news_of_block (cs:=#[.string ⟨b_pay.toArray⟩, .int .i64 0, .slice Av3 (([] : List Bytes).map wS ++ [cycle].map wN).length cv3, .bool false, .slice none 0 0]) (t:=44) (fr:=(0,0)) (heap_alloc_new w3 _);have h1c3 : ∀ u ∈ [Value.string ⟨b_pay.toArray⟩, .int .i64 0, .slice Av3 (([] : List Bytes).map wS ++ [cycle].map wN).length cv3, .bool false, .slice none 0 0],u.oneCell' = true:=(by simp [Value.oneCell']);have hbs3 : w.heap.size + 2 ≤ (w3.alloc (.cells #[.string ⟨b_pay.toArray⟩, .int .i64 0, .slice Av3 (([] : List Bytes).map wS ++ [cycle].map wN).length cv3, .bool false, .slice none 0 0] 44)).heap.size:=Nat.le_trans (HND.out.below hB3).2.2.2 (by simp))
                | (at_builtin;have hq5:=hw5;refine wpList_append_lies _ (by rfl) _ _ _ (by rfl) (w.heap.size + 2) 44 j0 _ 5 80 Tryz.underlying41 hj0 hy0 hy1 hy2 rfl (by omega) (.slice (some ⟨g4,0,none⟩) (L7.length + 1) cap4) ((L7 ++ [itemL b_pay [] [cycle]]).length) (kcs4) (by rfl) ho5 ⟨w5.heap.size,0,none⟩ 1 1 [.string ⟨b_extra.toArray⟩, .int .i64 0, .slice Av5 (([] : List Bytes).map wS ++ [extra].map wN).length cv5, .bool false, .slice none 0 0] (by rfl) (by rfl) hn5 h1c5 (by omega) (HLEN.out _).1 (HLEN.out _).2 hbs5 (w5.heap.size + 1) (by simp) ?_;intro g6 cap6 w6 hown6 hgrow6 hat6 hlt6;skip)
                | (at_builtin;refine wpList_append_lies _ (by rfl) _ _ _ (by rfl) (w.heap.size + 2) 44 j0 _ 5 80 Tryz.underlying41 hj0 hy0 hy1 hy2 rfl (by omega) (.slice A7 L7.length cp7) (L7.length) (kcs7) (by rfl) ho3 ⟨w3.heap.size,0,none⟩ 1 1 [.string ⟨b_pay.toArray⟩, .int .i64 0, .slice Av3 (([] : List Bytes).map wS ++ [cycle].map wN).length cv3, .bool false, .slice none 0 0] (by rfl) (by rfl) hn3 h1c3 (by omega) h63 hby hbs3 (w3.heap.size + 1) (by simp) ?_;intro g4 cap4 w4 hown4 hgrow4 hat4 hlt4;obtain ⟨hnd4,kcs4,ho4,hk4⟩:=push_item HND.out hB3 HO.out HK.out hw3 (below_cal w2 _).size hown4 hgrow4 hat4;have hc4:=HCB.out _ hnd4;have c410:=zb hc4 10;have lc4:=hc4.lt;clear hc4))
              go_meet
              simp only [if_true]
              rw [HX.out,← List.append_assoc]
              have hp:=push_item hnd4 hB5 ho4 hk4 hw5 (below_cal w4 _).size hown6 hgrow6 hat6
              rw [List.length_append,List.length_singleton] at hp
              exact hp
            · have HX := zh (HXS.out.symm.trans ((if_neg hs1).trans ((if_neg hs2).trans (if_neg hs3))))
              have k1 : (shape == 1) = false:=beq_false_of_ne hs1
              have k2 : (shape == 2) = false:=beq_false_of_ne hs2
              have k3 : (shape == 3) = false:=beq_false_of_ne hs3
              have c10:=zb hc 10
              clear hc hs1 hs2 hs3
              go_wp2_with (first
                | (go_at_call 31;refine (HITX.out (w2.alloc (.cells #[.int .i64 extra] 3)) (some ⟨w2.heap.size,0,none⟩) _ (ints_at (off:=0) (l:=[extra]) (heap_alloc_new w2 _) HCX.out)).mono ?_;rintro e w3 ⟨v3,rfl,hw3,hb3⟩;obtain ⟨Av3,cv3,rfl,hcv3⟩:=own_form hw3;have hB3:=(below_cal w2 (.cells #[.int .i64 extra] 3)).trans (hb3.mono (below_cal w2 (.cells #[.int .i64 extra] 3)).size);have ho3:=own_one (own_below HO.out hB3) (.cells #[.string ⟨b_extra.toArray⟩, .int .i64 0, .slice Av3 (([] : List Bytes).map wS ++ [extra].map wN).length cv3, .bool false, .slice none 0 0] 44);have hn3:=World.news_of_block (cs:=#[.string ⟨b_extra.toArray⟩, .int .i64 0, .slice Av3 (([] : List Bytes).map wS ++ [extra].map wN).length cv3, .bool false, .slice none 0 0]) (t:=44) (fr:=(0,0)) (heap_alloc_new w3 _);have h1c3 : ∀ u ∈ [Value.string ⟨b_extra.toArray⟩, .int .i64 0, .slice Av3 (([] : List Bytes).map wS ++ [extra].map wN).length cv3, .bool false, .slice none 0 0],u.oneCell' = true:=(by simp [Value.oneCell']);have hbs3 : w.heap.size + 2 ≤ (w3.alloc (.cells #[.string ⟨b_extra.toArray⟩, .int .i64 0, .slice Av3 (([] : List Bytes).map wS ++ [extra].map wN).length cv3, .bool false, .slice none 0 0] 44)).heap.size:=Nat.le_trans (HND.out.below hB3).2.2.2 (by simp))
                | (at_builtin;refine wpList_append_lies _ (by rfl) _ _ _ (by rfl) (w.heap.size + 2) 44 j0 _ 5 80 Tryz.underlying41 hj0 hy0 hy1 hy2 rfl (by omega) (.slice A7 L7.length cp7) (L7.length) (kcs7) (by rfl) ho3 ⟨w3.heap.size,0,none⟩ 1 1 [.string ⟨b_extra.toArray⟩, .int .i64 0, .slice Av3 (([] : List Bytes).map wS ++ [extra].map wN).length cv3, .bool false, .slice none 0 0] (by rfl) (by rfl) hn3 h1c3 (by omega) h63 hby hbs3 (w3.heap.size + 1) (by simp) ?_;intro g4 cap4 w4 hown4 hgrow4 hat4 hlt4;skip))
              go_meet
              simp only [if_true]
              rw [HX.out,List.nil_append]
              exact push_item HND.out hB3 HO.out HK.out hw3 (below_cal w2 _).size hown4 hgrow4 hat4
    case rest =>
    clear HND HO HK HSTN HSTE
    obtain ⟨hnd,hos⟩:=hcut
    obtain ⟨L8,hL8⟩ : ∃ L,(L7 ++ if ste = true then XS ++ [itemL b_extra [] [extra]] else []) = L:=⟨_,rfl⟩
    rw [hL8] at hos
    have hl8 : L8.length ≤ 4 := by
      have hx : XS.length ≤ 1 := by
        rw [← HXS.out]
        split
        · exact Nat.le_refl 1
        · split
          · exact Nat.le_refl 1
          · split
            · exact Nat.le_refl 1
            · exact Nat.zero_le 1
      rw [← hL8,List.length_append]
      cases ste <;> simp <;> omega
    have HL8:=zh hL8
    clear hL8 hl7
    obtain ⟨kcs8,ho,hk⟩:=hos
    obtain ⟨A8,cp8,rfl,hcp8⟩:=own_form ho
    have HND:=zh hnd
    have HO:=zh ho
    have HK:=zh hk
    clear hnd ho hk
    go_upto_region 21 with fail
    go_cut [6] (fun s6 wx => NdI c w wx ∧ OwnNodes wx (w.heap.size + 2) s6 (L8 ++ [itemL b_serve [] [first,last],itemL b_compare [pn] []]))
    case first =>
      have hc:=HCB.out _ HND.out
      have lc:=hc.lt
      have c11:=zb hc 11
      have c12:=zb hc 12
      have c13:=zb hc 13
      have h63 : L8.length + 2 ≤ maxLen:=by unfold maxLen;omega
      have hby : (L8.length + 2) * 80 ≤ 140737488355328:=by omega
      have HX:=zh HPN.out.1
      have HON:=zh (fun (W : World) (g : Nat) (h : StrBlk W g pols) => h.one kp pn HX.out)
      clear HX
      have hw0 : IntKind.i64.wrap 0 = 0:=rfl
      have hw1 : IntKind.i64.wrap 1 = 1:=rfl
      have hw2 : IntKind.i64.wrap 2 = 2:=rfl
      have hw3' : IntKind.i64.wrap 3 = 3:=rfl
      have hwa : IntKind.i64.wrap (1 - 1) = 0:=rfl
      have hwb : IntKind.i64.wrap (2 - 1) = 1:=rfl
      have hwc' : IntKind.i64.wrap (3 - 1) = 2:=rfl
      have hwd : IntKind.i64.wrap (4 - 1) = 3:=rfl
      have HITS:=zh (fun cc => (show Calls Tryz.prog 31 #[.string ⟨#[115,101,114,118,101]⟩, .slice none 0 0, .slice (some ⟨wc.heap.size,0,none⟩) 2 cc] (wc.alloc (.cells #[.int .i64 first, .int .i64 last] 3)).drew (fun e w' => ∃ v,e = .returned (.agg #[.string ⟨#[115,101,114,118,101]⟩, .int .i64 0,v, .bool false, .slice none 0 0]) ∧ OwnWords w' (wc.alloc (.cells #[.int .i64 first, .int .i64 last] 3)).drew.heap.size v (([] : List Bytes).map wS ++ [first,last].map wN) ∧ Below (wc.alloc (.cells #[.int .i64 first, .int .i64 last] 3)).drew.heap.size (wc.alloc (.cells #[.int .i64 first, .int .i64 last] 3)).drew w') from item_nums b_serve [first,last] (Nat.le_of_ble_eq_true rfl) (wc.alloc (.cells #[.int .i64 first, .int .i64 last] 3)).drew (some ⟨wc.heap.size,0,none⟩) cc (ints_at (off:=0) (l:=[first,last]) (heap_alloc_new wc _) (ints2_ok first last))))
      have HITC:=zh (fun W A cc h => item_strs b_compare pn W A cc h)
      unfold b_compare at HITC
      have TT:=zh (fun (W : World) (g : Nat) (h : StrBlk W g pols) (cc : Nat) => HITC.out W _ cc (HON.out W g h))
      clear HITC HON
      have hbA:=(below_cal wc (.cells #[.int .i64 first, .int .i64 last] 3)).drew
      have hkeep : ∀ W,Below wc.heap.size wc W → (∀ j,W.cell? ⟨w.heap.size,j,none⟩ = wc.cell? ⟨w.heap.size,j,none⟩) ∧ w.heap.size < W.heap.size:=fun W hb => ⟨fun j => hb.cell (p:=⟨w.heap.size,j,none⟩) lc,Nat.lt_of_lt_of_le lc hb.size⟩
      have HKP:=zh hkeep
      have hk0:=hkeep _ (Below.refl wc.heap.size wc).drew
      have hkA:=hkeep _ hbA
      clear hkeep
      clear hc
      have hpc : (policy = 1 ∧ kp = 0) ∨ (policy = 2 ∧ kp = 1) ∨ (policy = 3 ∧ kp = 2) ∨ (policy = 4 ∧ kp = 3):=four_cases policy kp HKQ.out
      rcases hpc with ⟨rfl,rfl⟩ | ⟨rfl,rfl⟩ | ⟨rfl,rfl⟩ | ⟨rfl,rfl⟩ <;> (
      go_region_held3 (fun W => (∀ j,W.cell? ⟨w.heap.size,j,none⟩ = wc.cell? ⟨w.heap.size,j,none⟩) ∧ w.heap.size < W.heap.size)
        (first | (with_reducible exact hk0) | (with_reducible exact hkA) | (with_reducible exact hkS) | (with_reducible exact hkP) | (with_reducible exact hkC) | (with_reducible exact hkD) | (with_reducible exact hbF) | exact hkD | fail)
        (first
        | (go_at_call 31;have hq:=HCMP;(with_reducible refine Calls.mono (HCMP.out _) ?_);rintro e w5 ⟨v5,rfl,hw5,hb5⟩;obtain ⟨Av5,cv5,rfl,hcv5⟩:=own_form hw5;have hB5 : Below w3.heap.size w3 w5:=hb4.trans (hb5.mono hb4.size);have hbC:=hbS.trans (hB5.mono hbS.size);have hbD:=below_alloc1 hbC (.cells #[.string ⟨b_serve.toArray⟩, .int .i64 0, .slice Av3 (([] : List Bytes).map wS ++ [first,last].map wN).length cv3, .bool false, .slice none 0 0, .string ⟨b_compare.toArray⟩, .int .i64 0, .slice Av5 ([pn].map wS ++ ([] : List Int).map wN).length cv5, .bool false, .slice none 0 0] 44);have hkC:=HKP.out _ hbC;have hkD:=HKP.out _ hbD;have ho5:=own_one (own_below HO.out hbC) (.cells #[.string ⟨b_serve.toArray⟩, .int .i64 0, .slice Av3 (([] : List Bytes).map wS ++ [first,last].map wN).length cv3, .bool false, .slice none 0 0, .string ⟨b_compare.toArray⟩, .int .i64 0, .slice Av5 ([pn].map wS ++ ([] : List Int).map wN).length cv5, .bool false, .slice none 0 0] 44);have hn5:=World.news_of_block (cs:=#[.string ⟨b_serve.toArray⟩, .int .i64 0, .slice Av3 (([] : List Bytes).map wS ++ [first,last].map wN).length cv3, .bool false, .slice none 0 0, .string ⟨b_compare.toArray⟩, .int .i64 0, .slice Av5 ([pn].map wS ++ ([] : List Int).map wN).length cv5, .bool false, .slice none 0 0]) (t:=44) (fr:=(0,0)) (heap_alloc_new w5 _);have h1c5 : ∀ u ∈ [Value.string ⟨b_serve.toArray⟩, .int .i64 0, .slice Av3 (([] : List Bytes).map wS ++ [first,last].map wN).length cv3, .bool false, .slice none 0 0, .string ⟨b_compare.toArray⟩, .int .i64 0, .slice Av5 ([pn].map wS ++ ([] : List Int).map wN).length cv5, .bool false, .slice none 0 0],u.oneCell' = true:=(by simp [Value.oneCell']);have hbs5 : w.heap.size + 2 ≤ (w5.alloc (.cells #[.string ⟨b_serve.toArray⟩, .int .i64 0, .slice Av3 (([] : List Bytes).map wS ++ [first,last].map wN).length cv3, .bool false, .slice none 0 0, .string ⟨b_compare.toArray⟩, .int .i64 0, .slice Av5 ([pn].map wS ++ ([] : List Int).map wN).length cv5, .bool false, .slice none 0 0] 44)).heap.size:=Nat.le_trans (HND.out.below hbC).2.2.2 (by simp))
        | (go_at_call 31;go_loud (refine (HITS.out _).mono ?_);rintro e w3 ⟨v3,rfl,hw3,hb3⟩;obtain ⟨Av3,cv3,rfl,hcv3⟩:=own_form hw3;have hbS : Below wc.heap.size wc w3:=hbA.trans (hb3.mono hbA.size);have hkS:=HKP.out _ hbS)
        | (go_at_call 32;(with_reducible refine Calls.mono (field_policies4 _) ?_);rintro e w4 ⟨rfl,hg4,hb4'⟩;have hb4 : Below w3.heap.size w3 w4:=⟨hb4'.os,hb4'.tape,hb4'.output,hb4'.size,hb4'.block⟩;replace hg4 : StrBlk w4 w3.heap.size pols:=hg4;have hbP:=hbS.trans (hb4.mono hbS.size);have hkP:=HKP.out _ hbP;have HCMP:=zh (TT.out w4 w3.heap.size hg4))
        | (have hq5:=hn5;refine step_append_lies _ (by rfl) _ _ _ (by rfl) (w.heap.size + 2) 44 j0 _ 5 80 Tryz.underlying41 hj0 hy0 hy1 hy2 rfl (by decide) (.slice A8 L8.length cp8) L8.length kcs8 (by rfl) ho5 ⟨w5.heap.size,0,none⟩ 2 2 [.string ⟨b_serve.toArray⟩, .int .i64 0, .slice Av3 (([] : List Bytes).map wS ++ [first,last].map wN).length cv3, .bool false, .slice none 0 0, .string ⟨b_compare.toArray⟩, .int .i64 0, .slice Av5 ([pn].map wS ++ ([] : List Int).map wN).length cv5, .bool false, .slice none 0 0] (by rfl) (by rfl) hn5 h1c5 (by decide) h63 hby hbs5 (w5.heap.size + 1) (by simp) ?_;intro g6 cap6 w6 hown6 hgrow6 hat6 hlt6;have hpp:=push_two (nm3:=b_serve) (nm5:=b_compare) HND.out hbS hB5 HO.out HK.out hw3 hbA.size hw5 hbP.size hown6 hgrow6 hat6;have hbF : (∀ j,w6.cell? ⟨w.heap.size,j,none⟩ = wc.cell? ⟨w.heap.size,j,none⟩) ∧ w.heap.size < w6.heap.size:=⟨fun j => (zb (HCB.out _ hpp.1) j).trans (zb (HCB.out _ HND.out) j).symm,(HCB.out _ hpp.1).lt⟩)
        | fail)
      all_goals (
        go_wp2_with fail
        go_meet
        exact hpp))
    case rest =>
    clear HND HO HK HPN HKQ
    obtain ⟨hnd,hos⟩:=hcut
    have hall : L8 ++ [itemL b_serve [] [first,last],itemL b_compare [pn] []] = kidsC c := by
      rw [HCD.out]
      unfold kidsC endI namedI extraI serveI shapeC
      dsimp only
      rw [HLS.out,HPV.out,HSN.out,HSE.out,HXS.out,← HL8.out,← HL7.out,← HL6.out]
    rw [hall] at hos
    obtain ⟨kcs9,ho,hk⟩:=hos
    obtain ⟨N,hN⟩ : ∃ N,(kidsC c).length = N:=⟨_,rfl⟩
    have hpos : 0 < (kidsC c).length:=by rw [← hall];simp
    rw [hN] at ho hpos
    obtain ⟨g9,cp9,rfl,hg9a,hg9b⟩:=own_head ho hpos
    have HOS:=zh (And.intro ho hk)
    have HND:=zh hnd
    have HNN:=zh hN
    have hc:=HCB.out _ HND.out
    have lc:=hc.lt
    have c0:=zb hc 0
    have h2:=hnd.2.2.1
    have l2:=h2.lt
    have q0:=zu h2 0
    have q1:=zu h2 1
    have q2:=zu h2 2
    have q3:=zu h2 3
    have q4:=zu h2 4
    have p0':=zb h2 0
    have p1':=zb h2 1
    have p2':=zb h2 2
    have p3':=zb h2 3
    have p4':=zb h2 4
    have HFIN:=zh (node_fin (gr:=w.heap.size + 1) (nm:=nm) hnd.1 ho hk (by omega) hg9a l2 hN)
    clear hnd hc h2 ho hk hall hpos hN
    go_wp2_with fail
    refine bodyPost_ret (v:=.tuple #[.agg #[.string ⟨b_calendar.toArray⟩, .int .i64 0, .slice (some ⟨wc.heap.size,0,none⟩) 1 1, .bool true, .slice (some ⟨g9,0,none⟩) N cp9], .int .i64 0]) (by simp [results,b_calendar,Tryz.results17,go_sem, *]) rfl ?_
    rw [← HQ.out]
    refine ⟨wc.heap.size,g9,cp9,?_,HND.out.1.size,by omega,?_⟩
    · rw [← HCD.out,HNN.out]
    · rw [← HCD.out,HNN.out]
      rw [show c.name = nm by rw [HCD.out]]
      exact HFIN.out _ _ _ _ _
end Go.Proofs.YtjbniichcopnlaaGreatDoor
