/- Layer 11 (field), the reference: the walk of key: the key periods. Written by wip/gen_key3.py. Then: Layer 11 (field), the reference: the walk of key: the key periods. Then: Layer 11 (field), the reference: key, all ways together. -/
import Derived.Test.YtpkhocbohhpmbaaPkR42
import Derived.Test.YtpkhocbohhpmbaaPkR31
import Derived.Test.YtpkhocbohhpmbaaPkR32
import Derived.Test.YtpkhocbohhpmbaaPkR33
import Derived.Test.YtpkhocbohhpmbaaPkR34
set_option linter.unusedVariables false
set_option linter.unusedSimpArgs false
namespace Go.Proofs.Ytpkhocbohhpmbaa
section
set_option maxRecDepth 100000
open Go.RowKit
open Go.Joins renaming cell_of_block → zb, unfrozen_of_block → zu
open Go.Lib renaming hid → zh
set_option maxHeartbeats 16000000 in
theorem key_per_3 (c : CalL) (kp : Int) (ws : List WordL) (A : Option Addr) (cw : Nat) (Ak : Option Addr) (kl ck : Nat) (w : World) (B : Nat) (hB : B ≤ w.heap.size) (hne : ws ≠ []) (hlen : ws.length ≤ 100000) (hr : ReadsM w (· < B) 4 A ws.length (ws.flatMap WordL.cells)) (hall : ws.all (·.num) = true) (h3 : ws.length = 3) :
    Calls Try.prog 25 #[calV c, .agg #[.string ⟨b_periods.toArray⟩, .int .i64 kp, .slice A ws.length cw, .bool false, .slice Ak kl ck]] w (KeyPost (keyK b_periods c ws).1 (keyK b_periods c ws).2 w):=by
  have HK:=zh (keyW_start w c b_periods kp A ws.length cw false Ak kl ck)
  have HR:=zh hr
  have HALL:=zh hall
  have HLN:=zh h3
  clear h3
  have hl0 : ((ws.length : Int) == 0) = false:=beq_false_of_ne (by have:=List.length_pos_iff.2 hne;omega)
  generalize hQ : KeyPost (keyK b_periods c ws).1 (keyK b_periods c ws).2 w = Q
  have HQ:=zh hQ
  clear hQ hr hne hall
  unfold calO nodO b_periods at HK
  obtain ⟨cnm,ckd,cdy,cmo,csh,csp,cp0,cp1,cp2,ccy,cex,cfi,cla,cpo⟩:=c
  have HBP:=zh (show b_periods = b_periods from rfl)
  dsimp only [calV,calZ] at HK ⊢
  rw [show (b_periods.toArray : Array UInt8) = #[112,101,114,105,111,100,115] from rfl]
  go_enter Try.func25,Try.ntmps25
  go_upto_region 1 with fail
  (generalize World.alloc _ _ = W at HK ⊢;obtain ⟨hbw,hlow,hcal,hnode,hres⟩:=HK.out;generalize hbc : w.heap.size = bc at hlow hcal hnode hres hbw hB HK ⊢;have HBC:=zh hbc;have HBW:=zh hbw)
  dsimp only [nodO] at hnode
  have m0:=zb hnode 0;have m1:=zb hnode 1;have m2:=zb hnode 2;have m3:=zb hnode 3;have m4:=zb hnode 4
  have hBb : B ≤ bc:=hB
  clear hbw hcal hres hnode hlow hbc hB
  go_wp2_with fail
  go_loopw [50] (fun i wr => ∃ k : Nat,k ≤ ws.length ∧ i = .int .i64 k ∧ KeyW w wr bc ⟨cnm,ckd,cdy,cmo,csh,csp,cp0,cp1,cp2,ccy,cex,cfi,cla,cpo⟩ [112,101,114,105,111,100,115] kp A ws.length cw false Ak kl ck ∧ ws.all (·.num) = (ws.drop k).all (·.num)) (fun i _ => ws.length - (intOf i).toNat)
  case atStart => exact ⟨0,Nat.zero_le _,rfl,HK.out,rfl⟩
  case round =>
    clear m0 m1 m2 m3 m4 HK HBW
    obtain ⟨k,hk,rfl,hkw,hs⟩:=hrel
    have hb:=hkw.below
    have hbs:=hb.size
    have hlow:=hkw.low
    have hBw : B ≤ w.heap.size:=by rw [HBC.out];exact hBb
    have hk' : ∀ p : Addr,p.block < B → wr.cell? p = w.cell? p:=fun p hp => hb.cell (by omega)
    by_cases hlt : k < ws.length
    · obtain ⟨t,ht⟩ : ∃ t,ws[k]? = some t := ⟨_,List.getElem?_eq_getElem hlt⟩
      obtain ⟨ad,rfl,hadb,d0,d1,d2,d3⟩:=word_cells (HR.out.keep (fun _ h => h) hk') k t ht
      rw [all_num_drop ws k t ht] at hs
      have lk : (k : Int) < ws.length:=by omega
      have lk0 : (0 : Int) ≤ k:=by omega
      have w1f : IntKind.i64.wrap ((k : Int) + 1) = (k : Int) + 1:=by rw [IntKind.wrap_i64];omega
      obtain ⟨tb,tn,ts,tp⟩:=t
      dsimp only at *
      cases tb
      · exact absurd (HALL.out.symm.trans hs) (by simp)
      · have HS := zh (show ws.all (·.num) = (ws.drop (k + 1)).all (·.num) by rw [hs]; simp)
        have HKW:=zh hkw
        clear hs hkw ht hk' hb hbs hlow
        go_wp2_with fail
        exact ⟨⟨k + 1,by omega,by go_num,HKW.out.keep (below_cal _ _),HS.out⟩,by simp [intOf];omega⟩
    · have lk : ¬ (k : Int) < ws.length := by omega
      have hk2 : k = ws.length:=by omega
      have hs2 : ws.all (·.num) = true:=by rw [hs,hk2];simp
      have HS2:=zh hs2
      have hr2:=HR.out.keep (fun _ h => h) hk'
      rw [HBC.out] at hb
      have HBW:=zh hb
      have hc2:=hkw.cal
      have hres:=hkw.res
      dsimp only [CalBlk,calZ] at hc2 hres
      have hcal:=hc2
      clear hc2
      obtain ⟨g0,g1,g2,g3,g4,g5,g6,g7,g8,g9,g10,g11,g12,g13⟩:=cells14 hcal
      obtain ⟨n0,n1,n2,n3,n4,n5,n6,n7,n8,n9,n10,n11,n12,n13⟩:=cells14 hres
      have ly:=(Array.getElem?_eq_some_iff.1 hcal).1
      have lz:=(Array.getElem?_eq_some_iff.1 hres).1
      obtain ⟨fu0,fu1,fu2,fu3,fu4,fu5,fu6,fu7,fu8,fu9,fu10,fu11,fu12,fu13⟩:=unf14 hcal
      obtain ⟨fz0,fz1,fz2,fz3,fz4,fz5,fz6,fz7,fz8,fz9,fz10,fz11,fz12,fz13⟩:=unf14 hres
      have HKW:=zh hkw
      clear hs hs2 hcal hres hkw hb hk'
      obtain ⟨t,u,x,rfl⟩ : ∃ t u x,ws = [t,u,x] := by
        match ws,HLN.out with
        | [t,u,x],_ => exact ⟨t,u,x,rfl⟩
      obtain ⟨ad,rfl,hadb,e0,e1,e2,e3⟩:=word0 hr2
      obtain ⟨a0,a1,a2,a3⟩:=word1 (ws:=[t,u,x]) hr2 1 u rfl (by decide)
      obtain ⟨d0,d1,d2,d3⟩:=word1 (ws:=[t,u,x]) hr2 2 x rfl (by decide)
      obtain ⟨tb,tn,ts,tp⟩:=t
      obtain ⟨ub,un,us,up⟩:=u
      obtain ⟨xb,xn,xs,xp⟩:=x
      have hkk:=perK_3 ⟨cnm,ckd,cdy,cmo,csh,csp,cp0,cp1,cp2,ccy,cex,cfi,cla,cpo⟩ ⟨tb,tn,ts,tp⟩ ⟨ub,un,us,up⟩ ⟨xb,xn,xs,xp⟩ HS2.out
      rw [Nat.one_mul] at a0 a1 a2 a3
      rw [show (2 : Nat) * 4 = 8 from rfl] at d0 d1 d2 d3
      have hadc : ad.block ≠ bc:=by omega
      have lk3 : ¬ (k : Int) < 3:=by simp at hk2;omega
      have HSH:=zh (fun W => r11_shaped ⟨[],0,0,0,0,1,tn,un,xn,0,0,0,0,0⟩ W)
      rw [shapedR_pat] at HSH
      dsimp only at hkk
      generalize patOk tn un xn = pb at *
      have HKK:=zh hkk
      clear HLN hkk hr2 HR HS2 hlt hk hl0 hlen lk hk2
      dsimp only [List.length_cons,List.length_nil,Nat.zero_add,calV] at *
      clear g0 g1 g2 g3 g4 g9 g10 g11 g12 g13 fu0 fu1 fu2 fu3 fu4 fu9 fu10 fu11 fu12 fu13 n0 fz0 n1 fz1 n2 fz2 n3 fz3 n4 fz4 n5 fz5 n6 fz6 n7 fz7 n8 fz8 n9 fz9 n10 fz10 n11 fz11 n12 fz12 n13 fz13 lz
      go_wp2_with fail
      replace e1:=(World.cell?_setCell_other wr ⟨bc,5,none⟩ ⟨ad.block,ad.off + 1,none⟩ (.int .i64 1) (fun e => hadc (congrArg Addr.block e).symm)).trans e1
      replace a1:=(World.cell?_setCell_other wr ⟨bc,5,none⟩ ⟨ad.block,ad.off + 4 + 1,none⟩ (.int .i64 1) (fun e => hadc (congrArg Addr.block e).symm)).trans a1
      replace d1:=(World.cell?_setCell_other wr ⟨bc,5,none⟩ ⟨ad.block,ad.off + 8 + 1,none⟩ (.int .i64 1) (fun e => hadc (congrArg Addr.block e).symm)).trans d1
      clear e0 e2 e3 a0 a2 a3 d0 d2 d3
      go_region
      all_goals (
        go_wp2_with fail
        generalize hWg : World.drew _ = W9
        have HK9 : Hid (KeyW w W9 bc ⟨cnm,ckd,cdy,cmo,csh,1,tn,un,xn,ccy,cex,cfi,cla,cpo⟩ [112,101,114,105,111,100,115] kp (some ad) 3 cw false Ak kl ck) := zh (by
          rw [← hWg]
          exact ((((HKW.out.put 5 _ _ (HKW.out.cal.shape 1)).put 6 _ _ ((HKW.out.put 5 _ _ (HKW.out.cal.shape 1)).cal.p0 tn)).put 7 _ _ (((HKW.out.put 5 _ _ (HKW.out.cal.shape 1)).put 6 _ _ ((HKW.out.put 5 _ _ (HKW.out.cal.shape 1)).cal.p0 tn)).cal.p1 un)).put 8 _ _ ((((HKW.out.put 5 _ _ (HKW.out.cal.shape 1)).put 6 _ _ ((HKW.out.put 5 _ _ (HKW.out.cal.shape 1)).cal.p0 tn)).put 7 _ _ (((HKW.out.put 5 _ _ (HKW.out.cal.shape 1)).put 6 _ _ ((HKW.out.put 5 _ _ (HKW.out.cal.shape 1)).cal.p0 tn)).cal.p1 un)).cal.p2 xn)).keep ((Below.refl _ _).drew))
        clear hWg HKW HBW e1 a1 d1 g5 g6 g7 g8 fu5 fu6 fu7 fu8 ly
        have hcal:=HK9.out.cal
        dsimp only [CalBlk] at hcal
        obtain ⟨g0,g1,g2,g3,g4,g5,g6,g7,g8,g9,g10,g11,g12,g13⟩:=cells14 hcal
        have ly:=(Array.getElem?_eq_some_iff.1 hcal).1
        clear hcal
        refine wp_region_held_drew (S:=(fun X => (∀ j,X.cell? ⟨bc,j,none⟩ = W9.cell? ⟨bc,j,none⟩) ∧ Below bc w X)) (by kernel_rfl) ?_ (fun hHeld => ?_)
        · exact ⟨fun _ => rfl,Below.drew (by rw [← HBC.out];exact HK9.out.below)⟩
        refine wpAnyH_take (i:=0) (v:=?_) rfl (by kernel_rfl) (by kernel_rfl) (by kernel_rfl) (fun _ _ _ h => h) (Or.inl ⟨by rfl,?_⟩) hHeld ?_;rotate_left;(focus (intro w hSw;(try dsimp only at hSw);go_simp;try with_reducible rfl));try simp only [Act.put,List.setIfInBounds_toArray,List.set_cons_succ,List.set_cons_zero,List.getElem_toArray,List.getElem_cons_succ,List.getElem_cons_zero]
        refine wpAnyH_take (i:=1) (v:=?_) rfl (by kernel_rfl) (by kernel_rfl) (by kernel_rfl) (fun _ _ _ h => h) (Or.inl ⟨by rfl,?_⟩) hHeld ?_;rotate_left;(focus (intro w hSw;(try dsimp only at hSw);go_simp;try with_reducible rfl));try simp only [Act.put,List.setIfInBounds_toArray,List.set_cons_succ,List.set_cons_zero,List.getElem_toArray,List.getElem_cons_succ,List.getElem_cons_zero]
        refine wpAnyH_take (i:=2) (v:=?_) rfl (by kernel_rfl) (by kernel_rfl) (by kernel_rfl) (fun _ _ _ h => h) (Or.inl ⟨by rfl,?_⟩) hHeld ?_;rotate_left;(focus (intro w hSw;(try dsimp only at hSw);go_simp;try with_reducible rfl));try simp only [Act.put,List.setIfInBounds_toArray,List.set_cons_succ,List.set_cons_zero,List.getElem_toArray,List.getElem_cons_succ,List.getElem_cons_zero]
        refine wpAnyH_take (i:=3) (v:=?_) rfl (by kernel_rfl) (by kernel_rfl) (by kernel_rfl) (fun _ _ _ h => h) (Or.inl ⟨by rfl,?_⟩) hHeld ?_;rotate_left;(focus (intro w hSw;(try dsimp only at hSw);go_simp;try with_reducible rfl));try simp only [Act.put,List.setIfInBounds_toArray,List.set_cons_succ,List.set_cons_zero,List.getElem_toArray,List.getElem_cons_succ,List.getElem_cons_zero]
        refine wpAnyH_take (i:=4) (v:=?_) rfl (by kernel_rfl) (by kernel_rfl) (by kernel_rfl) (fun _ _ _ h => h) (Or.inl ⟨by rfl,?_⟩) hHeld ?_;rotate_left;(focus (intro w hSw;(try dsimp only at hSw);go_simp;try with_reducible rfl));try simp only [Act.put,List.setIfInBounds_toArray,List.set_cons_succ,List.set_cons_zero,List.getElem_toArray,List.getElem_cons_succ,List.getElem_cons_zero]
        refine wpAnyH_take (i:=5) (v:=?_) rfl (by kernel_rfl) (by kernel_rfl) (by kernel_rfl) (fun _ _ _ h => h) (Or.inl ⟨by rfl,?_⟩) hHeld ?_;rotate_left;(focus (intro w hSw;(try dsimp only at hSw);go_simp;try with_reducible rfl));try simp only [Act.put,List.setIfInBounds_toArray,List.set_cons_succ,List.set_cons_zero,List.getElem_toArray,List.getElem_cons_succ,List.getElem_cons_zero]
        refine wpAnyH_ready (rs:=[6]) (by kernel_rfl) (by simp) ?_
        refine AllReadyH.cons rfl (fun K hK => ?_) ?_
        · go_simp
          refine Calls.mono (HSH.out _) ?_
          rintro e w5 ⟨rfl,hb5⟩
          have hK5:=HK9.out.keep (show Below W9.heap.size W9 w5 from ⟨hb5.os,hb5.tape,hb5.output,hb5.size,hb5.block⟩)
          have hS5 : (∀ j,w5.cell? ⟨bc,j,none⟩ = W9.cell? ⟨bc,j,none⟩) ∧ Below bc w w5:=⟨fun j => (show Below W9.heap.size W9 w5 from ⟨hb5.os,hb5.tape,hb5.output,hb5.size,hb5.block⟩).cell (p:=⟨bc,j,none⟩) ly,by rw [← HBC.out];exact hK5.below⟩
          have hres:=hK5.res
          dsimp only [CalBlk,calZ] at hres
          obtain ⟨n0,n1,n2,n3,n4,n5,n6,n7,n8,n9,n10,n11,n12,n13⟩:=cells14 hres
          obtain ⟨fz0,fz1,fz2,fz3,fz4,fz5,fz6,fz7,fz8,fz9,fz10,fz11,fz12,fz13⟩:=unf14 hres
          have lz:=(Array.getElem?_eq_some_iff.1 hres).1
          clear hres hb5
          refine hK.out _ _ ?_ (fun hHeld => ?_)
          · exact hS5
          clear hK K
          try simp only [Act.put,List.setIfInBounds_toArray,List.set_cons_succ,List.set_cons_zero,List.getElem_toArray,List.getElem_cons_succ,List.getElem_cons_zero]
          refine wpAnyH_ready (rs:=[7]) (by kernel_rfl) (by simp) ?_
          refine AllReadyH.cons rfl (fun K hK => ?_) ?_
          · go_simp
            refine hK.out _ _ ?_ (fun hHeld => ?_)
            · exact ⟨fun j => (cellK (bc + 1 + 1) ⟨bc,j,none⟩ (by show bc ≠ _;omega) [(0, .string ⟨cnm.toArray⟩),(1, .int .i64 ckd),(2, .int .i64 cdy),(3, .int .i64 cmo),(4, .int .i64 csh),(5, .int .i64 1),(6, .int .i64 tn),(7, .int .i64 un),(8, .int .i64 xn),(9, .int .i64 ccy),(10, .int .i64 cex),(11, .int .i64 cfi),(12, .int .i64 cla),(13, .int .i64 cpo)] w5).trans (hS5.1 j),belowK (bc + 1 + 1) (by omega) [(0, .string ⟨cnm.toArray⟩),(1, .int .i64 ckd),(2, .int .i64 cdy),(3, .int .i64 cmo),(4, .int .i64 csh),(5, .int .i64 1),(6, .int .i64 tn),(7, .int .i64 un),(8, .int .i64 xn),(9, .int .i64 ccy),(10, .int .i64 cex),(11, .int .i64 cfi),(12, .int .i64 cla),(13, .int .i64 cpo)] _ hS5.2⟩
            clear hK K
            try simp only [Act.put,List.setIfInBounds_toArray,List.set_cons_succ,List.set_cons_zero,List.getElem_toArray,List.getElem_cons_succ,List.getElem_cons_zero]
            refine wpAnyH_take (i:=8) (v:=?_) rfl (by kernel_rfl) (by kernel_rfl) (by kernel_rfl) (fun _ _ _ h => h) (Or.inl ⟨by rfl,?_⟩) hHeld ?_;rotate_left;(focus (intro w hSw;(try dsimp only at hSw);go_simp;try with_reducible rfl));try simp only [Act.put,List.setIfInBounds_toArray,List.set_cons_succ,List.set_cons_zero,List.getElem_toArray,List.getElem_cons_succ,List.getElem_cons_zero]
            refine wpAnyH_done (by kernel_rfl) ?_ _
            go_wp2_with fail
            refine bodyPost_ret (v:=.tuple #[.agg #[.string ⟨cnm.toArray⟩, .int .i64 ckd, .int .i64 cdy, .int .i64 cmo, .int .i64 csh, .int .i64 1, .int .i64 tn, .int .i64 un, .int .i64 xn, .int .i64 ccy, .int .i64 cex, .int .i64 cfi, .int .i64 cla, .int .i64 cpo], .bool pb]) (by simp [results,Try.results25,go_sem, *]) rfl ?_
            rw [← HQ.out,HKK.out]
            unfold KeyPost
            refine ⟨⟨cnm,ckd,cdy,cmo,csh,1,tn,un,xn,ccy,cex,cfi,cla,cpo⟩,rfl,fun _ => rfl,?_⟩
            rw [HBC.out]
            exact hHeld.2
          exact AllReadyH.nil
        exact AllReadyH.nil)
end
section
set_option maxRecDepth 100000
open Go.RowKit
open Go.Joins renaming cell_of_block → zb, unfrozen_of_block → zu
open Go.Lib renaming hid → zh
set_option maxHeartbeats 16000000 in
theorem key_per_len (c : CalL) (kp : Int) (ws : List WordL) (A : Option Addr) (cw : Nat) (Ak : Option Addr) (kl ck : Nat) (w : World) (B : Nat) (hB : B ≤ w.heap.size) (hne : ws ≠ []) (hlen : ws.length ≤ 100000) (hr : ReadsM w (· < B) 4 A ws.length (ws.flatMap WordL.cells)) (hall : ws.all (·.num) = true) (h1 : ws.length ≠ 1) (h3 : ws.length ≠ 3) :
    Calls Try.prog 25 #[calV c, .agg #[.string ⟨b_periods.toArray⟩, .int .i64 kp, .slice A ws.length cw, .bool false, .slice Ak kl ck]] w (KeyPost (keyK b_periods c ws).1 (keyK b_periods c ws).2 w):=by
  have HK:=zh (keyW_start w c b_periods kp A ws.length cw false Ak kl ck)
  have HR:=zh hr
  have HALL:=zh hall
  have hl0 : ((ws.length : Int) == 0) = false:=beq_false_of_ne (by have:=List.length_pos_iff.2 hne;omega)
  generalize hQ : KeyPost (keyK b_periods c ws).1 (keyK b_periods c ws).2 w = Q
  have HQ:=zh hQ
  clear hQ hr hne hall
  unfold calO nodO b_periods at HK
  obtain ⟨cnm,ckd,cdy,cmo,csh,csp,cp0,cp1,cp2,ccy,cex,cfi,cla,cpo⟩:=c
  have HBP:=zh (show b_periods = b_periods from rfl)
  dsimp only [calV,calZ] at HK ⊢
  rw [show (b_periods.toArray : Array UInt8) = #[112,101,114,105,111,100,115] from rfl]
  go_enter Try.func25,Try.ntmps25
  go_upto_region 1 with fail
  (generalize World.alloc _ _ = W at HK ⊢;obtain ⟨hbw,hlow,hcal,hnode,hres⟩:=HK.out;generalize hbc : w.heap.size = bc at hlow hcal hnode hres hbw hB HK ⊢;have HBC:=zh hbc;have HBW:=zh hbw)
  dsimp only [nodO] at hnode
  have m0:=zb hnode 0;have m1:=zb hnode 1;have m2:=zb hnode 2;have m3:=zb hnode 3;have m4:=zb hnode 4
  have hBb : B ≤ bc:=hB
  clear hbw hcal hres hnode hlow hbc hB
  go_wp2_with fail
  go_loopw [50] (fun i wr => ∃ k : Nat,k ≤ ws.length ∧ i = .int .i64 k ∧ KeyW w wr bc ⟨cnm,ckd,cdy,cmo,csh,csp,cp0,cp1,cp2,ccy,cex,cfi,cla,cpo⟩ [112,101,114,105,111,100,115] kp A ws.length cw false Ak kl ck ∧ ws.all (·.num) = (ws.drop k).all (·.num)) (fun i _ => ws.length - (intOf i).toNat)
  case atStart => exact ⟨0,Nat.zero_le _,rfl,HK.out,rfl⟩
  case round =>
    clear m0 m1 m2 m3 m4 HK HBW
    obtain ⟨k,hk,rfl,hkw,hs⟩:=hrel
    have hb:=hkw.below
    have hbs:=hb.size
    have hlow:=hkw.low
    have hBw : B ≤ w.heap.size:=by rw [HBC.out];exact hBb
    have hk' : ∀ p : Addr,p.block < B → wr.cell? p = w.cell? p:=fun p hp => hb.cell (by omega)
    by_cases hlt : k < ws.length
    · obtain ⟨t,ht⟩ : ∃ t,ws[k]? = some t := ⟨_,List.getElem?_eq_getElem hlt⟩
      obtain ⟨ad,rfl,hadb,d0,d1,d2,d3⟩:=word_cells (HR.out.keep (fun _ h => h) hk') k t ht
      rw [all_num_drop ws k t ht] at hs
      have lk : (k : Int) < ws.length:=by omega
      have lk0 : (0 : Int) ≤ k:=by omega
      have w1f : IntKind.i64.wrap ((k : Int) + 1) = (k : Int) + 1:=by rw [IntKind.wrap_i64];omega
      obtain ⟨tb,tn,ts,tp⟩:=t
      dsimp only at *
      cases tb
      · exact absurd (HALL.out.symm.trans hs) (by simp)
      · have HS := zh (show ws.all (·.num) = (ws.drop (k + 1)).all (·.num) by rw [hs]; simp)
        have HKW:=zh hkw
        clear hs hkw ht hk' hb hbs hlow
        go_wp2_with fail
        exact ⟨⟨k + 1,by omega,by go_num,HKW.out.keep (below_cal _ _),HS.out⟩,by simp [intOf];omega⟩
    · have lk : ¬ (k : Int) < ws.length := by omega
      have hk2 : k = ws.length:=by omega
      have hs2 : ws.all (·.num) = true:=by rw [hs,hk2];simp
      have HS2:=zh hs2
      have hr2:=HR.out.keep (fun _ h => h) hk'
      rw [HBC.out] at hb
      have HBW:=zh hb
      have hc2:=hkw.cal
      have hres:=hkw.res
      dsimp only [CalBlk,calZ] at hc2 hres
      have hcal:=hc2
      clear hc2
      obtain ⟨g0,g1,g2,g3,g4,g5,g6,g7,g8,g9,g10,g11,g12,g13⟩:=cells14 hcal
      obtain ⟨n0,n1,n2,n3,n4,n5,n6,n7,n8,n9,n10,n11,n12,n13⟩:=cells14 hres
      have ly:=(Array.getElem?_eq_some_iff.1 hcal).1
      have lz:=(Array.getElem?_eq_some_iff.1 hres).1
      obtain ⟨fu0,fu1,fu2,fu3,fu4,fu5,fu6,fu7,fu8,fu9,fu10,fu11,fu12,fu13⟩:=unf14 hcal
      obtain ⟨fz0,fz1,fz2,fz3,fz4,fz5,fz6,fz7,fz8,fz9,fz10,fz11,fz12,fz13⟩:=unf14 hres
      have HKW:=zh hkw
      clear hs hs2 hcal hres hkw hb hk'
      have l1 : ((ws.length : Int) == 1) = false:=beq_false_of_ne (by omega)
      have l3 : ((ws.length : Int) != 3) = true:=by simp;omega
      have HKK:=zh (perK_len ⟨cnm,ckd,cdy,cmo,csh,csp,cp0,cp1,cp2,ccy,cex,cfi,cla,cpo⟩ ws HS2.out h1 h3)
      clear h1 h3 HS2 HR hr2 hk2
      go_wp2_with fail
      refine bodyPost_ret (v:=.tuple #[.agg #[.string ⟨cnm.toArray⟩, .int .i64 ckd, .int .i64 cdy, .int .i64 cmo, .int .i64 csh, .int .i64 csp, .int .i64 cp0, .int .i64 cp1, .int .i64 cp2, .int .i64 ccy, .int .i64 cex, .int .i64 cfi, .int .i64 cla, .int .i64 cpo], .bool false]) (by simp [results,Try.results25,go_sem, *]) rfl ?_
      rw [← HQ.out,HKK.out]
      unfold KeyPost
      refine ⟨⟨cnm,ckd,cdy,cmo,csh,csp,cp0,cp1,cp2,ccy,cex,cfi,cla,cpo⟩,rfl,fun h => Bool.noConfusion h,?_⟩
      rw [HBC.out]
      exact belowK (bc + 1 + 1) (by omega) [(0, .string ⟨cnm.toArray⟩),(1, .int .i64 ckd),(2, .int .i64 cdy),(3, .int .i64 cmo),(4, .int .i64 csh),(5, .int .i64 csp),(6, .int .i64 cp0),(7, .int .i64 cp1),(8, .int .i64 cp2),(9, .int .i64 ccy),(10, .int .i64 cex),(11, .int .i64 cfi),(12, .int .i64 cla),(13, .int .i64 cpo)] _ HBW.out
end
section
open Go.RowKit
def wZ : WordL:=⟨false,0,[],0⟩
theorem keyK_named (c : CalL) (t : WordL) (r : List WordL) : keyK b_named c (t :: r) = ({ c with shift := placeW shifts t - 1 },decide (0 < placeW shifts t) && decide ((t :: r).length = 1)) := by
  unfold keyK;dsimp only;rw [if_neg (by decide),if_pos rfl];rfl
theorem keyK_pay (c : CalL) (t : WordL) (r : List WordL) : keyK b_pay c (t :: r) = ({ c with shape := 3,cycle := t.n },decide ((t :: r).length = 1) && t.num && cycOk t.n) := by
  unfold keyK;dsimp only;rw [if_neg (by decide),if_neg (by decide),if_pos rfl];rfl
theorem keyK_extra (c : CalL) (t : WordL) (r : List WordL) : keyK b_extra c (t :: r) = ({ c with extra := t.n },decide ((t :: r).length = 1) && t.num && tween t.n 1 52) := by
  unfold keyK;dsimp only;rw [if_neg (by decide),if_neg (by decide),if_neg (by decide),if_pos rfl];rfl
theorem keyK_serve (c : CalL) (t : WordL) (r : List WordL) : keyK b_serve c (t :: r) = (if (t :: r).all (·.num) ∧ (t :: r).length = 2 then ({ c with first := t.n,last := ((t :: r).getD 1 wZ).n },true) else (c,false)) := by
  unfold keyK;dsimp only;rw [if_neg (by decide),if_neg (by decide),if_neg (by decide),if_neg (by decide),if_pos rfl];rfl
theorem keyK_compare (c : CalL) (t : WordL) (r : List WordL) : keyK b_compare c (t :: r) = ({ c with policy := placeW pols t },decide (0 < placeW pols t) && decide ((t :: r).length = 1)) := by
  unfold keyK;dsimp only;rw [if_neg (by decide),if_neg (by decide),if_neg (by decide),if_neg (by decide),if_neg (by decide)];rfl
/-- A key's words of one at the least,no end's. -/
theorem key_go (key : Bytes) (hk : key = b_periods ∨ key = b_named ∨ key = b_pay ∨ key = b_extra ∨ key = b_serve ∨ key = b_compare) (c : CalL) (kp : Int) (ws : List WordL) (A : Option Addr) (cw : Nat) (Ak : Option Addr) (kl ck : Nat) (w : World) (B : Nat) (hB : B ≤ w.heap.size) (hne : ws ≠ []) (hlen : ws.length ≤ 100000) (hr : ReadsM w (· < B) 4 A ws.length (ws.flatMap WordL.cells)) :
    Calls Try.prog 25 #[calV c, .agg #[.string ⟨key.toArray⟩, .int .i64 kp, .slice A ws.length cw, .bool false, .slice Ak kl ck]] w (KeyPost (keyK key c ws).1 (keyK key c ws).2 w):=by
  rcases hk with rfl | hk
  · cases hall : ws.all (·.num)
    · exact key_per_no c kp ws A cw Ak kl ck w B hB hne hlen hr hall
    · by_cases h1 : ws.length = 1
      · exact key_per_1 c kp ws A cw Ak kl ck w B hB hne hlen hr hall h1
      · by_cases h3 : ws.length = 3
        · exact key_per_3 c kp ws A cw Ak kl ck w B hB hne hlen hr hall h3
        · exact key_per_len c kp ws A cw Ak kl ck w B hB hne hlen hr hall h1 h3
  · match ws,hne,hlen,hr with
    | t :: r,_,hlen,hr =>
      obtain ⟨ad,rfl,hadb,e0,e1,e2,e3⟩:=word0 hr
      have hlt : ad.block < w.heap.size:=by omega
      obtain ⟨num,n,s,pos⟩:=t
      have hrl : r.length ≤ 100000:=by simp at hlen;omega
      rcases hk with rfl | rfl | rfl | rfl | rfl
      · -- named
        rw [keyK_named]
        by_cases hr0 : r = []
        · subst hr0
          rcases shifts_same ⟨num,n,s,pos⟩ with ⟨h1,h2⟩ | ⟨h1,h2⟩ | ⟨h1,h2⟩
          · rw [h2];exact key_namedz c kp num n s pos ad cw Ak kl ck w h1 hlt e0 e1 e2 e3 _
          · rw [h2];exact key_namedok1 c kp num n s pos ad cw Ak kl ck w h1 hlt e0 e1 e2 e3
          · rw [h2];exact key_namedok2 c kp num n s pos ad cw Ak kl ck w h1 hlt e0 e1 e2 e3
        · have hl : r.length ≠ 0 := fun h => hr0 (List.length_eq_zero_iff.1 h)
          rw [show decide ((⟨num,n,s,pos⟩ :: r : List WordL).length = 1) = false from decide_eq_false (by simp;exact hr0),Bool.and_false]
          rcases shiftsR_rng ⟨num,n,s,pos⟩ with h | h | h
          · exact key_named0 c kp num n s pos r.length ad cw Ak kl ck w hl hrl h hlt e0 e1 e2 e3 _
          · exact key_named1 c kp num n s pos r.length ad cw Ak kl ck w hl hrl h hlt e0 e1 e2 e3 _
          · exact key_named2 c kp num n s pos r.length ad cw Ak kl ck w hl hrl h hlt e0 e1 e2 e3 _
      · -- pay
        rw [keyK_pay]
        by_cases hr0 : r = []
        · subst hr0
          cases num
          · exact key_pay2 c kp false n s pos ad cw Ak kl ck w rfl hlt e0 e1 e2 e3 _
          · by_cases h1 : n = 1
            · subst h1;exact key_payok1 c kp true 1 s pos ad cw Ak kl ck w rfl rfl hlt e0 e1 e2 e3
            · by_cases h2 : n = 2
              · subst h2;exact key_payok2 c kp true 2 s pos ad cw Ak kl ck w rfl rfl hlt e0 e1 e2 e3
              · by_cases h4 : n = 4
                · subst h4;exact key_payok4 c kp true 4 s pos ad cw Ak kl ck w rfl rfl hlt e0 e1 e2 e3
                · have e : cycOk n = false := by unfold cycOk; rw [decide_eq_false h1,decide_eq_false h2,decide_eq_false h4]; rfl
                  rw [e]
                  exact key_pay3 c kp true n s pos ad cw Ak kl ck w rfl (beq_false_of_ne h1) (beq_false_of_ne h2) (beq_false_of_ne h4) hlt e0 e1 e2 e3 _
        · have hl : r.length ≠ 0 := fun h => hr0 (List.length_eq_zero_iff.1 h)
          rw [show decide ((⟨num,n,s,pos⟩ :: r : List WordL).length = 1) = false from decide_eq_false (by simp;exact hr0),Bool.false_and,Bool.false_and]
          exact key_pay1 c kp num n s pos r.length ad cw Ak kl ck w hl hrl hlt e0 e1 e2 e3 _
      · -- extra
        rw [keyK_extra]
        by_cases hr0 : r = []
        · subst hr0
          cases num
          · exact key_extra2 c kp false n s pos ad cw Ak kl ck w rfl hlt e0 e1 e2 e3 _
          · unfold tween
            rcases Int.lt_or_le n 1 with h1 | h1
            · rw [decide_eq_false (show ¬ 1 ≤ n by omega)]
              exact key_extra3 c kp true n s pos ad cw Ak kl ck w rfl h1 hlt e0 e1 e2 e3 _
            · rcases Int.lt_or_le 52 n with h2 | h2
              · rw [decide_eq_false (show ¬ n ≤ 52 by omega),Bool.and_false]
                exact key_extra4 c kp true n s pos ad cw Ak kl ck w rfl h1 h2 hlt e0 e1 e2 e3 _
              · rw [decide_eq_true h1,decide_eq_true h2]
                exact key_extraok c kp true n s pos ad cw Ak kl ck w rfl h1 h2 hlt e0 e1 e2 e3
        · have hl : r.length ≠ 0 := fun h => hr0 (List.length_eq_zero_iff.1 h)
          rw [show decide ((⟨num,n,s,pos⟩ :: r : List WordL).length = 1) = false from decide_eq_false (by simp;exact hr0),Bool.false_and,Bool.false_and]
          exact key_extra1 c kp num n s pos r.length ad cw Ak kl ck w hl hrl hlt e0 e1 e2 e3 _
      · -- serve
        rw [keyK_serve]
        match r,hr,hrl with
        | [],hr,hrl =>
          rw [if_neg (by simp)]
          exact key_serve1 c kp num n s pos 0 ad cw Ak kl ck w (by decide) (by decide) hlt e0 e1 e2 e3 _
        | [u],hr,hrl =>
          obtain ⟨un,ui,us,up⟩:=u
          obtain ⟨a0,a1,a2,a3⟩:=word1 (ws:=[⟨num,n,s,pos⟩,⟨un,ui,us,up⟩]) hr 1 ⟨un,ui,us,up⟩ rfl (by decide)
          cases num
          · rw [if_neg (by simp)]
            exact key_serve2 c kp false n s pos ad cw Ak kl ck w rfl hlt e0 e1 e2 e3 _
          · cases un
            · rw [if_neg (by simp)]
              exact key_serve3 c kp true n s pos false ui us up ad cw Ak kl ck w rfl rfl hlt e0 e1 e2 e3 a0 a1 a2 a3 _
            · rw [if_pos (by simp)]
              exact key_serveok c kp true n s pos true ui us up ad cw Ak kl ck w rfl rfl hlt e0 e1 e2 e3 a0 a1 a2 a3
        | u :: x :: r,hr,hrl =>
          rw [if_neg (by simp)]
          exact key_serve1 c kp num n s pos (r.length + 1 + 1) ad cw Ak kl ck w (by omega) (by simpa using hrl) hlt e0 e1 e2 e3 _
      · -- compare
        rw [keyK_compare]
        have hp:=place_rng pols ⟨num,n,s,pos⟩
        by_cases hr0 : r = []
        · subst hr0
          by_cases h0 : placeW pols ⟨num,n,s,pos⟩ = 0
          · rw [h0];exact key_compare2 c kp num n s pos ad cw Ak kl ck w h0 hlt e0 e1 e2 e3 _
          · have h1 : 0 < placeW pols ⟨num,n,s,pos⟩ := by omega
            rw [decide_eq_true h1]
            exact key_compareok c kp num n s pos ad cw Ak kl ck w _ h1 rfl hlt e0 e1 e2 e3
        · have hl : r.length ≠ 0 := fun h => hr0 (List.length_eq_zero_iff.1 h)
          rw [show decide ((⟨num,n,s,pos⟩ :: r : List WordL).length = 1) = false from decide_eq_false (by simp;exact hr0),Bool.and_false]
          exact key_compare1 c kp num n s pos r.length ad cw Ak kl ck w hl hrl _ rfl hlt e0 e1 e2 e3 _
theorem keyK_okR (key : Bytes) (c d : CalL) (ws : List WordL) : (keyK key c ws).2 = (keyK key d ws).2 := by
  unfold keyK
  dsimp only
  repeat' split
  all_goals rfl
/-- key,of an item whose name is a key's. -/
theorem r11_key (nm : Bytes) (k : NodeL) (cs : List Value) (c : CalL) (w : World) (B : Nat) (hB : B ≤ w.heap.size) (hn : NodeOk w (· < B) k cs) (hc : k.name = b_end → c = calN nm) (hkn : keysL.contains k.name = true) (hlen : k.words.length ≤ 100000) :
    Calls Try.prog 25 #[calV c, .agg cs.toArray] w (KeyPost (putK k.name c k.words).1 (keyOkL nm k) w):=by
  obtain ⟨kn,kp,ws,kb,kk⟩:=k
  simp only [NodeOk] at hn
  obtain ⟨Aw,cw,Ak,ck,kcs,rfl,_,_,hrw,_,_⟩:=hn
  unfold keyOkL
  dsimp only [NodeL.name,NodeL.words,NodeL.block] at *
  cases kb
  · by_cases hw : ws = []
    · subst hw
      exact key_bare c kn kp Aw cw Ak kk.length ck w _
    · have hwe : ws.isEmpty = false := by cases ws with | nil => exact absurd rfl hw | cons a r => rfl
      rw [hwe,Bool.false_or,Bool.false_or,Bool.not_not]
      by_cases he : kn = b_end
      · subst he
        rw [hc rfl]
        have e : putK b_end (calN nm) ws = endK nm ws:=if_pos rfl
        rw [e]
        exact key_endR nm kp ws Aw cw Ak kk.length ck w B hB hw hlen hrw
      · have e1 : putK kn c ws = keyK kn c ws := if_neg he
        have e2 : putK kn (calN nm) ws = keyK kn (calN nm) ws:=if_neg he
        rw [e1,e2,keyK_okR kn (calN nm) c ws]
        refine key_go kn ?_ c kp ws Aw cw Ak kk.length ck w B hB hw hlen hrw
        simp only [List.contains_iff_mem,keysL,List.mem_cons,List.not_mem_nil,or_false] at hkn
        rcases hkn with h | h | h | h | h | h | h
        · exact absurd h he
        · exact .inl h
        · exact .inr (.inl h)
        · exact .inr (.inr (.inl h))
        · exact .inr (.inr (.inr (.inl h)))
        · exact .inr (.inr (.inr (.inr (.inl h))))
        · exact .inr (.inr (.inr (.inr (.inr h))))
  · exact key_block c kn kp Aw ws.length cw Ak kk.length ck w _
end
end Go.Proofs.Ytpkhocbohhpmbaa
