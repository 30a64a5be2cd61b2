/- Layer 11 (field), the reference: the walk of key: the key compare. Written by wip/gen_key.py. Then: Layer 11 (field), the reference: the walk of key: the key serve. -/
import Derived.Test.YtpkhocbohhpmbaaPkR30
set_option linter.unusedVariables false
set_option linter.unusedSimpArgs false
set_option maxRecDepth 100000
namespace Go.Proofs.Ytpkhocbohhpmbaa
section
open Go.RowKit
open Go.Joins renaming cell_of_block → zb, unfrozen_of_block → zu
open Go.Lib renaming hid → zh
set_option maxHeartbeats 16000000 in
theorem key_compare1 (c : CalL) (kp : Int) (num : Bool) (n : Int) (s : Bytes) (pos : Int) (rl : Nat) (ad : Addr) (cw : Nat) (Ak : Option Addr) (kl ck : Nat) (w : World) (hr : rl ≠ 0) (hrb : rl ≤ 100000) (p : Int) (hp : placeW pols ⟨num,n,s,pos⟩ = p) (hlt : ad.block < w.heap.size)
    (e0 : w.cell? ad = some (.bool num)) (e1 : w.cell? ⟨ad.block,ad.off + 1,none⟩ = some (.int .i64 n)) (e2 : w.cell? ⟨ad.block,ad.off + 2,none⟩ = some (.string ⟨s.toArray⟩)) (e3 : w.cell? ⟨ad.block,ad.off + 3,none⟩ = some (.int .i64 pos)) (d : CalL) :
    Calls Try.prog 25 #[calV c, .agg #[.string ⟨b_compare.toArray⟩, .int .i64 kp, .slice (some ad) (rl + 1) cw, .bool false, .slice Ak kl ck]] w (KeyPost d false w):=by
  have HK:=zh (keyW_start w c b_compare kp (some ad) (rl + 1) cw false Ak kl ck)
  have hl1 : ((rl : Int) + 1 == 1) = false:=beq_false_of_ne (by omega)
  have HPL:=zh (fun W g c h => r11_place pols ⟨num,n,s,pos⟩ g c W (by decide) h)
  rw [hp] at HPL
  clear hp
  generalize hQ : KeyPost d false w = Q
  have HQ:=zh hQ
  clear hQ
  unfold calO nodO b_compare at HK
  unfold b_compare
  obtain ⟨cnm,ckd,cdy,cmo,csh,csp,cp0,cp1,cp2,ccy,cex,cfi,cla,cpo⟩:=c
  dsimp only [calV,calZ] at HK ⊢
  go_enter Try.func25,Try.ntmps25
  go_upto_region 1 with fail
  (generalize World.alloc _ _ = W at HK ⊢;obtain ⟨hbw,hlow,hcal,hnode,hres⟩:=HK.out;generalize hbc : w.heap.size = bc at hlt hlow hcal hnode hres hbw HK ⊢;have HBC:=zh hbc;have HBW:=zh hbw)
  replace e0:=(hbw.cell (p:=ad) hlt).trans e0
  replace e1:=(hbw.cell (p:=⟨ad.block,ad.off + 1,none⟩) hlt).trans e1
  replace e2:=(hbw.cell (p:=⟨ad.block,ad.off + 2,none⟩) hlt).trans e2
  replace e3:=(hbw.cell (p:=⟨ad.block,ad.off + 3,none⟩) hlt).trans e3
  have hadc : ad.block ≠ bc:=by omega
  have hadz : ad.block ≠ bc + 1 + 1:=by omega
  dsimp only [nodO] at hnode
  have m0:=zb hnode 0;have m1:=zb hnode 1;have m2:=zb hnode 2;have m3:=zb hnode 3;have m4:=zb hnode 4
  have hl0 : bc + 1 + 1 < W.heap.size:=hres.lt
  have HSB:=zh (show StrBlk (W.alloc (.cells #[.string ⟨#[115,116,97,114,116]⟩, .string ⟨#[115,104,105,102,116]⟩, .string ⟨#[100,114,111,112]⟩, .string ⟨#[99,108,97,109,112]⟩] 9)) W.heap.size pols from ⟨_,heap_alloc_new W _⟩)
  have hadW : ad.block < W.heap.size:=by omega
  have z0:=(World.cell?_alloc_lt W (.cells #[.string ⟨#[115,116,97,114,116]⟩, .string ⟨#[115,104,105,102,116]⟩, .string ⟨#[100,114,111,112]⟩, .string ⟨#[99,108,97,109,112]⟩] 9) ad hadW).trans e0
  have z1:=(World.cell?_alloc_lt W (.cells #[.string ⟨#[115,116,97,114,116]⟩, .string ⟨#[115,104,105,102,116]⟩, .string ⟨#[100,114,111,112]⟩, .string ⟨#[99,108,97,109,112]⟩] 9) ⟨ad.block,ad.off + 1,none⟩ hadW).trans e1
  have z2:=(World.cell?_alloc_lt W (.cells #[.string ⟨#[115,116,97,114,116]⟩, .string ⟨#[115,104,105,102,116]⟩, .string ⟨#[100,114,111,112]⟩, .string ⟨#[99,108,97,109,112]⟩] 9) ⟨ad.block,ad.off + 2,none⟩ hadW).trans e2
  have z3:=(World.cell?_alloc_lt W (.cells #[.string ⟨#[115,116,97,114,116]⟩, .string ⟨#[115,104,105,102,116]⟩, .string ⟨#[100,114,111,112]⟩, .string ⟨#[99,108,97,109,112]⟩] 9) ⟨ad.block,ad.off + 3,none⟩ hadW).trans e3
  clear hbw hcal hres hnode hbc hlow
  go_wp2_with fail
  refine (HPL.out _ _ _ HSB.out).mono ?_
  rintro e w1 ⟨rfl,hb1⟩
  replace HK:=zh (HK.out.keep ((below_cal W _).trans (hb1.mono (below_cal W _).size)))
  obtain ⟨hbw,hlow,hcal,hnode,hres⟩:=HK.out
  clear HBW hb1 e0 e1 e2 e3 z0 z1 z2 z3 m0 m1 m2 m3 m4 hl0
  have HBW : Hid (Below bc w w1):=zh (by rw [← HBC.out];exact hbw)
  dsimp only [nodO] at hnode
  dsimp only [CalBlk,calZ] at hcal hres
  obtain ⟨g0,g1,g2,g3,g4,g5,g6,g7,g8,g9,g10,g11,g12,g13⟩:=cells14 hcal
  obtain ⟨n0,n1,n2,n3,n4,n5,n6,n7,n8,n9,n10,n11,n12,n13⟩:=cells14 hres
  have m0:=zb hnode 0;have m1:=zb hnode 1;have m2:=zb hnode 2;have m3:=zb hnode 3;have m4:=zb hnode 4
  have ly:=(Array.getElem?_eq_some_iff.1 hcal).1
  have lz:=(Array.getElem?_eq_some_iff.1 hres).1
  obtain ⟨fu0,fu1,fu2,fu3,fu4,fu5,fu6,fu7,fu8,fu9,fu10,fu11,fu12,fu13⟩:=unf14 hcal
  obtain ⟨fz0,fz1,fz2,fz3,fz4,fz5,fz6,fz7,fz8,fz9,fz10,fz11,fz12,fz13⟩:=unf14 hres
  clear hbw hcal hres hnode HK hlow
  go_wp2_with fail
  go_region
  all_goals (
    go_wp2_with fail
    refine bodyPost_ret (v:=.tuple #[.agg #[.string ⟨cnm.toArray⟩, .int .i64 ckd, .int .i64 cdy, .int .i64 cmo, .int .i64 csh, .int .i64 csp, .int .i64 cp0, .int .i64 cp1, .int .i64 cp2, .int .i64 ccy, .int .i64 cex, .int .i64 cfi, .int .i64 cla, .int .i64 p], .bool false]) (by simp [results,Try.results25,go_sem, *]) rfl ?_
    rw [← HQ.out]
    unfold KeyPost
    refine ⟨⟨cnm,ckd,cdy,cmo,csh,csp,cp0,cp1,cp2,ccy,cex,cfi,cla,p⟩,rfl,fun h => Bool.noConfusion h,?_⟩
    rw [HBC.out]
    have hz9 : bc ≤ bc + 1 + 1:=by omega
    refine Below.drew ?_
    iterate 14 refine Below.setCell ?_ hz9 _
    have hz8 : bc ≤ bc:=Nat.le_refl _
    iterate 1 refine Below.setCell ?_ hz8 _
    exact HBW.out)
set_option maxHeartbeats 16000000 in
theorem key_compare2 (c : CalL) (kp : Int) (num : Bool) (n : Int) (s : Bytes) (pos : Int) (ad : Addr) (cw : Nat) (Ak : Option Addr) (kl ck : Nat) (w : World) (hp : placeW pols ⟨num,n,s,pos⟩ = 0) (hlt : ad.block < w.heap.size)
    (e0 : w.cell? ad = some (.bool num)) (e1 : w.cell? ⟨ad.block,ad.off + 1,none⟩ = some (.int .i64 n)) (e2 : w.cell? ⟨ad.block,ad.off + 2,none⟩ = some (.string ⟨s.toArray⟩)) (e3 : w.cell? ⟨ad.block,ad.off + 3,none⟩ = some (.int .i64 pos)) (d : CalL) :
    Calls Try.prog 25 #[calV c, .agg #[.string ⟨b_compare.toArray⟩, .int .i64 kp, .slice (some ad) (1) cw, .bool false, .slice Ak kl ck]] w (KeyPost d false w):=by
  have HK:=zh (keyW_start w c b_compare kp (some ad) (1) cw false Ak kl ck)
  have HPL:=zh (fun W g c h => r11_place pols ⟨num,n,s,pos⟩ g c W (by decide) h)
  rw [hp] at HPL
  clear hp
  generalize hQ : KeyPost d false w = Q
  have HQ:=zh hQ
  clear hQ
  unfold calO nodO b_compare at HK
  unfold b_compare
  obtain ⟨cnm,ckd,cdy,cmo,csh,csp,cp0,cp1,cp2,ccy,cex,cfi,cla,cpo⟩:=c
  dsimp only [calV,calZ] at HK ⊢
  go_enter Try.func25,Try.ntmps25
  go_upto_region 1 with fail
  (generalize World.alloc _ _ = W at HK ⊢;obtain ⟨hbw,hlow,hcal,hnode,hres⟩:=HK.out;generalize hbc : w.heap.size = bc at hlt hlow hcal hnode hres hbw HK ⊢;have HBC:=zh hbc;have HBW:=zh hbw)
  replace e0:=(hbw.cell (p:=ad) hlt).trans e0
  replace e1:=(hbw.cell (p:=⟨ad.block,ad.off + 1,none⟩) hlt).trans e1
  replace e2:=(hbw.cell (p:=⟨ad.block,ad.off + 2,none⟩) hlt).trans e2
  replace e3:=(hbw.cell (p:=⟨ad.block,ad.off + 3,none⟩) hlt).trans e3
  have hadc : ad.block ≠ bc:=by omega
  have hadz : ad.block ≠ bc + 1 + 1:=by omega
  dsimp only [nodO] at hnode
  have m0:=zb hnode 0;have m1:=zb hnode 1;have m2:=zb hnode 2;have m3:=zb hnode 3;have m4:=zb hnode 4
  have hl0 : bc + 1 + 1 < W.heap.size:=hres.lt
  have HSB:=zh (show StrBlk (W.alloc (.cells #[.string ⟨#[115,116,97,114,116]⟩, .string ⟨#[115,104,105,102,116]⟩, .string ⟨#[100,114,111,112]⟩, .string ⟨#[99,108,97,109,112]⟩] 9)) W.heap.size pols from ⟨_,heap_alloc_new W _⟩)
  have hadW : ad.block < W.heap.size:=by omega
  have z0:=(World.cell?_alloc_lt W (.cells #[.string ⟨#[115,116,97,114,116]⟩, .string ⟨#[115,104,105,102,116]⟩, .string ⟨#[100,114,111,112]⟩, .string ⟨#[99,108,97,109,112]⟩] 9) ad hadW).trans e0
  have z1:=(World.cell?_alloc_lt W (.cells #[.string ⟨#[115,116,97,114,116]⟩, .string ⟨#[115,104,105,102,116]⟩, .string ⟨#[100,114,111,112]⟩, .string ⟨#[99,108,97,109,112]⟩] 9) ⟨ad.block,ad.off + 1,none⟩ hadW).trans e1
  have z2:=(World.cell?_alloc_lt W (.cells #[.string ⟨#[115,116,97,114,116]⟩, .string ⟨#[115,104,105,102,116]⟩, .string ⟨#[100,114,111,112]⟩, .string ⟨#[99,108,97,109,112]⟩] 9) ⟨ad.block,ad.off + 2,none⟩ hadW).trans e2
  have z3:=(World.cell?_alloc_lt W (.cells #[.string ⟨#[115,116,97,114,116]⟩, .string ⟨#[115,104,105,102,116]⟩, .string ⟨#[100,114,111,112]⟩, .string ⟨#[99,108,97,109,112]⟩] 9) ⟨ad.block,ad.off + 3,none⟩ hadW).trans e3
  clear hbw hcal hres hnode hbc hlow
  go_wp2_with fail
  refine (HPL.out _ _ _ HSB.out).mono ?_
  rintro e w1 ⟨rfl,hb1⟩
  replace HK:=zh (HK.out.keep ((below_cal W _).trans (hb1.mono (below_cal W _).size)))
  obtain ⟨hbw,hlow,hcal,hnode,hres⟩:=HK.out
  clear HBW hb1 e0 e1 e2 e3 z0 z1 z2 z3 m0 m1 m2 m3 m4 hl0
  have HBW : Hid (Below bc w w1):=zh (by rw [← HBC.out];exact hbw)
  dsimp only [nodO] at hnode
  dsimp only [CalBlk,calZ] at hcal hres
  obtain ⟨g0,g1,g2,g3,g4,g5,g6,g7,g8,g9,g10,g11,g12,g13⟩:=cells14 hcal
  obtain ⟨n0,n1,n2,n3,n4,n5,n6,n7,n8,n9,n10,n11,n12,n13⟩:=cells14 hres
  have m0:=zb hnode 0;have m1:=zb hnode 1;have m2:=zb hnode 2;have m3:=zb hnode 3;have m4:=zb hnode 4
  have ly:=(Array.getElem?_eq_some_iff.1 hcal).1
  have lz:=(Array.getElem?_eq_some_iff.1 hres).1
  obtain ⟨fu0,fu1,fu2,fu3,fu4,fu5,fu6,fu7,fu8,fu9,fu10,fu11,fu12,fu13⟩:=unf14 hcal
  obtain ⟨fz0,fz1,fz2,fz3,fz4,fz5,fz6,fz7,fz8,fz9,fz10,fz11,fz12,fz13⟩:=unf14 hres
  clear hbw hcal hres hnode HK hlow
  go_wp2_with fail
  go_region
  all_goals (
    go_wp2_with fail
    refine bodyPost_ret (v:=.tuple #[.agg #[.string ⟨cnm.toArray⟩, .int .i64 ckd, .int .i64 cdy, .int .i64 cmo, .int .i64 csh, .int .i64 csp, .int .i64 cp0, .int .i64 cp1, .int .i64 cp2, .int .i64 ccy, .int .i64 cex, .int .i64 cfi, .int .i64 cla, .int .i64 0], .bool false]) (by simp [results,Try.results25,go_sem, *]) rfl ?_
    rw [← HQ.out]
    unfold KeyPost
    refine ⟨⟨cnm,ckd,cdy,cmo,csh,csp,cp0,cp1,cp2,ccy,cex,cfi,cla,0⟩,rfl,fun h => Bool.noConfusion h,?_⟩
    rw [HBC.out]
    have hz9 : bc ≤ bc + 1 + 1:=by omega
    refine Below.drew ?_
    iterate 14 refine Below.setCell ?_ hz9 _
    have hz8 : bc ≤ bc:=Nat.le_refl _
    iterate 1 refine Below.setCell ?_ hz8 _
    exact HBW.out)
set_option maxHeartbeats 16000000 in
theorem key_compareok (c : CalL) (kp : Int) (num : Bool) (n : Int) (s : Bytes) (pos : Int) (ad : Addr) (cw : Nat) (Ak : Option Addr) (kl ck : Nat) (w : World) (p : Int) (hp0 : 0 < p) (hp : placeW pols ⟨num,n,s,pos⟩ = p) (hlt : ad.block < w.heap.size)
    (e0 : w.cell? ad = some (.bool num)) (e1 : w.cell? ⟨ad.block,ad.off + 1,none⟩ = some (.int .i64 n)) (e2 : w.cell? ⟨ad.block,ad.off + 2,none⟩ = some (.string ⟨s.toArray⟩)) (e3 : w.cell? ⟨ad.block,ad.off + 3,none⟩ = some (.int .i64 pos)) :
    Calls Try.prog 25 #[calV c, .agg #[.string ⟨b_compare.toArray⟩, .int .i64 kp, .slice (some ad) (1) cw, .bool false, .slice Ak kl ck]] w (KeyPost { c with policy:=p } true w):=by
  have HK:=zh (keyW_start w c b_compare kp (some ad) (1) cw false Ak kl ck)
  have HPL:=zh (fun W g c h => r11_place pols ⟨num,n,s,pos⟩ g c W (by decide) h)
  rw [hp] at HPL
  clear hp
  generalize hQ : KeyPost _ true w = Q
  have HQ:=zh hQ
  clear hQ
  unfold calO nodO b_compare at HK
  unfold b_compare
  obtain ⟨cnm,ckd,cdy,cmo,csh,csp,cp0,cp1,cp2,ccy,cex,cfi,cla,cpo⟩:=c
  dsimp only [calV,calZ] at HK ⊢
  go_enter Try.func25,Try.ntmps25
  go_upto_region 1 with fail
  (generalize World.alloc _ _ = W at HK ⊢;obtain ⟨hbw,hlow,hcal,hnode,hres⟩:=HK.out;generalize hbc : w.heap.size = bc at hlt hlow hcal hnode hres hbw HK ⊢;have HBC:=zh hbc;have HBW:=zh hbw)
  replace e0:=(hbw.cell (p:=ad) hlt).trans e0
  replace e1:=(hbw.cell (p:=⟨ad.block,ad.off + 1,none⟩) hlt).trans e1
  replace e2:=(hbw.cell (p:=⟨ad.block,ad.off + 2,none⟩) hlt).trans e2
  replace e3:=(hbw.cell (p:=⟨ad.block,ad.off + 3,none⟩) hlt).trans e3
  have hadc : ad.block ≠ bc:=by omega
  have hadz : ad.block ≠ bc + 1 + 1:=by omega
  dsimp only [nodO] at hnode
  have m0:=zb hnode 0;have m1:=zb hnode 1;have m2:=zb hnode 2;have m3:=zb hnode 3;have m4:=zb hnode 4
  have hl0 : bc + 1 + 1 < W.heap.size:=hres.lt
  have HSB:=zh (show StrBlk (W.alloc (.cells #[.string ⟨#[115,116,97,114,116]⟩, .string ⟨#[115,104,105,102,116]⟩, .string ⟨#[100,114,111,112]⟩, .string ⟨#[99,108,97,109,112]⟩] 9)) W.heap.size pols from ⟨_,heap_alloc_new W _⟩)
  have hadW : ad.block < W.heap.size:=by omega
  have z0:=(World.cell?_alloc_lt W (.cells #[.string ⟨#[115,116,97,114,116]⟩, .string ⟨#[115,104,105,102,116]⟩, .string ⟨#[100,114,111,112]⟩, .string ⟨#[99,108,97,109,112]⟩] 9) ad hadW).trans e0
  have z1:=(World.cell?_alloc_lt W (.cells #[.string ⟨#[115,116,97,114,116]⟩, .string ⟨#[115,104,105,102,116]⟩, .string ⟨#[100,114,111,112]⟩, .string ⟨#[99,108,97,109,112]⟩] 9) ⟨ad.block,ad.off + 1,none⟩ hadW).trans e1
  have z2:=(World.cell?_alloc_lt W (.cells #[.string ⟨#[115,116,97,114,116]⟩, .string ⟨#[115,104,105,102,116]⟩, .string ⟨#[100,114,111,112]⟩, .string ⟨#[99,108,97,109,112]⟩] 9) ⟨ad.block,ad.off + 2,none⟩ hadW).trans e2
  have z3:=(World.cell?_alloc_lt W (.cells #[.string ⟨#[115,116,97,114,116]⟩, .string ⟨#[115,104,105,102,116]⟩, .string ⟨#[100,114,111,112]⟩, .string ⟨#[99,108,97,109,112]⟩] 9) ⟨ad.block,ad.off + 3,none⟩ hadW).trans e3
  clear hbw hcal hres hnode hbc hlow
  go_wp2_with fail
  refine (HPL.out _ _ _ HSB.out).mono ?_
  rintro e w1 ⟨rfl,hb1⟩
  replace HK:=zh (HK.out.keep ((below_cal W _).trans (hb1.mono (below_cal W _).size)))
  obtain ⟨hbw,hlow,hcal,hnode,hres⟩:=HK.out
  clear HBW hb1 e0 e1 e2 e3 z0 z1 z2 z3 m0 m1 m2 m3 m4 hl0
  have HBW : Hid (Below bc w w1):=zh (by rw [← HBC.out];exact hbw)
  dsimp only [nodO] at hnode
  dsimp only [CalBlk,calZ] at hcal hres
  obtain ⟨g0,g1,g2,g3,g4,g5,g6,g7,g8,g9,g10,g11,g12,g13⟩:=cells14 hcal
  obtain ⟨n0,n1,n2,n3,n4,n5,n6,n7,n8,n9,n10,n11,n12,n13⟩:=cells14 hres
  have m0:=zb hnode 0;have m1:=zb hnode 1;have m2:=zb hnode 2;have m3:=zb hnode 3;have m4:=zb hnode 4
  have ly:=(Array.getElem?_eq_some_iff.1 hcal).1
  have lz:=(Array.getElem?_eq_some_iff.1 hres).1
  obtain ⟨fu0,fu1,fu2,fu3,fu4,fu5,fu6,fu7,fu8,fu9,fu10,fu11,fu12,fu13⟩:=unf14 hcal
  obtain ⟨fz0,fz1,fz2,fz3,fz4,fz5,fz6,fz7,fz8,fz9,fz10,fz11,fz12,fz13⟩:=unf14 hres
  clear hbw hcal hres hnode HK hlow
  go_wp2_with fail
  go_region
  all_goals (
    go_wp2_with fail
    refine bodyPost_ret (v:=.tuple #[.agg #[.string ⟨cnm.toArray⟩, .int .i64 ckd, .int .i64 cdy, .int .i64 cmo, .int .i64 csh, .int .i64 csp, .int .i64 cp0, .int .i64 cp1, .int .i64 cp2, .int .i64 ccy, .int .i64 cex, .int .i64 cfi, .int .i64 cla, .int .i64 p], .bool true]) (by simp [results,Try.results25,go_sem, *]) rfl ?_
    rw [← HQ.out]
    unfold KeyPost
    refine ⟨⟨cnm,ckd,cdy,cmo,csh,csp,cp0,cp1,cp2,ccy,cex,cfi,cla,p⟩,rfl,fun _ => rfl,?_⟩
    rw [HBC.out]
    have hz9 : bc ≤ bc + 1 + 1:=by omega
    refine Below.drew ?_
    iterate 14 refine Below.setCell ?_ hz9 _
    have hz8 : bc ≤ bc:=Nat.le_refl _
    iterate 1 refine Below.setCell ?_ hz8 _
    exact HBW.out)
end
section
open Go.RowKit
open Go.Joins renaming cell_of_block → zb, unfrozen_of_block → zu
open Go.Lib renaming hid → zh
set_option maxHeartbeats 16000000 in
theorem key_serve1 (c : CalL) (kp : Int) (num : Bool) (n : Int) (s : Bytes) (pos : Int) (rl : Nat) (ad : Addr) (cw : Nat) (Ak : Option Addr) (kl ck : Nat) (w : World) (hr : rl ≠ 1) (hrb : rl ≤ 100000) (hlt : ad.block < w.heap.size)
    (e0 : w.cell? ad = some (.bool num)) (e1 : w.cell? ⟨ad.block,ad.off + 1,none⟩ = some (.int .i64 n)) (e2 : w.cell? ⟨ad.block,ad.off + 2,none⟩ = some (.string ⟨s.toArray⟩)) (e3 : w.cell? ⟨ad.block,ad.off + 3,none⟩ = some (.int .i64 pos)) (d : CalL) :
    Calls Try.prog 25 #[calV c, .agg #[.string ⟨b_serve.toArray⟩, .int .i64 kp, .slice (some ad) (rl + 1) cw, .bool false, .slice Ak kl ck]] w (KeyPost d false w):=by
  have HK:=zh (keyW_start w c b_serve kp (some ad) (rl + 1) cw false Ak kl ck)
  have hl2 : ((rl : Int) + 1 != 2) = true:=by simp;omega
  generalize hQ : KeyPost d false w = Q
  have HQ:=zh hQ
  clear hQ
  unfold calO nodO b_serve at HK
  unfold b_serve
  obtain ⟨cnm,ckd,cdy,cmo,csh,csp,cp0,cp1,cp2,ccy,cex,cfi,cla,cpo⟩:=c
  dsimp only [calV,calZ] at HK ⊢
  go_enter Try.func25,Try.ntmps25
  go_upto_region 1 with fail
  (generalize World.alloc _ _ = W at HK ⊢;obtain ⟨hbw,hlow,hcal,hnode,hres⟩:=HK.out;generalize hbc : w.heap.size = bc at hlt hlow hcal hnode hres hbw HK ⊢;have HBC:=zh hbc;have HBW:=zh hbw)
  replace e0:=(hbw.cell (p:=ad) hlt).trans e0
  replace e1:=(hbw.cell (p:=⟨ad.block,ad.off + 1,none⟩) hlt).trans e1
  replace e2:=(hbw.cell (p:=⟨ad.block,ad.off + 2,none⟩) hlt).trans e2
  replace e3:=(hbw.cell (p:=⟨ad.block,ad.off + 3,none⟩) hlt).trans e3
  have hadc : ad.block ≠ bc:=by omega
  have hadz : ad.block ≠ bc + 1 + 1:=by omega
  dsimp only [nodO] at hnode
  dsimp only [CalBlk,calZ] at hcal hres
  obtain ⟨g0,g1,g2,g3,g4,g5,g6,g7,g8,g9,g10,g11,g12,g13⟩:=cells14 hcal
  obtain ⟨n0,n1,n2,n3,n4,n5,n6,n7,n8,n9,n10,n11,n12,n13⟩:=cells14 hres
  have m0:=zb hnode 0;have m1:=zb hnode 1;have m2:=zb hnode 2;have m3:=zb hnode 3;have m4:=zb hnode 4
  have ly:=(Array.getElem?_eq_some_iff.1 hcal).1
  have lz:=(Array.getElem?_eq_some_iff.1 hres).1
  obtain ⟨fu0,fu1,fu2,fu3,fu4,fu5,fu6,fu7,fu8,fu9,fu10,fu11,fu12,fu13⟩:=unf14 hcal
  obtain ⟨fz0,fz1,fz2,fz3,fz4,fz5,fz6,fz7,fz8,fz9,fz10,fz11,fz12,fz13⟩:=unf14 hres
  clear hbw hcal hres hnode HK hlow hbc
  go_wp2_with fail
  skip
  (
    refine bodyPost_ret (v:=.tuple #[.agg #[.string ⟨cnm.toArray⟩, .int .i64 ckd, .int .i64 cdy, .int .i64 cmo, .int .i64 csh, .int .i64 csp, .int .i64 cp0, .int .i64 cp1, .int .i64 cp2, .int .i64 ccy, .int .i64 cex, .int .i64 cfi, .int .i64 cla, .int .i64 cpo], .bool false]) (by simp [results,Try.results25,go_sem, *]) rfl ?_
    rw [← HQ.out]
    unfold KeyPost
    refine ⟨⟨cnm,ckd,cdy,cmo,csh,csp,cp0,cp1,cp2,ccy,cex,cfi,cla,cpo⟩,rfl,fun h => Bool.noConfusion h,?_⟩
    rw [HBC.out]
    have hz9 : bc ≤ bc + 1 + 1:=by omega
    iterate 14 refine Below.setCell ?_ hz9 _
    exact HBW.out)
set_option maxHeartbeats 16000000 in
theorem key_serve2 (c : CalL) (kp : Int) (num : Bool) (n : Int) (s : Bytes) (pos : Int) (ad : Addr) (cw : Nat) (Ak : Option Addr) (kl ck : Nat) (w : World) (hn : num = false) (hlt : ad.block < w.heap.size)
    (e0 : w.cell? ad = some (.bool num)) (e1 : w.cell? ⟨ad.block,ad.off + 1,none⟩ = some (.int .i64 n)) (e2 : w.cell? ⟨ad.block,ad.off + 2,none⟩ = some (.string ⟨s.toArray⟩)) (e3 : w.cell? ⟨ad.block,ad.off + 3,none⟩ = some (.int .i64 pos)) (d : CalL) :
    Calls Try.prog 25 #[calV c, .agg #[.string ⟨b_serve.toArray⟩, .int .i64 kp, .slice (some ad) (2) cw, .bool false, .slice Ak kl ck]] w (KeyPost d false w):=by
  have HK:=zh (keyW_start w c b_serve kp (some ad) (2) cw false Ak kl ck)
  subst hn
  generalize hQ : KeyPost d false w = Q
  have HQ:=zh hQ
  clear hQ
  unfold calO nodO b_serve at HK
  unfold b_serve
  obtain ⟨cnm,ckd,cdy,cmo,csh,csp,cp0,cp1,cp2,ccy,cex,cfi,cla,cpo⟩:=c
  dsimp only [calV,calZ] at HK ⊢
  go_enter Try.func25,Try.ntmps25
  go_upto_region 1 with fail
  (generalize World.alloc _ _ = W at HK ⊢;obtain ⟨hbw,hlow,hcal,hnode,hres⟩:=HK.out;generalize hbc : w.heap.size = bc at hlt hlow hcal hnode hres hbw HK ⊢;have HBC:=zh hbc;have HBW:=zh hbw)
  replace e0:=(hbw.cell (p:=ad) hlt).trans e0
  replace e1:=(hbw.cell (p:=⟨ad.block,ad.off + 1,none⟩) hlt).trans e1
  replace e2:=(hbw.cell (p:=⟨ad.block,ad.off + 2,none⟩) hlt).trans e2
  replace e3:=(hbw.cell (p:=⟨ad.block,ad.off + 3,none⟩) hlt).trans e3
  have hadc : ad.block ≠ bc:=by omega
  have hadz : ad.block ≠ bc + 1 + 1:=by omega
  dsimp only [nodO] at hnode
  dsimp only [CalBlk,calZ] at hcal hres
  obtain ⟨g0,g1,g2,g3,g4,g5,g6,g7,g8,g9,g10,g11,g12,g13⟩:=cells14 hcal
  obtain ⟨n0,n1,n2,n3,n4,n5,n6,n7,n8,n9,n10,n11,n12,n13⟩:=cells14 hres
  have m0:=zb hnode 0;have m1:=zb hnode 1;have m2:=zb hnode 2;have m3:=zb hnode 3;have m4:=zb hnode 4
  have ly:=(Array.getElem?_eq_some_iff.1 hcal).1
  have lz:=(Array.getElem?_eq_some_iff.1 hres).1
  obtain ⟨fu0,fu1,fu2,fu3,fu4,fu5,fu6,fu7,fu8,fu9,fu10,fu11,fu12,fu13⟩:=unf14 hcal
  obtain ⟨fz0,fz1,fz2,fz3,fz4,fz5,fz6,fz7,fz8,fz9,fz10,fz11,fz12,fz13⟩:=unf14 hres
  clear hbw hcal hres hnode HK hlow hbc
  go_wp2_with fail
  skip
  (
    refine bodyPost_ret (v:=.tuple #[.agg #[.string ⟨cnm.toArray⟩, .int .i64 ckd, .int .i64 cdy, .int .i64 cmo, .int .i64 csh, .int .i64 csp, .int .i64 cp0, .int .i64 cp1, .int .i64 cp2, .int .i64 ccy, .int .i64 cex, .int .i64 cfi, .int .i64 cla, .int .i64 cpo], .bool false]) (by simp [results,Try.results25,go_sem, *]) rfl ?_
    rw [← HQ.out]
    unfold KeyPost
    refine ⟨⟨cnm,ckd,cdy,cmo,csh,csp,cp0,cp1,cp2,ccy,cex,cfi,cla,cpo⟩,rfl,fun h => Bool.noConfusion h,?_⟩
    rw [HBC.out]
    have hz9 : bc ≤ bc + 1 + 1:=by omega
    iterate 14 refine Below.setCell ?_ hz9 _
    exact HBW.out)
set_option maxHeartbeats 16000000 in
theorem key_serve3 (c : CalL) (kp : Int) (num : Bool) (n : Int) (s : Bytes) (pos : Int) (un : Bool) (ui : Int) (us : Bytes) (up : Int) (ad : Addr) (cw : Nat) (Ak : Option Addr) (kl ck : Nat) (w : World) (hn : num = true) (hu : un = false) (hlt : ad.block < w.heap.size)
    (e0 : w.cell? ad = some (.bool num)) (e1 : w.cell? ⟨ad.block,ad.off + 1,none⟩ = some (.int .i64 n)) (e2 : w.cell? ⟨ad.block,ad.off + 2,none⟩ = some (.string ⟨s.toArray⟩)) (e3 : w.cell? ⟨ad.block,ad.off + 3,none⟩ = some (.int .i64 pos))
    (a0 : w.cell? ⟨ad.block,ad.off + 4,none⟩ = some (.bool un)) (a1 : w.cell? ⟨ad.block,ad.off + 4 + 1,none⟩ = some (.int .i64 ui)) (a2 : w.cell? ⟨ad.block,ad.off + 4 + 2,none⟩ = some (.string ⟨us.toArray⟩)) (a3 : w.cell? ⟨ad.block,ad.off + 4 + 3,none⟩ = some (.int .i64 up)) (d : CalL) :
    Calls Try.prog 25 #[calV c, .agg #[.string ⟨b_serve.toArray⟩, .int .i64 kp, .slice (some ad) (2) cw, .bool false, .slice Ak kl ck]] w (KeyPost d false w):=by
  have HK:=zh (keyW_start w c b_serve kp (some ad) (2) cw false Ak kl ck)
  subst hn hu
  generalize hQ : KeyPost d false w = Q
  have HQ:=zh hQ
  clear hQ
  unfold calO nodO b_serve at HK
  unfold b_serve
  obtain ⟨cnm,ckd,cdy,cmo,csh,csp,cp0,cp1,cp2,ccy,cex,cfi,cla,cpo⟩:=c
  dsimp only [calV,calZ] at HK ⊢
  go_enter Try.func25,Try.ntmps25
  go_upto_region 1 with fail
  (generalize World.alloc _ _ = W at HK ⊢;obtain ⟨hbw,hlow,hcal,hnode,hres⟩:=HK.out;generalize hbc : w.heap.size = bc at hlt hlow hcal hnode hres hbw HK ⊢;have HBC:=zh hbc;have HBW:=zh hbw)
  replace e0:=(hbw.cell (p:=ad) hlt).trans e0
  replace e1:=(hbw.cell (p:=⟨ad.block,ad.off + 1,none⟩) hlt).trans e1
  replace e2:=(hbw.cell (p:=⟨ad.block,ad.off + 2,none⟩) hlt).trans e2
  replace e3:=(hbw.cell (p:=⟨ad.block,ad.off + 3,none⟩) hlt).trans e3
  replace a0:=(hbw.cell (p:=⟨ad.block,ad.off + 4,none⟩) hlt).trans a0
  replace a1:=(hbw.cell (p:=⟨ad.block,ad.off + 4 + 1,none⟩) hlt).trans a1
  replace a2:=(hbw.cell (p:=⟨ad.block,ad.off + 4 + 2,none⟩) hlt).trans a2
  replace a3:=(hbw.cell (p:=⟨ad.block,ad.off + 4 + 3,none⟩) hlt).trans a3
  have hadc : ad.block ≠ bc:=by omega
  have hadz : ad.block ≠ bc + 1 + 1:=by omega
  dsimp only [nodO] at hnode
  dsimp only [CalBlk,calZ] at hcal hres
  obtain ⟨g0,g1,g2,g3,g4,g5,g6,g7,g8,g9,g10,g11,g12,g13⟩:=cells14 hcal
  obtain ⟨n0,n1,n2,n3,n4,n5,n6,n7,n8,n9,n10,n11,n12,n13⟩:=cells14 hres
  have m0:=zb hnode 0;have m1:=zb hnode 1;have m2:=zb hnode 2;have m3:=zb hnode 3;have m4:=zb hnode 4
  have ly:=(Array.getElem?_eq_some_iff.1 hcal).1
  have lz:=(Array.getElem?_eq_some_iff.1 hres).1
  obtain ⟨fu0,fu1,fu2,fu3,fu4,fu5,fu6,fu7,fu8,fu9,fu10,fu11,fu12,fu13⟩:=unf14 hcal
  obtain ⟨fz0,fz1,fz2,fz3,fz4,fz5,fz6,fz7,fz8,fz9,fz10,fz11,fz12,fz13⟩:=unf14 hres
  clear hbw hcal hres hnode HK hlow hbc
  go_wp2_with fail
  skip
  (
    refine bodyPost_ret (v:=.tuple #[.agg #[.string ⟨cnm.toArray⟩, .int .i64 ckd, .int .i64 cdy, .int .i64 cmo, .int .i64 csh, .int .i64 csp, .int .i64 cp0, .int .i64 cp1, .int .i64 cp2, .int .i64 ccy, .int .i64 cex, .int .i64 cfi, .int .i64 cla, .int .i64 cpo], .bool false]) (by simp [results,Try.results25,go_sem, *]) rfl ?_
    rw [← HQ.out]
    unfold KeyPost
    refine ⟨⟨cnm,ckd,cdy,cmo,csh,csp,cp0,cp1,cp2,ccy,cex,cfi,cla,cpo⟩,rfl,fun h => Bool.noConfusion h,?_⟩
    rw [HBC.out]
    have hz9 : bc ≤ bc + 1 + 1:=by omega
    iterate 14 refine Below.setCell ?_ hz9 _
    exact HBW.out)
set_option maxHeartbeats 16000000 in
theorem key_serveok (c : CalL) (kp : Int) (num : Bool) (n : Int) (s : Bytes) (pos : Int) (un : Bool) (ui : Int) (us : Bytes) (up : Int) (ad : Addr) (cw : Nat) (Ak : Option Addr) (kl ck : Nat) (w : World) (hn : num = true) (hu : un = true) (hlt : ad.block < w.heap.size)
    (e0 : w.cell? ad = some (.bool num)) (e1 : w.cell? ⟨ad.block,ad.off + 1,none⟩ = some (.int .i64 n)) (e2 : w.cell? ⟨ad.block,ad.off + 2,none⟩ = some (.string ⟨s.toArray⟩)) (e3 : w.cell? ⟨ad.block,ad.off + 3,none⟩ = some (.int .i64 pos))
    (a0 : w.cell? ⟨ad.block,ad.off + 4,none⟩ = some (.bool un)) (a1 : w.cell? ⟨ad.block,ad.off + 4 + 1,none⟩ = some (.int .i64 ui)) (a2 : w.cell? ⟨ad.block,ad.off + 4 + 2,none⟩ = some (.string ⟨us.toArray⟩)) (a3 : w.cell? ⟨ad.block,ad.off + 4 + 3,none⟩ = some (.int .i64 up)) :
    Calls Try.prog 25 #[calV c, .agg #[.string ⟨b_serve.toArray⟩, .int .i64 kp, .slice (some ad) (2) cw, .bool false, .slice Ak kl ck]] w (KeyPost { c with first:=n,last:=ui } true w):=by
  have HK:=zh (keyW_start w c b_serve kp (some ad) (2) cw false Ak kl ck)
  subst hn hu
  generalize hQ : KeyPost _ true w = Q
  have HQ:=zh hQ
  clear hQ
  unfold calO nodO b_serve at HK
  unfold b_serve
  obtain ⟨cnm,ckd,cdy,cmo,csh,csp,cp0,cp1,cp2,ccy,cex,cfi,cla,cpo⟩:=c
  dsimp only [calV,calZ] at HK ⊢
  go_enter Try.func25,Try.ntmps25
  go_upto_region 1 with fail
  (generalize World.alloc _ _ = W at HK ⊢;obtain ⟨hbw,hlow,hcal,hnode,hres⟩:=HK.out;generalize hbc : w.heap.size = bc at hlt hlow hcal hnode hres hbw HK ⊢;have HBC:=zh hbc;have HBW:=zh hbw)
  replace e0:=(hbw.cell (p:=ad) hlt).trans e0
  replace e1:=(hbw.cell (p:=⟨ad.block,ad.off + 1,none⟩) hlt).trans e1
  replace e2:=(hbw.cell (p:=⟨ad.block,ad.off + 2,none⟩) hlt).trans e2
  replace e3:=(hbw.cell (p:=⟨ad.block,ad.off + 3,none⟩) hlt).trans e3
  replace a0:=(hbw.cell (p:=⟨ad.block,ad.off + 4,none⟩) hlt).trans a0
  replace a1:=(hbw.cell (p:=⟨ad.block,ad.off + 4 + 1,none⟩) hlt).trans a1
  replace a2:=(hbw.cell (p:=⟨ad.block,ad.off + 4 + 2,none⟩) hlt).trans a2
  replace a3:=(hbw.cell (p:=⟨ad.block,ad.off + 4 + 3,none⟩) hlt).trans a3
  have hadc : ad.block ≠ bc:=by omega
  have hadz : ad.block ≠ bc + 1 + 1:=by omega
  dsimp only [nodO] at hnode
  dsimp only [CalBlk,calZ] at hcal hres
  obtain ⟨g0,g1,g2,g3,g4,g5,g6,g7,g8,g9,g10,g11,g12,g13⟩:=cells14 hcal
  obtain ⟨n0,n1,n2,n3,n4,n5,n6,n7,n8,n9,n10,n11,n12,n13⟩:=cells14 hres
  have m0:=zb hnode 0;have m1:=zb hnode 1;have m2:=zb hnode 2;have m3:=zb hnode 3;have m4:=zb hnode 4
  have ly:=(Array.getElem?_eq_some_iff.1 hcal).1
  have lz:=(Array.getElem?_eq_some_iff.1 hres).1
  obtain ⟨fu0,fu1,fu2,fu3,fu4,fu5,fu6,fu7,fu8,fu9,fu10,fu11,fu12,fu13⟩:=unf14 hcal
  obtain ⟨fz0,fz1,fz2,fz3,fz4,fz5,fz6,fz7,fz8,fz9,fz10,fz11,fz12,fz13⟩:=unf14 hres
  clear hbw hcal hres hnode HK hlow hbc
  go_wp2_with fail
  skip
  (
    refine bodyPost_ret (v:=.tuple #[.agg #[.string ⟨cnm.toArray⟩, .int .i64 ckd, .int .i64 cdy, .int .i64 cmo, .int .i64 csh, .int .i64 csp, .int .i64 cp0, .int .i64 cp1, .int .i64 cp2, .int .i64 ccy, .int .i64 cex, .int .i64 n, .int .i64 ui, .int .i64 cpo], .bool true]) (by simp [results,Try.results25,go_sem, *]) rfl ?_
    rw [← HQ.out]
    unfold KeyPost
    refine ⟨⟨cnm,ckd,cdy,cmo,csh,csp,cp0,cp1,cp2,ccy,cex,n,ui,cpo⟩,rfl,fun _ => rfl,?_⟩
    rw [HBC.out]
    have hz9 : bc ≤ bc + 1 + 1:=by omega
    iterate 14 refine Below.setCell ?_ hz9 _
    have hz8 : bc ≤ bc:=Nat.le_refl _
    iterate 2 refine Below.setCell ?_ hz8 _
    exact HBW.out)
end
end Go.Proofs.Ytpkhocbohhpmbaa
