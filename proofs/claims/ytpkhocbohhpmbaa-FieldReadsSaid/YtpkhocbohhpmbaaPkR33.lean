/- Layer 11 (field), the reference: the walk of key: the key named. Written by wip/gen_key.py. -/
import Derived.Test.YtpkhocbohhpmbaaPkR30
set_option linter.unusedVariables false
set_option linter.unusedSimpArgs false
set_option maxRecDepth 100000
namespace Go.Proofs.Ytpkhocbohhpmbaa
open Go.RowKit
open Go.Joins renaming cell_of_block → zb, unfrozen_of_block → zu
open Go.Lib renaming hid → zh
set_option maxHeartbeats 16000000 in
theorem key_named0 (c : CalL) (kp : Int) (num : Bool) (n : Int) (s : Bytes) (pos : Int) (rl : Nat) (ad : Addr) (cw : Nat) (Ak : Option Addr) (kl ck : Nat) (w : World) (hr : rl ≠ 0) (hrb : rl ≤ 100000) (hp : placeW shiftsR ⟨num,n,s,pos⟩ = 0) (hlt : ad.block < w.heap.size)
    (e0 : w.cell? ad = some (.bool num)) (e1 : w.cell? ⟨ad.block,ad.off + 1,none⟩ = some (.int .i64 n)) (e2 : w.cell? ⟨ad.block,ad.off + 2,none⟩ = some (.string ⟨s.toArray⟩)) (e3 : w.cell? ⟨ad.block,ad.off + 3,none⟩ = some (.int .i64 pos)) (d : CalL) :
    Calls Try.prog 25 #[calV c, .agg #[.string ⟨b_named.toArray⟩, .int .i64 kp, .slice (some ad) (rl + 1) cw, .bool false, .slice Ak kl ck]] w (KeyPost d false w):=by
  have HK:=zh (keyW_start w c b_named kp (some ad) (rl + 1) cw false Ak kl ck)
  have hl1 : ((rl : Int) + 1 == 1) = false:=beq_false_of_ne (by omega)
  have HPL:=zh (fun W g c h => r11_place shiftsR ⟨num,n,s,pos⟩ g c W (by decide) h)
  rw [hp] at HPL
  clear hp
  generalize hQ : KeyPost d false w = Q
  have HQ:=zh hQ
  clear hQ
  unfold calO nodO b_named at HK
  unfold b_named
  obtain ⟨cnm,ckd,cdy,cmo,csh,csp,cp0,cp1,cp2,ccy,cex,cfi,cla,cpo⟩:=c
  dsimp only [calV,calZ] at HK ⊢
  go_enter Try.func25,Try.ntmps25
  go_upto_region 1 with fail
  (generalize World.alloc _ _ = W at HK ⊢;obtain ⟨hbw,hlow,hcal,hnode,hres⟩:=HK.out;generalize hbc : w.heap.size = bc at hlt hlow hcal hnode hres hbw HK ⊢;have HBC:=zh hbc;have HBW:=zh hbw)
  replace e0:=(hbw.cell (p:=ad) hlt).trans e0
  replace e1:=(hbw.cell (p:=⟨ad.block,ad.off + 1,none⟩) hlt).trans e1
  replace e2:=(hbw.cell (p:=⟨ad.block,ad.off + 2,none⟩) hlt).trans e2
  replace e3:=(hbw.cell (p:=⟨ad.block,ad.off + 3,none⟩) hlt).trans e3
  have hadc : ad.block ≠ bc:=by omega
  have hadz : ad.block ≠ bc + 1 + 1:=by omega
  dsimp only [nodO] at hnode
  have m0:=zb hnode 0;have m1:=zb hnode 1;have m2:=zb hnode 2;have m3:=zb hnode 3;have m4:=zb hnode 4
  have hl0 : bc + 1 + 1 < W.heap.size:=hres.lt
  have HSB:=zh (show StrBlk (W.alloc (.cells #[.string ⟨#[102,105,114,115,116]⟩, .string ⟨#[108,97,115,116]⟩] 9)) W.heap.size shiftsR from ⟨_,heap_alloc_new W _⟩)
  have hadW : ad.block < W.heap.size:=by omega
  have z0:=(World.cell?_alloc_lt W (.cells #[.string ⟨#[102,105,114,115,116]⟩, .string ⟨#[108,97,115,116]⟩] 9) ad hadW).trans e0
  have z1:=(World.cell?_alloc_lt W (.cells #[.string ⟨#[102,105,114,115,116]⟩, .string ⟨#[108,97,115,116]⟩] 9) ⟨ad.block,ad.off + 1,none⟩ hadW).trans e1
  have z2:=(World.cell?_alloc_lt W (.cells #[.string ⟨#[102,105,114,115,116]⟩, .string ⟨#[108,97,115,116]⟩] 9) ⟨ad.block,ad.off + 2,none⟩ hadW).trans e2
  have z3:=(World.cell?_alloc_lt W (.cells #[.string ⟨#[102,105,114,115,116]⟩, .string ⟨#[108,97,115,116]⟩] 9) ⟨ad.block,ad.off + 3,none⟩ hadW).trans e3
  clear hbw hcal hres hnode hbc hlow
  go_wp2_with fail
  refine (HPL.out _ _ _ HSB.out).mono ?_
  rintro e w1 ⟨rfl,hb1⟩
  replace HK:=zh (HK.out.keep ((below_cal W _).trans (hb1.mono (below_cal W _).size)))
  obtain ⟨hbw,hlow,hcal,hnode,hres⟩:=HK.out
  clear HBW hb1 e0 e1 e2 e3 z0 z1 z2 z3 m0 m1 m2 m3 m4 hl0
  have HBW : Hid (Below bc w w1):=zh (by rw [← HBC.out];exact hbw)
  dsimp only [nodO] at hnode
  dsimp only [CalBlk,calZ] at hcal hres
  obtain ⟨g0,g1,g2,g3,g4,g5,g6,g7,g8,g9,g10,g11,g12,g13⟩:=cells14 hcal
  obtain ⟨n0,n1,n2,n3,n4,n5,n6,n7,n8,n9,n10,n11,n12,n13⟩:=cells14 hres
  have m0:=zb hnode 0;have m1:=zb hnode 1;have m2:=zb hnode 2;have m3:=zb hnode 3;have m4:=zb hnode 4
  have ly:=(Array.getElem?_eq_some_iff.1 hcal).1
  have lz:=(Array.getElem?_eq_some_iff.1 hres).1
  obtain ⟨fu0,fu1,fu2,fu3,fu4,fu5,fu6,fu7,fu8,fu9,fu10,fu11,fu12,fu13⟩:=unf14 hcal
  obtain ⟨fz0,fz1,fz2,fz3,fz4,fz5,fz6,fz7,fz8,fz9,fz10,fz11,fz12,fz13⟩:=unf14 hres
  clear hbw hcal hres hnode HK hlow
  go_wp2_with fail
  go_region
  all_goals (
    go_wp2_with fail
    refine bodyPost_ret (v:=.tuple #[.agg #[.string ⟨cnm.toArray⟩, .int .i64 ckd, .int .i64 cdy, .int .i64 cmo, .int .i64 2, .int .i64 csp, .int .i64 cp0, .int .i64 cp1, .int .i64 cp2, .int .i64 ccy, .int .i64 cex, .int .i64 cfi, .int .i64 cla, .int .i64 cpo], .bool false]) (by simp [results,Try.results25,go_sem, *]) rfl ?_
    rw [← HQ.out]
    unfold KeyPost
    refine ⟨⟨cnm,ckd,cdy,cmo,2,csp,cp0,cp1,cp2,ccy,cex,cfi,cla,cpo⟩,rfl,fun h => Bool.noConfusion h,?_⟩
    rw [HBC.out]
    have hz9 : bc ≤ bc + 1 + 1:=by omega
    refine Below.drew ?_
    iterate 14 refine Below.setCell ?_ hz9 _
    have hz8 : bc ≤ bc:=Nat.le_refl _
    iterate 1 refine Below.setCell ?_ hz8 _
    exact HBW.out)
set_option maxHeartbeats 16000000 in
theorem key_named1 (c : CalL) (kp : Int) (num : Bool) (n : Int) (s : Bytes) (pos : Int) (rl : Nat) (ad : Addr) (cw : Nat) (Ak : Option Addr) (kl ck : Nat) (w : World) (hr : rl ≠ 0) (hrb : rl ≤ 100000) (hp : placeW shiftsR ⟨num,n,s,pos⟩ = 1) (hlt : ad.block < w.heap.size)
    (e0 : w.cell? ad = some (.bool num)) (e1 : w.cell? ⟨ad.block,ad.off + 1,none⟩ = some (.int .i64 n)) (e2 : w.cell? ⟨ad.block,ad.off + 2,none⟩ = some (.string ⟨s.toArray⟩)) (e3 : w.cell? ⟨ad.block,ad.off + 3,none⟩ = some (.int .i64 pos)) (d : CalL) :
    Calls Try.prog 25 #[calV c, .agg #[.string ⟨b_named.toArray⟩, .int .i64 kp, .slice (some ad) (rl + 1) cw, .bool false, .slice Ak kl ck]] w (KeyPost d false w):=by
  have HK:=zh (keyW_start w c b_named kp (some ad) (rl + 1) cw false Ak kl ck)
  have hl1 : ((rl : Int) + 1 == 1) = false:=beq_false_of_ne (by omega)
  have HPL:=zh (fun W g c h => r11_place shiftsR ⟨num,n,s,pos⟩ g c W (by decide) h)
  rw [hp] at HPL
  clear hp
  generalize hQ : KeyPost d false w = Q
  have HQ:=zh hQ
  clear hQ
  unfold calO nodO b_named at HK
  unfold b_named
  obtain ⟨cnm,ckd,cdy,cmo,csh,csp,cp0,cp1,cp2,ccy,cex,cfi,cla,cpo⟩:=c
  dsimp only [calV,calZ] at HK ⊢
  go_enter Try.func25,Try.ntmps25
  go_upto_region 1 with fail
  (generalize World.alloc _ _ = W at HK ⊢;obtain ⟨hbw,hlow,hcal,hnode,hres⟩:=HK.out;generalize hbc : w.heap.size = bc at hlt hlow hcal hnode hres hbw HK ⊢;have HBC:=zh hbc;have HBW:=zh hbw)
  replace e0:=(hbw.cell (p:=ad) hlt).trans e0
  replace e1:=(hbw.cell (p:=⟨ad.block,ad.off + 1,none⟩) hlt).trans e1
  replace e2:=(hbw.cell (p:=⟨ad.block,ad.off + 2,none⟩) hlt).trans e2
  replace e3:=(hbw.cell (p:=⟨ad.block,ad.off + 3,none⟩) hlt).trans e3
  have hadc : ad.block ≠ bc:=by omega
  have hadz : ad.block ≠ bc + 1 + 1:=by omega
  dsimp only [nodO] at hnode
  have m0:=zb hnode 0;have m1:=zb hnode 1;have m2:=zb hnode 2;have m3:=zb hnode 3;have m4:=zb hnode 4
  have hl0 : bc + 1 + 1 < W.heap.size:=hres.lt
  have HSB:=zh (show StrBlk (W.alloc (.cells #[.string ⟨#[102,105,114,115,116]⟩, .string ⟨#[108,97,115,116]⟩] 9)) W.heap.size shiftsR from ⟨_,heap_alloc_new W _⟩)
  have hadW : ad.block < W.heap.size:=by omega
  have z0:=(World.cell?_alloc_lt W (.cells #[.string ⟨#[102,105,114,115,116]⟩, .string ⟨#[108,97,115,116]⟩] 9) ad hadW).trans e0
  have z1:=(World.cell?_alloc_lt W (.cells #[.string ⟨#[102,105,114,115,116]⟩, .string ⟨#[108,97,115,116]⟩] 9) ⟨ad.block,ad.off + 1,none⟩ hadW).trans e1
  have z2:=(World.cell?_alloc_lt W (.cells #[.string ⟨#[102,105,114,115,116]⟩, .string ⟨#[108,97,115,116]⟩] 9) ⟨ad.block,ad.off + 2,none⟩ hadW).trans e2
  have z3:=(World.cell?_alloc_lt W (.cells #[.string ⟨#[102,105,114,115,116]⟩, .string ⟨#[108,97,115,116]⟩] 9) ⟨ad.block,ad.off + 3,none⟩ hadW).trans e3
  clear hbw hcal hres hnode hbc hlow
  go_wp2_with fail
  refine (HPL.out _ _ _ HSB.out).mono ?_
  rintro e w1 ⟨rfl,hb1⟩
  replace HK:=zh (HK.out.keep ((below_cal W _).trans (hb1.mono (below_cal W _).size)))
  obtain ⟨hbw,hlow,hcal,hnode,hres⟩:=HK.out
  clear HBW hb1 e0 e1 e2 e3 z0 z1 z2 z3 m0 m1 m2 m3 m4 hl0
  have HBW : Hid (Below bc w w1):=zh (by rw [← HBC.out];exact hbw)
  dsimp only [nodO] at hnode
  dsimp only [CalBlk,calZ] at hcal hres
  obtain ⟨g0,g1,g2,g3,g4,g5,g6,g7,g8,g9,g10,g11,g12,g13⟩:=cells14 hcal
  obtain ⟨n0,n1,n2,n3,n4,n5,n6,n7,n8,n9,n10,n11,n12,n13⟩:=cells14 hres
  have m0:=zb hnode 0;have m1:=zb hnode 1;have m2:=zb hnode 2;have m3:=zb hnode 3;have m4:=zb hnode 4
  have ly:=(Array.getElem?_eq_some_iff.1 hcal).1
  have lz:=(Array.getElem?_eq_some_iff.1 hres).1
  obtain ⟨fu0,fu1,fu2,fu3,fu4,fu5,fu6,fu7,fu8,fu9,fu10,fu11,fu12,fu13⟩:=unf14 hcal
  obtain ⟨fz0,fz1,fz2,fz3,fz4,fz5,fz6,fz7,fz8,fz9,fz10,fz11,fz12,fz13⟩:=unf14 hres
  clear hbw hcal hres hnode HK hlow
  go_wp2_with fail
  go_region
  all_goals (
    go_wp2_with fail
    refine bodyPost_ret (v:=.tuple #[.agg #[.string ⟨cnm.toArray⟩, .int .i64 ckd, .int .i64 cdy, .int .i64 cmo, .int .i64 1, .int .i64 csp, .int .i64 cp0, .int .i64 cp1, .int .i64 cp2, .int .i64 ccy, .int .i64 cex, .int .i64 cfi, .int .i64 cla, .int .i64 cpo], .bool false]) (by simp [results,Try.results25,go_sem, *]) rfl ?_
    rw [← HQ.out]
    unfold KeyPost
    refine ⟨⟨cnm,ckd,cdy,cmo,1,csp,cp0,cp1,cp2,ccy,cex,cfi,cla,cpo⟩,rfl,fun h => Bool.noConfusion h,?_⟩
    rw [HBC.out]
    have hz9 : bc ≤ bc + 1 + 1:=by omega
    refine Below.drew ?_
    iterate 14 refine Below.setCell ?_ hz9 _
    have hz8 : bc ≤ bc:=Nat.le_refl _
    iterate 1 refine Below.setCell ?_ hz8 _
    exact HBW.out)
set_option maxHeartbeats 16000000 in
theorem key_named2 (c : CalL) (kp : Int) (num : Bool) (n : Int) (s : Bytes) (pos : Int) (rl : Nat) (ad : Addr) (cw : Nat) (Ak : Option Addr) (kl ck : Nat) (w : World) (hr : rl ≠ 0) (hrb : rl ≤ 100000) (hp : placeW shiftsR ⟨num,n,s,pos⟩ = 2) (hlt : ad.block < w.heap.size)
    (e0 : w.cell? ad = some (.bool num)) (e1 : w.cell? ⟨ad.block,ad.off + 1,none⟩ = some (.int .i64 n)) (e2 : w.cell? ⟨ad.block,ad.off + 2,none⟩ = some (.string ⟨s.toArray⟩)) (e3 : w.cell? ⟨ad.block,ad.off + 3,none⟩ = some (.int .i64 pos)) (d : CalL) :
    Calls Try.prog 25 #[calV c, .agg #[.string ⟨b_named.toArray⟩, .int .i64 kp, .slice (some ad) (rl + 1) cw, .bool false, .slice Ak kl ck]] w (KeyPost d false w):=by
  have HK:=zh (keyW_start w c b_named kp (some ad) (rl + 1) cw false Ak kl ck)
  have hl1 : ((rl : Int) + 1 == 1) = false:=beq_false_of_ne (by omega)
  have HPL:=zh (fun W g c h => r11_place shiftsR ⟨num,n,s,pos⟩ g c W (by decide) h)
  rw [hp] at HPL
  clear hp
  generalize hQ : KeyPost d false w = Q
  have HQ:=zh hQ
  clear hQ
  unfold calO nodO b_named at HK
  unfold b_named
  obtain ⟨cnm,ckd,cdy,cmo,csh,csp,cp0,cp1,cp2,ccy,cex,cfi,cla,cpo⟩:=c
  dsimp only [calV,calZ] at HK ⊢
  go_enter Try.func25,Try.ntmps25
  go_upto_region 1 with fail
  (generalize World.alloc _ _ = W at HK ⊢;obtain ⟨hbw,hlow,hcal,hnode,hres⟩:=HK.out;generalize hbc : w.heap.size = bc at hlt hlow hcal hnode hres hbw HK ⊢;have HBC:=zh hbc;have HBW:=zh hbw)
  replace e0:=(hbw.cell (p:=ad) hlt).trans e0
  replace e1:=(hbw.cell (p:=⟨ad.block,ad.off + 1,none⟩) hlt).trans e1
  replace e2:=(hbw.cell (p:=⟨ad.block,ad.off + 2,none⟩) hlt).trans e2
  replace e3:=(hbw.cell (p:=⟨ad.block,ad.off + 3,none⟩) hlt).trans e3
  have hadc : ad.block ≠ bc:=by omega
  have hadz : ad.block ≠ bc + 1 + 1:=by omega
  dsimp only [nodO] at hnode
  have m0:=zb hnode 0;have m1:=zb hnode 1;have m2:=zb hnode 2;have m3:=zb hnode 3;have m4:=zb hnode 4
  have hl0 : bc + 1 + 1 < W.heap.size:=hres.lt
  have HSB:=zh (show StrBlk (W.alloc (.cells #[.string ⟨#[102,105,114,115,116]⟩, .string ⟨#[108,97,115,116]⟩] 9)) W.heap.size shiftsR from ⟨_,heap_alloc_new W _⟩)
  have hadW : ad.block < W.heap.size:=by omega
  have z0:=(World.cell?_alloc_lt W (.cells #[.string ⟨#[102,105,114,115,116]⟩, .string ⟨#[108,97,115,116]⟩] 9) ad hadW).trans e0
  have z1:=(World.cell?_alloc_lt W (.cells #[.string ⟨#[102,105,114,115,116]⟩, .string ⟨#[108,97,115,116]⟩] 9) ⟨ad.block,ad.off + 1,none⟩ hadW).trans e1
  have z2:=(World.cell?_alloc_lt W (.cells #[.string ⟨#[102,105,114,115,116]⟩, .string ⟨#[108,97,115,116]⟩] 9) ⟨ad.block,ad.off + 2,none⟩ hadW).trans e2
  have z3:=(World.cell?_alloc_lt W (.cells #[.string ⟨#[102,105,114,115,116]⟩, .string ⟨#[108,97,115,116]⟩] 9) ⟨ad.block,ad.off + 3,none⟩ hadW).trans e3
  clear hbw hcal hres hnode hbc hlow
  go_wp2_with fail
  refine (HPL.out _ _ _ HSB.out).mono ?_
  rintro e w1 ⟨rfl,hb1⟩
  replace HK:=zh (HK.out.keep ((below_cal W _).trans (hb1.mono (below_cal W _).size)))
  obtain ⟨hbw,hlow,hcal,hnode,hres⟩:=HK.out
  clear HBW hb1 e0 e1 e2 e3 z0 z1 z2 z3 m0 m1 m2 m3 m4 hl0
  have HBW : Hid (Below bc w w1):=zh (by rw [← HBC.out];exact hbw)
  dsimp only [nodO] at hnode
  dsimp only [CalBlk,calZ] at hcal hres
  obtain ⟨g0,g1,g2,g3,g4,g5,g6,g7,g8,g9,g10,g11,g12,g13⟩:=cells14 hcal
  obtain ⟨n0,n1,n2,n3,n4,n5,n6,n7,n8,n9,n10,n11,n12,n13⟩:=cells14 hres
  have m0:=zb hnode 0;have m1:=zb hnode 1;have m2:=zb hnode 2;have m3:=zb hnode 3;have m4:=zb hnode 4
  have ly:=(Array.getElem?_eq_some_iff.1 hcal).1
  have lz:=(Array.getElem?_eq_some_iff.1 hres).1
  obtain ⟨fu0,fu1,fu2,fu3,fu4,fu5,fu6,fu7,fu8,fu9,fu10,fu11,fu12,fu13⟩:=unf14 hcal
  obtain ⟨fz0,fz1,fz2,fz3,fz4,fz5,fz6,fz7,fz8,fz9,fz10,fz11,fz12,fz13⟩:=unf14 hres
  clear hbw hcal hres hnode HK hlow
  go_wp2_with fail
  go_region
  all_goals (
    go_wp2_with fail
    refine bodyPost_ret (v:=.tuple #[.agg #[.string ⟨cnm.toArray⟩, .int .i64 ckd, .int .i64 cdy, .int .i64 cmo, .int .i64 0, .int .i64 csp, .int .i64 cp0, .int .i64 cp1, .int .i64 cp2, .int .i64 ccy, .int .i64 cex, .int .i64 cfi, .int .i64 cla, .int .i64 cpo], .bool false]) (by simp [results,Try.results25,go_sem, *]) rfl ?_
    rw [← HQ.out]
    unfold KeyPost
    refine ⟨⟨cnm,ckd,cdy,cmo,0,csp,cp0,cp1,cp2,ccy,cex,cfi,cla,cpo⟩,rfl,fun h => Bool.noConfusion h,?_⟩
    rw [HBC.out]
    have hz9 : bc ≤ bc + 1 + 1:=by omega
    refine Below.drew ?_
    iterate 14 refine Below.setCell ?_ hz9 _
    have hz8 : bc ≤ bc:=Nat.le_refl _
    iterate 1 refine Below.setCell ?_ hz8 _
    exact HBW.out)
set_option maxHeartbeats 16000000 in
theorem key_namedz (c : CalL) (kp : Int) (num : Bool) (n : Int) (s : Bytes) (pos : Int) (ad : Addr) (cw : Nat) (Ak : Option Addr) (kl ck : Nat) (w : World) (hp : placeW shiftsR ⟨num,n,s,pos⟩ = 0) (hlt : ad.block < w.heap.size)
    (e0 : w.cell? ad = some (.bool num)) (e1 : w.cell? ⟨ad.block,ad.off + 1,none⟩ = some (.int .i64 n)) (e2 : w.cell? ⟨ad.block,ad.off + 2,none⟩ = some (.string ⟨s.toArray⟩)) (e3 : w.cell? ⟨ad.block,ad.off + 3,none⟩ = some (.int .i64 pos)) (d : CalL) :
    Calls Try.prog 25 #[calV c, .agg #[.string ⟨b_named.toArray⟩, .int .i64 kp, .slice (some ad) (1) cw, .bool false, .slice Ak kl ck]] w (KeyPost d false w):=by
  have HK:=zh (keyW_start w c b_named kp (some ad) (1) cw false Ak kl ck)
  have HPL:=zh (fun W g c h => r11_place shiftsR ⟨num,n,s,pos⟩ g c W (by decide) h)
  rw [hp] at HPL
  clear hp
  generalize hQ : KeyPost d false w = Q
  have HQ:=zh hQ
  clear hQ
  unfold calO nodO b_named at HK
  unfold b_named
  obtain ⟨cnm,ckd,cdy,cmo,csh,csp,cp0,cp1,cp2,ccy,cex,cfi,cla,cpo⟩:=c
  dsimp only [calV,calZ] at HK ⊢
  go_enter Try.func25,Try.ntmps25
  go_upto_region 1 with fail
  (generalize World.alloc _ _ = W at HK ⊢;obtain ⟨hbw,hlow,hcal,hnode,hres⟩:=HK.out;generalize hbc : w.heap.size = bc at hlt hlow hcal hnode hres hbw HK ⊢;have HBC:=zh hbc;have HBW:=zh hbw)
  replace e0:=(hbw.cell (p:=ad) hlt).trans e0
  replace e1:=(hbw.cell (p:=⟨ad.block,ad.off + 1,none⟩) hlt).trans e1
  replace e2:=(hbw.cell (p:=⟨ad.block,ad.off + 2,none⟩) hlt).trans e2
  replace e3:=(hbw.cell (p:=⟨ad.block,ad.off + 3,none⟩) hlt).trans e3
  have hadc : ad.block ≠ bc:=by omega
  have hadz : ad.block ≠ bc + 1 + 1:=by omega
  dsimp only [nodO] at hnode
  have m0:=zb hnode 0;have m1:=zb hnode 1;have m2:=zb hnode 2;have m3:=zb hnode 3;have m4:=zb hnode 4
  have hl0 : bc + 1 + 1 < W.heap.size:=hres.lt
  have HSB:=zh (show StrBlk (W.alloc (.cells #[.string ⟨#[102,105,114,115,116]⟩, .string ⟨#[108,97,115,116]⟩] 9)) W.heap.size shiftsR from ⟨_,heap_alloc_new W _⟩)
  have hadW : ad.block < W.heap.size:=by omega
  have z0:=(World.cell?_alloc_lt W (.cells #[.string ⟨#[102,105,114,115,116]⟩, .string ⟨#[108,97,115,116]⟩] 9) ad hadW).trans e0
  have z1:=(World.cell?_alloc_lt W (.cells #[.string ⟨#[102,105,114,115,116]⟩, .string ⟨#[108,97,115,116]⟩] 9) ⟨ad.block,ad.off + 1,none⟩ hadW).trans e1
  have z2:=(World.cell?_alloc_lt W (.cells #[.string ⟨#[102,105,114,115,116]⟩, .string ⟨#[108,97,115,116]⟩] 9) ⟨ad.block,ad.off + 2,none⟩ hadW).trans e2
  have z3:=(World.cell?_alloc_lt W (.cells #[.string ⟨#[102,105,114,115,116]⟩, .string ⟨#[108,97,115,116]⟩] 9) ⟨ad.block,ad.off + 3,none⟩ hadW).trans e3
  clear hbw hcal hres hnode hbc hlow
  go_wp2_with fail
  refine (HPL.out _ _ _ HSB.out).mono ?_
  rintro e w1 ⟨rfl,hb1⟩
  replace HK:=zh (HK.out.keep ((below_cal W _).trans (hb1.mono (below_cal W _).size)))
  obtain ⟨hbw,hlow,hcal,hnode,hres⟩:=HK.out
  clear HBW hb1 e0 e1 e2 e3 z0 z1 z2 z3 m0 m1 m2 m3 m4 hl0
  have HBW : Hid (Below bc w w1):=zh (by rw [← HBC.out];exact hbw)
  dsimp only [nodO] at hnode
  dsimp only [CalBlk,calZ] at hcal hres
  obtain ⟨g0,g1,g2,g3,g4,g5,g6,g7,g8,g9,g10,g11,g12,g13⟩:=cells14 hcal
  obtain ⟨n0,n1,n2,n3,n4,n5,n6,n7,n8,n9,n10,n11,n12,n13⟩:=cells14 hres
  have m0:=zb hnode 0;have m1:=zb hnode 1;have m2:=zb hnode 2;have m3:=zb hnode 3;have m4:=zb hnode 4
  have ly:=(Array.getElem?_eq_some_iff.1 hcal).1
  have lz:=(Array.getElem?_eq_some_iff.1 hres).1
  obtain ⟨fu0,fu1,fu2,fu3,fu4,fu5,fu6,fu7,fu8,fu9,fu10,fu11,fu12,fu13⟩:=unf14 hcal
  obtain ⟨fz0,fz1,fz2,fz3,fz4,fz5,fz6,fz7,fz8,fz9,fz10,fz11,fz12,fz13⟩:=unf14 hres
  clear hbw hcal hres hnode HK hlow
  go_wp2_with fail
  go_region
  all_goals (
    go_wp2_with fail
    refine bodyPost_ret (v:=.tuple #[.agg #[.string ⟨cnm.toArray⟩, .int .i64 ckd, .int .i64 cdy, .int .i64 cmo, .int .i64 2, .int .i64 csp, .int .i64 cp0, .int .i64 cp1, .int .i64 cp2, .int .i64 ccy, .int .i64 cex, .int .i64 cfi, .int .i64 cla, .int .i64 cpo], .bool false]) (by simp [results,Try.results25,go_sem, *]) rfl ?_
    rw [← HQ.out]
    unfold KeyPost
    refine ⟨⟨cnm,ckd,cdy,cmo,2,csp,cp0,cp1,cp2,ccy,cex,cfi,cla,cpo⟩,rfl,fun h => Bool.noConfusion h,?_⟩
    rw [HBC.out]
    have hz9 : bc ≤ bc + 1 + 1:=by omega
    refine Below.drew ?_
    iterate 14 refine Below.setCell ?_ hz9 _
    have hz8 : bc ≤ bc:=Nat.le_refl _
    iterate 1 refine Below.setCell ?_ hz8 _
    exact HBW.out)
set_option maxHeartbeats 16000000 in
theorem key_namedok1 (c : CalL) (kp : Int) (num : Bool) (n : Int) (s : Bytes) (pos : Int) (ad : Addr) (cw : Nat) (Ak : Option Addr) (kl ck : Nat) (w : World) (hp : placeW shiftsR ⟨num,n,s,pos⟩ = 1) (hlt : ad.block < w.heap.size)
    (e0 : w.cell? ad = some (.bool num)) (e1 : w.cell? ⟨ad.block,ad.off + 1,none⟩ = some (.int .i64 n)) (e2 : w.cell? ⟨ad.block,ad.off + 2,none⟩ = some (.string ⟨s.toArray⟩)) (e3 : w.cell? ⟨ad.block,ad.off + 3,none⟩ = some (.int .i64 pos)) :
    Calls Try.prog 25 #[calV c, .agg #[.string ⟨b_named.toArray⟩, .int .i64 kp, .slice (some ad) (1) cw, .bool false, .slice Ak kl ck]] w (KeyPost { c with shift:=1 } true w):=by
  have HK:=zh (keyW_start w c b_named kp (some ad) (1) cw false Ak kl ck)
  have HPL:=zh (fun W g c h => r11_place shiftsR ⟨num,n,s,pos⟩ g c W (by decide) h)
  rw [hp] at HPL
  clear hp
  generalize hQ : KeyPost _ true w = Q
  have HQ:=zh hQ
  clear hQ
  unfold calO nodO b_named at HK
  unfold b_named
  obtain ⟨cnm,ckd,cdy,cmo,csh,csp,cp0,cp1,cp2,ccy,cex,cfi,cla,cpo⟩:=c
  dsimp only [calV,calZ] at HK ⊢
  go_enter Try.func25,Try.ntmps25
  go_upto_region 1 with fail
  (generalize World.alloc _ _ = W at HK ⊢;obtain ⟨hbw,hlow,hcal,hnode,hres⟩:=HK.out;generalize hbc : w.heap.size = bc at hlt hlow hcal hnode hres hbw HK ⊢;have HBC:=zh hbc;have HBW:=zh hbw)
  replace e0:=(hbw.cell (p:=ad) hlt).trans e0
  replace e1:=(hbw.cell (p:=⟨ad.block,ad.off + 1,none⟩) hlt).trans e1
  replace e2:=(hbw.cell (p:=⟨ad.block,ad.off + 2,none⟩) hlt).trans e2
  replace e3:=(hbw.cell (p:=⟨ad.block,ad.off + 3,none⟩) hlt).trans e3
  have hadc : ad.block ≠ bc:=by omega
  have hadz : ad.block ≠ bc + 1 + 1:=by omega
  dsimp only [nodO] at hnode
  have m0:=zb hnode 0;have m1:=zb hnode 1;have m2:=zb hnode 2;have m3:=zb hnode 3;have m4:=zb hnode 4
  have hl0 : bc + 1 + 1 < W.heap.size:=hres.lt
  have HSB:=zh (show StrBlk (W.alloc (.cells #[.string ⟨#[102,105,114,115,116]⟩, .string ⟨#[108,97,115,116]⟩] 9)) W.heap.size shiftsR from ⟨_,heap_alloc_new W _⟩)
  have hadW : ad.block < W.heap.size:=by omega
  have z0:=(World.cell?_alloc_lt W (.cells #[.string ⟨#[102,105,114,115,116]⟩, .string ⟨#[108,97,115,116]⟩] 9) ad hadW).trans e0
  have z1:=(World.cell?_alloc_lt W (.cells #[.string ⟨#[102,105,114,115,116]⟩, .string ⟨#[108,97,115,116]⟩] 9) ⟨ad.block,ad.off + 1,none⟩ hadW).trans e1
  have z2:=(World.cell?_alloc_lt W (.cells #[.string ⟨#[102,105,114,115,116]⟩, .string ⟨#[108,97,115,116]⟩] 9) ⟨ad.block,ad.off + 2,none⟩ hadW).trans e2
  have z3:=(World.cell?_alloc_lt W (.cells #[.string ⟨#[102,105,114,115,116]⟩, .string ⟨#[108,97,115,116]⟩] 9) ⟨ad.block,ad.off + 3,none⟩ hadW).trans e3
  clear hbw hcal hres hnode hbc hlow
  go_wp2_with fail
  refine (HPL.out _ _ _ HSB.out).mono ?_
  rintro e w1 ⟨rfl,hb1⟩
  replace HK:=zh (HK.out.keep ((below_cal W _).trans (hb1.mono (below_cal W _).size)))
  obtain ⟨hbw,hlow,hcal,hnode,hres⟩:=HK.out
  clear HBW hb1 e0 e1 e2 e3 z0 z1 z2 z3 m0 m1 m2 m3 m4 hl0
  have HBW : Hid (Below bc w w1):=zh (by rw [← HBC.out];exact hbw)
  dsimp only [nodO] at hnode
  dsimp only [CalBlk,calZ] at hcal hres
  obtain ⟨g0,g1,g2,g3,g4,g5,g6,g7,g8,g9,g10,g11,g12,g13⟩:=cells14 hcal
  obtain ⟨n0,n1,n2,n3,n4,n5,n6,n7,n8,n9,n10,n11,n12,n13⟩:=cells14 hres
  have m0:=zb hnode 0;have m1:=zb hnode 1;have m2:=zb hnode 2;have m3:=zb hnode 3;have m4:=zb hnode 4
  have ly:=(Array.getElem?_eq_some_iff.1 hcal).1
  have lz:=(Array.getElem?_eq_some_iff.1 hres).1
  obtain ⟨fu0,fu1,fu2,fu3,fu4,fu5,fu6,fu7,fu8,fu9,fu10,fu11,fu12,fu13⟩:=unf14 hcal
  obtain ⟨fz0,fz1,fz2,fz3,fz4,fz5,fz6,fz7,fz8,fz9,fz10,fz11,fz12,fz13⟩:=unf14 hres
  clear hbw hcal hres hnode HK hlow
  go_wp2_with fail
  go_region
  all_goals (
    go_wp2_with fail
    refine bodyPost_ret (v:=.tuple #[.agg #[.string ⟨cnm.toArray⟩, .int .i64 ckd, .int .i64 cdy, .int .i64 cmo, .int .i64 1, .int .i64 csp, .int .i64 cp0, .int .i64 cp1, .int .i64 cp2, .int .i64 ccy, .int .i64 cex, .int .i64 cfi, .int .i64 cla, .int .i64 cpo], .bool true]) (by simp [results,Try.results25,go_sem, *]) rfl ?_
    rw [← HQ.out]
    unfold KeyPost
    refine ⟨⟨cnm,ckd,cdy,cmo,1,csp,cp0,cp1,cp2,ccy,cex,cfi,cla,cpo⟩,rfl,fun _ => rfl,?_⟩
    rw [HBC.out]
    have hz9 : bc ≤ bc + 1 + 1:=by omega
    refine Below.drew ?_
    iterate 14 refine Below.setCell ?_ hz9 _
    have hz8 : bc ≤ bc:=Nat.le_refl _
    iterate 1 refine Below.setCell ?_ hz8 _
    exact HBW.out)
set_option maxHeartbeats 16000000 in
theorem key_namedok2 (c : CalL) (kp : Int) (num : Bool) (n : Int) (s : Bytes) (pos : Int) (ad : Addr) (cw : Nat) (Ak : Option Addr) (kl ck : Nat) (w : World) (hp : placeW shiftsR ⟨num,n,s,pos⟩ = 2) (hlt : ad.block < w.heap.size)
    (e0 : w.cell? ad = some (.bool num)) (e1 : w.cell? ⟨ad.block,ad.off + 1,none⟩ = some (.int .i64 n)) (e2 : w.cell? ⟨ad.block,ad.off + 2,none⟩ = some (.string ⟨s.toArray⟩)) (e3 : w.cell? ⟨ad.block,ad.off + 3,none⟩ = some (.int .i64 pos)) :
    Calls Try.prog 25 #[calV c, .agg #[.string ⟨b_named.toArray⟩, .int .i64 kp, .slice (some ad) (1) cw, .bool false, .slice Ak kl ck]] w (KeyPost { c with shift:=0 } true w):=by
  have HK:=zh (keyW_start w c b_named kp (some ad) (1) cw false Ak kl ck)
  have HPL:=zh (fun W g c h => r11_place shiftsR ⟨num,n,s,pos⟩ g c W (by decide) h)
  rw [hp] at HPL
  clear hp
  generalize hQ : KeyPost _ true w = Q
  have HQ:=zh hQ
  clear hQ
  unfold calO nodO b_named at HK
  unfold b_named
  obtain ⟨cnm,ckd,cdy,cmo,csh,csp,cp0,cp1,cp2,ccy,cex,cfi,cla,cpo⟩:=c
  dsimp only [calV,calZ] at HK ⊢
  go_enter Try.func25,Try.ntmps25
  go_upto_region 1 with fail
  (generalize World.alloc _ _ = W at HK ⊢;obtain ⟨hbw,hlow,hcal,hnode,hres⟩:=HK.out;generalize hbc : w.heap.size = bc at hlt hlow hcal hnode hres hbw HK ⊢;have HBC:=zh hbc;have HBW:=zh hbw)
  replace e0:=(hbw.cell (p:=ad) hlt).trans e0
  replace e1:=(hbw.cell (p:=⟨ad.block,ad.off + 1,none⟩) hlt).trans e1
  replace e2:=(hbw.cell (p:=⟨ad.block,ad.off + 2,none⟩) hlt).trans e2
  replace e3:=(hbw.cell (p:=⟨ad.block,ad.off + 3,none⟩) hlt).trans e3
  have hadc : ad.block ≠ bc:=by omega
  have hadz : ad.block ≠ bc + 1 + 1:=by omega
  dsimp only [nodO] at hnode
  have m0:=zb hnode 0;have m1:=zb hnode 1;have m2:=zb hnode 2;have m3:=zb hnode 3;have m4:=zb hnode 4
  have hl0 : bc + 1 + 1 < W.heap.size:=hres.lt
  have HSB:=zh (show StrBlk (W.alloc (.cells #[.string ⟨#[102,105,114,115,116]⟩, .string ⟨#[108,97,115,116]⟩] 9)) W.heap.size shiftsR from ⟨_,heap_alloc_new W _⟩)
  have hadW : ad.block < W.heap.size:=by omega
  have z0:=(World.cell?_alloc_lt W (.cells #[.string ⟨#[102,105,114,115,116]⟩, .string ⟨#[108,97,115,116]⟩] 9) ad hadW).trans e0
  have z1:=(World.cell?_alloc_lt W (.cells #[.string ⟨#[102,105,114,115,116]⟩, .string ⟨#[108,97,115,116]⟩] 9) ⟨ad.block,ad.off + 1,none⟩ hadW).trans e1
  have z2:=(World.cell?_alloc_lt W (.cells #[.string ⟨#[102,105,114,115,116]⟩, .string ⟨#[108,97,115,116]⟩] 9) ⟨ad.block,ad.off + 2,none⟩ hadW).trans e2
  have z3:=(World.cell?_alloc_lt W (.cells #[.string ⟨#[102,105,114,115,116]⟩, .string ⟨#[108,97,115,116]⟩] 9) ⟨ad.block,ad.off + 3,none⟩ hadW).trans e3
  clear hbw hcal hres hnode hbc hlow
  go_wp2_with fail
  refine (HPL.out _ _ _ HSB.out).mono ?_
  rintro e w1 ⟨rfl,hb1⟩
  replace HK:=zh (HK.out.keep ((below_cal W _).trans (hb1.mono (below_cal W _).size)))
  obtain ⟨hbw,hlow,hcal,hnode,hres⟩:=HK.out
  clear HBW hb1 e0 e1 e2 e3 z0 z1 z2 z3 m0 m1 m2 m3 m4 hl0
  have HBW : Hid (Below bc w w1):=zh (by rw [← HBC.out];exact hbw)
  dsimp only [nodO] at hnode
  dsimp only [CalBlk,calZ] at hcal hres
  obtain ⟨g0,g1,g2,g3,g4,g5,g6,g7,g8,g9,g10,g11,g12,g13⟩:=cells14 hcal
  obtain ⟨n0,n1,n2,n3,n4,n5,n6,n7,n8,n9,n10,n11,n12,n13⟩:=cells14 hres
  have m0:=zb hnode 0;have m1:=zb hnode 1;have m2:=zb hnode 2;have m3:=zb hnode 3;have m4:=zb hnode 4
  have ly:=(Array.getElem?_eq_some_iff.1 hcal).1
  have lz:=(Array.getElem?_eq_some_iff.1 hres).1
  obtain ⟨fu0,fu1,fu2,fu3,fu4,fu5,fu6,fu7,fu8,fu9,fu10,fu11,fu12,fu13⟩:=unf14 hcal
  obtain ⟨fz0,fz1,fz2,fz3,fz4,fz5,fz6,fz7,fz8,fz9,fz10,fz11,fz12,fz13⟩:=unf14 hres
  clear hbw hcal hres hnode HK hlow
  go_wp2_with fail
  go_region
  all_goals (
    go_wp2_with fail
    refine bodyPost_ret (v:=.tuple #[.agg #[.string ⟨cnm.toArray⟩, .int .i64 ckd, .int .i64 cdy, .int .i64 cmo, .int .i64 0, .int .i64 csp, .int .i64 cp0, .int .i64 cp1, .int .i64 cp2, .int .i64 ccy, .int .i64 cex, .int .i64 cfi, .int .i64 cla, .int .i64 cpo], .bool true]) (by simp [results,Try.results25,go_sem, *]) rfl ?_
    rw [← HQ.out]
    unfold KeyPost
    refine ⟨⟨cnm,ckd,cdy,cmo,0,csp,cp0,cp1,cp2,ccy,cex,cfi,cla,cpo⟩,rfl,fun _ => rfl,?_⟩
    rw [HBC.out]
    have hz9 : bc ≤ bc + 1 + 1:=by omega
    refine Below.drew ?_
    iterate 14 refine Below.setCell ?_ hz9 _
    have hz8 : bc ≤ bc:=Nat.le_refl _
    iterate 1 refine Below.setCell ?_ hz8 _
    exact HBW.out)
end Go.Proofs.Ytpkhocbohhpmbaa
