/- Layer 11 (field), the reference: the walk of end: the ends near, month, with all their words. Written by wip/gen_end.py. Then: Layer 11 (field), the reference: the walk of end: the end month, with all their words. -/
import Derived.Test.YtpkhocbohhpmbaaPkR40
import Derived.BigRegion
set_option linter.unusedVariables false
set_option linter.unusedSimpArgs false
set_option maxRecDepth 100000
namespace Go.Proofs.Ytpkhocbohhpmbaa
section
open Go.RowKit
open Go.Joins renaming cell_of_block → zb, unfrozen_of_block → zu
open Go.Lib renaming hid → zh
set_option maxHeartbeats 16000000 in
theorem r11_end_2 (nm : Bytes) (num : Bool) (n : Int) (s : Bytes) (pos : Int) (un : Bool) (nn : Int) (us : Bytes) (up : Int) (xn : Bool) (xx : Int) (xs : Bytes) (xp : Int) (ad : Addr) (cp : Nat) (w : World) (hk : placeW endsL ⟨num,n,s,pos⟩ = 2) (hlt : ad.block < w.heap.size)
    (c0 : w.cell? ad = some (.bool num)) (c1 : w.cell? ⟨ad.block,ad.off + 1,none⟩ = some (.int .i64 n)) (c2 : w.cell? ⟨ad.block,ad.off + 2,none⟩ = some (.string ⟨s.toArray⟩)) (c3 : w.cell? ⟨ad.block,ad.off + 3,none⟩ = some (.int .i64 pos))
    (a0 : w.cell? ⟨ad.block,ad.off + 4,none⟩ = some (.bool un)) (a1 : w.cell? ⟨ad.block,ad.off + 4 + 1,none⟩ = some (.int .i64 nn)) (a2 : w.cell? ⟨ad.block,ad.off + 4 + 2,none⟩ = some (.string ⟨us.toArray⟩)) (a3 : w.cell? ⟨ad.block,ad.off + 4 + 3,none⟩ = some (.int .i64 up))
    (d0 : w.cell? ⟨ad.block,ad.off + 8,none⟩ = some (.bool xn)) (d1 : w.cell? ⟨ad.block,ad.off + 8 + 1,none⟩ = some (.int .i64 xx)) (d2 : w.cell? ⟨ad.block,ad.off + 8 + 2,none⟩ = some (.string ⟨xs.toArray⟩)) (d3 : w.cell? ⟨ad.block,ad.off + 8 + 3,none⟩ = some (.int .i64 xp)) :
    Calls Try.prog 59 #[calV { calZ with name:=nm }, .slice (some ad) 3 cp] w (EndPost nm [⟨num,n,s,pos⟩,⟨un,nn,us,up⟩,⟨xn,xx,xs,xp⟩] w):=by
  have HT:=zh (three w (calZn nm) (calZn []) endsO)
  have HPL:=zh (fun W g c h => r11_place endsL ⟨num,n,s,pos⟩ g c W (by decide) h)
  rw [hk] at HPL
  have HPD:=zh (fun g W h => r11_place days ⟨un,nn,us,up⟩ g 7 W (by decide) h)
  have HPM:=zh (fun g W h => r11_place mons ⟨xn,xx,xs,xp⟩ g 12 W (by decide) h)
  have hm0:=(place_rng mons ⟨xn,xx,xs,xp⟩).1
  have hd0:=(place_rng days ⟨un,nn,us,up⟩).1
  have hen:=(endK_eq nm [⟨num,n,s,pos⟩,⟨un,nn,us,up⟩,⟨xn,xx,xs,xp⟩] 2 hk).trans (endB_12 nm _ _ _ 2 (by decide))
  generalize placeW mons ⟨xn,xx,xs,xp⟩ = m at *
  generalize placeW days ⟨un,nn,us,up⟩ = dd at *
  have HEN0:=zh hen
  have HA:=zh (And.intro a0 (And.intro a1 (And.intro a2 a3)))
  have HD:=zh (And.intro d0 (And.intro d1 (And.intro d2 d3)))
  clear hen a0 a1 a2 a3 d0 d1 d2 d3
  generalize hQ : EndPost nm [⟨num,n,s,pos⟩,⟨un,nn,us,up⟩,⟨xn,xx,xs,xp⟩] w = Q
  have HQ:=zh hQ
  have e0:=(HT.out.1.cell hlt).trans c0
  have e1:=(HT.out.1.cell (p:=⟨ad.block,ad.off + 1,none⟩) hlt).trans c1
  have e2:=(HT.out.1.cell (p:=⟨ad.block,ad.off + 2,none⟩) hlt).trans c2
  have e3:=(HT.out.1.cell (p:=⟨ad.block,ad.off + 3,none⟩) hlt).trans c3
  have HSB:=zh (endsO_blk HT.out.2.2.2.1)
  unfold calZn endsO at HT e0 e1 e2 e3 HSB
  have hlt1 : ad.block < w.heap.size + 1:=by omega
  clear hk hQ c0 c1 c2 c3
  dsimp only [calV,calZ]
  go_enter Try.func59,Try.ntmps59
  go_wp2_with fail
  refine (HPL.out _ _ _ HSB.out).mono ?_
  rintro e w1 ⟨rfl,hb1⟩
  have y1:=(hb1.block w.heap.size (by simp;omega)).trans HT.out.2.1
  have z1:=(hb1.block (w.heap.size + 1) (by simp)).trans HT.out.2.2.1
  have hbw1:=HT.out.1.trans (hb1.mono HT.out.1.size)
  obtain ⟨bz,hbz⟩ : ∃ x,x = w.heap.size + 1:=⟨_,rfl⟩
  obtain ⟨bc,hbc⟩ : ∃ x,x = w.heap.size:=⟨_,rfl⟩
  have hadc : ad.block ≠ bc:=by omega
  have hadz : ad.block ≠ bz:=by omega
  have hbb : bz ≠ bc:=by omega
  have HBC:=zh (show w.heap.size ≤ bc ∧ w.heap.size ≤ bz by omega)
  have hE1 : EndW w w1 bc bz { calZ with name:=nm }:=⟨by rw [hbc];exact y1,by rw [hbz];exact z1,hbw1⟩
  have q1:=zb hE1.1 1
  have u1:=zu hE1.1 1
  rw [← hbz,← hbc]
  have HE1:=zh hE1
  have HHB:=zh (And.intro hbz hbc)
  clear hb1 y1 z1 hbw1 hE1 e0 e1 e2 e3 HT HSB hbz hbc HPL hlt1
  go_wp2_with fail
  generalize hWg : World.setCell _ _ _ = W
  have HE : Hid (EndW w W bc bz { calZ with name:=nm,kind:=2 }):=zh (by rw [← hWg];exact HE1.out.kind 2 hbb HBC.out.1)
  clear hWg HE1 q1 u1
  have hbW:=HE.out.2.2
  have a0:=(hbW.cell (p:=⟨ad.block,ad.off + 4,none⟩) hlt).trans HA.out.1
  have a1:=(hbW.cell (p:=⟨ad.block,ad.off + 4 + 1,none⟩) hlt).trans HA.out.2.1
  have a2:=(hbW.cell (p:=⟨ad.block,ad.off + 4 + 2,none⟩) hlt).trans HA.out.2.2.1
  have a3:=(hbW.cell (p:=⟨ad.block,ad.off + 4 + 3,none⟩) hlt).trans HA.out.2.2.2
  have hgW:=HE.out.1.lt
  have hgZ:=HE.out.2.1.lt
  have hdl : ad.block < W.heap.size:=Nat.lt_of_lt_of_le hlt hbW.size
  clear hbW
  go_cut [25] (fun s25 wx => s25 = .int .i64 dd ∧ EndW w wx bc bz { calZ with name:=nm,kind:=2,day:=dd })
  case first =>
    go_region_with (first | (go_at_call 34;refine (r11_days _).mono ?_;rintro e w4 ⟨rfl,hg4,hb4⟩;have a0:=(hb4.cell (p:=⟨ad.block,ad.off + 4,none⟩) hdl).trans a0;have a1:=(hb4.cell (p:=⟨ad.block,ad.off + 4 + 1,none⟩) hdl).trans a1;have a2:=(hb4.cell (p:=⟨ad.block,ad.off + 4 + 2,none⟩) hdl).trans a2;have a3:=(hb4.cell (p:=⟨ad.block,ad.off + 4 + 3,none⟩) hdl).trans a3) | (go_at_call 23;refine (HPD.out _ _ (by assumption)).mono ?_;rintro e w5 ⟨rfl,hb5⟩;have hb45 : Below W.heap.size W w5:=Below.trans (show Below W.heap.size W w4 from ⟨hb4.os,hb4.tape,hb4.output,hb4.size,hb4.block⟩) (hb5.mono hb4.size);have hE5:=HE.out.keep hb45;have f2:=zu hE5.1 2;have c2:=zb hE5.1 2))
    all_goals (
      have HE5:=zh hE5
      clear hb4 hb5 hb45 hE5 hg4
      go_wp2_with fail
      go_meet
      exact ⟨rfl,HE5.out.day _ hbb HBC.out.1⟩)
  case rest =>
  obtain ⟨rfl,hE⟩:=hcut
  replace HE:=zh hE
  clear hE hgW hgZ hdl a0 a1 a2 a3
  go_wp2_with fail
  have hbwc:=HE.out.2.2
  have d0:=(hbwc.cell (p:=⟨ad.block,ad.off + 8,none⟩) hlt).trans HD.out.1
  have d1:=(hbwc.cell (p:=⟨ad.block,ad.off + 8 + 1,none⟩) hlt).trans HD.out.2.1
  have d2:=(hbwc.cell (p:=⟨ad.block,ad.off + 8 + 2,none⟩) hlt).trans HD.out.2.2.1
  have d3:=(hbwc.cell (p:=⟨ad.block,ad.off + 8 + 3,none⟩) hlt).trans HD.out.2.2.2
  have hgW:=HE.out.1.lt
  have hgZ:=HE.out.2.1.lt
  have hdl : ad.block < wc.heap.size:=Nat.lt_of_lt_of_le hlt hbwc.size
  clear hbwc
  go_cut [31] (fun s25 wx => s25 = .int .i64 m ∧ EndW w wx bc bz { calZ with name:=nm,kind:=2,day:=dd,month:=m })
  case first =>
    go_region_with (first | (go_at_call 35;refine (r11_months _).mono ?_;rintro e w4 ⟨rfl,hg4,hb4⟩;have d0:=(hb4.cell (p:=⟨ad.block,ad.off + 8,none⟩) hdl).trans d0;have d1:=(hb4.cell (p:=⟨ad.block,ad.off + 8 + 1,none⟩) hdl).trans d1;have d2:=(hb4.cell (p:=⟨ad.block,ad.off + 8 + 2,none⟩) hdl).trans d2;have d3:=(hb4.cell (p:=⟨ad.block,ad.off + 8 + 3,none⟩) hdl).trans d3) | (go_at_call 23;refine (HPM.out _ _ (by assumption)).mono ?_;rintro e w5 ⟨rfl,hb5⟩;have hb45 : Below wc.heap.size wc w5:=Below.trans (show Below wc.heap.size wc w4 from ⟨hb4.os,hb4.tape,hb4.output,hb4.size,hb4.block⟩) (hb5.mono hb4.size);have hE5:=HE.out.keep hb45;have f2:=zu hE5.1 3;have c2:=zb hE5.1 3))
    all_goals (
      have HE5:=zh hE5
      clear hb4 hb5 hb45 hE5 hg4
      go_wp2_with fail
      go_meet
      exact ⟨rfl,HE5.out.month _ hbb HBC.out.1⟩)
  case rest =>
  obtain ⟨rfl,hE⟩:=hcut
  replace HE:=zh hE
  clear hE hgW hgZ hdl d0 d1 d2 d3
  go_wp2_with fail
  by_cases hd : dd = 0
  · subst hd
    have HEN : Hid (endK nm [⟨num,n,s,pos⟩,⟨un,nn,us,up⟩,⟨xn,xx,xs,xp⟩] = (⟨nm,2,0,m,0,0,0,0,0,0,0,0,0,0⟩,false)):=zh (HEN0.out.trans (by simp [calZ]))
    clear hm0 hd0
    have hE:=HE.out
    obtain ⟨hcal,hres,hb9⟩:=hE
    have HB9:=zh hb9
    dsimp only [CalBlk,calZ] at hcal hres
    obtain ⟨g0,g1,g2,g3,g4,g5,g6,g7,g8,g9,g10,g11,g12,g13⟩:=cells14 hcal
    obtain ⟨n0,n1,n2,n3,n4,n5,n6,n7,n8,n9,n10,n11,n12,n13⟩:=cells14 hres
    have ly:=(Array.getElem?_eq_some_iff.1 hcal).1
    have lz:=(Array.getElem?_eq_some_iff.1 hres).1
    obtain ⟨fu0,fu1,fu2,fu3,fu4,fu5,fu6,fu7,fu8,fu9,fu10,fu11,fu12,fu13⟩:=unf14 hcal
    obtain ⟨fz0,fz1,fz2,fz3,fz4,fz5,fz6,fz7,fz8,fz9,fz10,fz11,fz12,fz13⟩:=unf14 hres
    clear hcal hres hb9 HE
    go_region
    all_goals (
      go_wp2_with fail
      refine bodyPost_ret (v:=.tuple #[.agg #[.string ⟨nm.toArray⟩, .int .i64 2, .int .i64 0, .int .i64 m, .int .i64 0, .int .i64 0, .int .i64 0, .int .i64 0, .int .i64 0, .int .i64 0, .int .i64 0, .int .i64 0, .int .i64 0, .int .i64 0], .bool false]) (by simp [results,Try.results59,go_sem, *]) rfl ?_
      rw [← HQ.out]
      unfold EndPost
      rw [HEN.out]
      refine ⟨⟨nm,2,0,m,0,0,0,0,0,0,0,0,0,0⟩,rfl,fun _ => rfl,?_⟩
      refine Below.drew ?_
      iterate 14 refine Below.setCell ?_ HBC.out.2 _
      exact HB9.out)
  by_cases hm : m = 0
  · subst hm
    have p0 : 0 < dd:=by omega
    have HEN : Hid (endK nm [⟨num,n,s,pos⟩,⟨un,nn,us,up⟩,⟨xn,xx,xs,xp⟩] = (⟨nm,2,dd,0,0,0,0,0,0,0,0,0,0,0⟩,false)):=zh (HEN0.out.trans (by simp [calZ]))
    clear hm0 hd0 hd
    have hE:=HE.out
    obtain ⟨hcal,hres,hb9⟩:=hE
    have HB9:=zh hb9
    dsimp only [CalBlk,calZ] at hcal hres
    obtain ⟨g0,g1,g2,g3,g4,g5,g6,g7,g8,g9,g10,g11,g12,g13⟩:=cells14 hcal
    obtain ⟨n0,n1,n2,n3,n4,n5,n6,n7,n8,n9,n10,n11,n12,n13⟩:=cells14 hres
    have ly:=(Array.getElem?_eq_some_iff.1 hcal).1
    have lz:=(Array.getElem?_eq_some_iff.1 hres).1
    obtain ⟨fu0,fu1,fu2,fu3,fu4,fu5,fu6,fu7,fu8,fu9,fu10,fu11,fu12,fu13⟩:=unf14 hcal
    obtain ⟨fz0,fz1,fz2,fz3,fz4,fz5,fz6,fz7,fz8,fz9,fz10,fz11,fz12,fz13⟩:=unf14 hres
    clear hcal hres hb9 HE
    go_region
    all_goals (
      go_wp2_with fail
      refine bodyPost_ret (v:=.tuple #[.agg #[.string ⟨nm.toArray⟩, .int .i64 2, .int .i64 dd, .int .i64 0, .int .i64 0, .int .i64 0, .int .i64 0, .int .i64 0, .int .i64 0, .int .i64 0, .int .i64 0, .int .i64 0, .int .i64 0, .int .i64 0], .bool false]) (by simp [results,Try.results59,go_sem, *]) rfl ?_
      rw [← HQ.out]
      unfold EndPost
      rw [HEN.out]
      refine ⟨⟨nm,2,dd,0,0,0,0,0,0,0,0,0,0,0⟩,rfl,fun _ => rfl,?_⟩
      refine Below.drew ?_
      iterate 14 refine Below.setCell ?_ HBC.out.2 _
      exact HB9.out)
  · skip
    have p0 : 0 < dd:=by omega
    have p1 : 0 < m:=by omega
    have HEN : Hid (endK nm [⟨num,n,s,pos⟩,⟨un,nn,us,up⟩,⟨xn,xx,xs,xp⟩] = (⟨nm,2,dd,m,0,0,0,0,0,0,0,0,0,0⟩,true)):=zh (HEN0.out.trans (by simp [calZ,p0,p1]))
    clear hm0 hd0 hd hm
    have hE:=HE.out
    obtain ⟨hcal,hres,hb9⟩:=hE
    have HB9:=zh hb9
    dsimp only [CalBlk,calZ] at hcal hres
    obtain ⟨g0,g1,g2,g3,g4,g5,g6,g7,g8,g9,g10,g11,g12,g13⟩:=cells14 hcal
    obtain ⟨n0,n1,n2,n3,n4,n5,n6,n7,n8,n9,n10,n11,n12,n13⟩:=cells14 hres
    have ly:=(Array.getElem?_eq_some_iff.1 hcal).1
    have lz:=(Array.getElem?_eq_some_iff.1 hres).1
    obtain ⟨fu0,fu1,fu2,fu3,fu4,fu5,fu6,fu7,fu8,fu9,fu10,fu11,fu12,fu13⟩:=unf14 hcal
    obtain ⟨fz0,fz1,fz2,fz3,fz4,fz5,fz6,fz7,fz8,fz9,fz10,fz11,fz12,fz13⟩:=unf14 hres
    clear hcal hres hb9 HE
    go_region
    all_goals (
      go_wp2_with fail
      refine bodyPost_ret (v:=.tuple #[.agg #[.string ⟨nm.toArray⟩, .int .i64 2, .int .i64 dd, .int .i64 m, .int .i64 0, .int .i64 0, .int .i64 0, .int .i64 0, .int .i64 0, .int .i64 0, .int .i64 0, .int .i64 0, .int .i64 0, .int .i64 0], .bool true]) (by simp [results,Try.results59,go_sem, *]) rfl ?_
      rw [← HQ.out]
      unfold EndPost
      rw [HEN.out]
      refine ⟨⟨nm,2,dd,m,0,0,0,0,0,0,0,0,0,0⟩,rfl,fun _ => rfl,?_⟩
      refine Below.drew ?_
      iterate 14 refine Below.setCell ?_ HBC.out.2 _
      exact HB9.out)
end
section
open Go.RowKit
open Go.Joins renaming cell_of_block → zb, unfrozen_of_block → zu
open Go.Lib renaming hid → zh
set_option maxHeartbeats 16000000 in
theorem r11_end_6 (nm : Bytes) (num : Bool) (n : Int) (s : Bytes) (pos : Int) (un : Bool) (nn : Int) (us : Bytes) (up : Int) (ad : Addr) (cp : Nat) (w : World) (hk : placeW endsL ⟨num,n,s,pos⟩ = 6) (hlt : ad.block < w.heap.size)
    (c0 : w.cell? ad = some (.bool num)) (c1 : w.cell? ⟨ad.block,ad.off + 1,none⟩ = some (.int .i64 n)) (c2 : w.cell? ⟨ad.block,ad.off + 2,none⟩ = some (.string ⟨s.toArray⟩)) (c3 : w.cell? ⟨ad.block,ad.off + 3,none⟩ = some (.int .i64 pos))
    (a0 : w.cell? ⟨ad.block,ad.off + 4,none⟩ = some (.bool un)) (a1 : w.cell? ⟨ad.block,ad.off + 4 + 1,none⟩ = some (.int .i64 nn)) (a2 : w.cell? ⟨ad.block,ad.off + 4 + 2,none⟩ = some (.string ⟨us.toArray⟩)) (a3 : w.cell? ⟨ad.block,ad.off + 4 + 3,none⟩ = some (.int .i64 up)) :
    Calls Try.prog 59 #[calV { calZ with name:=nm }, .slice (some ad) 2 cp] w (EndPost nm [⟨num,n,s,pos⟩,⟨un,nn,us,up⟩] w):=by
  have HT:=zh (three w (calZn nm) (calZn []) endsO)
  have HPL:=zh (fun W g c h => r11_place endsL ⟨num,n,s,pos⟩ g c W (by decide) h)
  rw [hk] at HPL
  have HPM:=zh (fun g W h => r11_place mons ⟨un,nn,us,up⟩ g 12 W (by decide) h)
  have hm0:=(place_rng mons ⟨un,nn,us,up⟩).1
  have hen:=(endK_eq nm [⟨num,n,s,pos⟩,⟨un,nn,us,up⟩] 6 hk).trans (endB_6 nm _ _)
  generalize placeW mons ⟨un,nn,us,up⟩ = m at *
  have HEN0:=zh hen
  have HA:=zh (And.intro a0 (And.intro a1 (And.intro a2 a3)))
  clear hen a0 a1 a2 a3
  generalize hQ : EndPost nm [⟨num,n,s,pos⟩,⟨un,nn,us,up⟩] w = Q
  have HQ:=zh hQ
  have e0:=(HT.out.1.cell hlt).trans c0
  have e1:=(HT.out.1.cell (p:=⟨ad.block,ad.off + 1,none⟩) hlt).trans c1
  have e2:=(HT.out.1.cell (p:=⟨ad.block,ad.off + 2,none⟩) hlt).trans c2
  have e3:=(HT.out.1.cell (p:=⟨ad.block,ad.off + 3,none⟩) hlt).trans c3
  have HSB:=zh (endsO_blk HT.out.2.2.2.1)
  unfold calZn endsO at HT e0 e1 e2 e3 HSB
  have hlt1 : ad.block < w.heap.size + 1:=by omega
  clear hk hQ c0 c1 c2 c3
  dsimp only [calV,calZ]
  go_enter Try.func59,Try.ntmps59
  go_wp2_with fail
  refine (HPL.out _ _ _ HSB.out).mono ?_
  rintro e w1 ⟨rfl,hb1⟩
  have y1:=(hb1.block w.heap.size (by simp;omega)).trans HT.out.2.1
  have z1:=(hb1.block (w.heap.size + 1) (by simp)).trans HT.out.2.2.1
  have hbw1:=HT.out.1.trans (hb1.mono HT.out.1.size)
  obtain ⟨bz,hbz⟩ : ∃ x,x = w.heap.size + 1:=⟨_,rfl⟩
  obtain ⟨bc,hbc⟩ : ∃ x,x = w.heap.size:=⟨_,rfl⟩
  have hadc : ad.block ≠ bc:=by omega
  have hadz : ad.block ≠ bz:=by omega
  have hbb : bz ≠ bc:=by omega
  have HBC:=zh (show w.heap.size ≤ bc ∧ w.heap.size ≤ bz by omega)
  have hE1 : EndW w w1 bc bz { calZ with name:=nm }:=⟨by rw [hbc];exact y1,by rw [hbz];exact z1,hbw1⟩
  have q1:=zb hE1.1 1
  have u1:=zu hE1.1 1
  rw [← hbz,← hbc]
  have HE1:=zh hE1
  have HHB:=zh (And.intro hbz hbc)
  clear hb1 y1 z1 hbw1 hE1 e0 e1 e2 e3 HT HSB hbz hbc HPL hlt1
  go_wp2_with fail
  generalize hWg : World.setCell _ _ _ = W
  have HE : Hid (EndW w W bc bz { calZ with name:=nm,kind:=6 }):=zh (by rw [← hWg];exact HE1.out.kind 6 hbb HBC.out.1)
  clear hWg HE1 q1 u1
  have hbW:=HE.out.2.2
  have a0:=(hbW.cell (p:=⟨ad.block,ad.off + 4,none⟩) hlt).trans HA.out.1
  have a1:=(hbW.cell (p:=⟨ad.block,ad.off + 4 + 1,none⟩) hlt).trans HA.out.2.1
  have a2:=(hbW.cell (p:=⟨ad.block,ad.off + 4 + 2,none⟩) hlt).trans HA.out.2.2.1
  have a3:=(hbW.cell (p:=⟨ad.block,ad.off + 4 + 3,none⟩) hlt).trans HA.out.2.2.2
  have hgW:=HE.out.1.lt
  have hgZ:=HE.out.2.1.lt
  have hdl : ad.block < W.heap.size:=Nat.lt_of_lt_of_le hlt hbW.size
  clear hbW
  go_cut [52] (fun s25 wx => s25 = .int .i64 m ∧ EndW w wx bc bz { calZ with name:=nm,kind:=6,month:=m })
  case first =>
    go_region_with (first | (go_at_call 35;refine (r11_months _).mono ?_;rintro e w4 ⟨rfl,hg4,hb4⟩;have a0:=(hb4.cell (p:=⟨ad.block,ad.off + 4,none⟩) hdl).trans a0;have a1:=(hb4.cell (p:=⟨ad.block,ad.off + 4 + 1,none⟩) hdl).trans a1;have a2:=(hb4.cell (p:=⟨ad.block,ad.off + 4 + 2,none⟩) hdl).trans a2;have a3:=(hb4.cell (p:=⟨ad.block,ad.off + 4 + 3,none⟩) hdl).trans a3) | (go_at_call 23;refine (HPM.out _ _ (by assumption)).mono ?_;rintro e w5 ⟨rfl,hb5⟩;have hb45 : Below W.heap.size W w5:=Below.trans (show Below W.heap.size W w4 from ⟨hb4.os,hb4.tape,hb4.output,hb4.size,hb4.block⟩) (hb5.mono hb4.size);have hE5:=HE.out.keep hb45;have f2:=zu hE5.1 3;have c2:=zb hE5.1 3))
    all_goals (
      have HE5:=zh hE5
      clear hb4 hb5 hb45 hE5 hg4
      go_wp2_with fail
      go_meet
      exact ⟨rfl,HE5.out.month _ hbb HBC.out.1⟩)
  case rest =>
  obtain ⟨rfl,hE⟩:=hcut
  replace HE:=zh hE
  clear hE hgW hgZ hdl a0 a1 a2 a3
  have c5:=zb HE.out.1 5
  have u5:=zu HE.out.1 5
  go_wp2_with fail
  generalize hWg : World.setCell _ _ _ = W9
  replace HE : Hid (EndW w W9 bc bz { calZ with name:=nm,kind:=6,month:=m,shape:=5 }):=zh (by rw [← hWg];exact HE.out.shape 5 hbb HBC.out.1)
  clear hWg c5 u5
  by_cases hm : m = 0
  · subst hm
    have HEN : Hid (endK nm [⟨num,n,s,pos⟩,⟨un,nn,us,up⟩] = (⟨nm,6,0,0,0,5,0,0,0,0,0,0,0,0⟩,false)):=zh (HEN0.out.trans (by simp [calZ]))
    clear hm0
    have hE:=HE.out
    obtain ⟨hcal,hres,hb9⟩:=hE
    have HB9:=zh hb9
    dsimp only [CalBlk,calZ] at hcal hres
    obtain ⟨g0,g1,g2,g3,g4,g5,g6,g7,g8,g9,g10,g11,g12,g13⟩:=cells14 hcal
    obtain ⟨n0,n1,n2,n3,n4,n5,n6,n7,n8,n9,n10,n11,n12,n13⟩:=cells14 hres
    have ly:=(Array.getElem?_eq_some_iff.1 hcal).1
    have lz:=(Array.getElem?_eq_some_iff.1 hres).1
    obtain ⟨fu0,fu1,fu2,fu3,fu4,fu5,fu6,fu7,fu8,fu9,fu10,fu11,fu12,fu13⟩:=unf14 hcal
    obtain ⟨fz0,fz1,fz2,fz3,fz4,fz5,fz6,fz7,fz8,fz9,fz10,fz11,fz12,fz13⟩:=unf14 hres
    clear hcal hres hb9 HE
    go_region
    all_goals (
      go_wp2_with fail
      refine bodyPost_ret (v:=.tuple #[.agg #[.string ⟨nm.toArray⟩, .int .i64 6, .int .i64 0, .int .i64 0, .int .i64 0, .int .i64 5, .int .i64 0, .int .i64 0, .int .i64 0, .int .i64 0, .int .i64 0, .int .i64 0, .int .i64 0, .int .i64 0], .bool false]) (by simp [results,Try.results59,go_sem, *]) rfl ?_
      rw [← HQ.out]
      unfold EndPost
      rw [HEN.out]
      refine ⟨⟨nm,6,0,0,0,5,0,0,0,0,0,0,0,0⟩,rfl,fun _ => rfl,?_⟩
      refine Below.drew ?_
      iterate 14 refine Below.setCell ?_ HBC.out.2 _
      exact HB9.out)
  · skip
    have p1 : 0 < m:=by omega
    have HEN : Hid (endK nm [⟨num,n,s,pos⟩,⟨un,nn,us,up⟩] = (⟨nm,6,0,m,0,5,0,0,0,0,0,0,0,0⟩,true)):=zh (HEN0.out.trans (by simp [calZ,p1]))
    clear hm0 hm
    have hE:=HE.out
    obtain ⟨hcal,hres,hb9⟩:=hE
    have HB9:=zh hb9
    dsimp only [CalBlk,calZ] at hcal hres
    obtain ⟨g0,g1,g2,g3,g4,g5,g6,g7,g8,g9,g10,g11,g12,g13⟩:=cells14 hcal
    obtain ⟨n0,n1,n2,n3,n4,n5,n6,n7,n8,n9,n10,n11,n12,n13⟩:=cells14 hres
    have ly:=(Array.getElem?_eq_some_iff.1 hcal).1
    have lz:=(Array.getElem?_eq_some_iff.1 hres).1
    obtain ⟨fu0,fu1,fu2,fu3,fu4,fu5,fu6,fu7,fu8,fu9,fu10,fu11,fu12,fu13⟩:=unf14 hcal
    obtain ⟨fz0,fz1,fz2,fz3,fz4,fz5,fz6,fz7,fz8,fz9,fz10,fz11,fz12,fz13⟩:=unf14 hres
    clear hcal hres hb9 HE
    go_region
    all_goals (
      go_wp2_with fail
      refine bodyPost_ret (v:=.tuple #[.agg #[.string ⟨nm.toArray⟩, .int .i64 6, .int .i64 0, .int .i64 m, .int .i64 0, .int .i64 5, .int .i64 0, .int .i64 0, .int .i64 0, .int .i64 0, .int .i64 0, .int .i64 0, .int .i64 0, .int .i64 0], .bool true]) (by simp [results,Try.results59,go_sem, *]) rfl ?_
      rw [← HQ.out]
      unfold EndPost
      rw [HEN.out]
      refine ⟨⟨nm,6,0,m,0,5,0,0,0,0,0,0,0,0⟩,rfl,fun _ => rfl,?_⟩
      refine Below.drew ?_
      iterate 14 refine Below.setCell ?_ HBC.out.2 _
      exact HB9.out)
end
end Go.Proofs.Ytpkhocbohhpmbaa
