/- Layer 11 (field): the walk of ruled. -/
import Derived.Test.YtjbniichcopnlaaGreatDoorPkS20
set_option linter.unusedVariables false
set_option linter.unusedSimpArgs false
set_option maxRecDepth 100000
namespace Go.Proofs.YtjbniichcopnlaaGreatDoor
open Go.RowKit
open Go.Joins renaming cell_of_block → zb, unfrozen_of_block → zu
open Go.Lib renaming hid → zh
theorem below_cal (w : World) (o : Obj) : Below w.heap.size w (w.alloc o):=(Below.refl _ _).alloc (Nat.le_refl _) _
set_option maxHeartbeats 4000000 in
theorem field_ruled3 (nm : Bytes) (day month shift shape p0 p1 p2 cycle extra first last policy : Int) (w : World) :
    Calls Tryz.prog 40 #[.agg #[.string ⟨nm.toArray⟩, .int .i64 3, .int .i64 day, .int .i64 month, .int .i64 shift, .int .i64 shape, .int .i64 p0, .int .i64 p1, .int .i64 p2, .int .i64 cycle, .int .i64 extra, .int .i64 first, .int .i64 last, .int .i64 policy]] w fun e w' => e = .returned (.bool (decide ((⟨nm,3,day,month,shift,shape,p0,p1,p2,cycle,extra,first,last,policy⟩ : CalL) = ⟨nm,3,6,1,1,1,4,5,4,0,12,first,last,policy⟩))) ∧ Below w.heap.size w w':=by
  have HE:=zh (fun W => run_eqCal W ⟨nm,3,day,month,shift,shape,p0,p1,p2,cycle,extra,first,last,policy⟩ ⟨nm,3,6,1,1,1,4,5,4,0,12,first,last,policy⟩)
  generalize hres : decide ((⟨nm,3,day,month,shift,shape,p0,p1,p2,cycle,extra,first,last,policy⟩ : CalL) = ⟨nm,3,6,1,1,1,4,5,4,0,12,first,last,policy⟩) = res at *
  clear hres
  dsimp only at HE
  have HB0:=zh (below_cal w (.cells #[.string ⟨nm.toArray⟩, .int .i64 3, .int .i64 day, .int .i64 month, .int .i64 shift, .int .i64 shape, .int .i64 p0, .int .i64 p1, .int .i64 p2, .int .i64 cycle, .int .i64 extra, .int .i64 first, .int .i64 last, .int .i64 policy] 37))
  have HX0:=zh (heap_alloc_new w (.cells #[.string ⟨nm.toArray⟩, .int .i64 3, .int .i64 day, .int .i64 month, .int .i64 shift, .int .i64 shape, .int .i64 p0, .int .i64 p1, .int .i64 p2, .int .i64 cycle, .int .i64 extra, .int .i64 first, .int .i64 last, .int .i64 policy] 37))
  go_enter Tryz.func40,Tryz.ntmps40
  go_wp2_with fail
  refine (field_fixed 3 _).mono ?_
  rintro e w1 ⟨rfl,hb1⟩
  have hx1:=(hb1.block w.heap.size (by simp)).trans HX0.out
  have HB1:=zh (HB0.out.trans (hb1.mono (by simp)))
  have hl1:=(Array.getElem?_eq_some_iff.1 hx1).1
  clear hb1
  dsimp only [calV,fixedR,nrfC,broadC]
  go_wp2_with fail
  have hBa : Below w1.heap.size w1 (w1.alloc (.cells #[.string ⟨#[]⟩, .int .i64 3, .int .i64 6, .int .i64 1, .int .i64 1, .int .i64 1, .int .i64 4, .int .i64 5, .int .i64 4, .int .i64 0, .int .i64 12, .int .i64 0, .int .i64 0, .int .i64 0] 37)):=below_cal _ _
  have HBa:=zh (HB1.out.trans (hBa.mono HB1.out.size))
  have hxa:=(hBa.block w.heap.size hl1).trans hx1
  have hza : (w1.alloc (.cells #[.string ⟨#[]⟩, .int .i64 3, .int .i64 6, .int .i64 1, .int .i64 1, .int .i64 1, .int .i64 4, .int .i64 5, .int .i64 4, .int .i64 0, .int .i64 12, .int .i64 0, .int .i64 0, .int .i64 0] 37)).heap[w1.heap.size]? = _:=heap_alloc_new w1 _
  have hne : w.heap.size ≠ w1.heap.size:=by omega
  have hne2 : w1.heap.size ≠ w.heap.size:=by omega
  have hwl : w.heap.size < w1.heap.size:=hl1
  generalize w1.alloc (.cells #[.string ⟨#[]⟩, .int .i64 3, .int .i64 6, .int .i64 1, .int .i64 1, .int .i64 1, .int .i64 4, .int .i64 5, .int .i64 4, .int .i64 0, .int .i64 12, .int .i64 0, .int .i64 0, .int .i64 0] 37) = W at *
  have hzl:=(Array.getElem?_eq_some_iff.1 hza).1
  generalize w1.heap.size = g at *
  obtain ⟨x0,x1,x2,x3,x4,x5,x6,x7,x8,x9,x10,x11,x12,x13⟩:=cells14 hxa
  obtain ⟨z0,z1,z2,z3,z4,z5,z6,z7,z8,z9,z10,z11,z12,z13⟩:=cells14 hza
  have zf:=zu hza
  have zf0:=zf 0
  have zf11:=zf 11
  have zf12:=zf 12
  have zf13:=zf 13
  have heq:=HE.out
  clear hx1 hBa hxa hza zf
  go_region
  go_wp2_with fail
  go_ret
  have hB:=HBa.out
  have hgw : w.heap.size ≤ g:=by omega
  refine ⟨rfl,?_⟩
  (repeat (first | exact Below.refl _ _ | assumption | refine Below.setCell ?_ (by first | (simp;done) | (simp;omega) | omega) _ | refine Below.alloc ?_ (by first | (simp;done) | (simp;omega) | omega) _ | refine Below.drew ?_ | refine below_drewN ?_ _ | refine Below.trans ?_ (Below.mono (by assumption) (by first | (simp;done) | (simp;omega) | omega))))
set_option maxHeartbeats 4000000 in
theorem field_ruled4 (nm : Bytes) (day month shift shape p0 p1 p2 cycle extra first last policy : Int) (w : World) :
    Calls Tryz.prog 40 #[.agg #[.string ⟨nm.toArray⟩, .int .i64 4, .int .i64 day, .int .i64 month, .int .i64 shift, .int .i64 shape, .int .i64 p0, .int .i64 p1, .int .i64 p2, .int .i64 cycle, .int .i64 extra, .int .i64 first, .int .i64 last, .int .i64 policy]] w fun e w' => e = .returned (.bool (decide ((⟨nm,4,day,month,shift,shape,p0,p1,p2,cycle,extra,first,last,policy⟩ : CalL) = ⟨nm,4,7,12,0,4,0,0,0,0,12,first,last,policy⟩))) ∧ Below w.heap.size w w':=by
  have HE:=zh (fun W => run_eqCal W ⟨nm,4,day,month,shift,shape,p0,p1,p2,cycle,extra,first,last,policy⟩ ⟨nm,4,7,12,0,4,0,0,0,0,12,first,last,policy⟩)
  generalize hres : decide ((⟨nm,4,day,month,shift,shape,p0,p1,p2,cycle,extra,first,last,policy⟩ : CalL) = ⟨nm,4,7,12,0,4,0,0,0,0,12,first,last,policy⟩) = res at *
  clear hres
  dsimp only at HE
  have HB0:=zh (below_cal w (.cells #[.string ⟨nm.toArray⟩, .int .i64 4, .int .i64 day, .int .i64 month, .int .i64 shift, .int .i64 shape, .int .i64 p0, .int .i64 p1, .int .i64 p2, .int .i64 cycle, .int .i64 extra, .int .i64 first, .int .i64 last, .int .i64 policy] 37))
  have HX0:=zh (heap_alloc_new w (.cells #[.string ⟨nm.toArray⟩, .int .i64 4, .int .i64 day, .int .i64 month, .int .i64 shift, .int .i64 shape, .int .i64 p0, .int .i64 p1, .int .i64 p2, .int .i64 cycle, .int .i64 extra, .int .i64 first, .int .i64 last, .int .i64 policy] 37))
  go_enter Tryz.func40,Tryz.ntmps40
  go_wp2_with fail
  refine (field_fixed 4 _).mono ?_
  rintro e w1 ⟨rfl,hb1⟩
  have hx1:=(hb1.block w.heap.size (by simp)).trans HX0.out
  have HB1:=zh (HB0.out.trans (hb1.mono (by simp)))
  have hl1:=(Array.getElem?_eq_some_iff.1 hx1).1
  clear hb1
  dsimp only [calV,fixedR,nrfC,broadC]
  go_wp2_with fail
  have hBa : Below w1.heap.size w1 (w1.alloc (.cells #[.string ⟨#[]⟩, .int .i64 4, .int .i64 7, .int .i64 12, .int .i64 0, .int .i64 4, .int .i64 0, .int .i64 0, .int .i64 0, .int .i64 0, .int .i64 12, .int .i64 0, .int .i64 0, .int .i64 0] 37)):=below_cal _ _
  have HBa:=zh (HB1.out.trans (hBa.mono HB1.out.size))
  have hxa:=(hBa.block w.heap.size hl1).trans hx1
  have hza : (w1.alloc (.cells #[.string ⟨#[]⟩, .int .i64 4, .int .i64 7, .int .i64 12, .int .i64 0, .int .i64 4, .int .i64 0, .int .i64 0, .int .i64 0, .int .i64 0, .int .i64 12, .int .i64 0, .int .i64 0, .int .i64 0] 37)).heap[w1.heap.size]? = _:=heap_alloc_new w1 _
  have hne : w.heap.size ≠ w1.heap.size:=by omega
  have hne2 : w1.heap.size ≠ w.heap.size:=by omega
  have hwl : w.heap.size < w1.heap.size:=hl1
  generalize w1.alloc (.cells #[.string ⟨#[]⟩, .int .i64 4, .int .i64 7, .int .i64 12, .int .i64 0, .int .i64 4, .int .i64 0, .int .i64 0, .int .i64 0, .int .i64 0, .int .i64 12, .int .i64 0, .int .i64 0, .int .i64 0] 37) = W at *
  have hzl:=(Array.getElem?_eq_some_iff.1 hza).1
  generalize w1.heap.size = g at *
  obtain ⟨x0,x1,x2,x3,x4,x5,x6,x7,x8,x9,x10,x11,x12,x13⟩:=cells14 hxa
  obtain ⟨z0,z1,z2,z3,z4,z5,z6,z7,z8,z9,z10,z11,z12,z13⟩:=cells14 hza
  have zf:=zu hza
  have zf0:=zf 0
  have zf11:=zf 11
  have zf12:=zf 12
  have zf13:=zf 13
  have heq:=HE.out
  clear hx1 hBa hxa hza zf
  go_region
  go_wp2_with fail
  go_ret
  have hB:=HBa.out
  have hgw : w.heap.size ≤ g:=by omega
  refine ⟨rfl,?_⟩
  (repeat (first | exact Below.refl _ _ | assumption | refine Below.setCell ?_ (by first | (simp;done) | (simp;omega) | omega) _ | refine Below.alloc ?_ (by first | (simp;done) | (simp;omega) | omega) _ | refine Below.drew ?_ | refine below_drewN ?_ _ | refine Below.trans ?_ (Below.mono (by assumption) (by first | (simp;done) | (simp;omega) | omega))))
set_option maxHeartbeats 16000000 in
theorem ruled_rng (kind day month shift shape p0 p1 p2 cycle extra first last policy : Int) (nm : Bytes) (w : World) (hfx : fixedR kind = (calZ,false)) (hb : tween month 1 12 = false ∨ tween shift 0 1 = false) :
    Calls Tryz.prog 40 #[.agg #[.string ⟨nm.toArray⟩, .int .i64 kind, .int .i64 day, .int .i64 month, .int .i64 shift, .int .i64 shape, .int .i64 p0, .int .i64 p1, .int .i64 p2, .int .i64 cycle, .int .i64 extra, .int .i64 first, .int .i64 last, .int .i64 policy]] w fun e w' => e = .returned (.bool (false)) ∧ Below w.heap.size w w':=by
  have HB0:=zh (below_cal w (.cells #[.string ⟨nm.toArray⟩, .int .i64 kind, .int .i64 day, .int .i64 month, .int .i64 shift, .int .i64 shape, .int .i64 p0, .int .i64 p1, .int .i64 p2, .int .i64 cycle, .int .i64 extra, .int .i64 first, .int .i64 last, .int .i64 policy] 37))
  have HX0:=zh (heap_alloc_new w (.cells #[.string ⟨nm.toArray⟩, .int .i64 kind, .int .i64 day, .int .i64 month, .int .i64 shift, .int .i64 shape, .int .i64 p0, .int .i64 p1, .int .i64 p2, .int .i64 cycle, .int .i64 extra, .int .i64 first, .int .i64 last, .int .i64 policy] 37))
  obtain ⟨b1,hb1'⟩ : ∃ b,tween month 1 12 = b:=⟨_,rfl⟩
  obtain ⟨b2,hb2'⟩ : ∃ b,tween shift 0 1 = b:=⟨_,rfl⟩
  rw [hb1',hb2'] at hb
  cases b1
  · clear hb hb2'
    go_enter Tryz.func40,Tryz.ntmps40
    go_wp2_with fail
    refine (field_fixed _ _).mono ?_
    rintro e w1 ⟨rfl,hb1⟩
    have hx1:=(hb1.block w.heap.size (by simp)).trans HX0.out
    have HB1:=zh (HB0.out.trans (hb1.mono (by simp)))
    have hl1:=(Array.getElem?_eq_some_iff.1 hx1).1
    clear hb1
    dsimp only [calV]
    rw [hfx]
    dsimp only [calZ]
    have hBa : Below w1.heap.size w1 (w1.alloc (.cells #[.string ⟨#[]⟩, .int .i64 0, .int .i64 0, .int .i64 0, .int .i64 0, .int .i64 0, .int .i64 0, .int .i64 0, .int .i64 0, .int .i64 0, .int .i64 0, .int .i64 0, .int .i64 0, .int .i64 0] 37)):=below_cal _ _
    have hxa:=(hBa.block w.heap.size hl1).trans hx1
    have HBa:=zh (HB1.out.trans (hBa.mono HB1.out.size))
    obtain ⟨x0,x1,x2,x3,x4,x5,x6,x7,x8,x9,x10,x11,x12,x13⟩:=cells14 hxa
    have hne : w.heap.size ≠ w1.heap.size:=by omega
    clear hBa hxa hx1
    go_wp2_with (first | (go_at_call 38;refine (field_between _ _ _ _).mono ?_;rintro e w9 ⟨rfl,rfl⟩) | (go_at_call 67;refine (HWK.out _).mono ?_;rintro e w8 ⟨rfl,hb8⟩))
    go_ret
    first | (refine ⟨by rw [HW.out];rfl,?_⟩) | (refine ⟨by rw [HW.out],?_⟩) | (refine ⟨rfl,?_⟩)
    exact HBa.out
  · cases b2
    · clear hb
      go_enter Tryz.func40,Tryz.ntmps40
      go_wp2_with fail
      refine (field_fixed _ _).mono ?_
      rintro e w1 ⟨rfl,hb1⟩
      have hx1:=(hb1.block w.heap.size (by simp)).trans HX0.out
      have HB1:=zh (HB0.out.trans (hb1.mono (by simp)))
      have hl1:=(Array.getElem?_eq_some_iff.1 hx1).1
      clear hb1
      dsimp only [calV]
      rw [hfx]
      dsimp only [calZ]
      have hBa : Below w1.heap.size w1 (w1.alloc (.cells #[.string ⟨#[]⟩, .int .i64 0, .int .i64 0, .int .i64 0, .int .i64 0, .int .i64 0, .int .i64 0, .int .i64 0, .int .i64 0, .int .i64 0, .int .i64 0, .int .i64 0, .int .i64 0, .int .i64 0] 37)):=below_cal _ _
      have hxa:=(hBa.block w.heap.size hl1).trans hx1
      have HBa:=zh (HB1.out.trans (hBa.mono HB1.out.size))
      obtain ⟨x0,x1,x2,x3,x4,x5,x6,x7,x8,x9,x10,x11,x12,x13⟩:=cells14 hxa
      have hne : w.heap.size ≠ w1.heap.size:=by omega
      clear hBa hxa hx1
      go_wp2_with (first | (go_at_call 38;refine (field_between _ _ _ _).mono ?_;rintro e w9 ⟨rfl,rfl⟩) | (go_at_call 67;refine (HWK.out _).mono ?_;rintro e w8 ⟨rfl,hb8⟩))
      go_ret
      first | (refine ⟨by rw [HW.out];rfl,?_⟩) | (refine ⟨by rw [HW.out],?_⟩) | (refine ⟨rfl,?_⟩)
      exact HBa.out
    · exact absurd hb (by decide)
set_option maxHeartbeats 16000000 in
theorem ruled_1 (day month shift shape p0 p1 p2 cycle extra first last policy : Int) (nm : Bytes) (w : World) (hb1' : tween month 1 12 = true) (hb2' : tween shift 0 1 = true) :
    Calls Tryz.prog 40 #[.agg #[.string ⟨nm.toArray⟩, .int .i64 1, .int .i64 day, .int .i64 month, .int .i64 shift, .int .i64 shape, .int .i64 p0, .int .i64 p1, .int .i64 p2, .int .i64 cycle, .int .i64 extra, .int .i64 first, .int .i64 last, .int .i64 policy]] w fun e w' => e = .returned (.bool (tween day 1 7 && weeksC ⟨nm,1,day,month,shift,shape,p0,p1,p2,cycle,extra,first,last,policy⟩)) ∧ Below w.heap.size w w':=by
  have HB0:=zh (below_cal w (.cells #[.string ⟨nm.toArray⟩, .int .i64 1, .int .i64 day, .int .i64 month, .int .i64 shift, .int .i64 shape, .int .i64 p0, .int .i64 p1, .int .i64 p2, .int .i64 cycle, .int .i64 extra, .int .i64 first, .int .i64 last, .int .i64 policy] 37))
  have HX0:=zh (heap_alloc_new w (.cells #[.string ⟨nm.toArray⟩, .int .i64 1, .int .i64 day, .int .i64 month, .int .i64 shift, .int .i64 shape, .int .i64 p0, .int .i64 p1, .int .i64 p2, .int .i64 cycle, .int .i64 extra, .int .i64 first, .int .i64 last, .int .i64 policy] 37))
  have hfx : fixedR 1 = (calZ,false):=rfl
  have HWK:=zh (fun W => field_weeks ⟨nm,1,day,month,shift,shape,p0,p1,p2,cycle,extra,first,last,policy⟩ W)
  generalize weeksC ⟨nm,1,day,month,shift,shape,p0,p1,p2,cycle,extra,first,last,policy⟩ = wv at *
  dsimp only [calV] at HWK
  obtain ⟨b3,hb3'⟩ : ∃ b,tween day 1 7 = b:=⟨_,rfl⟩
  rw [hb3']
  cases b3
  · skip
    go_enter Tryz.func40,Tryz.ntmps40
    go_wp2_with fail
    refine (field_fixed _ _).mono ?_
    rintro e w1 ⟨rfl,hb1⟩
    have hx1:=(hb1.block w.heap.size (by simp)).trans HX0.out
    have HB1:=zh (HB0.out.trans (hb1.mono (by simp)))
    have hl1:=(Array.getElem?_eq_some_iff.1 hx1).1
    clear hb1
    dsimp only [calV]
    rw [hfx]
    dsimp only [calZ]
    have hBa : Below w1.heap.size w1 (w1.alloc (.cells #[.string ⟨#[]⟩, .int .i64 0, .int .i64 0, .int .i64 0, .int .i64 0, .int .i64 0, .int .i64 0, .int .i64 0, .int .i64 0, .int .i64 0, .int .i64 0, .int .i64 0, .int .i64 0, .int .i64 0] 37)):=below_cal _ _
    have hxa:=(hBa.block w.heap.size hl1).trans hx1
    have HBa:=zh (HB1.out.trans (hBa.mono HB1.out.size))
    obtain ⟨x0,x1,x2,x3,x4,x5,x6,x7,x8,x9,x10,x11,x12,x13⟩:=cells14 hxa
    have hne : w.heap.size ≠ w1.heap.size:=by omega
    clear hBa hxa hx1
    go_wp2_with (first | (go_at_call 38;refine (field_between _ _ _ _).mono ?_;rintro e w9 ⟨rfl,rfl⟩) | (go_at_call 67;refine (HWK.out _).mono ?_;rintro e w8 ⟨rfl,hb8⟩))
    go_ret
    first | (refine ⟨by rw [HW.out];rfl,?_⟩) | (refine ⟨by rw [HW.out],?_⟩) | (refine ⟨rfl,?_⟩)
    exact HBa.out
  · cases wv <;> (
      go_enter Tryz.func40,Tryz.ntmps40
      go_wp2_with fail
      refine (field_fixed _ _).mono ?_
      rintro e w1 ⟨rfl,hb1⟩
      have hx1:=(hb1.block w.heap.size (by simp)).trans HX0.out
      have HB1:=zh (HB0.out.trans (hb1.mono (by simp)))
      have hl1:=(Array.getElem?_eq_some_iff.1 hx1).1
      clear hb1
      dsimp only [calV]
      rw [hfx]
      dsimp only [calZ]
      have hBa : Below w1.heap.size w1 (w1.alloc (.cells #[.string ⟨#[]⟩, .int .i64 0, .int .i64 0, .int .i64 0, .int .i64 0, .int .i64 0, .int .i64 0, .int .i64 0, .int .i64 0, .int .i64 0, .int .i64 0, .int .i64 0, .int .i64 0, .int .i64 0] 37)):=below_cal _ _
      have hxa:=(hBa.block w.heap.size hl1).trans hx1
      have HBa:=zh (HB1.out.trans (hBa.mono HB1.out.size))
      obtain ⟨x0,x1,x2,x3,x4,x5,x6,x7,x8,x9,x10,x11,x12,x13⟩:=cells14 hxa
      have hne : w.heap.size ≠ w1.heap.size:=by omega
      clear hBa hxa hx1
      go_wp2_with (first | (go_at_call 38;refine (field_between _ _ _ _).mono ?_;rintro e w9 ⟨rfl,rfl⟩) | (go_at_call 67;refine (HWK.out _).mono ?_;rintro e w8 ⟨rfl,hb8⟩))
      go_ret
      first | (refine ⟨by rw [HW.out];rfl,?_⟩) | (refine ⟨by rw [HW.out],?_⟩) | (refine ⟨rfl,?_⟩)
      exact HBa.out.trans (hb8.mono HBa.out.size))
set_option maxHeartbeats 16000000 in
theorem ruled_2 (day month shift shape p0 p1 p2 cycle extra first last policy : Int) (nm : Bytes) (w : World) (hb1' : tween month 1 12 = true) (hb2' : tween shift 0 1 = true) :
    Calls Tryz.prog 40 #[.agg #[.string ⟨nm.toArray⟩, .int .i64 2, .int .i64 day, .int .i64 month, .int .i64 shift, .int .i64 shape, .int .i64 p0, .int .i64 p1, .int .i64 p2, .int .i64 cycle, .int .i64 extra, .int .i64 first, .int .i64 last, .int .i64 policy]] w fun e w' => e = .returned (.bool (tween day 1 7 && weeksC ⟨nm,2,day,month,shift,shape,p0,p1,p2,cycle,extra,first,last,policy⟩)) ∧ Below w.heap.size w w':=by
  have HB0:=zh (below_cal w (.cells #[.string ⟨nm.toArray⟩, .int .i64 2, .int .i64 day, .int .i64 month, .int .i64 shift, .int .i64 shape, .int .i64 p0, .int .i64 p1, .int .i64 p2, .int .i64 cycle, .int .i64 extra, .int .i64 first, .int .i64 last, .int .i64 policy] 37))
  have HX0:=zh (heap_alloc_new w (.cells #[.string ⟨nm.toArray⟩, .int .i64 2, .int .i64 day, .int .i64 month, .int .i64 shift, .int .i64 shape, .int .i64 p0, .int .i64 p1, .int .i64 p2, .int .i64 cycle, .int .i64 extra, .int .i64 first, .int .i64 last, .int .i64 policy] 37))
  have hfx : fixedR 2 = (calZ,false):=rfl
  have HWK:=zh (fun W => field_weeks ⟨nm,2,day,month,shift,shape,p0,p1,p2,cycle,extra,first,last,policy⟩ W)
  generalize weeksC ⟨nm,2,day,month,shift,shape,p0,p1,p2,cycle,extra,first,last,policy⟩ = wv at *
  dsimp only [calV] at HWK
  obtain ⟨b3,hb3'⟩ : ∃ b,tween day 1 7 = b:=⟨_,rfl⟩
  rw [hb3']
  cases b3
  · skip
    go_enter Tryz.func40,Tryz.ntmps40
    go_wp2_with fail
    refine (field_fixed _ _).mono ?_
    rintro e w1 ⟨rfl,hb1⟩
    have hx1:=(hb1.block w.heap.size (by simp)).trans HX0.out
    have HB1:=zh (HB0.out.trans (hb1.mono (by simp)))
    have hl1:=(Array.getElem?_eq_some_iff.1 hx1).1
    clear hb1
    dsimp only [calV]
    rw [hfx]
    dsimp only [calZ]
    have hBa : Below w1.heap.size w1 (w1.alloc (.cells #[.string ⟨#[]⟩, .int .i64 0, .int .i64 0, .int .i64 0, .int .i64 0, .int .i64 0, .int .i64 0, .int .i64 0, .int .i64 0, .int .i64 0, .int .i64 0, .int .i64 0, .int .i64 0, .int .i64 0] 37)):=below_cal _ _
    have hxa:=(hBa.block w.heap.size hl1).trans hx1
    have HBa:=zh (HB1.out.trans (hBa.mono HB1.out.size))
    obtain ⟨x0,x1,x2,x3,x4,x5,x6,x7,x8,x9,x10,x11,x12,x13⟩:=cells14 hxa
    have hne : w.heap.size ≠ w1.heap.size:=by omega
    clear hBa hxa hx1
    go_wp2_with (first | (go_at_call 38;refine (field_between _ _ _ _).mono ?_;rintro e w9 ⟨rfl,rfl⟩) | (go_at_call 67;refine (HWK.out _).mono ?_;rintro e w8 ⟨rfl,hb8⟩))
    go_ret
    first | (refine ⟨by rw [HW.out];rfl,?_⟩) | (refine ⟨by rw [HW.out],?_⟩) | (refine ⟨rfl,?_⟩)
    exact HBa.out
  · cases wv <;> (
      go_enter Tryz.func40,Tryz.ntmps40
      go_wp2_with fail
      refine (field_fixed _ _).mono ?_
      rintro e w1 ⟨rfl,hb1⟩
      have hx1:=(hb1.block w.heap.size (by simp)).trans HX0.out
      have HB1:=zh (HB0.out.trans (hb1.mono (by simp)))
      have hl1:=(Array.getElem?_eq_some_iff.1 hx1).1
      clear hb1
      dsimp only [calV]
      rw [hfx]
      dsimp only [calZ]
      have hBa : Below w1.heap.size w1 (w1.alloc (.cells #[.string ⟨#[]⟩, .int .i64 0, .int .i64 0, .int .i64 0, .int .i64 0, .int .i64 0, .int .i64 0, .int .i64 0, .int .i64 0, .int .i64 0, .int .i64 0, .int .i64 0, .int .i64 0, .int .i64 0] 37)):=below_cal _ _
      have hxa:=(hBa.block w.heap.size hl1).trans hx1
      have HBa:=zh (HB1.out.trans (hBa.mono HB1.out.size))
      obtain ⟨x0,x1,x2,x3,x4,x5,x6,x7,x8,x9,x10,x11,x12,x13⟩:=cells14 hxa
      have hne : w.heap.size ≠ w1.heap.size:=by omega
      clear hBa hxa hx1
      go_wp2_with (first | (go_at_call 38;refine (field_between _ _ _ _).mono ?_;rintro e w9 ⟨rfl,rfl⟩) | (go_at_call 67;refine (HWK.out _).mono ?_;rintro e w8 ⟨rfl,hb8⟩))
      go_ret
      first | (refine ⟨by rw [HW.out];rfl,?_⟩) | (refine ⟨by rw [HW.out],?_⟩) | (refine ⟨rfl,?_⟩)
      exact HBa.out.trans (hb8.mono HBa.out.size))
set_option maxHeartbeats 16000000 in
theorem ruled_5 (day month shift shape p0 p1 p2 cycle extra first last policy : Int) (nm : Bytes) (w : World) (hb1' : tween month 1 12 = true) (hb2' : tween shift 0 1 = true) :
    Calls Tryz.prog 40 #[.agg #[.string ⟨nm.toArray⟩, .int .i64 5, .int .i64 day, .int .i64 month, .int .i64 shift, .int .i64 shape, .int .i64 p0, .int .i64 p1, .int .i64 p2, .int .i64 cycle, .int .i64 extra, .int .i64 first, .int .i64 last, .int .i64 policy]] w fun e w' => e = .returned (.bool (decide (day = 7) && decide (month = 12) && decide (shift = 0) && weeksC ⟨nm,5,day,month,shift,shape,p0,p1,p2,cycle,extra,first,last,policy⟩)) ∧ Below w.heap.size w w':=by
  have HB0:=zh (below_cal w (.cells #[.string ⟨nm.toArray⟩, .int .i64 5, .int .i64 day, .int .i64 month, .int .i64 shift, .int .i64 shape, .int .i64 p0, .int .i64 p1, .int .i64 p2, .int .i64 cycle, .int .i64 extra, .int .i64 first, .int .i64 last, .int .i64 policy] 37))
  have HX0:=zh (heap_alloc_new w (.cells #[.string ⟨nm.toArray⟩, .int .i64 5, .int .i64 day, .int .i64 month, .int .i64 shift, .int .i64 shape, .int .i64 p0, .int .i64 p1, .int .i64 p2, .int .i64 cycle, .int .i64 extra, .int .i64 first, .int .i64 last, .int .i64 policy] 37))
  have hfx : fixedR 5 = (calZ,false):=rfl
  have HWK:=zh (fun W => field_weeks ⟨nm,5,day,month,shift,shape,p0,p1,p2,cycle,extra,first,last,policy⟩ W)
  generalize weeksC ⟨nm,5,day,month,shift,shape,p0,p1,p2,cycle,extra,first,last,policy⟩ = wv at *
  dsimp only [calV] at HWK
  obtain ⟨c1,hc1⟩ : ∃ b,decide (day = 7) = b:=⟨_,rfl⟩
  obtain ⟨c2,hc2⟩ : ∃ b,decide (month = 12) = b:=⟨_,rfl⟩
  obtain ⟨c3,hc3⟩ : ∃ b,decide (shift = 0) = b:=⟨_,rfl⟩
  rw [hc1,hc2,hc3]
  have d1 : (day == 7) = c1:=hc1
  have d2 : (month == 12) = c2:=hc2
  have d3 : (shift == 0) = c3:=hc3
  clear hc1 hc2 hc3
  cases c1
  · skip
    go_enter Tryz.func40,Tryz.ntmps40
    go_wp2_with fail
    refine (field_fixed _ _).mono ?_
    rintro e w1 ⟨rfl,hb1⟩
    have hx1:=(hb1.block w.heap.size (by simp)).trans HX0.out
    have HB1:=zh (HB0.out.trans (hb1.mono (by simp)))
    have hl1:=(Array.getElem?_eq_some_iff.1 hx1).1
    clear hb1
    dsimp only [calV]
    rw [hfx]
    dsimp only [calZ]
    have hBa : Below w1.heap.size w1 (w1.alloc (.cells #[.string ⟨#[]⟩, .int .i64 0, .int .i64 0, .int .i64 0, .int .i64 0, .int .i64 0, .int .i64 0, .int .i64 0, .int .i64 0, .int .i64 0, .int .i64 0, .int .i64 0, .int .i64 0, .int .i64 0] 37)):=below_cal _ _
    have hxa:=(hBa.block w.heap.size hl1).trans hx1
    have HBa:=zh (HB1.out.trans (hBa.mono HB1.out.size))
    obtain ⟨x0,x1,x2,x3,x4,x5,x6,x7,x8,x9,x10,x11,x12,x13⟩:=cells14 hxa
    have hne : w.heap.size ≠ w1.heap.size:=by omega
    clear hBa hxa hx1
    go_wp2_with (first | (go_at_call 38;refine (field_between _ _ _ _).mono ?_;rintro e w9 ⟨rfl,rfl⟩) | (go_at_call 67;refine (HWK.out _).mono ?_;rintro e w8 ⟨rfl,hb8⟩))
    go_ret
    first | (refine ⟨by rw [HW.out];rfl,?_⟩) | (refine ⟨by rw [HW.out],?_⟩) | (refine ⟨rfl,?_⟩)
    exact HBa.out
  cases c2
  · skip
    go_enter Tryz.func40,Tryz.ntmps40
    go_wp2_with fail
    refine (field_fixed _ _).mono ?_
    rintro e w1 ⟨rfl,hb1⟩
    have hx1:=(hb1.block w.heap.size (by simp)).trans HX0.out
    have HB1:=zh (HB0.out.trans (hb1.mono (by simp)))
    have hl1:=(Array.getElem?_eq_some_iff.1 hx1).1
    clear hb1
    dsimp only [calV]
    rw [hfx]
    dsimp only [calZ]
    have hBa : Below w1.heap.size w1 (w1.alloc (.cells #[.string ⟨#[]⟩, .int .i64 0, .int .i64 0, .int .i64 0, .int .i64 0, .int .i64 0, .int .i64 0, .int .i64 0, .int .i64 0, .int .i64 0, .int .i64 0, .int .i64 0, .int .i64 0, .int .i64 0] 37)):=below_cal _ _
    have hxa:=(hBa.block w.heap.size hl1).trans hx1
    have HBa:=zh (HB1.out.trans (hBa.mono HB1.out.size))
    obtain ⟨x0,x1,x2,x3,x4,x5,x6,x7,x8,x9,x10,x11,x12,x13⟩:=cells14 hxa
    have hne : w.heap.size ≠ w1.heap.size:=by omega
    clear hBa hxa hx1
    go_wp2_with (first | (go_at_call 38;refine (field_between _ _ _ _).mono ?_;rintro e w9 ⟨rfl,rfl⟩) | (go_at_call 67;refine (HWK.out _).mono ?_;rintro e w8 ⟨rfl,hb8⟩))
    go_ret
    first | (refine ⟨by rw [HW.out];rfl,?_⟩) | (refine ⟨by rw [HW.out],?_⟩) | (refine ⟨rfl,?_⟩)
    exact HBa.out
  cases c3
  · skip
    go_enter Tryz.func40,Tryz.ntmps40
    go_wp2_with fail
    refine (field_fixed _ _).mono ?_
    rintro e w1 ⟨rfl,hb1⟩
    have hx1:=(hb1.block w.heap.size (by simp)).trans HX0.out
    have HB1:=zh (HB0.out.trans (hb1.mono (by simp)))
    have hl1:=(Array.getElem?_eq_some_iff.1 hx1).1
    clear hb1
    dsimp only [calV]
    rw [hfx]
    dsimp only [calZ]
    have hBa : Below w1.heap.size w1 (w1.alloc (.cells #[.string ⟨#[]⟩, .int .i64 0, .int .i64 0, .int .i64 0, .int .i64 0, .int .i64 0, .int .i64 0, .int .i64 0, .int .i64 0, .int .i64 0, .int .i64 0, .int .i64 0, .int .i64 0, .int .i64 0] 37)):=below_cal _ _
    have hxa:=(hBa.block w.heap.size hl1).trans hx1
    have HBa:=zh (HB1.out.trans (hBa.mono HB1.out.size))
    obtain ⟨x0,x1,x2,x3,x4,x5,x6,x7,x8,x9,x10,x11,x12,x13⟩:=cells14 hxa
    have hne : w.heap.size ≠ w1.heap.size:=by omega
    clear hBa hxa hx1
    go_wp2_with (first | (go_at_call 38;refine (field_between _ _ _ _).mono ?_;rintro e w9 ⟨rfl,rfl⟩) | (go_at_call 67;refine (HWK.out _).mono ?_;rintro e w8 ⟨rfl,hb8⟩))
    go_ret
    first | (refine ⟨by rw [HW.out];rfl,?_⟩) | (refine ⟨by rw [HW.out],?_⟩) | (refine ⟨rfl,?_⟩)
    exact HBa.out
  cases wv <;> (
    go_enter Tryz.func40,Tryz.ntmps40
    go_wp2_with fail
    refine (field_fixed _ _).mono ?_
    rintro e w1 ⟨rfl,hb1⟩
    have hx1:=(hb1.block w.heap.size (by simp)).trans HX0.out
    have HB1:=zh (HB0.out.trans (hb1.mono (by simp)))
    have hl1:=(Array.getElem?_eq_some_iff.1 hx1).1
    clear hb1
    dsimp only [calV]
    rw [hfx]
    dsimp only [calZ]
    have hBa : Below w1.heap.size w1 (w1.alloc (.cells #[.string ⟨#[]⟩, .int .i64 0, .int .i64 0, .int .i64 0, .int .i64 0, .int .i64 0, .int .i64 0, .int .i64 0, .int .i64 0, .int .i64 0, .int .i64 0, .int .i64 0, .int .i64 0, .int .i64 0] 37)):=below_cal _ _
    have hxa:=(hBa.block w.heap.size hl1).trans hx1
    have HBa:=zh (HB1.out.trans (hBa.mono HB1.out.size))
    obtain ⟨x0,x1,x2,x3,x4,x5,x6,x7,x8,x9,x10,x11,x12,x13⟩:=cells14 hxa
    have hne : w.heap.size ≠ w1.heap.size:=by omega
    clear hBa hxa hx1
    go_wp2_with (first | (go_at_call 38;refine (field_between _ _ _ _).mono ?_;rintro e w9 ⟨rfl,rfl⟩) | (go_at_call 67;refine (HWK.out _).mono ?_;rintro e w8 ⟨rfl,hb8⟩))
    go_ret
    first | (refine ⟨by rw [HW.out];rfl,?_⟩) | (refine ⟨by rw [HW.out],?_⟩) | (refine ⟨rfl,?_⟩)
    exact HBa.out.trans (hb8.mono HBa.out.size))
set_option maxHeartbeats 16000000 in
theorem ruled_6 (day month shift shape p0 p1 p2 cycle extra first last policy : Int) (nm : Bytes) (w : World) (hb1' : tween month 1 12 = true) (hb2' : tween shift 0 1 = true) :
    Calls Tryz.prog 40 #[.agg #[.string ⟨nm.toArray⟩, .int .i64 6, .int .i64 day, .int .i64 month, .int .i64 shift, .int .i64 shape, .int .i64 p0, .int .i64 p1, .int .i64 p2, .int .i64 cycle, .int .i64 extra, .int .i64 first, .int .i64 last, .int .i64 policy]] w fun e w' => e = .returned (.bool (decide (day = 0) && decide (shape = 5) && (decide (p0 = 0) && decide (p1 = 0) && decide (p2 = 0)) && decide (cycle = 0) && decide (extra = 0))) ∧ Below w.heap.size w w':=by
  have HB0:=zh (below_cal w (.cells #[.string ⟨nm.toArray⟩, .int .i64 6, .int .i64 day, .int .i64 month, .int .i64 shift, .int .i64 shape, .int .i64 p0, .int .i64 p1, .int .i64 p2, .int .i64 cycle, .int .i64 extra, .int .i64 first, .int .i64 last, .int .i64 policy] 37))
  have HX0:=zh (heap_alloc_new w (.cells #[.string ⟨nm.toArray⟩, .int .i64 6, .int .i64 day, .int .i64 month, .int .i64 shift, .int .i64 shape, .int .i64 p0, .int .i64 p1, .int .i64 p2, .int .i64 cycle, .int .i64 extra, .int .i64 first, .int .i64 last, .int .i64 policy] 37))
  have hfx : fixedR 6 = (calZ,false):=rfl
  have hz:=fun W => run_eqPat W p0 p1 p2 0 0 0
  obtain ⟨c1,hc1⟩ : ∃ b,decide (day = 0) = b:=⟨_,rfl⟩
  obtain ⟨c2,hc2⟩ : ∃ b,decide (shape = 5) = b:=⟨_,rfl⟩
  obtain ⟨c3,hc3⟩ : ∃ b,(decide (p0 = 0) && decide (p1 = 0) && decide (p2 = 0)) = b:=⟨_,rfl⟩
  obtain ⟨c4,hc4⟩ : ∃ b,decide (cycle = 0) = b:=⟨_,rfl⟩
  obtain ⟨c5,hc5⟩ : ∃ b,decide (extra = 0) = b:=⟨_,rfl⟩
  rw [hc1,hc2,hc3,hc4,hc5]
  simp only [hc3] at hz
  have d1 : (day == 0) = c1:=hc1
  have d2 : (shape == 5) = c2:=hc2
  have d4 : (cycle == 0) = c4:=hc4
  have d5 : (extra == 0) = c5:=hc5
  clear hc1 hc2 hc3 hc4 hc5
  cases c1
  · skip
    go_enter Tryz.func40,Tryz.ntmps40
    go_wp2_with fail
    refine (field_fixed _ _).mono ?_
    rintro e w1 ⟨rfl,hb1⟩
    have hx1:=(hb1.block w.heap.size (by simp)).trans HX0.out
    have HB1:=zh (HB0.out.trans (hb1.mono (by simp)))
    have hl1:=(Array.getElem?_eq_some_iff.1 hx1).1
    clear hb1
    dsimp only [calV]
    rw [hfx]
    dsimp only [calZ]
    have hBa : Below w1.heap.size w1 (w1.alloc (.cells #[.string ⟨#[]⟩, .int .i64 0, .int .i64 0, .int .i64 0, .int .i64 0, .int .i64 0, .int .i64 0, .int .i64 0, .int .i64 0, .int .i64 0, .int .i64 0, .int .i64 0, .int .i64 0, .int .i64 0] 37)):=below_cal _ _
    have hxa:=(hBa.block w.heap.size hl1).trans hx1
    have HBa:=zh (HB1.out.trans (hBa.mono HB1.out.size))
    obtain ⟨x0,x1,x2,x3,x4,x5,x6,x7,x8,x9,x10,x11,x12,x13⟩:=cells14 hxa
    have hne : w.heap.size ≠ w1.heap.size:=by omega
    clear hBa hxa hx1
    go_wp2_with (first | (go_at_call 38;refine (field_between _ _ _ _).mono ?_;rintro e w9 ⟨rfl,rfl⟩) | (go_at_call 67;refine (HWK.out _).mono ?_;rintro e w8 ⟨rfl,hb8⟩))
    go_ret
    first | (refine ⟨by rw [HW.out];rfl,?_⟩) | (refine ⟨by rw [HW.out],?_⟩) | (refine ⟨rfl,?_⟩)
    exact HBa.out
  cases c2
  · skip
    go_enter Tryz.func40,Tryz.ntmps40
    go_wp2_with fail
    refine (field_fixed _ _).mono ?_
    rintro e w1 ⟨rfl,hb1⟩
    have hx1:=(hb1.block w.heap.size (by simp)).trans HX0.out
    have HB1:=zh (HB0.out.trans (hb1.mono (by simp)))
    have hl1:=(Array.getElem?_eq_some_iff.1 hx1).1
    clear hb1
    dsimp only [calV]
    rw [hfx]
    dsimp only [calZ]
    have hBa : Below w1.heap.size w1 (w1.alloc (.cells #[.string ⟨#[]⟩, .int .i64 0, .int .i64 0, .int .i64 0, .int .i64 0, .int .i64 0, .int .i64 0, .int .i64 0, .int .i64 0, .int .i64 0, .int .i64 0, .int .i64 0, .int .i64 0, .int .i64 0] 37)):=below_cal _ _
    have hxa:=(hBa.block w.heap.size hl1).trans hx1
    have HBa:=zh (HB1.out.trans (hBa.mono HB1.out.size))
    obtain ⟨x0,x1,x2,x3,x4,x5,x6,x7,x8,x9,x10,x11,x12,x13⟩:=cells14 hxa
    have hne : w.heap.size ≠ w1.heap.size:=by omega
    clear hBa hxa hx1
    go_wp2_with (first | (go_at_call 38;refine (field_between _ _ _ _).mono ?_;rintro e w9 ⟨rfl,rfl⟩) | (go_at_call 67;refine (HWK.out _).mono ?_;rintro e w8 ⟨rfl,hb8⟩))
    go_ret
    first | (refine ⟨by rw [HW.out];rfl,?_⟩) | (refine ⟨by rw [HW.out],?_⟩) | (refine ⟨rfl,?_⟩)
    exact HBa.out
  cases c3
  · skip
    go_enter Tryz.func40,Tryz.ntmps40
    go_wp2_with fail
    refine (field_fixed _ _).mono ?_
    rintro e w1 ⟨rfl,hb1⟩
    have hx1:=(hb1.block w.heap.size (by simp)).trans HX0.out
    have HB1:=zh (HB0.out.trans (hb1.mono (by simp)))
    have hl1:=(Array.getElem?_eq_some_iff.1 hx1).1
    clear hb1
    dsimp only [calV]
    rw [hfx]
    dsimp only [calZ]
    have hBa : Below w1.heap.size w1 (w1.alloc (.cells #[.string ⟨#[]⟩, .int .i64 0, .int .i64 0, .int .i64 0, .int .i64 0, .int .i64 0, .int .i64 0, .int .i64 0, .int .i64 0, .int .i64 0, .int .i64 0, .int .i64 0, .int .i64 0, .int .i64 0] 37)):=below_cal _ _
    have hxa:=(hBa.block w.heap.size hl1).trans hx1
    have HBa:=zh (HB1.out.trans (hBa.mono HB1.out.size))
    obtain ⟨x0,x1,x2,x3,x4,x5,x6,x7,x8,x9,x10,x11,x12,x13⟩:=cells14 hxa
    have hne : w.heap.size ≠ w1.heap.size:=by omega
    clear hBa hxa hx1
    go_wp2_with (first | (go_at_call 38;refine (field_between _ _ _ _).mono ?_;rintro e w9 ⟨rfl,rfl⟩) | (go_at_call 67;refine (HWK.out _).mono ?_;rintro e w8 ⟨rfl,hb8⟩))
    go_ret
    first | (refine ⟨by rw [HW.out];rfl,?_⟩) | (refine ⟨by rw [HW.out],?_⟩) | (refine ⟨rfl,?_⟩)
    exact HBa.out
  cases c4
  · skip
    go_enter Tryz.func40,Tryz.ntmps40
    go_wp2_with fail
    refine (field_fixed _ _).mono ?_
    rintro e w1 ⟨rfl,hb1⟩
    have hx1:=(hb1.block w.heap.size (by simp)).trans HX0.out
    have HB1:=zh (HB0.out.trans (hb1.mono (by simp)))
    have hl1:=(Array.getElem?_eq_some_iff.1 hx1).1
    clear hb1
    dsimp only [calV]
    rw [hfx]
    dsimp only [calZ]
    have hBa : Below w1.heap.size w1 (w1.alloc (.cells #[.string ⟨#[]⟩, .int .i64 0, .int .i64 0, .int .i64 0, .int .i64 0, .int .i64 0, .int .i64 0, .int .i64 0, .int .i64 0, .int .i64 0, .int .i64 0, .int .i64 0, .int .i64 0, .int .i64 0] 37)):=below_cal _ _
    have hxa:=(hBa.block w.heap.size hl1).trans hx1
    have HBa:=zh (HB1.out.trans (hBa.mono HB1.out.size))
    obtain ⟨x0,x1,x2,x3,x4,x5,x6,x7,x8,x9,x10,x11,x12,x13⟩:=cells14 hxa
    have hne : w.heap.size ≠ w1.heap.size:=by omega
    clear hBa hxa hx1
    go_wp2_with (first | (go_at_call 38;refine (field_between _ _ _ _).mono ?_;rintro e w9 ⟨rfl,rfl⟩) | (go_at_call 67;refine (HWK.out _).mono ?_;rintro e w8 ⟨rfl,hb8⟩))
    go_ret
    first | (refine ⟨by rw [HW.out];rfl,?_⟩) | (refine ⟨by rw [HW.out],?_⟩) | (refine ⟨rfl,?_⟩)
    exact HBa.out
  cases c5 <;> (
    go_enter Tryz.func40,Tryz.ntmps40
    go_wp2_with fail
    refine (field_fixed _ _).mono ?_
    rintro e w1 ⟨rfl,hb1⟩
    have hx1:=(hb1.block w.heap.size (by simp)).trans HX0.out
    have HB1:=zh (HB0.out.trans (hb1.mono (by simp)))
    have hl1:=(Array.getElem?_eq_some_iff.1 hx1).1
    clear hb1
    dsimp only [calV]
    rw [hfx]
    dsimp only [calZ]
    have hBa : Below w1.heap.size w1 (w1.alloc (.cells #[.string ⟨#[]⟩, .int .i64 0, .int .i64 0, .int .i64 0, .int .i64 0, .int .i64 0, .int .i64 0, .int .i64 0, .int .i64 0, .int .i64 0, .int .i64 0, .int .i64 0, .int .i64 0, .int .i64 0] 37)):=below_cal _ _
    have hxa:=(hBa.block w.heap.size hl1).trans hx1
    have HBa:=zh (HB1.out.trans (hBa.mono HB1.out.size))
    obtain ⟨x0,x1,x2,x3,x4,x5,x6,x7,x8,x9,x10,x11,x12,x13⟩:=cells14 hxa
    have hne : w.heap.size ≠ w1.heap.size:=by omega
    clear hBa hxa hx1
    go_wp2_with (first | (go_at_call 38;refine (field_between _ _ _ _).mono ?_;rintro e w9 ⟨rfl,rfl⟩) | (go_at_call 67;refine (HWK.out _).mono ?_;rintro e w8 ⟨rfl,hb8⟩))
    go_ret
    first | (refine ⟨by rw [HW.out];rfl,?_⟩) | (refine ⟨by rw [HW.out],?_⟩) | (refine ⟨rfl,?_⟩)
    exact HBa.out)
set_option maxHeartbeats 16000000 in
theorem ruled_0 (kind day month shift shape p0 p1 p2 cycle extra first last policy : Int) (nm : Bytes) (w : World) (hfx : fixedR kind = (calZ,false)) (hb1' : tween month 1 12 = true) (hb2' : tween shift 0 1 = true) (k1 : (kind == 1) = false) (k2 : (kind == 2) = false) (k5 : (kind == 5) = false) (k6 : (kind == 6) = false) :
    Calls Tryz.prog 40 #[.agg #[.string ⟨nm.toArray⟩, .int .i64 kind, .int .i64 day, .int .i64 month, .int .i64 shift, .int .i64 shape, .int .i64 p0, .int .i64 p1, .int .i64 p2, .int .i64 cycle, .int .i64 extra, .int .i64 first, .int .i64 last, .int .i64 policy]] w fun e w' => e = .returned (.bool (false)) ∧ Below w.heap.size w w':=by
  have HB0:=zh (below_cal w (.cells #[.string ⟨nm.toArray⟩, .int .i64 kind, .int .i64 day, .int .i64 month, .int .i64 shift, .int .i64 shape, .int .i64 p0, .int .i64 p1, .int .i64 p2, .int .i64 cycle, .int .i64 extra, .int .i64 first, .int .i64 last, .int .i64 policy] 37))
  have HX0:=zh (heap_alloc_new w (.cells #[.string ⟨nm.toArray⟩, .int .i64 kind, .int .i64 day, .int .i64 month, .int .i64 shift, .int .i64 shape, .int .i64 p0, .int .i64 p1, .int .i64 p2, .int .i64 cycle, .int .i64 extra, .int .i64 first, .int .i64 last, .int .i64 policy] 37))
  go_enter Tryz.func40,Tryz.ntmps40
  go_wp2_with fail
  refine (field_fixed _ _).mono ?_
  rintro e w1 ⟨rfl,hb1⟩
  have hx1:=(hb1.block w.heap.size (by simp)).trans HX0.out
  have HB1:=zh (HB0.out.trans (hb1.mono (by simp)))
  have hl1:=(Array.getElem?_eq_some_iff.1 hx1).1
  clear hb1
  dsimp only [calV]
  rw [hfx]
  dsimp only [calZ]
  have hBa : Below w1.heap.size w1 (w1.alloc (.cells #[.string ⟨#[]⟩, .int .i64 0, .int .i64 0, .int .i64 0, .int .i64 0, .int .i64 0, .int .i64 0, .int .i64 0, .int .i64 0, .int .i64 0, .int .i64 0, .int .i64 0, .int .i64 0, .int .i64 0] 37)):=below_cal _ _
  have hxa:=(hBa.block w.heap.size hl1).trans hx1
  have HBa:=zh (HB1.out.trans (hBa.mono HB1.out.size))
  obtain ⟨x0,x1,x2,x3,x4,x5,x6,x7,x8,x9,x10,x11,x12,x13⟩:=cells14 hxa
  have hne : w.heap.size ≠ w1.heap.size:=by omega
  clear hBa hxa hx1
  go_wp2_with (first | (go_at_call 38;refine (field_between _ _ _ _).mono ?_;rintro e w9 ⟨rfl,rfl⟩) | (go_at_call 67;refine (HWK.out _).mono ?_;rintro e w8 ⟨rfl,hb8⟩))
  go_ret
  first | (refine ⟨by rw [HW.out];rfl,?_⟩) | (refine ⟨by rw [HW.out],?_⟩) | (refine ⟨rfl,?_⟩)
  exact HBa.out
theorem field_ruled (c : CalL) (w : World) : Calls Tryz.prog 40 #[calV c] w fun e w' => e = .returned (.bool (ruledC c)) ∧ Below w.heap.size w w' := by
  obtain ⟨nm,kind,day,month,shift,shape,p0,p1,p2,cycle,extra,first,last,policy⟩:=c
  by_cases hk3 : kind = 3
  · subst hk3;exact field_ruled3 _ _ _ _ _ _ _ _ _ _ _ _ _ w
  by_cases hk4 : kind = 4
  · subst hk4;exact field_ruled4 _ _ _ _ _ _ _ _ _ _ _ _ _ w
  have hfx : fixedR kind = (calZ,false):=by unfold fixedR;rw [if_neg hk3,if_neg hk4]
  have hru : ruledC ⟨nm,kind,day,month,shift,shape,p0,p1,p2,cycle,extra,first,last,policy⟩ = if !tween month 1 12 || !tween shift 0 1 then false
    else if kind = 1 ∨ kind = 2 then tween day 1 7 && weeksC ⟨nm,kind,day,month,shift,shape,p0,p1,p2,cycle,extra,first,last,policy⟩
    else if kind = 5 then decide (day = 7) && decide (month = 12) && decide (shift = 0) && weeksC ⟨nm,kind,day,month,shift,shape,p0,p1,p2,cycle,extra,first,last,policy⟩
    else if kind = 6 then decide (day = 0) && decide (shape = 5) && (decide (p0 = 0) && decide (p1 = 0) && decide (p2 = 0)) && decide (cycle = 0) && decide (extra = 0)
    else false:=by unfold ruledC fixedC;dsimp only;rw [if_neg hk3,if_neg hk4];rfl
  by_cases hb : tween month 1 12 = false ∨ tween shift 0 1 = false
  · rw [hru,if_pos (by rcases hb with h | h <;> simp [h])]
    exact ruled_rng kind day month shift shape p0 p1 p2 cycle extra first last policy nm w hfx hb
  have hm : tween month 1 12 = true:=by cases h : tween month 1 12 <;> simp_all
  have hs : tween shift 0 1 = true:=by cases h : tween shift 0 1 <;> simp_all
  rw [hru,hm,hs,if_neg (by decide)]
  by_cases hk1 : kind = 1
  · subst hk1
    rw [if_pos (.inl rfl)]
    exact ruled_1 day month shift shape p0 p1 p2 cycle extra first last policy nm w hm hs
  by_cases hk2 : kind = 2
  · subst hk2
    rw [if_pos (.inr rfl)]
    exact ruled_2 day month shift shape p0 p1 p2 cycle extra first last policy nm w hm hs
  rw [if_neg (fun h => h.elim hk1 hk2)]
  by_cases hk5 : kind = 5
  · subst hk5
    rw [if_pos rfl]
    exact ruled_5 day month shift shape p0 p1 p2 cycle extra first last policy nm w hm hs
  rw [if_neg hk5]
  by_cases hk6 : kind = 6
  · subst hk6
    rw [if_pos rfl]
    exact ruled_6 day month shift shape p0 p1 p2 cycle extra first last policy nm w hm hs
  rw [if_neg hk6]
  exact ruled_0 kind day month shift shape p0 p1 p2 cycle extra first last policy nm w hfx hm hs (beq_false_of_ne hk1) (beq_false_of_ne hk2) (beq_false_of_ne hk5) (beq_false_of_ne hk6)
end Go.Proofs.YtjbniichcopnlaaGreatDoor
