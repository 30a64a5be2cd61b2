/- Layer 11 (field): the walk of end: the kinds, and those that stand alone. -/
import Derived.Test.YtjbniichcopnlaaGreatDoorPkS23
import Derived.Deep.DeepCutAuto
import Derived.Deep.RegionHeld3
set_option linter.unusedVariables false
set_option linter.unusedSimpArgs false
set_option maxRecDepth 100000
namespace Go.Proofs.YtjbniichcopnlaaGreatDoor
open Go.RowKit
open Go.Joins renaming cell_of_block → zb, unfrozen_of_block → zu
open Go.Lib renaming hid → zh
theorem word1 {w : World} {B : Nat} {ad : Addr} {ws : List WordL} (h : ReadsM w (· < B) 4 (some ad) ws.length (ws.flatMap WordL.cells)) (i : Nat) (t : WordL) (hi : ws[i]? = some t) (h0 : i ≠ 0) :
    w.cell? ⟨ad.block,ad.off + i * 4,none⟩ = some (.bool t.num) ∧ w.cell? ⟨ad.block,ad.off + i * 4 + 1,none⟩ = some (.int .i64 t.n) ∧ w.cell? ⟨ad.block,ad.off + i * 4 + 2,none⟩ = some (.string ⟨t.s.toArray⟩) ∧ w.cell? ⟨ad.block,ad.off + i * 4 + 3,none⟩ = some (.int .i64 t.pos):=by
  obtain ⟨ad',e,_,h1,h2,h3,h4⟩:=word_cells h i t hi
  injection e with e
  subst e
  have hs : ad.add (i * 4) = ⟨ad.block,ad.off + i * 4,none⟩:=by unfold Addr.add;rw [if_neg (by omega)]
  rw [hs] at h1 h2 h3 h4
  exact ⟨h1,h2,h3,h4⟩
section
variable {w : World} {cb : Nat} {c : CalL}
theorem CalBlk.sname (h : CalBlk w cb c) (v : Bytes) : CalBlk (w.setCell ⟨cb,0,none⟩ (.string ⟨v.toArray⟩)) cb { c with name := v } := by
  have:=Joins.block_setCell h (i:=0) (.string ⟨v.toArray⟩)
  simpa [CalBlk] using this
theorem CalBlk.kind (h : CalBlk w cb c) (v : Int) : CalBlk (w.setCell ⟨cb,1,none⟩ (.int .i64 v)) cb { c with kind := v } := by
  have:=Joins.block_setCell h (i:=1) (.int .i64 v)
  simpa [CalBlk] using this
theorem CalBlk.day (h : CalBlk w cb c) (v : Int) : CalBlk (w.setCell ⟨cb,2,none⟩ (.int .i64 v)) cb { c with day := v } := by
  have:=Joins.block_setCell h (i:=2) (.int .i64 v)
  simpa [CalBlk] using this
theorem CalBlk.month (h : CalBlk w cb c) (v : Int) : CalBlk (w.setCell ⟨cb,3,none⟩ (.int .i64 v)) cb { c with month := v } := by
  have:=Joins.block_setCell h (i:=3) (.int .i64 v)
  simpa [CalBlk] using this
theorem CalBlk.shift (h : CalBlk w cb c) (v : Int) : CalBlk (w.setCell ⟨cb,4,none⟩ (.int .i64 v)) cb { c with shift := v } := by
  have:=Joins.block_setCell h (i:=4) (.int .i64 v)
  simpa [CalBlk] using this
theorem CalBlk.shape (h : CalBlk w cb c) (v : Int) : CalBlk (w.setCell ⟨cb,5,none⟩ (.int .i64 v)) cb { c with shape := v } := by
  have:=Joins.block_setCell h (i:=5) (.int .i64 v)
  simpa [CalBlk] using this
theorem CalBlk.p0 (h : CalBlk w cb c) (v : Int) : CalBlk (w.setCell ⟨cb,6,none⟩ (.int .i64 v)) cb { c with p0 := v } := by
  have:=Joins.block_setCell h (i:=6) (.int .i64 v)
  simpa [CalBlk] using this
theorem CalBlk.p1 (h : CalBlk w cb c) (v : Int) : CalBlk (w.setCell ⟨cb,7,none⟩ (.int .i64 v)) cb { c with p1 := v } := by
  have:=Joins.block_setCell h (i:=7) (.int .i64 v)
  simpa [CalBlk] using this
theorem CalBlk.p2 (h : CalBlk w cb c) (v : Int) : CalBlk (w.setCell ⟨cb,8,none⟩ (.int .i64 v)) cb { c with p2 := v } := by
  have:=Joins.block_setCell h (i:=8) (.int .i64 v)
  simpa [CalBlk] using this
theorem CalBlk.cycle (h : CalBlk w cb c) (v : Int) : CalBlk (w.setCell ⟨cb,9,none⟩ (.int .i64 v)) cb { c with cycle := v } := by
  have:=Joins.block_setCell h (i:=9) (.int .i64 v)
  simpa [CalBlk] using this
theorem CalBlk.extra (h : CalBlk w cb c) (v : Int) : CalBlk (w.setCell ⟨cb,10,none⟩ (.int .i64 v)) cb { c with extra := v } := by
  have:=Joins.block_setCell h (i:=10) (.int .i64 v)
  simpa [CalBlk] using this
theorem CalBlk.first (h : CalBlk w cb c) (v : Int) : CalBlk (w.setCell ⟨cb,11,none⟩ (.int .i64 v)) cb { c with first := v } := by
  have:=Joins.block_setCell h (i:=11) (.int .i64 v)
  simpa [CalBlk] using this
theorem CalBlk.last (h : CalBlk w cb c) (v : Int) : CalBlk (w.setCell ⟨cb,12,none⟩ (.int .i64 v)) cb { c with last := v } := by
  have:=Joins.block_setCell h (i:=12) (.int .i64 v)
  simpa [CalBlk] using this
theorem CalBlk.policy (h : CalBlk w cb c) (v : Int) : CalBlk (w.setCell ⟨cb,13,none⟩ (.int .i64 v)) cb { c with policy := v } := by
  have:=Joins.block_setCell h (i:=13) (.int .i64 v)
  simpa [CalBlk] using this
theorem CalBlk.alloc (h : CalBlk w cb c) (o : Obj) : CalBlk (w.alloc o) cb c:=h.keep ((Below.refl _ _).alloc (Nat.le_refl _) o)
theorem CalBlk.put14 (h : CalBlk w cb c) (d : CalL) : CalBlk ((((((((((((((w.setCell ⟨cb,0,none⟩ (.string ⟨d.name.toArray⟩)).setCell ⟨cb,1,none⟩ (.int .i64 d.kind)).setCell ⟨cb,2,none⟩ (.int .i64 d.day)).setCell ⟨cb,3,none⟩ (.int .i64 d.month)).setCell ⟨cb,4,none⟩ (.int .i64 d.shift)).setCell ⟨cb,5,none⟩ (.int .i64 d.shape)).setCell ⟨cb,6,none⟩ (.int .i64 d.p0)).setCell ⟨cb,7,none⟩ (.int .i64 d.p1)).setCell ⟨cb,8,none⟩ (.int .i64 d.p2)).setCell ⟨cb,9,none⟩ (.int .i64 d.cycle)).setCell ⟨cb,10,none⟩ (.int .i64 d.extra)).setCell ⟨cb,11,none⟩ (.int .i64 d.first)).setCell ⟨cb,12,none⟩ (.int .i64 d.last)).setCell ⟨cb,13,none⟩ (.int .i64 d.policy)) cb d:=((((((((((((((h.sname d.name).kind d.kind).day d.day).month d.month).shift d.shift).shape d.shape).p0 d.p0).p1 d.p1).p2 d.p2).cycle d.cycle).extra d.extra).first d.first).last d.last).policy d.policy)
theorem Step.put14 {w0 : World} (h : Step w0 w [] (some cb)) (d : CalL) : Step w0 ((((((((((((((w.setCell ⟨cb,0,none⟩ (.string ⟨d.name.toArray⟩)).setCell ⟨cb,1,none⟩ (.int .i64 d.kind)).setCell ⟨cb,2,none⟩ (.int .i64 d.day)).setCell ⟨cb,3,none⟩ (.int .i64 d.month)).setCell ⟨cb,4,none⟩ (.int .i64 d.shift)).setCell ⟨cb,5,none⟩ (.int .i64 d.shape)).setCell ⟨cb,6,none⟩ (.int .i64 d.p0)).setCell ⟨cb,7,none⟩ (.int .i64 d.p1)).setCell ⟨cb,8,none⟩ (.int .i64 d.p2)).setCell ⟨cb,9,none⟩ (.int .i64 d.cycle)).setCell ⟨cb,10,none⟩ (.int .i64 d.extra)).setCell ⟨cb,11,none⟩ (.int .i64 d.first)).setCell ⟨cb,12,none⟩ (.int .i64 d.last)).setCell ⟨cb,13,none⟩ (.int .i64 d.policy)) [] (some cb):=((((((((((((((h.put 0 _).put 1 _).put 2 _).put 3 _).put 4 _).put 5 _).put 6 _).put 7 _).put 8 _).put 9 _).put 10 _).put 11 _).put 12 _).put 13 _)
end
/-- What end's first statement leaves. -/
def EndSt (w : World) (k : Int) (s5 : Value) (wx : World) : Prop:=s5 = .int .i64 k ∧ Below w.heap.size w wx
theorem natEq (n m : Nat) : ((n : Int) == (m : Int)) = decide (n = m) := by
  by_cases h : n = m
  · subst h;simp
  · rw [decide_eq_false h];exact beq_false_of_ne (by omega)
/-- What end's words say,by the kind. -/
def endB (nm : Bytes) (ws : List WordL) (k : Int) : CalL × Bool :=
  match fixedC k with
  | some f => ({ f with name:=nm },((ws.length : Int) == 1))
  | none =>
    if k = 5 then ({ calZ with name:=nm,kind:=k,day:=7,month:=12 },((ws.length : Int) == 1))
    else if k = 6 ∧ ws.length = 2 then ({ calZ with name:=nm,kind:=k,shape:=5,month:=placeW mons (ws.getD 1 ⟨false,0,[],0⟩) },decide (0 < placeW mons (ws.getD 1 ⟨false,0,[],0⟩)))
    else if 0 < k ∧ k < 3 ∧ ws.length = 3 then ({ calZ with name:=nm,kind:=k,day:=placeW days (ws.getD 1 ⟨false,0,[],0⟩),month:=placeW mons (ws.getD 2 ⟨false,0,[],0⟩) },decide (0 < placeW days (ws.getD 1 ⟨false,0,[],0⟩)) && decide (0 < placeW mons (ws.getD 2 ⟨false,0,[],0⟩)))
    else ({ calZ with name:=nm,kind:=k },false)
theorem endK_eq (nm : Bytes) (ws : List WordL) (k : Int) (h : placeW endsL (ws.headD ⟨false,0,[],0⟩) = k) : endK nm ws = endB nm ws k := by
  unfold endK endB
  rw [h]
  have e : ((ws.length : Int) == 1) = decide (ws.length = 1):=natEq ws.length 1
  rw [e]
  rfl
/-- What end leaves of a kind that is known: the walk behind the first statement. -/
def calZcells (nm : Bytes) : CalL:={ calZ with name:=nm }
theorem place_rng (l : List Bytes) (t : WordL) : 0 ≤ placeW l t ∧ placeW l t ≤ l.length := by
  have:=posL_nonneg l t.s
  unfold placeW
  split
  · omega
  · exact this
theorem fixed_no (k : Int) (h3 : k ≠ 3) (h4 : k ≠ 4) (W : World) : Calls Tryz.prog 56 #[.int .i64 k] W fun e w' => e = .returned (.tuple #[.agg #[.string ⟨#[]⟩, .int .i64 0, .int .i64 0, .int .i64 0, .int .i64 0, .int .i64 0, .int .i64 0, .int .i64 0, .int .i64 0, .int .i64 0, .int .i64 0, .int .i64 0, .int .i64 0, .int .i64 0], .bool false]) ∧ Below W.heap.size W w' := by
  have h:=field_fixed k W
  rw [show fixedR k = (calZ,false) by unfold fixedR;rw [if_neg h3,if_neg h4]] at h
  exact h
theorem fixed_3 (W : World) : Calls Tryz.prog 56 #[.int .i64 3] W fun e w' => e = .returned (.tuple #[.agg #[.string ⟨#[]⟩, .int .i64 3, .int .i64 6, .int .i64 1, .int .i64 1, .int .i64 1, .int .i64 4, .int .i64 5, .int .i64 4, .int .i64 0, .int .i64 12, .int .i64 0, .int .i64 0, .int .i64 0], .bool true]) ∧ Below W.heap.size W w':=field_fixed 3 W
theorem fixed_4 (W : World) : Calls Tryz.prog 56 #[.int .i64 4] W fun e w' => e = .returned (.tuple #[.agg #[.string ⟨#[]⟩, .int .i64 4, .int .i64 7, .int .i64 12, .int .i64 0, .int .i64 4, .int .i64 0, .int .i64 0, .int .i64 0, .int .i64 0, .int .i64 12, .int .i64 0, .int .i64 0, .int .i64 0], .bool true]) ∧ Below W.heap.size W w':=field_fixed 4 W
set_option maxHeartbeats 16000000 in
theorem key_end : KeyAt 71 (fun c ws => endK c.name ws) (fun c => c = { calZ with name := c.name }) := by
  intro c ws A cw w B cb hcz hne hlen hB hc hr
  obtain ⟨k,hkd⟩ : ∃ k,placeW endsL (ws.headD ⟨false,0,[],0⟩) = k:=⟨_,rfl⟩
  have hk:=endK_eq c.name ws k hkd
  have hrng:=place_rng endsL (ws.headD ⟨false,0,[],0⟩)
  rw [hkd] at hrng
  obtain ⟨t,r,hws⟩ : ∃ t r,ws = t :: r := by
    cases ws with
    | nil => exact absurd rfl hne
    | cons t r => exact ⟨t,r,rfl⟩
  have hr0:=hr
  rw [hws] at hr0
  obtain ⟨ad,rfl,hadb,e0,e1,e2,e3⟩:=word0 hr0
  have hlt:=hc.lt
  rw [hws] at hkd
  dsimp only [List.headD_cons] at hkd
  have HP:=zh (fun g W h => field_named endsL t g 6 W (by decide) h)
  rw [hkd] at HP
  have hc' : CalBlk w cb { calZ with name:=c.name }:=by rw [← hcz];exact hc
  have HC:=zh hc'
  have HR:=zh hr
  have hadl : ad.block < w.heap.size:=by omega
  have hL0 : (0 : Int) < ws.length:=by rw [hws];simp
  have HW:=zh hws
  have HK:=zh hk
  show Calls _ _ _ _ fun e w' => e = .returned (.bool (endK c.name ws).2) ∧ CalBlk w' cb (endK c.name ws).1 ∧ Step w w' [] (some cb)
  rw [hk]
  generalize c.name = nm at *
  obtain ⟨E,hE⟩ : ∃ E,endB nm ws k = E:=⟨_,rfl⟩
  rw [hE]
  have HE:=zh hE
  clear hk hr hr0 hc hc' hne hkd hcz hws hE HK
  generalize hL : ws.length = L at *
  obtain ⟨tn,n,s,pos⟩:=t
  dsimp only at *
  go_enter Tryz.func71,Tryz.ntmps71
  go_wp2_with fail
  go_cut [5] (fun s5 wx => EndSt w k s5 wx)
  case first =>
    go_region_with (first | (go_at_call 27;refine (field_ends _).mono ?_;rintro e w1 ⟨rfl,hg1,hb1⟩;have s0:=(hb1.cell (p:=ad) hadl).trans e0;have s1:=(hb1.cell (p:=⟨ad.block,ad.off + 1,none⟩) hadl).trans e1;have s2:=(hb1.cell (p:=⟨ad.block,ad.off + 2,none⟩) hadl).trans e2;have s3:=(hb1.cell (p:=⟨ad.block,ad.off + 3,none⟩) hadl).trans e3) | (go_at_call 74;refine (HP.out _ _ (by assumption)).mono ?_;rintro e w2 ⟨rfl,hb2⟩))
    all_goals (
      go_wp2_with fail
      go_meet
      exact ⟨rfl,Below.trans (show Below w.heap.size w w1 from ⟨hb1.os,hb1.tape,hb1.output,hb1.size,hb1.block⟩) (hb2.mono hb1.size)⟩)
  case rest =>
    obtain ⟨rfl,hbc⟩:=hcut
    have HB1:=zh hbc
    clear e0 e1 e2 e3 HP
    by_cases h5 : k = 5
    · subst h5
      have hE : E = ({ calZ with name:=nm,kind:=5,day:=7,month:=12 },((L : Int) == 1)):=by rw [← HE.out,← hL];rfl
      subst hE
      clear hL hbc
      go_wp2_with fail
      refine (fixed_no 5 (by decide) (by decide) _).mono ?_
      rintro e w3 ⟨rfl,hb3⟩
      have hbw : Below w.heap.size w w3:=HB1.out.trans (hb3.mono HB1.out.size)
      have hc3:=HC.out.keep hbw
      have hgl:=hc3.lt
      have hgn : cb ≠ w3.heap.size:=by omega
      have hf:=zu hc3
      have f1:=hf 1
      have f2:=hf 2
      have f3:=hf 3
      have c1:=zb hc3 1
      have c2:=zb hc3 2
      have c3:=zb hc3 3
      have HBW:=zh hbw
      have HC3:=zh hc3
      clear hb3 hbw hc3 hf
      have HS3:=zh (step_below (cb:=cb) HBW.out)
      go_wp2_with fail
      go_ret
      first
      | exact ⟨rfl,(((HC3.out.kind 5).day 7).month 12).alloc _,(((HS3.out.put 1 _).put 2 _).put 3 _).alloc _⟩
      | exact ⟨rfl,(((HC3.out.alloc _).kind 5).day 7).month 12,(((HS3.out.alloc _).put 1 _).put 2 _).put 3 _⟩
    by_cases h3 : k = 3
    · subst h3
      have hE : E = (⟨nm,3,6,1,1,1,4,5,4,0,12,0,0,0⟩,((L : Int) == 1)):=by rw [← HE.out,← hL];rfl
      subst hE
      clear hL hbc
      go_wp2_with fail
      refine (fixed_3 _).mono ?_
      rintro e w3 ⟨rfl,hb3⟩
      have hbw : Below w.heap.size w w3:=HB1.out.trans (hb3.mono HB1.out.size)
      have hc3:=HC.out.keep hbw
      have hgl:=hc3.lt
      have hgn : cb ≠ w3.heap.size:=by omega
      have hf:=zu hc3
      have f0:=hf 0
      have c0:=zb hc3 0
      have f1:=hf 1
      have c1:=zb hc3 1
      have f2:=hf 2
      have c2:=zb hc3 2
      have f3:=hf 3
      have c3:=zb hc3 3
      have f4:=hf 4
      have c4:=zb hc3 4
      have f5:=hf 5
      have c5:=zb hc3 5
      have f6:=hf 6
      have c6:=zb hc3 6
      have f7:=hf 7
      have c7:=zb hc3 7
      have f8:=hf 8
      have c8:=zb hc3 8
      have f9:=hf 9
      have c9:=zb hc3 9
      have f10:=hf 10
      have c10:=zb hc3 10
      have f11:=hf 11
      have c11:=zb hc3 11
      have f12:=hf 12
      have c12:=zb hc3 12
      have f13:=hf 13
      have c13:=zb hc3 13
      have HBW:=zh hbw
      have HC3:=zh hc3
      have HS3:=zh (step_below (cb:=cb) hbw)
      clear hb3 hbw hc3 hf
      go_wp2_with fail
      go_ret
      first
      | exact ⟨rfl,(HC3.out.put14 ⟨nm,3,6,1,1,1,4,5,4,0,12,0,0,0⟩).alloc _,(HS3.out.put14 ⟨nm,3,6,1,1,1,4,5,4,0,12,0,0,0⟩).alloc _⟩
      | exact ⟨rfl,(HC3.out.alloc _).put14 ⟨nm,3,6,1,1,1,4,5,4,0,12,0,0,0⟩,(HS3.out.alloc _).put14 ⟨nm,3,6,1,1,1,4,5,4,0,12,0,0,0⟩⟩
    by_cases h4 : k = 4
    · subst h4
      have hE : E = (⟨nm,4,7,12,0,4,0,0,0,0,12,0,0,0⟩,((L : Int) == 1)):=by rw [← HE.out,← hL];rfl
      subst hE
      clear hL hbc
      go_wp2_with fail
      refine (fixed_4 _).mono ?_
      rintro e w3 ⟨rfl,hb3⟩
      have hbw : Below w.heap.size w w3:=HB1.out.trans (hb3.mono HB1.out.size)
      have hc3:=HC.out.keep hbw
      have hgl:=hc3.lt
      have hgn : cb ≠ w3.heap.size:=by omega
      have hf:=zu hc3
      have f0:=hf 0
      have c0:=zb hc3 0
      have f1:=hf 1
      have c1:=zb hc3 1
      have f2:=hf 2
      have c2:=zb hc3 2
      have f3:=hf 3
      have c3:=zb hc3 3
      have f4:=hf 4
      have c4:=zb hc3 4
      have f5:=hf 5
      have c5:=zb hc3 5
      have f6:=hf 6
      have c6:=zb hc3 6
      have f7:=hf 7
      have c7:=zb hc3 7
      have f8:=hf 8
      have c8:=zb hc3 8
      have f9:=hf 9
      have c9:=zb hc3 9
      have f10:=hf 10
      have c10:=zb hc3 10
      have f11:=hf 11
      have c11:=zb hc3 11
      have f12:=hf 12
      have c12:=zb hc3 12
      have f13:=hf 13
      have c13:=zb hc3 13
      have HBW:=zh hbw
      have HC3:=zh hc3
      have HS3:=zh (step_below (cb:=cb) hbw)
      clear hb3 hbw hc3 hf
      go_wp2_with fail
      go_ret
      first
      | exact ⟨rfl,(HC3.out.put14 ⟨nm,4,7,12,0,4,0,0,0,0,12,0,0,0⟩).alloc _,(HS3.out.put14 ⟨nm,4,7,12,0,4,0,0,0,0,12,0,0,0⟩).alloc _⟩
      | exact ⟨rfl,(HC3.out.alloc _).put14 ⟨nm,4,7,12,0,4,0,0,0,0,12,0,0,0⟩,(HS3.out.alloc _).put14 ⟨nm,4,7,12,0,4,0,0,0,0,12,0,0,0⟩⟩
    have g5 : (k == 5) = false:=beq_false_of_ne h5
    have hEB : endB nm ws k = (if k = 6 ∧ ws.length = 2 then ({ calZ with name:=nm,kind:=k,shape:=5,month:=placeW mons (ws.getD 1 ⟨false,0,[],0⟩) },decide (0 < placeW mons (ws.getD 1 ⟨false,0,[],0⟩)))
    else if 0 < k ∧ k < 3 ∧ ws.length = 3 then ({ calZ with name:=nm,kind:=k,day:=placeW days (ws.getD 1 ⟨false,0,[],0⟩),month:=placeW mons (ws.getD 2 ⟨false,0,[],0⟩) },decide (0 < placeW days (ws.getD 1 ⟨false,0,[],0⟩)) && decide (0 < placeW mons (ws.getD 2 ⟨false,0,[],0⟩)))
    else ({ calZ with name := nm,kind := k },false)) := by
      unfold endB fixedC
      rw [if_neg h3,if_neg h4]
      dsimp only
      rw [if_neg h5]
    rw [hEB] at HE
    clear hEB
    by_cases h6 : k = 6
    · by_cases hL2 : L = 2
      · obtain ⟨u,hu⟩ : ∃ u,ws[1]? = some u := ⟨_,List.getElem?_eq_getElem (by omega)⟩
        have hud : ws.getD 1 ⟨false,0,[],0⟩ = u:=by rw [List.getD_eq_getElem?_getD,hu];rfl
        have hr1:=HR.out
        rw [← hL] at hr1
        obtain ⟨a0,a1,a2,a3⟩:=word1 hr1 1 u hu (by omega)
        rw [Nat.one_mul] at a0 a1 a2 a3
        rw [hud,if_pos ⟨h6,by omega⟩] at HE
        have HPM:=zh (fun g W h => field_named mons u g 12 W (by decide) h)
        generalize placeW mons u = m at *
        have hE : E = ({ calZ with name:=nm,kind:=6,shape:=5,month:=m },decide (0 < m)):=by rw [← HE.out,h6]
        subst hE
        obtain ⟨un,nn,us,up⟩:=u
        dsimp only at *
        subst h6
        subst hL2
        clear hr1 hL hu hud
        go_wp2_with fail
        refine (fixed_no 6 (by decide) (by decide) _).mono ?_
        rintro e w3 ⟨rfl,hb3⟩
        have hbw : Below w.heap.size w w3:=HB1.out.trans (hb3.mono HB1.out.size)
        have hc3:=HC.out.keep hbw
        have hgl:=hc3.lt
        have hgn : cb ≠ w3.heap.size:=by omega
        have f1:=zu hc3 1
        have c1:=zb hc3 1
        have HBW:=zh hbw
        have HC3:=zh hc3
        have HS3:=zh (step_below (cb:=cb) hbw)
        clear hb3 hc3 hbc
        go_wp2_with fail
        generalize hWg : World.alloc _ _ = W
        have hcW : CalBlk W cb { calZ with name:=nm,kind:=6 }:=by rw [← hWg];exact (HC3.out.kind 6).alloc _
        have hsW : Step w W [] (some cb):=by rw [← hWg];exact (HS3.out.put 1 _).alloc _
        have hdn : some ad.block ≠ some cb:=by intro e;injection e;omega
        replace a0:=(hsW.cell ad.block hadl hdn (ad.off + 4) (by simp)).trans a0
        replace a1:=(hsW.cell ad.block hadl hdn (ad.off + 4 + 1) (by simp)).trans a1
        replace a2:=(hsW.cell ad.block hadl hdn (ad.off + 4 + 2) (by simp)).trans a2
        replace a3:=(hsW.cell ad.block hadl hdn (ad.off + 4 + 3) (by simp)).trans a3
        have hdl : ad.block < W.heap.size:=Nat.lt_of_lt_of_le hadl hsW.size
        have hgW:=hcW.lt
        have HCW:=zh hcW
        have HSW:=zh hsW
        clear hWg hcW hsW hdn f1 c1 hgl hgn
        go_region_with (first | (go_at_call 30;refine (field_months _).mono ?_;rintro e w4 ⟨rfl,hg4,hb4⟩;have a0:=(hb4.cell (p:=⟨ad.block,ad.off + 4,none⟩) hdl).trans a0;have a1:=(hb4.cell (p:=⟨ad.block,ad.off + 4 + 1,none⟩) hdl).trans a1;have a2:=(hb4.cell (p:=⟨ad.block,ad.off + 4 + 2,none⟩) hdl).trans a2;have a3:=(hb4.cell (p:=⟨ad.block,ad.off + 4 + 3,none⟩) hdl).trans a3) | (go_at_call 74;refine (HPM.out _ _ (by assumption)).mono ?_;rintro e w5 ⟨rfl,hb5⟩;have hb45 : Below W.heap.size W w5:=Below.trans (show Below W.heap.size W w4 from ⟨hb4.os,hb4.tape,hb4.output,hb4.size,hb4.block⟩) (hb5.mono hb4.size);have hc5:=HCW.out.keep hb45;have f3:=zu hc5 3;have f5:=zu hc5 5;have c3:=zb hc5 3;have c5:=zb hc5 5))
        all_goals (
          have HC5:=zh hc5
          have HS5:=zh (HSW.out.below hb45)
          clear hb4 hb5 hb45 hc5 hg4 a0 a1 a2 a3
          go_wp2_with fail
          go_ret
          first
          | exact ⟨rfl,(HC5.out.shape 5).month m,(HS5.out.put 5 _).put 3 _⟩
          | exact ⟨rfl,(HC5.out.month m).shape 5,(HS5.out.put 3 _).put 5 _⟩)
      · rw [if_neg (by omega),if_neg (by omega)] at HE
        subst h6
        have l2 : ((L : Int) == 2) = false:=beq_false_of_ne (by omega)
        have hE : E = ({ calZ with name:=nm,kind:=6 },false):=by rw [← HE.out]
        subst hE
        clear hL hbc
        go_wp2_with fail
        refine (fixed_no 6 (by decide) (by decide) _).mono ?_
        rintro e w3 ⟨rfl,hb3⟩
        have hbw : Below w.heap.size w w3:=HB1.out.trans (hb3.mono HB1.out.size)
        have hc3:=HC.out.keep hbw
        have hgl:=hc3.lt
        have hgn : cb ≠ w3.heap.size:=by omega
        have hf:=zu hc3
        have f1:=hf 1
        have c1:=zb hc3 1
        have HBW:=zh hbw
        have HC3:=zh hc3
        have HS3:=zh (step_below (cb:=cb) hbw)
        clear hb3 hbw hc3 hf
        go_wp2_with fail
        go_ret
        first
        | exact ⟨rfl,(HC3.out.kind 6).alloc _,(HS3.out.put 1 _).alloc _⟩
        | exact ⟨rfl,(HC3.out.alloc _).kind 6,(HS3.out.alloc _).put 1 _⟩
    by_cases h12 : 0 < k ∧ k < 3
    · have k0 := h12.1
      have k3:=h12.2
      have g6 : (k == 6) = false:=beq_false_of_ne h6
      rw [if_neg (fun h => h6 h.1)] at HE
      by_cases hL3 : L = 3
      · obtain ⟨u,hu⟩ : ∃ u,ws[1]? = some u := ⟨_,List.getElem?_eq_getElem (by omega)⟩
        obtain ⟨x,hx⟩ : ∃ x,ws[2]? = some x:=⟨_,List.getElem?_eq_getElem (by omega)⟩
        have hud : ws.getD 1 ⟨false,0,[],0⟩ = u:=by rw [List.getD_eq_getElem?_getD,hu];rfl
        have hxd : ws.getD 2 ⟨false,0,[],0⟩ = x:=by rw [List.getD_eq_getElem?_getD,hx];rfl
        have hr1:=HR.out
        rw [← hL] at hr1
        obtain ⟨a0,a1,a2,a3⟩:=word1 hr1 1 u hu (by omega)
        obtain ⟨d0,d1,d2,d3⟩:=word1 hr1 2 x hx (by omega)
        rw [Nat.one_mul] at a0 a1 a2 a3
        rw [show (2 : Nat) * 4 = 8 from rfl] at d0 d1 d2 d3
        rw [hud,hxd,if_pos ⟨k0,k3,by omega⟩] at HE
        have HPD:=zh (fun g W h => field_named days u g 7 W (by decide) h)
        have HPM:=zh (fun g W h => field_named mons x g 12 W (by decide) h)
        have hm0:=(place_rng mons x).1
        have hd0:=(place_rng days u).1
        generalize placeW mons x = m at *
        generalize placeW days u = dd at *
        have hE : E = ({ calZ with name:=nm,kind:=k,day:=dd,month:=m },decide (0 < dd) && decide (0 < m)):=by rw [← HE.out]
        subst hE
        obtain ⟨un,nn,us,up⟩:=u
        obtain ⟨xn,xx,xs,xp⟩:=x
        dsimp only at *
        subst hL3
        clear hr1 hL hu hud hx hxd
        go_wp2_with fail
        refine (fixed_no k h3 h4 _).mono ?_
        rintro e w3 ⟨rfl,hb3⟩
        have hbw : Below w.heap.size w w3:=HB1.out.trans (hb3.mono HB1.out.size)
        have hc3:=HC.out.keep hbw
        have hgl:=hc3.lt
        have hgn : cb ≠ w3.heap.size:=by omega
        have f1:=zu hc3 1
        have c1:=zb hc3 1
        have HBW:=zh hbw
        have HC3:=zh hc3
        have HS3:=zh (step_below (cb:=cb) hbw)
        clear hb3 hc3 hbc
        go_wp2_with fail
        generalize hWg : World.alloc _ _ = W
        have hcW : CalBlk W cb { calZ with name:=nm,kind:=k }:=by rw [← hWg];exact (HC3.out.kind k).alloc _
        have hsW : Step w W [] (some cb):=by rw [← hWg];exact (HS3.out.put 1 _).alloc _
        have hdn : some ad.block ≠ some cb:=by intro e;injection e;omega
        have hs0 : ∀ j,W.cell? ⟨ad.block,j,none⟩ = w.cell? ⟨ad.block,j,none⟩:=fun j => hsW.cell ad.block hadl hdn j (by simp)
        have hdl : ad.block < W.heap.size:=Nat.lt_of_lt_of_le hadl hsW.size
        have HCW:=zh hcW
        have HSW:=zh hsW
        clear hWg hcW hsW hdn f1 c1 hgl hgn
        have hne : ad.block ≠ cb:=by omega
        have hoth : ∀ (W : World) (i j : Nat) (v : Value),(W.setCell ⟨cb,i,none⟩ v).cell? ⟨ad.block,j,none⟩ = W.cell? ⟨ad.block,j,none⟩:=fun W i j v => World.cell?_setCell_other W ⟨cb,i,none⟩ ⟨ad.block,j,none⟩ v (fun e => hne (congrArg Addr.block e).symm)
        go_region_held3 (fun W => (∀ j,W.cell? ⟨ad.block,j,none⟩ = w.cell? ⟨ad.block,j,none⟩) ∧ ad.block < W.heap.size)
          (first | exact ⟨hs0,hdl⟩ | (exact ⟨fun j => (hoth _ _ j _).trans ((hoth _ _ j _).trans (hSW j)),by simp only [nblk_setCell];exact hlW⟩) | (go_split_ands;refine ⟨fun j => ?_,?_⟩ <;> first | (with_reducible assumption) | (rw [hoth];apply_assumption) | (rw [nblk_setCell];with_reducible assumption) | (refine Eq.trans (hbc.cell (p:=⟨ad.block,j,none⟩) (by with_reducible assumption)) ?_;apply_assumption) | (have:=hbc.size;omega) | (simp;omega)))
          (first
          | (go_at_call 28;(with_reducible refine Calls.mono (field_weekdays _) ?_);rintro e w4 ⟨rfl,hg4,hbc⟩;have hZ4 : Below W.heap.size W w4:=⟨hbc.os,hbc.tape,hbc.output,hbc.size,hbc.block⟩;replace hg4 : StrBlk w4 W.heap.size days:=hg4)
          | (go_at_call 74;have hq6:=hg6;(with_reducible refine Calls.mono (HPM.out _ _ (by assumption)) ?_);rintro e w7 ⟨rfl,hbc⟩;have hSW : ∀ j,w7.cell? ⟨ad.block,j,none⟩ = w.cell? ⟨ad.block,j,none⟩:=(fun j => (hZ6.trans (hbc.mono hZ6.size)).cell (p:=⟨ad.block,j,none⟩) hdl |>.trans (hs0 j));have hlW : ad.block < w7.heap.size:=Nat.lt_of_lt_of_le hdl (hZ6.trans (hbc.mono hZ6.size)).size;have hZ7:=Below.trans hZ6 (hbc.mono hZ6.size);have hc5:=HCW.out.keep hZ7;have f3:=zu hc5 3;have f2:=zu hc5 2;have c3:=zb hc5 3;have c2:=zb hc5 2)
          | (go_at_call 74;(with_reducible refine Calls.mono (HPD.out _ _ (by assumption)) ?_);rintro e w5 ⟨rfl,hbc⟩;have hZ5:=Below.trans hZ4 (hbc.mono hZ4.size))
          | (go_at_call 30;(with_reducible refine Calls.mono (field_months _) ?_);rintro e w6 ⟨rfl,hg6,hbc⟩;have hZ6:=Below.trans hZ5 (hbc.mono hZ5.size)))
        all_goals (
          have HC5:=zh hc5
          have HS5:=zh (HSW.out.below hZ7)
          clear hZ4 hZ5 hZ6 hZ7 hc5 hSW hlW hoth hs0
          rcases Int.lt_or_le 0 dd with hdp | hdp
          · have hdt : decide (0 < dd) = true := decide_eq_true hdp
            go_wp2_with fail
            go_ret
            exact ⟨by first | rfl | (rw [hdt];rfl) | (simp [hdp]),(HC5.out.day dd).month m,(HS5.out.put 2 _).put 3 _⟩
          · have hdz : dd = 0 := by omega
            subst hdz
            go_wp2_with fail
            go_ret
            exact ⟨rfl,(HC5.out.day 0).month m,(HS5.out.put 2 _).put 3 _⟩)
      · rw [if_neg (fun h => hL3 (by omega))] at HE
        have l3 : ((L : Int) == 3) = false:=beq_false_of_ne (by omega)
        have hE : E = ({ calZ with name:=nm,kind:=k },false):=by rw [← HE.out]
        subst hE
        clear hL hbc
        go_wp2_with fail
        refine (fixed_no k h3 h4 _).mono ?_
        rintro e w3 ⟨rfl,hb3⟩
        have hbw : Below w.heap.size w w3:=HB1.out.trans (hb3.mono HB1.out.size)
        have hc3:=HC.out.keep hbw
        have hgl:=hc3.lt
        have hgn : cb ≠ w3.heap.size:=by omega
        have f1:=zu hc3 1
        have c1:=zb hc3 1
        have HC3:=zh hc3
        have HS3:=zh (step_below (cb:=cb) hbw)
        clear hb3 hbw hc3
        go_wp2_with fail
        go_ret
        first
        | exact ⟨rfl,(HC3.out.kind k).alloc _,(HS3.out.put 1 _).alloc _⟩
        | exact ⟨rfl,(HC3.out.alloc _).kind k,(HS3.out.alloc _).put 1 _⟩
    · rw [if_neg (by omega),if_neg (by omega)] at HE
      have g6 : (k == 6) = false:=beq_false_of_ne h6
      have hk0 : k = 0 := by
        have e : endsL.length = 6:=rfl
        omega
      subst hk0
      have hE : E = ({ calZ with name:=nm,kind:=0 },false):=by rw [← HE.out]
      subst hE
      clear hL hbc
      go_wp2_with fail
      refine (fixed_no 0 (by decide) (by decide) _).mono ?_
      rintro e w3 ⟨rfl,hb3⟩
      have hbw : Below w.heap.size w w3:=HB1.out.trans (hb3.mono HB1.out.size)
      have hc3:=HC.out.keep hbw
      have hgl:=hc3.lt
      have hgn : cb ≠ w3.heap.size:=by omega
      have hf:=zu hc3
      have f1:=hf 1
      have c1:=zb hc3 1
      have HBW:=zh hbw
      have HC3:=zh hc3
      have HS3:=zh (step_below (cb:=cb) hbw)
      clear hb3 hbw hc3 hf
      go_wp2_with fail
      go_ret
      first
      | exact ⟨rfl,(HC3.out.kind 0).alloc _,(HS3.out.put 1 _).alloc _⟩
      | exact ⟨rfl,(HC3.out.alloc _).kind 0,(HS3.out.alloc _).put 1 _⟩
end Go.Proofs.YtjbniichcopnlaaGreatDoor
