/- Layer 11 (field), the reference: the walk of Check, of the kind iso. Written by wip/gen_check.py. -/
import Derived.Test.YtjbniichcopnlaaGreatDoorPkS35
import Derived.Deep.DeepCutAuto
import Derived.Deep.CutBlock
import Derived.Deep.RegionHeld3
import Derived.BigQuiet
set_option linter.unusedVariables false
set_option linter.unusedSimpArgs false
set_option maxRecDepth 100000
namespace Go.Proofs.YtjbniichcopnlaaGreatDoor
open Go.RowKit
open Go.Lib renaming hid → zh
open List renaming setIfInBounds_toArray → zA, set_cons_succ → zB, set_cons_zero → zC, getElem_toArray → zD, getElem_cons_succ → zE, getElem_cons_zero → zG
/-- What an iso year comes to. -/
def isoR (day month shift : Int) (sh : Bool) (extra mn : Int) : Bool:=(day == 7) && (month == 12) && (shift == 0) && sh && decide (1 ≤ extra) && decide (extra ≤ mn)
set_option maxHeartbeats 16000000 in
theorem r11_Check_5 (nm : Bytes) (day month shift shape p0 p1 p2 cycle extra first last policy : Int) (hl : nm.length ≤ maxLen) (h : HeadOk nm first last) (hp : PolOk policy false) (w : World) :
    Calls Tryz.prog 25 #[.agg #[.string ⟨nm.toArray⟩, .int .i64 5, .int .i64 day, .int .i64 month, .int .i64 shift, .int .i64 shape, .int .i64 p0, .int .i64 p1, .int .i64 p2, .int .i64 cycle, .int .i64 extra, .int .i64 first, .int .i64 last, .int .i64 policy]] w fun e w' =>
      e = .returned (.int .i64 (e01 (isoR day month shift (shapedR ⟨nm,5,day,month,shift,shape,p0,p1,p2,cycle,extra,first,last,policy⟩) extra (manyR shape cycle)))) ∧ Below w.heap.size w w':=by
  have HB:=zh (below_cal w (.cells #[.string ⟨nm.toArray⟩, .int .i64 5, .int .i64 day, .int .i64 month, .int .i64 shift, .int .i64 shape, .int .i64 p0, .int .i64 p1, .int .i64 p2, .int .i64 cycle, .int .i64 extra, .int .i64 first, .int .i64 last, .int .i64 policy] 37))
  have HB2:=zh (below_al1 HB.out (.cells #[.string ⟨#[]⟩, .int .i64 5, .int .i64 day, .int .i64 month, .int .i64 shift, .int .i64 shape, .int .i64 p0, .int .i64 p1, .int .i64 p2, .int .i64 cycle, .int .i64 extra, .int .i64 0, .int .i64 0, .int .i64 0] 37))
  have hx : ((w.alloc (.cells #[.string ⟨nm.toArray⟩, .int .i64 5, .int .i64 day, .int .i64 month, .int .i64 shift, .int .i64 shape, .int .i64 p0, .int .i64 p1, .int .i64 p2, .int .i64 cycle, .int .i64 extra, .int .i64 first, .int .i64 last, .int .i64 policy] 37)).alloc (.cells #[.string ⟨#[]⟩, .int .i64 5, .int .i64 day, .int .i64 month, .int .i64 shift, .int .i64 shape, .int .i64 p0, .int .i64 p1, .int .i64 p2, .int .i64 cycle, .int .i64 extra, .int .i64 0, .int .i64 0, .int .i64 0] 37)).heap[w.heap.size]? = some (.cells #[.string ⟨nm.toArray⟩, .int .i64 5, .int .i64 day, .int .i64 month, .int .i64 shift, .int .i64 shape, .int .i64 p0, .int .i64 p1, .int .i64 p2, .int .i64 cycle, .int .i64 extra, .int .i64 first, .int .i64 last, .int .i64 policy] 37):=(Go.heap_alloc_old _ _ (by simp)).trans (heap_alloc_new w _)
  have HX:=zh hx
  have HN:=zh (fun W => rname_atG nm hl W)
  have HSH:=zh (fun W => r11_shaped ⟨nm,5,day,month,shift,shape,p0,p1,p2,cycle,extra,first,last,policy⟩ W)
  have HMA:=zh (fun W => r11_many ⟨nm,5,day,month,shift,shape,p0,p1,p2,cycle,extra,first,last,policy⟩ W)
  dsimp only [calV] at HSH HMA
  generalize shapedR ⟨nm,5,day,month,shift,shape,p0,p1,p2,cycle,extra,first,last,policy⟩ = sb at *
  generalize manyR shape cycle = mn at *
  obtain ⟨hn,h1,h2,h3,h4,h5⟩:=h
  obtain ⟨q1,q2,q4⟩:=hp
  rw [hn] at HN
  clear hn hl hx
  generalize hres : isoR day month shift sb extra mn = res
  have HRES:=zh hres
  clear hres
  go_enter Tryz.func25,Tryz.ntmps25
  go_wp2_with fail
  refine (HN.out _).mono ?_
  rintro e w1 ⟨rfl,rfl⟩
  go_upto_block 0 with fail
  generalize World.alloc (World.alloc _ _) _ = W at *
  clear h1 h2 h3 h4 h5 q1 q2 q4 HN
  go_cut [4] (fun s4 wx => s4 = .bool res ∧ Below w.heap.size w wx)
  case first =>
    have y:=HX.out
    obtain ⟨g0,g1,g2,g3,g4,g5,g6,g7,g8,g9,g10,g11,g12,g13⟩:=cells14 y
    have ly:=(Array.getElem?_eq_some_iff.1 y).1
    clear y
    cases hd1 : (day == 7)
    · skip
      have HRF : Hid (false = res):=zh (by rw [← HRES.out];unfold isoR;simp [hd1])
      go_wp2_with fail
      first | go_quiet (fail) | fail
      all_goals (
        go_wp2_with fail
        go_meet
        exact ⟨congrArg Value.bool HRF.out,below_drewN HB2.out _⟩)
    · skip
      cases hd2 : (month == 12)
      · skip
        have HRF : Hid (false = res):=zh (by rw [← HRES.out];unfold isoR;simp [hd1,hd2])
        go_wp2_with fail
        first | go_quiet (fail) | fail
        all_goals (
          go_wp2_with fail
          go_meet
          exact ⟨congrArg Value.bool HRF.out,below_drewN HB2.out _⟩)
      · skip
        cases hd3 : (shift == 0)
        · skip
          have HRF : Hid (false = res):=zh (by rw [← HRES.out];unfold isoR;simp [hd1,hd2,hd3])
          go_wp2_with fail
          first | go_quiet (fail) | fail
          all_goals (
            go_wp2_with fail
            go_meet
            exact ⟨congrArg Value.bool HRF.out,below_drewN HB2.out _⟩)
        · skip
          cases hsb : sb
          · skip
            have HRF : Hid (false = res):=zh (by rw [← HRES.out];unfold isoR;simp [hd1,hd2,hd3,hsb])
            go_wp2_with fail
            have hbR:=(Below.refl W.heap.size W).drew
            refine wp_region_held_drew (S:=(fun X => (∀ j,X.cell? ⟨w.heap.size,j,none⟩ = W.cell? ⟨w.heap.size,j,none⟩) ∧ Below W.heap.size W X)) (by kernel_rfl) ?_ (fun hHeld => ?_)
            · exact ⟨fun _ => rfl,hbR⟩
            refine wtk (v:=?_) 0 rfl (Or.inl ⟨by rfl,?_⟩) ?_;rotate_left;(focus (intro w hSw;(try dsimp only at hSw);go_simp;try with_reducible rfl));try simp only [Act.put,zA,zB,zC,zD,zE,zG]
            refine wtk (v:=?_) 1 rfl (Or.inl ⟨by rfl,?_⟩) ?_;rotate_left;(focus (intro w hSw;(try dsimp only at hSw);go_simp;try with_reducible rfl));try simp only [Act.put,zA,zB,zC,zD,zE,zG]
            refine wtk (v:=?_) 2 rfl (Or.inl ⟨by rfl,?_⟩) ?_;rotate_left;(focus (intro w hSw;(try dsimp only at hSw);go_simp;try with_reducible rfl));try simp only [Act.put,zA,zB,zC,zD,zE,zG]
            refine wtk (v:=?_) 3 rfl (Or.inl ⟨by rfl,?_⟩) ?_;rotate_left;(focus (intro w hSw;(try dsimp only at hSw);go_simp;try with_reducible rfl));try simp only [Act.put,zA,zB,zC,zD,zE,zG]
            refine wtk (v:=?_) 4 rfl (Or.inl ⟨by rfl,?_⟩) ?_;rotate_left;(focus (intro w hSw;(try dsimp only at hSw);go_simp;try with_reducible rfl));try simp only [Act.put,zA,zB,zC,zD,zE,zG]
            refine wtk (v:=?_) 5 rfl (Or.inl ⟨by rfl,?_⟩) ?_;rotate_left;(focus (intro w hSw;(try dsimp only at hSw);go_simp;try with_reducible rfl));try simp only [Act.put,zA,zB,zC,zD,zE,zG]
            refine wtk (v:=?_) 6 rfl (Or.inl ⟨by rfl,?_⟩) ?_;rotate_left;(focus (intro w hSw;(try dsimp only at hSw);go_simp;try with_reducible rfl));try simp only [Act.put,zA,zB,zC,zD,zE,zG]
            refine wtk (v:=?_) 7 rfl (Or.inl ⟨by rfl,?_⟩) ?_;rotate_left;(focus (intro w hSw;(try dsimp only at hSw);go_simp;try with_reducible rfl));try simp only [Act.put,zA,zB,zC,zD,zE,zG]
            refine wtk (v:=?_) 8 rfl (Or.inl ⟨by rfl,?_⟩) ?_;rotate_left;(focus (intro w hSw;(try dsimp only at hSw);go_simp;try with_reducible rfl));try simp only [Act.put,zA,zB,zC,zD,zE,zG]
            refine wtk (v:=?_) 9 rfl (Or.inl ⟨by rfl,?_⟩) ?_;rotate_left;(focus (intro w hSw;(try dsimp only at hSw);go_simp;try with_reducible rfl));try simp only [Act.put,zA,zB,zC,zD,zE,zG]
            refine wtk (v:=?_) 10 rfl (Or.inl ⟨by rfl,?_⟩) ?_;rotate_left;(focus (intro w hSw;(try dsimp only at hSw);go_simp;try with_reducible rfl));try simp only [Act.put,zA,zB,zC,zD,zE,zG]
            refine wtk (v:=?_) 11 rfl (Or.inl ⟨by rfl,?_⟩) ?_;rotate_left;(focus (intro w hSw;(try dsimp only at hSw);go_simp;try with_reducible rfl));try simp only [Act.put,zA,zB,zC,zD,zE,zG]
            refine wtk (v:=?_) 12 rfl (Or.inl ⟨by rfl,?_⟩) ?_;rotate_left;(focus (intro w hSw;(try dsimp only at hSw);go_simp;try with_reducible rfl));try simp only [Act.put,zA,zB,zC,zD,zE,zG]
            refine wtk (v:=?_) 13 rfl (Or.inl ⟨by rfl,?_⟩) ?_;rotate_left;(focus (intro w hSw;(try dsimp only at hSw);go_simp;try with_reducible rfl));try simp only [Act.put,zA,zB,zC,zD,zE,zG]
            refine wtk (v:=?_) 14 rfl (Or.inl ⟨by rfl,?_⟩) ?_;rotate_left;(focus (intro w hSw;(try dsimp only at hSw);go_simp;try with_reducible rfl));try simp only [Act.put,zA,zB,zC,zD,zE,zG]
            refine wpAnyH_ready (rs:=[15]) (by kernel_rfl) (by simp) ?_
            refine AllReadyH.cons rfl (fun K hK => ?_) AllReadyH.nil
            go_simp
            refine Calls.mono (HSH.out _) ?_
            rintro e w5 ⟨rfl,hbc⟩
            have hbZ : Below W.heap.size W w5:=hHeld.2.trans (Below.mono hbc hHeld.2.size)
            have hS' : (∀ j,World.cell? w5 ⟨w.heap.size,j,none⟩ = W.cell? ⟨w.heap.size,j,none⟩) ∧ Below W.heap.size W w5:=⟨fun j => hbZ.cell (p:=⟨w.heap.size,j,none⟩) ly,hbZ⟩
            clear hbc hbZ hHeld
            refine hK.out _ _ hS' (fun hHeld => ?_)
            clear hK K hS'
            try simp only [Act.put,zA,zB,zC,zD,zE,zG]
            refine wtk (v:=?_) 16 rfl (Or.inl ⟨by rfl,?_⟩) ?_;rotate_left;(focus (intro w hSw;(try dsimp only at hSw);go_simp;try with_reducible rfl));try simp only [Act.put,zA,zB,zC,zD,zE,zG]
            refine wtk (v:=?_) 17 rfl (Or.inl ⟨by rfl,?_⟩) ?_;rotate_left;(focus (intro w hSw;(try dsimp only at hSw);go_simp;try with_reducible rfl));try simp only [Act.put,zA,zB,zC,zD,zE,zG]
            refine wtk (v:=undef) 18 rfl (Or.inr ⟨by rfl,rfl⟩) ?_
            try simp only [Act.put,zA,zB,zC,zD,zE,zG]
            refine wtk (v:=undef) 19 rfl (Or.inr ⟨by rfl,rfl⟩) ?_
            try simp only [Act.put,zA,zB,zC,zD,zE,zG]
            refine wtk (v:=undef) 20 rfl (Or.inr ⟨by rfl,rfl⟩) ?_
            try simp only [Act.put,zA,zB,zC,zD,zE,zG]
            refine wtk (v:=?_) 21 rfl (Or.inl ⟨by rfl,?_⟩) ?_;rotate_left;(focus (intro w hSw;(try dsimp only at hSw);go_simp;try with_reducible rfl));try simp only [Act.put,zA,zB,zC,zD,zE,zG]
            refine wtk (v:=?_) 22 rfl (Or.inl ⟨by rfl,?_⟩) ?_;rotate_left;(focus (intro w hSw;(try dsimp only at hSw);go_simp;try with_reducible rfl));try simp only [Act.put,zA,zB,zC,zD,zE,zG]
            refine wtk (v:=undef) 23 rfl (Or.inr ⟨by rfl,rfl⟩) ?_
            try simp only [Act.put,zA,zB,zC,zD,zE,zG]
            refine wtk (v:=undef) 24 rfl (Or.inr ⟨by rfl,rfl⟩) ?_
            try simp only [Act.put,zA,zB,zC,zD,zE,zG]
            refine wtk (v:=undef) 25 rfl (Or.inr ⟨by rfl,rfl⟩) ?_
            try simp only [Act.put,zA,zB,zC,zD,zE,zG]
            refine wtk (v:=undef) 26 rfl (Or.inr ⟨by rfl,rfl⟩) ?_
            try simp only [Act.put,zA,zB,zC,zD,zE,zG]
            refine wtk (v:=undef) 27 rfl (Or.inr ⟨by rfl,rfl⟩) ?_
            try simp only [Act.put,zA,zB,zC,zD,zE,zG]
            refine wtk (v:=?_) 28 rfl (Or.inl ⟨by rfl,?_⟩) ?_;rotate_left;(focus (intro w hSw;(try dsimp only at hSw);go_simp;try with_reducible rfl));try simp only [Act.put,zA,zB,zC,zD,zE,zG]
            refine wtk (v:=?_) 29 rfl (Or.inl ⟨by rfl,?_⟩) ?_;rotate_left;(focus (intro w hSw;(try dsimp only at hSw);go_simp;try with_reducible rfl));try simp only [Act.put,zA,zB,zC,zD,zE,zG]
            refine wpAnyH_done (by kernel_rfl) ?_ _
            go_wp2_with fail
            go_meet
            exact ⟨congrArg Value.bool HRF.out,HB2.out.trans (hHeld.2.mono HB2.out.size)⟩
          · skip
            cases he1 : decide (1 ≤ extra)
            · skip
              have HRF : Hid (false = res):=zh (by rw [← HRES.out];unfold isoR;simp [hd1,hd2,hd3,hsb,he1])
              go_wp2_with fail
              have hbR:=(Below.refl W.heap.size W).drew
              refine wp_region_held_drew (S:=(fun X => (∀ j,X.cell? ⟨w.heap.size,j,none⟩ = W.cell? ⟨w.heap.size,j,none⟩) ∧ Below W.heap.size W X)) (by kernel_rfl) ?_ (fun hHeld => ?_)
              · exact ⟨fun _ => rfl,hbR⟩
              refine wtk (v:=?_) 0 rfl (Or.inl ⟨by rfl,?_⟩) ?_;rotate_left;(focus (intro w hSw;(try dsimp only at hSw);go_simp;try with_reducible rfl));try simp only [Act.put,zA,zB,zC,zD,zE,zG]
              refine wtk (v:=?_) 1 rfl (Or.inl ⟨by rfl,?_⟩) ?_;rotate_left;(focus (intro w hSw;(try dsimp only at hSw);go_simp;try with_reducible rfl));try simp only [Act.put,zA,zB,zC,zD,zE,zG]
              refine wtk (v:=?_) 2 rfl (Or.inl ⟨by rfl,?_⟩) ?_;rotate_left;(focus (intro w hSw;(try dsimp only at hSw);go_simp;try with_reducible rfl));try simp only [Act.put,zA,zB,zC,zD,zE,zG]
              refine wtk (v:=?_) 3 rfl (Or.inl ⟨by rfl,?_⟩) ?_;rotate_left;(focus (intro w hSw;(try dsimp only at hSw);go_simp;try with_reducible rfl));try simp only [Act.put,zA,zB,zC,zD,zE,zG]
              refine wtk (v:=?_) 4 rfl (Or.inl ⟨by rfl,?_⟩) ?_;rotate_left;(focus (intro w hSw;(try dsimp only at hSw);go_simp;try with_reducible rfl));try simp only [Act.put,zA,zB,zC,zD,zE,zG]
              refine wtk (v:=?_) 5 rfl (Or.inl ⟨by rfl,?_⟩) ?_;rotate_left;(focus (intro w hSw;(try dsimp only at hSw);go_simp;try with_reducible rfl));try simp only [Act.put,zA,zB,zC,zD,zE,zG]
              refine wtk (v:=?_) 6 rfl (Or.inl ⟨by rfl,?_⟩) ?_;rotate_left;(focus (intro w hSw;(try dsimp only at hSw);go_simp;try with_reducible rfl));try simp only [Act.put,zA,zB,zC,zD,zE,zG]
              refine wtk (v:=?_) 7 rfl (Or.inl ⟨by rfl,?_⟩) ?_;rotate_left;(focus (intro w hSw;(try dsimp only at hSw);go_simp;try with_reducible rfl));try simp only [Act.put,zA,zB,zC,zD,zE,zG]
              refine wtk (v:=?_) 8 rfl (Or.inl ⟨by rfl,?_⟩) ?_;rotate_left;(focus (intro w hSw;(try dsimp only at hSw);go_simp;try with_reducible rfl));try simp only [Act.put,zA,zB,zC,zD,zE,zG]
              refine wtk (v:=?_) 9 rfl (Or.inl ⟨by rfl,?_⟩) ?_;rotate_left;(focus (intro w hSw;(try dsimp only at hSw);go_simp;try with_reducible rfl));try simp only [Act.put,zA,zB,zC,zD,zE,zG]
              refine wtk (v:=?_) 10 rfl (Or.inl ⟨by rfl,?_⟩) ?_;rotate_left;(focus (intro w hSw;(try dsimp only at hSw);go_simp;try with_reducible rfl));try simp only [Act.put,zA,zB,zC,zD,zE,zG]
              refine wtk (v:=?_) 11 rfl (Or.inl ⟨by rfl,?_⟩) ?_;rotate_left;(focus (intro w hSw;(try dsimp only at hSw);go_simp;try with_reducible rfl));try simp only [Act.put,zA,zB,zC,zD,zE,zG]
              refine wtk (v:=?_) 12 rfl (Or.inl ⟨by rfl,?_⟩) ?_;rotate_left;(focus (intro w hSw;(try dsimp only at hSw);go_simp;try with_reducible rfl));try simp only [Act.put,zA,zB,zC,zD,zE,zG]
              refine wtk (v:=?_) 13 rfl (Or.inl ⟨by rfl,?_⟩) ?_;rotate_left;(focus (intro w hSw;(try dsimp only at hSw);go_simp;try with_reducible rfl));try simp only [Act.put,zA,zB,zC,zD,zE,zG]
              refine wtk (v:=?_) 14 rfl (Or.inl ⟨by rfl,?_⟩) ?_;rotate_left;(focus (intro w hSw;(try dsimp only at hSw);go_simp;try with_reducible rfl));try simp only [Act.put,zA,zB,zC,zD,zE,zG]
              refine wpAnyH_ready (rs:=[15]) (by kernel_rfl) (by simp) ?_
              refine AllReadyH.cons rfl (fun K hK => ?_) AllReadyH.nil
              go_simp
              refine Calls.mono (HSH.out _) ?_
              rintro e w5 ⟨rfl,hbc⟩
              have hbZ : Below W.heap.size W w5:=hHeld.2.trans (Below.mono hbc hHeld.2.size)
              have hS' : (∀ j,World.cell? w5 ⟨w.heap.size,j,none⟩ = W.cell? ⟨w.heap.size,j,none⟩) ∧ Below W.heap.size W w5:=⟨fun j => hbZ.cell (p:=⟨w.heap.size,j,none⟩) ly,hbZ⟩
              clear hbc hbZ hHeld
              refine hK.out _ _ hS' (fun hHeld => ?_)
              clear hK K hS'
              try simp only [Act.put,zA,zB,zC,zD,zE,zG]
              refine wtk (v:=?_) 16 rfl (Or.inl ⟨by rfl,?_⟩) ?_;rotate_left;(focus (intro w hSw;(try dsimp only at hSw);go_simp;try with_reducible rfl));try simp only [Act.put,zA,zB,zC,zD,zE,zG]
              refine wtk (v:=?_) 17 rfl (Or.inl ⟨by rfl,?_⟩) ?_;rotate_left;(focus (intro w hSw;(try dsimp only at hSw);go_simp;try with_reducible rfl));try simp only [Act.put,zA,zB,zC,zD,zE,zG]
              refine wtk (v:=?_) 18 rfl (Or.inl ⟨by rfl,?_⟩) ?_;rotate_left;(focus (intro w hSw;(try dsimp only at hSw);go_simp;try with_reducible rfl));try simp only [Act.put,zA,zB,zC,zD,zE,zG]
              refine wtk (v:=?_) 19 rfl (Or.inl ⟨by rfl,?_⟩) ?_;rotate_left;(focus (intro w hSw;(try dsimp only at hSw);go_simp;try with_reducible rfl));try simp only [Act.put,zA,zB,zC,zD,zE,zG]
              refine wtk (v:=?_) 20 rfl (Or.inl ⟨by rfl,?_⟩) ?_;rotate_left;(focus (intro w hSw;(try dsimp only at hSw);go_simp;try with_reducible rfl));try simp only [Act.put,zA,zB,zC,zD,zE,zG]
              refine wtk (v:=?_) 21 rfl (Or.inl ⟨by rfl,?_⟩) ?_;rotate_left;(focus (intro w hSw;(try dsimp only at hSw);go_simp;try with_reducible rfl));try simp only [Act.put,zA,zB,zC,zD,zE,zG]
              refine wtk (v:=?_) 22 rfl (Or.inl ⟨by rfl,?_⟩) ?_;rotate_left;(focus (intro w hSw;(try dsimp only at hSw);go_simp;try with_reducible rfl));try simp only [Act.put,zA,zB,zC,zD,zE,zG]
              refine wtk (v:=undef) 23 rfl (Or.inr ⟨by rfl,rfl⟩) ?_
              try simp only [Act.put,zA,zB,zC,zD,zE,zG]
              refine wtk (v:=undef) 24 rfl (Or.inr ⟨by rfl,rfl⟩) ?_
              try simp only [Act.put,zA,zB,zC,zD,zE,zG]
              refine wtk (v:=undef) 25 rfl (Or.inr ⟨by rfl,rfl⟩) ?_
              try simp only [Act.put,zA,zB,zC,zD,zE,zG]
              refine wtk (v:=undef) 26 rfl (Or.inr ⟨by rfl,rfl⟩) ?_
              try simp only [Act.put,zA,zB,zC,zD,zE,zG]
              refine wtk (v:=undef) 27 rfl (Or.inr ⟨by rfl,rfl⟩) ?_
              try simp only [Act.put,zA,zB,zC,zD,zE,zG]
              refine wtk (v:=?_) 28 rfl (Or.inl ⟨by rfl,?_⟩) ?_;rotate_left;(focus (intro w hSw;(try dsimp only at hSw);go_simp;try with_reducible rfl));try simp only [Act.put,zA,zB,zC,zD,zE,zG]
              refine wtk (v:=?_) 29 rfl (Or.inl ⟨by rfl,?_⟩) ?_;rotate_left;(focus (intro w hSw;(try dsimp only at hSw);go_simp;try with_reducible rfl));try simp only [Act.put,zA,zB,zC,zD,zE,zG]
              refine wpAnyH_done (by kernel_rfl) ?_ _
              go_wp2_with fail
              go_meet
              exact ⟨congrArg Value.bool HRF.out,HB2.out.trans (hHeld.2.mono HB2.out.size)⟩
            · skip
              have HRF : Hid (decide (extra ≤ mn) = res):=zh (by rw [← HRES.out];unfold isoR;simp [hd1,hd2,hd3,hsb,he1])
              go_wp2_with fail
              have hbR:=(Below.refl W.heap.size W).drew
              refine wp_region_held_drew (S:=(fun X => (∀ j,X.cell? ⟨w.heap.size,j,none⟩ = W.cell? ⟨w.heap.size,j,none⟩) ∧ Below W.heap.size W X)) (by kernel_rfl) ?_ (fun hHeld => ?_)
              · exact ⟨fun _ => rfl,hbR⟩
              refine wtk (v:=?_) 0 rfl (Or.inl ⟨by rfl,?_⟩) ?_;rotate_left;(focus (intro w hSw;(try dsimp only at hSw);go_simp;try with_reducible rfl));try simp only [Act.put,zA,zB,zC,zD,zE,zG]
              refine wtk (v:=?_) 1 rfl (Or.inl ⟨by rfl,?_⟩) ?_;rotate_left;(focus (intro w hSw;(try dsimp only at hSw);go_simp;try with_reducible rfl));try simp only [Act.put,zA,zB,zC,zD,zE,zG]
              refine wtk (v:=?_) 2 rfl (Or.inl ⟨by rfl,?_⟩) ?_;rotate_left;(focus (intro w hSw;(try dsimp only at hSw);go_simp;try with_reducible rfl));try simp only [Act.put,zA,zB,zC,zD,zE,zG]
              refine wtk (v:=?_) 3 rfl (Or.inl ⟨by rfl,?_⟩) ?_;rotate_left;(focus (intro w hSw;(try dsimp only at hSw);go_simp;try with_reducible rfl));try simp only [Act.put,zA,zB,zC,zD,zE,zG]
              refine wtk (v:=?_) 4 rfl (Or.inl ⟨by rfl,?_⟩) ?_;rotate_left;(focus (intro w hSw;(try dsimp only at hSw);go_simp;try with_reducible rfl));try simp only [Act.put,zA,zB,zC,zD,zE,zG]
              refine wtk (v:=?_) 5 rfl (Or.inl ⟨by rfl,?_⟩) ?_;rotate_left;(focus (intro w hSw;(try dsimp only at hSw);go_simp;try with_reducible rfl));try simp only [Act.put,zA,zB,zC,zD,zE,zG]
              refine wtk (v:=?_) 6 rfl (Or.inl ⟨by rfl,?_⟩) ?_;rotate_left;(focus (intro w hSw;(try dsimp only at hSw);go_simp;try with_reducible rfl));try simp only [Act.put,zA,zB,zC,zD,zE,zG]
              refine wtk (v:=?_) 7 rfl (Or.inl ⟨by rfl,?_⟩) ?_;rotate_left;(focus (intro w hSw;(try dsimp only at hSw);go_simp;try with_reducible rfl));try simp only [Act.put,zA,zB,zC,zD,zE,zG]
              refine wtk (v:=?_) 8 rfl (Or.inl ⟨by rfl,?_⟩) ?_;rotate_left;(focus (intro w hSw;(try dsimp only at hSw);go_simp;try with_reducible rfl));try simp only [Act.put,zA,zB,zC,zD,zE,zG]
              refine wtk (v:=?_) 9 rfl (Or.inl ⟨by rfl,?_⟩) ?_;rotate_left;(focus (intro w hSw;(try dsimp only at hSw);go_simp;try with_reducible rfl));try simp only [Act.put,zA,zB,zC,zD,zE,zG]
              refine wtk (v:=?_) 10 rfl (Or.inl ⟨by rfl,?_⟩) ?_;rotate_left;(focus (intro w hSw;(try dsimp only at hSw);go_simp;try with_reducible rfl));try simp only [Act.put,zA,zB,zC,zD,zE,zG]
              refine wtk (v:=?_) 11 rfl (Or.inl ⟨by rfl,?_⟩) ?_;rotate_left;(focus (intro w hSw;(try dsimp only at hSw);go_simp;try with_reducible rfl));try simp only [Act.put,zA,zB,zC,zD,zE,zG]
              refine wtk (v:=?_) 12 rfl (Or.inl ⟨by rfl,?_⟩) ?_;rotate_left;(focus (intro w hSw;(try dsimp only at hSw);go_simp;try with_reducible rfl));try simp only [Act.put,zA,zB,zC,zD,zE,zG]
              refine wtk (v:=?_) 13 rfl (Or.inl ⟨by rfl,?_⟩) ?_;rotate_left;(focus (intro w hSw;(try dsimp only at hSw);go_simp;try with_reducible rfl));try simp only [Act.put,zA,zB,zC,zD,zE,zG]
              refine wtk (v:=?_) 14 rfl (Or.inl ⟨by rfl,?_⟩) ?_;rotate_left;(focus (intro w hSw;(try dsimp only at hSw);go_simp;try with_reducible rfl));try simp only [Act.put,zA,zB,zC,zD,zE,zG]
              refine wpAnyH_ready (rs:=[15]) (by kernel_rfl) (by simp) ?_
              refine AllReadyH.cons rfl (fun K hK => ?_) AllReadyH.nil
              go_simp
              refine Calls.mono (HSH.out _) ?_
              rintro e w5 ⟨rfl,hbc⟩
              have hbZ : Below W.heap.size W w5:=hHeld.2.trans (Below.mono hbc hHeld.2.size)
              have hS' : (∀ j,World.cell? w5 ⟨w.heap.size,j,none⟩ = W.cell? ⟨w.heap.size,j,none⟩) ∧ Below W.heap.size W w5:=⟨fun j => hbZ.cell (p:=⟨w.heap.size,j,none⟩) ly,hbZ⟩
              clear hbc hbZ hHeld
              refine hK.out _ _ hS' (fun hHeld => ?_)
              clear hK K hS'
              try simp only [Act.put,zA,zB,zC,zD,zE,zG]
              refine wtk (v:=?_) 16 rfl (Or.inl ⟨by rfl,?_⟩) ?_;rotate_left;(focus (intro w hSw;(try dsimp only at hSw);go_simp;try with_reducible rfl));try simp only [Act.put,zA,zB,zC,zD,zE,zG]
              refine wtk (v:=?_) 17 rfl (Or.inl ⟨by rfl,?_⟩) ?_;rotate_left;(focus (intro w hSw;(try dsimp only at hSw);go_simp;try with_reducible rfl));try simp only [Act.put,zA,zB,zC,zD,zE,zG]
              refine wtk (v:=?_) 18 rfl (Or.inl ⟨by rfl,?_⟩) ?_;rotate_left;(focus (intro w hSw;(try dsimp only at hSw);go_simp;try with_reducible rfl));try simp only [Act.put,zA,zB,zC,zD,zE,zG]
              refine wtk (v:=?_) 19 rfl (Or.inl ⟨by rfl,?_⟩) ?_;rotate_left;(focus (intro w hSw;(try dsimp only at hSw);go_simp;try with_reducible rfl));try simp only [Act.put,zA,zB,zC,zD,zE,zG]
              refine wtk (v:=?_) 20 rfl (Or.inl ⟨by rfl,?_⟩) ?_;rotate_left;(focus (intro w hSw;(try dsimp only at hSw);go_simp;try with_reducible rfl));try simp only [Act.put,zA,zB,zC,zD,zE,zG]
              refine wtk (v:=?_) 21 rfl (Or.inl ⟨by rfl,?_⟩) ?_;rotate_left;(focus (intro w hSw;(try dsimp only at hSw);go_simp;try with_reducible rfl));try simp only [Act.put,zA,zB,zC,zD,zE,zG]
              refine wtk (v:=?_) 22 rfl (Or.inl ⟨by rfl,?_⟩) ?_;rotate_left;(focus (intro w hSw;(try dsimp only at hSw);go_simp;try with_reducible rfl));try simp only [Act.put,zA,zB,zC,zD,zE,zG]
              refine wtk (v:=?_) 23 rfl (Or.inl ⟨by rfl,?_⟩) ?_;rotate_left;(focus (intro w hSw;(try dsimp only at hSw);go_simp;try with_reducible rfl));try simp only [Act.put,zA,zB,zC,zD,zE,zG]
              refine wtk (v:=?_) 24 rfl (Or.inl ⟨by rfl,?_⟩) ?_;rotate_left;(focus (intro w hSw;(try dsimp only at hSw);go_simp;try with_reducible rfl));try simp only [Act.put,zA,zB,zC,zD,zE,zG]
              refine wtk (v:=?_) 25 rfl (Or.inl ⟨by rfl,?_⟩) ?_;rotate_left;(focus (intro w hSw;(try dsimp only at hSw);go_simp;try with_reducible rfl));try simp only [Act.put,zA,zB,zC,zD,zE,zG]
              refine wpAnyH_ready (rs:=[26]) (by kernel_rfl) (by simp) ?_
              refine AllReadyH.cons rfl (fun K hK => ?_) AllReadyH.nil
              go_simp
              refine Calls.mono (HMA.out _) ?_
              rintro e w6 ⟨rfl,hbc⟩
              have hbZ : Below W.heap.size W w6:=hHeld.2.trans (Below.mono hbc hHeld.2.size)
              have hS' : (∀ j,World.cell? w6 ⟨w.heap.size,j,none⟩ = W.cell? ⟨w.heap.size,j,none⟩) ∧ Below W.heap.size W w6:=⟨fun j => hbZ.cell (p:=⟨w.heap.size,j,none⟩) ly,hbZ⟩
              clear hbc hbZ hHeld
              refine hK.out _ _ hS' (fun hHeld => ?_)
              clear hK K hS'
              try simp only [Act.put,zA,zB,zC,zD,zE,zG]
              refine wtk (v:=?_) 27 rfl (Or.inl ⟨by rfl,?_⟩) ?_;rotate_left;(focus (intro w hSw;(try dsimp only at hSw);go_simp;try with_reducible rfl));try simp only [Act.put,zA,zB,zC,zD,zE,zG]
              refine wtk (v:=?_) 28 rfl (Or.inl ⟨by rfl,?_⟩) ?_;rotate_left;(focus (intro w hSw;(try dsimp only at hSw);go_simp;try with_reducible rfl));try simp only [Act.put,zA,zB,zC,zD,zE,zG]
              refine wtk (v:=?_) 29 rfl (Or.inl ⟨by rfl,?_⟩) ?_;rotate_left;(focus (intro w hSw;(try dsimp only at hSw);go_simp;try with_reducible rfl));try simp only [Act.put,zA,zB,zC,zD,zE,zG]
              refine wpAnyH_done (by kernel_rfl) ?_ _
              go_wp2_with fail
              go_meet
              exact ⟨congrArg Value.bool HRF.out,HB2.out.trans (hHeld.2.mono HB2.out.size)⟩
  case rest =>
    obtain ⟨rfl,hb⟩:=hcut
    cases res <;> (
      go_wp2_with fail
      go_ret
      exact ⟨rfl,hb⟩)
end Go.Proofs.YtjbniichcopnlaaGreatDoor
