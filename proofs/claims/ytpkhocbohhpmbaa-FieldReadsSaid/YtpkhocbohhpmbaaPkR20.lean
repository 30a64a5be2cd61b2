/- Layer 11 (field): the walks of pay, named, compare. Then: Layer 11 (field): the walk of periods. -/
import Derived.Test.YtpkhocbohhpmbaaPkR19
set_option linter.unusedVariables false
set_option linter.unusedSimpArgs false
set_option maxRecDepth 100000
namespace Go.Proofs.Ytpkhocbohhpmbaa
section
open Go.RowKit
open Go.Joins renaming cell_of_block → zb, unfrozen_of_block → zu
open Go.Lib renaming hid → zh
def pos124 (n : Int) : Int:=if n = 1 then 1 else if n = 2 then 2 else if n = 4 then 3 else 0
theorem pos124_ok (n : Int) : decide (0 < pos124 n) = cycOk n := by
  unfold pos124 cycOk
  by_cases h1 : n = 1
  · simp [h1]
  by_cases h2 : n = 2
  · simp [h2]
  by_cases h4 : n = 4
  · simp [h4]
  simp [h1,h2,h4]
theorem place_124 (n : Int) (g : Nat) (w : World) (T : TypeId) (hg : w.heap[g]? = some (.cells #[.int .i64 1, .int .i64 2, .int .i64 4] T (0,0))) :
    Calls Try.prog 53 #[.slice (some ⟨g,0,none⟩) 3 3, .int .i64 n] w fun e w' => e = .returned (.int .i64 (pos124 n)) ∧ w = w':=by
  have hI := Try.slices_Index_int g 0 3 3 [1,2,4] n w (by decide) (by omega) (fun j hj => by
    rw [Nat.zero_add,zb hg j]
    simp only [List.length_cons,List.length_nil] at hj
    obtain rfl | rfl | rfl : j = 0 ∨ j = 1 ∨ j = 2:=by omega
    all_goals rfl)
  have hz : IntKind.i64.wrap (Lib.idxOf ([1,2,4].take 3) n + 1) = pos124 n := by
    rw [IntKind.wrap_i64]
    unfold pos124
    have e : Lib.idxOf ([1,2,4].take 3) n = if (1 : Int) = n then 0 else if (2 : Int) = n then 1 else if (4 : Int) = n then 2 else -1:=rfl
    rw [e]
    by_cases h1 : n = 1
    · subst h1;rfl
    by_cases h2 : n = 2
    · subst h2;rfl
    by_cases h4 : n = 4
    · subst h4;rfl
    rw [if_neg (Ne.symm h1),if_neg (Ne.symm h2),if_neg (Ne.symm h4),if_neg h1,if_neg h2,if_neg h4];rfl
  generalize Lib.idxOf ([1,2,4].take 3) n = z at *
  have HI:=zh hI
  clear hI hg
  go_enter Try.func53,Try.ntmps53
  go_wp2_with fail
  refine HI.out.mono ?_
  rintro e w1 ⟨rfl,rfl⟩
  go_wp2_with fail
  go_ret
  exact ⟨rfl,rfl⟩
/-- A cell of another block behind a store. -/
theorem cell_put {w : World} {p q : Addr} {u v : Value} (h : w.cell? p = some v) (hne : p.block ≠ q.block) : (w.setCell q u).cell? p = some v:=(World.cell?_setCell_other w q p u (fun e => hne (congrArg Addr.block e).symm)).trans h
set_option maxHeartbeats 4000000 in
theorem key_pay : KeyAt 52 (keyK b_pay) (fun _ => True) := by
  intro c ws A cw w B cb _ hne hlen hB hc hr
  obtain ⟨t,r,rfl⟩ : ∃ t r,ws = t :: r := by
    cases ws with
    | nil => exact absurd rfl hne
    | cons t r => exact ⟨t,r,rfl⟩
  obtain ⟨ad,rfl,hadb,e0,e1,e2,e3⟩:=word0 hr
  have hf:=zu hc
  have f5:=hf 5
  have f9:=hf 9
  have c5:=zb hc 5
  have c9:=zb hc 9
  have hk : keyK b_pay c (t :: r) = ({ c with shape:=3,cycle:=t.n },decide ((t :: r).length = 1) && t.num && cycOk t.n):=rfl
  rw [hk]
  have hdb : ad.block ≠ cb:=by omega
  have hlt:=hc.lt
  have HC:=zh hc
  clear hk hf hr hc hne
  have hL0 : (0 : Int) < (t :: r).length:=by simp
  generalize hL : (t :: r).length = L at *
  clear hL
  obtain ⟨tn,n,s,pos⟩:=t
  dsimp only at *
  have hpk:=pos124_ok n
  have HPP:=zh (fun g W T h => place_124 n g W T h)
  generalize pos124 n = z at *
  generalize cycOk n = b at *
  have hL1 : ((L : Int) == 1) = decide (L = 1) := by
    by_cases h : L = 1
    · subst h;rfl
    · rw [decide_eq_false h];exact beq_false_of_ne (by omega)
  generalize decide (L = 1) = b1 at *
  have hcal : CalBlk ((w.setCell ⟨cb,5,none⟩ (.int .i64 3)).setCell ⟨cb,9,none⟩ (.int .i64 n)) cb { c with shape := 3,cycle := n } := by
    have:=Joins.block_setCell (Joins.block_setCell HC.out (i:=5) (.int .i64 3)) (i:=9) (.int .i64 n)
    simpa [CalBlk] using this
  have HF:=zh hcal
  have HS:=zh (((Step.refl w [] (some cb)).put 5 (.int .i64 3)).put 9 (.int .i64 n))
  have s0:=cell_put (u:=.int .i64 n) (q:=⟨cb,9,none⟩) (cell_put (u:=.int .i64 3) (q:=⟨cb,5,none⟩) e0 hdb) hdb
  have s1:=cell_put (u:=.int .i64 n) (q:=⟨cb,9,none⟩) (cell_put (u:=.int .i64 3) (q:=⟨cb,5,none⟩) e1 hdb) hdb
  have r1 : (w.setCell ⟨cb,5,none⟩ (.int .i64 3)).cell? ⟨cb,9,none⟩ = some (.int .i64 c.cycle):=(World.cell?_setCell_other w ⟨cb,5,none⟩ ⟨cb,9,none⟩ _ (by simp)).trans c9
  clear hcal
  cases b1
  · go_enter Try.func52,Try.ntmps52
    go_wp2_with fail
    go_ret
    exact ⟨rfl,HF.out,HS.out⟩
  · cases tn
    · go_enter Try.func52,Try.ntmps52
      go_wp2_with fail
      go_ret
      exact ⟨rfl,HF.out,HS.out⟩
    · obtain ⟨W,hW⟩ : ∃ W,W = ((w.setCell ⟨cb,5,none⟩ (.int .i64 3)).setCell ⟨cb,9,none⟩ (.int .i64 n)).alloc (.cells #[.int .i64 1, .int .i64 2, .int .i64 4] 3) := ⟨_,rfl⟩
      have hlw : ad.block < ((w.setCell ⟨cb,5,none⟩ (.int .i64 3)).setCell ⟨cb,9,none⟩ (.int .i64 n)).heap.size:=by simp;omega
      have s2:=(World.cell?_alloc_lt _ (.cells #[.int .i64 1, .int .i64 2, .int .i64 4] 3) ⟨ad.block,ad.off + 1,none⟩ hlw).trans s1
      have hb1:=heap_alloc_new ((w.setCell ⟨cb,5,none⟩ (.int .i64 3)).setCell ⟨cb,9,none⟩ (.int .i64 n)) (.cells #[.int .i64 1, .int .i64 2, .int .i64 4] 3)
      have hsz : ((w.setCell ⟨cb,5,none⟩ (.int .i64 3)).setCell ⟨cb,9,none⟩ (.int .i64 n)).heap.size = w.heap.size:=by simp
      rw [hsz] at hb1
      have HP1:=zh (HPP.out _ _ _ hb1)
      clear hb1 hlw
      cases b <;> (
        go_enter Try.func52,Try.ntmps52
        go_wp2_with fail
        refine HP1.out.mono ?_
        rintro e w9 ⟨rfl,rfl⟩
        go_wp2_with fail
        go_ret
        refine ⟨rfl,HF.out.keep ((Below.refl _ _).alloc (Nat.le_refl _) _),HS.out.alloc _⟩)
end
section
open Go.RowKit
open Go.Joins renaming cell_of_block → zb, unfrozen_of_block → zu
open Go.Lib renaming hid → zh
theorem keyK_periods (c : CalL) (ws : List WordL) : keyK b_periods c ws = if ws.all (·.num) = true then
      (if ws.length = 1 then ({ c with shape := 2 },decide ((ws.headD ⟨false,0,[],0⟩).n = 4))
       else if ws.length = 3 then ({ c with shape:=1,p0:=(ws.headD ⟨false,0,[],0⟩).n,p1:=(ws.getD 1 ⟨false,0,[],0⟩).n,p2:=(ws.getD 2 ⟨false,0,[],0⟩).n },patOk (ws.headD ⟨false,0,[],0⟩).n (ws.getD 1 ⟨false,0,[],0⟩).n (ws.getD 2 ⟨false,0,[],0⟩).n)
       else (c,false)) else (c,false):=rfl
theorem arrayAt3 (a : Addr) (W : World) : (Instr.arrayAt 28 (.slice (some a) 3 3)).run Try.prog W = .ok (.pointer (some a)) W := by
  simp [Instr.arrayAt,run_underlying und_pat]
set_option maxHeartbeats 4000000 in
theorem key_periods : KeyAt 49 (keyK b_periods) (fun _ => True) := by
  intro c ws A cw w B cb _ hne hlen hB hc hr
  have hlt:=hc.lt
  have HN:=zh (field_numbers ws hlen A cw w B (by omega) hr)
  have HC:=zh hc
  have HK:=zh (keyK_periods c ws)
  clear hc hr
  cases ha : ws.all (·.num)
  · have h2 : keyK b_periods c ws = (c,false) := by rw [HK.out,ha]; rfl
    rw [h2]
    have HN':=zh (fun e w' h => NumsPost.no (w:=w) (w':=w') (e:=e) h ha)
    clear ha h2 HK
    go_enter Try.func49,Try.ntmps49
    go_wp2_with fail
    refine HN.out.mono ?_
    intro e w1 h
    obtain ⟨rfl,hb1⟩:=HN'.out e w1 h
    have HC1:=zh (HC.out.keep hb1)
    have HS1:=zh (step_below (cb:=cb) hb1)
    clear h hb1
    go_wp2_with fail
    go_ret
    exact ⟨rfl,HC1.out,HS1.out⟩
  · have HN' := zh (fun e w' h => NumsPost.yes (w := w) (w' := w') (e := e) h ha)
    by_cases hl1 : ws.length = 1
    · obtain ⟨a,rfl⟩ : ∃ a,ws = [a] := by
        match ws,hl1 with
        | [a],_ => exact ⟨a,rfl⟩
      have h2 : keyK b_periods c [a] = ({ c with shape:=2 },(a.n == 4)):=by rw [HK.out,ha];simp;by_cases h : a.n = 4 <;> simp [h]
      rw [h2]
      clear ha h2 hl1 hne hlen HK
      go_enter Try.func49,Try.ntmps49
      go_wp2_with fail
      refine HN.out.mono ?_
      intro e w1 h
      obtain ⟨rfl,hi1,hb1⟩:=HN'.out e w1 h
      have hc1:=HC.out.keep hb1
      have n0:=hi1.cell 0 a.n rfl
      have f5:=zu hc1 5
      have c5:=zb hc1 5
      have hfin : CalBlk (w1.setCell ⟨cb,5,none⟩ (.int .i64 2)) cb { c with shape := 2 } := by
        have:=Joins.block_setCell hc1 (i:=5) (.int .i64 2)
        simpa [CalBlk] using this
      have HF:=zh hfin
      have HS:=zh ((step_below (cb:=cb) hb1).put 5 (.int .i64 2))
      have hgg : w.heap.size ≠ cb:=by omega
      have s0:=cell_put (u:=.int .i64 2) (q:=⟨cb,5,none⟩) n0 hgg
      clear h hb1 hc1 hi1 hfin
      go_wp2_with fail
      go_ret
      exact ⟨rfl,HF.out,HS.out⟩
    by_cases hl3 : ws.length = 3
    · obtain ⟨a,b,d,rfl⟩ : ∃ a b d,ws = [a,b,d] := by
        match ws,hl3 with
        | [a,b,d],_ => exact ⟨a,b,d,rfl⟩
      have h2 : keyK b_periods c [a,b,d] = ({ c with shape:=1,p0:=a.n,p1:=b.n,p2:=d.n },patOk a.n b.n d.n):=by rw [HK.out,ha];simp
      rw [h2]
      have hpk:=patFrom_ok a.n b.n d.n
      have HPP:=zh (fun g W h => place_pat a.n b.n d.n g W h)
      generalize patFrom 0 a.n b.n d.n = z at *
      generalize patOk a.n b.n d.n = po at *
      clear ha h2 hl1 hl3 hne hlen HK
      go_enter Try.func49,Try.ntmps49
      go_wp2_with fail
      refine HN.out.mono ?_
      intro e w1 h
      obtain ⟨rfl,hi1,hb1⟩:=HN'.out e w1 h
      have hc1:=HC.out.keep hb1
      have n0:=hi1.cell 0 a.n rfl
      have n1:=hi1.cell 1 b.n rfl
      have n2:=hi1.cell 2 d.n rfl
      have hf:=zu hc1
      have f5:=hf 5
      have f6:=hf 6
      have f7:=hf 7
      have f8:=hf 8
      have c5:=zb hc1 5
      have c6:=zb hc1 6
      have c7:=zb hc1 7
      have c8:=zb hc1 8
      have hsa:=arrayAt3 ⟨w.heap.size,0,none⟩ w1
      clear h hf
      go_wp2_with fail
      obtain ⟨W,hW⟩ : ∃ W,(((w1.setCell ⟨cb,5,none⟩ (.int .i64 1)).setCell ⟨cb,6,none⟩ (.int .i64 a.n)).setCell ⟨cb,7,none⟩ (.int .i64 b.n)).setCell ⟨cb,8,none⟩ (.int .i64 d.n) = W:=⟨_,rfl⟩
      rw [hW]
      have hcW : CalBlk W cb { c with shape := 1,p0 := a.n,p1 := b.n,p2 := d.n } := by
        rw [← hW]
        have:=Joins.block_setCell (Joins.block_setCell (Joins.block_setCell (Joins.block_setCell hc1 (i:=5) (.int .i64 1)) (i:=6) (.int .i64 a.n)) (i:=7) (.int .i64 b.n)) (i:=8) (.int .i64 d.n)
        simpa [CalBlk] using this
      have hsW : Step w W [] (some cb) := by
        rw [← hW]
        exact ((((step_below (cb:=cb) hb1).put 5 _).put 6 _).put 7 _).put 8 _
      have y6:=zb hcW 6
      have y7:=zb hcW 7
      have y8:=zb hcW 8
      have hgl:=hcW.lt
      have HCW:=zh hcW
      have HSW:=zh hsW
      have hz0 : ∀ x : Int,decide (0 < x) = (0 < x : Bool):=fun _ => rfl
      clear hW hcW hsW n0 n1 n2 f5 f6 f7 f8 c5 c6 c7 c8 hi1 hb1 hc1 hsa hz0
      go_region_with (first | (go_at_call 74;refine (field_patterns _).mono ?_;rintro e w2 ⟨rfl,hp2,hb2⟩;have x6:=(hb2.cell (p:=⟨cb,6,none⟩) hgl).trans y6;have x7:=(hb2.cell (p:=⟨cb,7,none⟩) hgl).trans y7;have x8:=(hb2.cell (p:=⟨cb,8,none⟩) hgl).trans y8) | (go_at_call 73;refine (HPP.out _ _ (by assumption)).mono ?_;rintro e w3 ⟨rfl,hb3⟩))
      all_goals (
        have hb23 : Below W.heap.size W w3:=Below.trans (show Below W.heap.size W w2 from ⟨hb2.os,hb2.tape,hb2.output,hb2.size,hb2.block⟩) (hb3.mono hb2.size)
        have HC3:=zh (HCW.out.keep hb23)
        have HS3:=zh (HSW.out.below hb23)
        clear hb2 hb3 hb23 hp2 x6 x7 x8 y6 y7 y8
        simp only [Act.put,List.setIfInBounds_toArray,List.set_cons_succ,List.set_cons_zero,List.getElem_toArray,List.getElem_cons_succ,List.getElem_cons_zero]
        go_wp2_with fail
        go_ret
        exact ⟨by rw [← hpk];rfl,HC3.out,HS3.out⟩)
    · have h2 : keyK b_periods c ws = (c,false) := by rw [HK.out,ha,if_pos rfl,if_neg hl1,if_neg hl3]
      rw [h2]
      have ln1 : ((ws.length : Int) == 1) = false:=beq_false_of_ne (by omega)
      have ln3 : ((ws.length : Int) == 3) = false:=beq_false_of_ne (by omega)
      clear ha h2 HK
      go_enter Try.func49,Try.ntmps49
      go_wp2_with fail
      refine HN.out.mono ?_
      intro e w1 h
      obtain ⟨rfl,hi1,hb1⟩:=HN'.out e w1 h
      have HC1:=zh (HC.out.keep hb1)
      have HS1:=zh (step_below (cb:=cb) hb1)
      clear h hb1 hi1
      go_wp2_with fail
      go_ret
      exact ⟨rfl,HC1.out,HS1.out⟩
end
end Go.Proofs.Ytpkhocbohhpmbaa
