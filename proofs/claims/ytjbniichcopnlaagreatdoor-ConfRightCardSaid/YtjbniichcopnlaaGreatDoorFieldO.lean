import Derived.Test.YtjbniichcopnlaaGreatDoorPkV24
/- Layer 11 (field): the walk of periods. -/
set_option linter.unusedVariables false
set_option linter.unusedSimpArgs false
set_option maxRecDepth 100000
namespace Go.Proofs.YtjbniichcopnlaaGreatDoor
open Go.RowKit

theorem keyK_periods (c : CalL) (ws : List WordL) : keyK b_periods c ws = if ws.all (·.num) = true then
      (if ws.length = 1 then ({ c with shape := 2 }, decide ((ws.headD ⟨false, 0, [], 0⟩).n = 4))
       else if ws.length = 3 then ({ c with shape := 1, p0 := (ws.headD ⟨false, 0, [], 0⟩).n, p1 := (ws.getD 1 ⟨false, 0, [], 0⟩).n, p2 := (ws.getD 2 ⟨false, 0, [], 0⟩).n }, patOk (ws.headD ⟨false, 0, [], 0⟩).n (ws.getD 1 ⟨false, 0, [], 0⟩).n (ws.getD 2 ⟨false, 0, [], 0⟩).n)
       else (c, false)) else (c, false) := rfl

theorem arrayAt3 (a : Addr) (W : World) : (Instr.arrayAt 35 (.slice (some a) 3 3)).run Tryz.prog W = .ok (.pointer (some a)) W := by
  simp [Instr.arrayAt, run_underlying und_pat]

set_option maxHeartbeats 4000000 in
theorem key_periods : KeyAt 72 (keyK b_periods) (fun _ => True) := by
  intro c ws A cw w B cb _ hne hlen hB hc hr
  have hlt := hc.lt
  have HN := Lib.hid (field_numbers ws hlen A cw w B (by omega) hr)
  have HC := Lib.hid hc
  have HK := Lib.hid (keyK_periods c ws)
  clear hc hr
  cases ha : ws.all (·.num)
  · have h2 : keyK b_periods c ws = (c, false) := by rw [HK.out, ha]; rfl
    rw [h2]
    have HN' := Lib.hid (fun e w' h => NumsPost.no (w := w) (w' := w') (e := e) h ha)
    clear ha h2 HK
    go_enter Tryz.func72, Tryz.ntmps72
    go_wp2_with fail
    refine HN.out.mono ?_
    intro e w1 h
    obtain ⟨rfl, hb1⟩ := HN'.out e w1 h
    have HC1 := Lib.hid (HC.out.keep hb1)
    have HS1 := Lib.hid (step_below (cb := cb) hb1)
    clear h hb1
    go_wp2_with fail
    go_ret
    exact ⟨rfl, HC1.out, HS1.out⟩
  · have HN' := Lib.hid (fun e w' h => NumsPost.yes (w := w) (w' := w') (e := e) h ha)
    by_cases hl1 : ws.length = 1
    · obtain ⟨a, rfl⟩ : ∃ a, ws = [a] := by
        match ws, hl1 with
        | [a], _ => exact ⟨a, rfl⟩
      have h2 : keyK b_periods c [a] = ({ c with shape := 2 }, (a.n == 4)) := by rw [HK.out, ha]; simp; by_cases h : a.n = 4 <;> simp [h]
      rw [h2]
      clear ha h2 hl1 hne hlen HK
      go_enter Tryz.func72, Tryz.ntmps72
      go_wp2_with fail
      refine HN.out.mono ?_
      intro e w1 h
      obtain ⟨rfl, hi1, hb1⟩ := HN'.out e w1 h
      have hc1 := HC.out.keep hb1
      have n0 := hi1.cell 0 a.n rfl
      have f5 := Joins.unfrozen_of_block hc1 5
      have c5 := Joins.cell_of_block hc1 5
      have hfin : CalBlk (w1.setCell ⟨cb, 5, none⟩ (.int .i64 2)) cb { c with shape := 2 } := by
        have := Joins.block_setCell hc1 (i := 5) (.int .i64 2)
        simpa [CalBlk] using this
      have HF := Lib.hid hfin
      have HS := Lib.hid ((step_below (cb := cb) hb1).put 5 (.int .i64 2))
      have hgg : w.heap.size ≠ cb := by omega
      have s0 := cell_put (u := .int .i64 2) (q := ⟨cb, 5, none⟩) n0 hgg
      clear h hb1 hc1 hi1 hfin
      go_wp2_with fail
      go_ret
      exact ⟨rfl, HF.out, HS.out⟩
    by_cases hl3 : ws.length = 3
    · obtain ⟨a, b, d, rfl⟩ : ∃ a b d, ws = [a, b, d] := by
        match ws, hl3 with
        | [a, b, d], _ => exact ⟨a, b, d, rfl⟩
      have h2 : keyK b_periods c [a, b, d] = ({ c with shape := 1, p0 := a.n, p1 := b.n, p2 := d.n }, patOk a.n b.n d.n) := by rw [HK.out, ha]; simp
      rw [h2]
      have hpk := patFrom_ok a.n b.n d.n
      have HPP := Lib.hid (fun g W h => place_pat a.n b.n d.n g W h)
      generalize patFrom 0 a.n b.n d.n = z at *
      generalize patOk a.n b.n d.n = po at *
      clear ha h2 hl1 hl3 hne hlen HK
      go_enter Tryz.func72, Tryz.ntmps72
      go_wp2_with fail
      refine HN.out.mono ?_
      intro e w1 h
      obtain ⟨rfl, hi1, hb1⟩ := HN'.out e w1 h
      have hc1 := HC.out.keep hb1
      have n0 := hi1.cell 0 a.n rfl
      have n1 := hi1.cell 1 b.n rfl
      have n2 := hi1.cell 2 d.n rfl
      have hf := Joins.unfrozen_of_block hc1
      have f5 := hf 5
      have f6 := hf 6
      have f7 := hf 7
      have f8 := hf 8
      have c5 := Joins.cell_of_block hc1 5
      have c6 := Joins.cell_of_block hc1 6
      have c7 := Joins.cell_of_block hc1 7
      have c8 := Joins.cell_of_block hc1 8
      have hsa := arrayAt3 ⟨w.heap.size, 0, none⟩ w1
      clear h hf
      go_wp2_with fail
      obtain ⟨W, hW⟩ : ∃ W, (((w1.setCell ⟨cb, 5, none⟩ (.int .i64 1)).setCell ⟨cb, 6, none⟩ (.int .i64 a.n)).setCell ⟨cb, 7, none⟩ (.int .i64 b.n)).setCell ⟨cb, 8, none⟩ (.int .i64 d.n) = W := ⟨_, rfl⟩
      rw [hW]
      have hcW : CalBlk W cb { c with shape := 1, p0 := a.n, p1 := b.n, p2 := d.n } := by
        rw [← hW]
        have := Joins.block_setCell (Joins.block_setCell (Joins.block_setCell (Joins.block_setCell hc1 (i := 5) (.int .i64 1)) (i := 6) (.int .i64 a.n)) (i := 7) (.int .i64 b.n)) (i := 8) (.int .i64 d.n)
        simpa [CalBlk] using this
      have hsW : Step w W [] (some cb) := by
        rw [← hW]
        exact ((((step_below (cb := cb) hb1).put 5 _).put 6 _).put 7 _).put 8 _
      have y6 := Joins.cell_of_block hcW 6
      have y7 := Joins.cell_of_block hcW 7
      have y8 := Joins.cell_of_block hcW 8
      have hgl := hcW.lt
      have HCW := Lib.hid hcW
      have HSW := Lib.hid hsW
      have hz0 : ∀ x : Int, decide (0 < x) = (0 < x : Bool) := fun _ => rfl
      clear hW hcW hsW n0 n1 n2 f5 f6 f7 f8 c5 c6 c7 c8 hi1 hb1 hc1 hsa hz0
      go_region_with (first | (go_at_call 98; refine (field_patterns _).mono ?_; rintro e w2 ⟨rfl, hp2, hb2⟩; have x6 := (hb2.cell (p := ⟨cb, 6, none⟩) hgl).trans y6; have x7 := (hb2.cell (p := ⟨cb, 7, none⟩) hgl).trans y7; have x8 := (hb2.cell (p := ⟨cb, 8, none⟩) hgl).trans y8) | (go_at_call 97; refine (HPP.out _ _ (by assumption)).mono ?_; rintro e w3 ⟨rfl, hb3⟩))
      all_goals (
        have hb23 : Below W.heap.size W w3 := Below.trans (show Below W.heap.size W w2 from ⟨hb2.os, hb2.tape, hb2.output, hb2.size, hb2.block⟩) (hb3.mono hb2.size)
        have HC3 := Lib.hid (HCW.out.keep hb23)
        have HS3 := Lib.hid (HSW.out.below hb23)
        clear hb2 hb3 hb23 hp2 x6 x7 x8 y6 y7 y8
        simp only [Act.put, List.setIfInBounds_toArray, List.set_cons_succ, List.set_cons_zero, List.getElem_toArray, List.getElem_cons_succ, List.getElem_cons_zero]
        go_wp2_with fail
        go_ret
        exact ⟨by rw [← hpk]; rfl, HC3.out, HS3.out⟩)
    · have h2 : keyK b_periods c ws = (c, false) := by rw [HK.out, ha, if_pos rfl, if_neg hl1, if_neg hl3]
      rw [h2]
      have ln1 : ((ws.length : Int) == 1) = false := beq_false_of_ne (by omega)
      have ln3 : ((ws.length : Int) == 3) = false := beq_false_of_ne (by omega)
      clear ha h2 HK
      go_enter Tryz.func72, Tryz.ntmps72
      go_wp2_with fail
      refine HN.out.mono ?_
      intro e w1 h
      obtain ⟨rfl, hi1, hb1⟩ := HN'.out e w1 h
      have HC1 := Lib.hid (HC.out.keep hb1)
      have HS1 := Lib.hid (step_below (cb := cb) hb1)
      clear h hb1 hi1
      go_wp2_with fail
      go_ret
      exact ⟨rfl, HC1.out, HS1.out⟩

end Go.Proofs.YtjbniichcopnlaaGreatDoor
