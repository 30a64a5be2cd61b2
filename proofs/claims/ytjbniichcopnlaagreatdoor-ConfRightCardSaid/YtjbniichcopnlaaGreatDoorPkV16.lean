import Derived.Test.YtjbniichcopnlaaGreatDoorFieldC
section
/- Layer 11 (field): the walk of weeks (shape 0). -/
set_option linter.unusedVariables false
set_option linter.unusedSimpArgs false
set_option maxRecDepth 100000
namespace Go.Proofs.YtjbniichcopnlaaGreatDoor
open Go.RowKit

set_option maxHeartbeats 16000000 in
theorem weeks_0 (kind day month shift shape p0 p1 p2 cycle extra first last policy : Int) (nm : Bytes) (w : World) (k1 : (shape == 1) = false) (k2 : (shape == 2) = false) (k3 : (shape == 3) = false) :
    Calls Tryz.prog 67 #[.agg #[.string ⟨nm.toArray⟩, .int .i64 kind, .int .i64 day, .int .i64 month, .int .i64 shift, .int .i64 shape, .int .i64 p0, .int .i64 p1, .int .i64 p2, .int .i64 cycle, .int .i64 extra, .int .i64 first, .int .i64 last, .int .i64 policy]] w fun e w' => e = .returned (.bool (false)) ∧ Below w.heap.size w w' := by
  have HB0 := Lib.hid (show Below w.heap.size w (w.alloc (.cells #[.string ⟨nm.toArray⟩, .int .i64 kind, .int .i64 day, .int .i64 month, .int .i64 shift, .int .i64 shape, .int .i64 p0, .int .i64 p1, .int .i64 p2, .int .i64 cycle, .int .i64 extra, .int .i64 first, .int .i64 last, .int .i64 policy] 37)) from (Below.refl _ _).alloc (Nat.le_refl _) _)
  have HX0 := Lib.hid (heap_alloc_new w (.cells #[.string ⟨nm.toArray⟩, .int .i64 kind, .int .i64 day, .int .i64 month, .int .i64 shift, .int .i64 shape, .int .i64 p0, .int .i64 p1, .int .i64 p2, .int .i64 cycle, .int .i64 extra, .int .i64 first, .int .i64 last, .int .i64 policy] 37))
  have hz := fun W => run_eqPat W p0 p1 p2 0 0 0
  have HM := Lib.hid (fun W => field_many shape cycle W)
  have HT := Lib.hid (fun W => field_between extra 1 (manyC shape cycle) W)
  generalize manyC shape cycle = m at *
  generalize tween extra 1 m = tw at *
  generalize hcy : decide (cycle = 0) = cz at *
  have hcz : (cycle == 0) = cz := hcy
  clear hcy
  obtain ⟨pz, hpz⟩ : ∃ b, (decide (p0 = 0) && decide (p1 = 0) && decide (p2 = 0)) = b := ⟨_, rfl⟩
  simp only [hpz] at hz
  try rw [hpz]
  clear hpz
  go_enter Tryz.func67, Tryz.ntmps67
  go_wp2_with fail
  go_quiet (fail)
  generalize hWg : World.drewN _ _ = W
  have hbW : Below w.heap.size w W := by rw [← hWg]; exact below_drewN HB0.out _
  have hWh : _ = W.heap := congrArg World.heap hWg
  have hxW := HX0.out
  rw [show (w.alloc (.cells #[.string ⟨nm.toArray⟩, .int .i64 kind, .int .i64 day, .int .i64 month, .int .i64 shift, .int .i64 shape, .int .i64 p0, .int .i64 p1, .int .i64 p2, .int .i64 cycle, .int .i64 extra, .int .i64 first, .int .i64 last, .int .i64 policy] 37)).heap = W.heap from hWh] at hxW
  have hgl : w.heap.size < W.heap.size := (Array.getElem?_eq_some_iff.1 hxW).1
  clear hWg hWh
  have y5 := Joins.cell_of_block hxW 5
  have y6 := Joins.cell_of_block hxW 6
  have y7 := Joins.cell_of_block hxW 7
  have y8 := Joins.cell_of_block hxW 8
  have y9 := Joins.cell_of_block hxW 9
  have y10 := Joins.cell_of_block hxW 10
  have HXW := Lib.hid hxW
  have HBW := Lib.hid hbW
  clear hxW hbW
  go_wp2_with fail
  go_ret
  exact ⟨rfl, HBW.out⟩

end Go.Proofs.YtjbniichcopnlaaGreatDoor
end

section
/- Layer 11 (field): the walk of weeks (shape 1). -/
set_option linter.unusedVariables false
set_option linter.unusedSimpArgs false
set_option maxRecDepth 100000
namespace Go.Proofs.YtjbniichcopnlaaGreatDoor
open Go.RowKit

set_option maxHeartbeats 16000000 in
theorem weeks_1 (kind day month shift p0 p1 p2 cycle extra first last policy : Int) (nm : Bytes) (w : World)  :
    Calls Tryz.prog 67 #[.agg #[.string ⟨nm.toArray⟩, .int .i64 kind, .int .i64 day, .int .i64 month, .int .i64 shift, .int .i64 1, .int .i64 p0, .int .i64 p1, .int .i64 p2, .int .i64 cycle, .int .i64 extra, .int .i64 first, .int .i64 last, .int .i64 policy]] w fun e w' => e = .returned (.bool (patOk p0 p1 p2 && decide (cycle = 0) && tween extra 1 (manyC 1 cycle))) ∧ Below w.heap.size w w' := by
  have HB0 := Lib.hid (show Below w.heap.size w (w.alloc (.cells #[.string ⟨nm.toArray⟩, .int .i64 kind, .int .i64 day, .int .i64 month, .int .i64 shift, .int .i64 1, .int .i64 p0, .int .i64 p1, .int .i64 p2, .int .i64 cycle, .int .i64 extra, .int .i64 first, .int .i64 last, .int .i64 policy] 37)) from (Below.refl _ _).alloc (Nat.le_refl _) _)
  have HX0 := Lib.hid (heap_alloc_new w (.cells #[.string ⟨nm.toArray⟩, .int .i64 kind, .int .i64 day, .int .i64 month, .int .i64 shift, .int .i64 1, .int .i64 p0, .int .i64 p1, .int .i64 p2, .int .i64 cycle, .int .i64 extra, .int .i64 first, .int .i64 last, .int .i64 policy] 37))
  have hz := fun W => run_eqPat W p0 p1 p2 0 0 0
  have HM := Lib.hid (fun W => field_many 1 cycle W)
  have HT := Lib.hid (fun W => field_between extra 1 (manyC 1 cycle) W)
  generalize manyC 1 cycle = m at *
  generalize tween extra 1 m = tw at *
  generalize hcy : decide (cycle = 0) = cz at *
  have hcz : (cycle == 0) = cz := hcy
  clear hcy
  obtain ⟨pz, hpz⟩ : ∃ b, (decide (p0 = 0) && decide (p1 = 0) && decide (p2 = 0)) = b := ⟨_, rfl⟩
  simp only [hpz] at hz
  try rw [hpz]
  clear hpz
  have HPP := Lib.hid (fun g W h => place_pat p0 p1 p2 g W h)
  have hpk := patFrom_ok p0 p1 p2
  have hpr : 0 ≤ patFrom 0 p0 p1 p2 + 1 := by have := (patFrom_rng p0 p1 p2).1; omega
  generalize patFrom 0 p0 p1 p2 + 1 = z at *
  generalize patOk p0 p1 p2 = po at *
  have hzz : (po = false ∧ z = 0) ∨ (po = true ∧ 0 < z) := by
    cases po
    · exact .inl ⟨rfl, by simp at hpk; omega⟩
    · exact .inr ⟨rfl, by simp at hpk; omega⟩
  clear hpk hpr
  rcases hzz with ⟨rfl, rfl⟩ | ⟨rfl, hz0⟩ <;> (
    go_enter Tryz.func67, Tryz.ntmps67
    go_wp2_with fail
    go_quiet (fail)
    generalize hWg : World.drewN _ _ = W
    have hbW : Below w.heap.size w W := by rw [← hWg]; exact below_drewN HB0.out _
    have hWh : _ = W.heap := congrArg World.heap hWg
    have hxW := HX0.out
    rw [show (w.alloc (.cells #[.string ⟨nm.toArray⟩, .int .i64 kind, .int .i64 day, .int .i64 month, .int .i64 shift, .int .i64 1, .int .i64 p0, .int .i64 p1, .int .i64 p2, .int .i64 cycle, .int .i64 extra, .int .i64 first, .int .i64 last, .int .i64 policy] 37)).heap = W.heap from hWh] at hxW
    have hgl : w.heap.size < W.heap.size := (Array.getElem?_eq_some_iff.1 hxW).1
    clear hWg hWh
    have y5 := Joins.cell_of_block hxW 5
    have y6 := Joins.cell_of_block hxW 6
    have y7 := Joins.cell_of_block hxW 7
    have y8 := Joins.cell_of_block hxW 8
    have y9 := Joins.cell_of_block hxW 9
    have y10 := Joins.cell_of_block hxW 10
    have HXW := Lib.hid hxW
    have HBW := Lib.hid hbW
    clear hxW hbW
    go_wp2_with fail
    go_region_with (first | (go_at_call 98; refine (field_patterns _).mono ?_; rintro e w1 ⟨rfl, hp1, hb1⟩; have x6 := (hb1.cell (p := ⟨w.heap.size, 6, none⟩) (by simpa using hgl)).trans y6; have x7 := (hb1.cell (p := ⟨w.heap.size, 7, none⟩) (by simpa using hgl)).trans y7; have x8 := (hb1.cell (p := ⟨w.heap.size, 8, none⟩) (by simpa using hgl)).trans y8) | (go_at_call 97; refine (HPP.out _ _ (by assumption)).mono ?_; rintro e w2 ⟨rfl, hb2⟩))
    all_goals (
      have hz1 : W.heap.size ≤ w1.heap.size := hb1.size
      have hxx := (hb2.block w.heap.size (by omega)).trans ((hb1.block w.heap.size hgl).trans HXW.out)
      have hbb : Below w.heap.size w w2 := ((HBW.out.drew).trans (Below.mono hb1 (by show w.heap.size ≤ W.heap.size; omega))).trans (hb2.mono (by omega))
      have v5 := Joins.cell_of_block hxx 5
      have v9 := Joins.cell_of_block hxx 9
      have v10 := Joins.cell_of_block hxx 10
      have HBX := Lib.hid hbb
      clear hp1 hb1 hb2 hxx hbb x6 x7 x8 y5 y6 y7 y8 y9 y10
      first
      | (have ht : 0 < z := hz0
         simp only [Act.put, List.setIfInBounds_toArray, List.set_cons_succ, List.set_cons_zero, List.getElem_toArray, List.getElem_cons_succ, List.getElem_cons_zero]
         cases cz <;> (
           go_wp2_with fail
           go_quiet (first | (go_at_call 99; exact quiet_add_left (HM.out _)) | (go_at_call 99; exact quiet_left (HM.out _)) | (go_at_call 38; exact quiet_add_left (HT.out _)) | (go_at_call 38; exact quiet_left (HT.out _)))
           go_wp2_with fail
           go_ret
           exact ⟨rfl, below_drewN HBX.out _⟩))
      | (simp only [Act.put, List.setIfInBounds_toArray, List.set_cons_succ, List.set_cons_zero, List.getElem_toArray, List.getElem_cons_succ, List.getElem_cons_zero]
         go_wp2_with fail
         go_quiet (fail)
         go_wp2_with fail
         go_ret
         exact ⟨rfl, below_drewN HBX.out _⟩)))

end Go.Proofs.YtjbniichcopnlaaGreatDoor
end
