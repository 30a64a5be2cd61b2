import Derived.Test.YtjbniichcopnlaaGreatDoorFieldE
import Derived.Test.YtjbniichcopnlaaGreatDoorTreeG2
/- Layer 11 (field): the walks of Check, Periods. -/
set_option linter.unusedVariables false
set_option linter.unusedSimpArgs false
set_option maxRecDepth 100000
namespace Go.Proofs.YtjbniichcopnlaaGreatDoor
open Go.RowKit

set_option maxHeartbeats 16000000 in
theorem check_srv (kind day month shift shape p0 p1 p2 cycle extra first last policy : Int) (nm : Bytes) (w : World) (hs : ¬ (1602 ≤ first ∧ last ≤ 9996 ∧ first ≤ last ∧ last - first < 400)) :
    Calls Tryz.prog 19 #[.agg #[.string ⟨nm.toArray⟩, .int .i64 kind, .int .i64 day, .int .i64 month, .int .i64 shift, .int .i64 shape, .int .i64 p0, .int .i64 p1, .int .i64 p2, .int .i64 cycle, .int .i64 extra, .int .i64 first, .int .i64 last, .int .i64 policy]] w fun e w' => e = .returned (.int .i64 1) ∧ Below w.heap.size w w' := by
  have HB0 := Lib.hid (below_cal w (.cells #[.string ⟨nm.toArray⟩, .int .i64 kind, .int .i64 day, .int .i64 month, .int .i64 shift, .int .i64 shape, .int .i64 p0, .int .i64 p1, .int .i64 p2, .int .i64 cycle, .int .i64 extra, .int .i64 first, .int .i64 last, .int .i64 policy] 37))
  obtain ⟨p, hp⟩ : ∃ b, tween policy 1 4 = b := ⟨_, rfl⟩
  obtain ⟨q1, hq1⟩ : ∃ b, (policy == 4) = b := ⟨_, rfl⟩
  obtain ⟨q2, hq2⟩ : ∃ b, (kind == 6) = b := ⟨_, rfl⟩
  by_cases a1 : 1602 ≤ first
  · by_cases a2 : last ≤ 9996
    · by_cases a3 : first ≤ last
      · have a4 : ¬ last - first < 400 := fun h => hs ⟨a1, a2, a3, h⟩
        have wf : IntKind.i64.wrap (last - first) = last - first := by rw [IntKind.wrap_i64]; omega
        cases p <;> (
          go_enter Tryz.func19, Tryz.ntmps19
          go_wp2_with (first | (go_at_call 38; refine (field_between _ _ _ _).mono ?_; rintro e w9 ⟨rfl, rfl⟩) | (go_at_call 39; refine (HN.out _).mono ?_; rintro e w7 ⟨rfl, rfl⟩) | (go_at_call 40; refine (HRU.out _).mono ?_; rintro e w8 ⟨rfl, hb8⟩))
          go_ret
          exact ⟨rfl, HB0.out⟩)
      · cases p <;> (
          go_enter Tryz.func19, Tryz.ntmps19
          go_wp2_with (first | (go_at_call 38; refine (field_between _ _ _ _).mono ?_; rintro e w9 ⟨rfl, rfl⟩) | (go_at_call 39; refine (HN.out _).mono ?_; rintro e w7 ⟨rfl, rfl⟩) | (go_at_call 40; refine (HRU.out _).mono ?_; rintro e w8 ⟨rfl, hb8⟩))
          go_ret
          exact ⟨rfl, HB0.out⟩)
    · cases p <;> (
        go_enter Tryz.func19, Tryz.ntmps19
        go_wp2_with (first | (go_at_call 38; refine (field_between _ _ _ _).mono ?_; rintro e w9 ⟨rfl, rfl⟩) | (go_at_call 39; refine (HN.out _).mono ?_; rintro e w7 ⟨rfl, rfl⟩) | (go_at_call 40; refine (HRU.out _).mono ?_; rintro e w8 ⟨rfl, hb8⟩))
        go_ret
        exact ⟨rfl, HB0.out⟩)
  · cases p <;> (
      go_enter Tryz.func19, Tryz.ntmps19
      go_wp2_with (first | (go_at_call 38; refine (field_between _ _ _ _).mono ?_; rintro e w9 ⟨rfl, rfl⟩) | (go_at_call 39; refine (HN.out _).mono ?_; rintro e w7 ⟨rfl, rfl⟩) | (go_at_call 40; refine (HRU.out _).mono ?_; rintro e w8 ⟨rfl, hb8⟩))
      go_ret
      exact ⟨rfl, HB0.out⟩)

set_option maxHeartbeats 16000000 in
theorem check_pol (kind day month shift shape p0 p1 p2 cycle extra first last policy : Int) (nm : Bytes) (w : World) (a1 : 1602 ≤ first) (a2 : last ≤ 9996) (a3 : first ≤ last) (a4 : last - first < 400) (hp : (tween policy 1 4 && ((policy == 4) == (kind == 6))) = false) :
    Calls Tryz.prog 19 #[.agg #[.string ⟨nm.toArray⟩, .int .i64 kind, .int .i64 day, .int .i64 month, .int .i64 shift, .int .i64 shape, .int .i64 p0, .int .i64 p1, .int .i64 p2, .int .i64 cycle, .int .i64 extra, .int .i64 first, .int .i64 last, .int .i64 policy]] w fun e w' => e = .returned (.int .i64 1) ∧ Below w.heap.size w w' := by
  have HB0 := Lib.hid (below_cal w (.cells #[.string ⟨nm.toArray⟩, .int .i64 kind, .int .i64 day, .int .i64 month, .int .i64 shift, .int .i64 shape, .int .i64 p0, .int .i64 p1, .int .i64 p2, .int .i64 cycle, .int .i64 extra, .int .i64 first, .int .i64 last, .int .i64 policy] 37))
  have wf : IntKind.i64.wrap (last - first) = last - first := by rw [IntKind.wrap_i64]; omega
  obtain ⟨p, hp'⟩ : ∃ b, tween policy 1 4 = b := ⟨_, rfl⟩
  obtain ⟨q1, hq1⟩ : ∃ b, (policy == 4) = b := ⟨_, rfl⟩
  obtain ⟨q2, hq2⟩ : ∃ b, (kind == 6) = b := ⟨_, rfl⟩
  rw [hp', hq1, hq2] at hp
  cases p
  · clear hp
    go_enter Tryz.func19, Tryz.ntmps19
    go_wp2_with (first | (go_at_call 38; refine (field_between _ _ _ _).mono ?_; rintro e w9 ⟨rfl, rfl⟩) | (go_at_call 39; refine (HN.out _).mono ?_; rintro e w7 ⟨rfl, rfl⟩) | (go_at_call 40; refine (HRU.out _).mono ?_; rintro e w8 ⟨rfl, hb8⟩))
    go_ret
    exact ⟨rfl, HB0.out⟩
  · cases q1 <;> cases q2 <;> first | exact absurd hp (by decide) | (
      clear hp
      go_enter Tryz.func19, Tryz.ntmps19
      go_wp2_with (first | (go_at_call 38; refine (field_between _ _ _ _).mono ?_; rintro e w9 ⟨rfl, rfl⟩) | (go_at_call 39; refine (HN.out _).mono ?_; rintro e w7 ⟨rfl, rfl⟩) | (go_at_call 40; refine (HRU.out _).mono ?_; rintro e w8 ⟨rfl, hb8⟩))
      go_ret
      exact ⟨rfl, HB0.out⟩)

set_option maxHeartbeats 16000000 in
theorem check_end (kind day month shift shape p0 p1 p2 cycle extra first last policy : Int) (nm : Bytes) (w : World) (a1 : 1602 ≤ first) (a2 : last ≤ 9996) (a3 : first ≤ last) (a4 : last - first < 400) (hp : (tween policy 1 4 && ((policy == 4) == (kind == 6))) = true) (hl : nm.length ≤ maxLen) :
    Calls Tryz.prog 19 #[.agg #[.string ⟨nm.toArray⟩, .int .i64 kind, .int .i64 day, .int .i64 month, .int .i64 shift, .int .i64 shape, .int .i64 p0, .int .i64 p1, .int .i64 p2, .int .i64 cycle, .int .i64 extra, .int .i64 first, .int .i64 last, .int .i64 policy]] w fun e w' => e = .returned (.int .i64 (if nameL nm && ruledC ⟨nm, kind, day, month, shift, shape, p0, p1, p2, cycle, extra, first, last, policy⟩ then 0 else 1)) ∧ Below w.heap.size w w' := by
  have HB0 := Lib.hid (below_cal w (.cells #[.string ⟨nm.toArray⟩, .int .i64 kind, .int .i64 day, .int .i64 month, .int .i64 shift, .int .i64 shape, .int .i64 p0, .int .i64 p1, .int .i64 p2, .int .i64 cycle, .int .i64 extra, .int .i64 first, .int .i64 last, .int .i64 policy] 37))
  have wf : IntKind.i64.wrap (last - first) = last - first := by rw [IntKind.wrap_i64]; omega
  have HN := Lib.hid (name_atG nm hl)
  have HRU := Lib.hid (fun W => field_ruled ⟨nm, kind, day, month, shift, shape, p0, p1, p2, cycle, extra, first, last, policy⟩ W)
  generalize ruledC ⟨nm, kind, day, month, shift, shape, p0, p1, p2, cycle, extra, first, last, policy⟩ = ru at *
  generalize nameL nm = nb at *
  dsimp only [calV] at HRU
  clear hl
  obtain ⟨p, hp'⟩ : ∃ b, tween policy 1 4 = b := ⟨_, rfl⟩
  obtain ⟨q1, hq1⟩ : ∃ b, (policy == 4) = b := ⟨_, rfl⟩
  obtain ⟨q2, hq2⟩ : ∃ b, (kind == 6) = b := ⟨_, rfl⟩
  rw [hp', hq1, hq2] at hp
  cases p
  · exact absurd hp (by simp)
  · cases q1 <;> cases q2 <;> first | exact absurd hp (by decide) | (
      clear hp
      cases nb
      · skip
        go_enter Tryz.func19, Tryz.ntmps19
        go_wp2_with (first | (go_at_call 38; refine (field_between _ _ _ _).mono ?_; rintro e w9 ⟨rfl, rfl⟩) | (go_at_call 39; refine (HN.out _).mono ?_; rintro e w7 ⟨rfl, rfl⟩) | (go_at_call 40; refine (HRU.out _).mono ?_; rintro e w8 ⟨rfl, hb8⟩))
        go_ret
        exact ⟨rfl, HB0.out⟩
      · cases ru <;> (
          go_enter Tryz.func19, Tryz.ntmps19
          go_wp2_with (first | (go_at_call 38; refine (field_between _ _ _ _).mono ?_; rintro e w9 ⟨rfl, rfl⟩) | (go_at_call 39; refine (HN.out _).mono ?_; rintro e w7 ⟨rfl, rfl⟩) | (go_at_call 40; refine (HRU.out _).mono ?_; rintro e w8 ⟨rfl, hb8⟩))
          go_ret
          exact ⟨rfl, HB0.out.trans (hb8.mono HB0.out.size)⟩))

theorem field_Check (c : CalL) (hl : c.name.length ≤ maxLen) (w : World) : Calls Tryz.prog 19 #[calV c] w fun e w' => e = .returned (.int .i64 (errC c)) ∧ Below w.heap.size w w' := by
  obtain ⟨nm, kind, day, month, shift, shape, p0, p1, p2, cycle, extra, first, last, policy⟩ := c
  have he : ∀ b : Bool, okC ⟨nm, kind, day, month, shift, shape, p0, p1, p2, cycle, extra, first, last, policy⟩ = b → errC ⟨nm, kind, day, month, shift, shape, p0, p1, p2, cycle, extra, first, last, policy⟩ = if b then 0 else 1 := fun b h => by unfold errC; rw [h]
  by_cases hs : 1602 ≤ first ∧ last ≤ 9996 ∧ first ≤ last ∧ last - first < 400
  · obtain ⟨a1, a2, a3, a4⟩ := hs
    have hsv : servedC ⟨nm, kind, day, month, shift, shape, p0, p1, p2, cycle, extra, first, last, policy⟩ = true := by simp [servedC, a1, a2, a3, a4]
    have hpc : policyC ⟨nm, kind, day, month, shift, shape, p0, p1, p2, cycle, extra, first, last, policy⟩ = (tween policy 1 4 && ((policy == 4) == (kind == 6))) := rfl
    cases hp : (tween policy 1 4 && ((policy == 4) == (kind == 6)))
    · rw [he false (by unfold okC; rw [hsv, hpc, hp]; rfl)]
      exact check_pol kind day month shift shape p0 p1 p2 cycle extra first last policy nm w a1 a2 a3 a4 hp
    · rw [he (nameL nm && ruledC ⟨nm, kind, day, month, shift, shape, p0, p1, p2, cycle, extra, first, last, policy⟩) (by unfold okC; rw [hsv, hpc, hp]; rfl)]
      exact check_end kind day month shift shape p0 p1 p2 cycle extra first last policy nm w a1 a2 a3 a4 hp hl
  · rw [he false (by
      have : servedC ⟨nm, kind, day, month, shift, shape, p0, p1, p2, cycle, extra, first, last, policy⟩ = false := by
        cases h : servedC ⟨nm, kind, day, month, shift, shape, p0, p1, p2, cycle, extra, first, last, policy⟩
        · rfl
        · exact absurd (by simp [servedC] at h; omega) hs
      unfold okC; rw [this]; rfl)]
    exact check_srv kind day month shift shape p0 p1 p2 cycle extra first last policy nm w hs

end Go.Proofs.YtjbniichcopnlaaGreatDoor
