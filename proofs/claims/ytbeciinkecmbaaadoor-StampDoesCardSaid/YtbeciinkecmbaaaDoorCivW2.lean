/- Layer 5 (civil): the walks of Check, Day, Of, Weekday. -/
import Derived.Test.YtbeciinkecmbaaaDoorCivW
import Derived.BigQuiet
import Derived.IntWalk
import Derived.Deep.QuietTactic
import Derived.Deep.RegionHeld3
import Derived.Deep.DrawnRows
namespace Go.Proofs.YtbeciinkecmbaaaDoor
open Go.RowKit
attribute [local go_sem ↓] Go.wp_at_zero Go.wp_at_succ

theorem civil_Check_ok (y m d : Int) (h : vld y m d) (w : World) :
    Calls Tryd.prog 32 #[.agg #[.int .i64 y, .int .i64 m, .int .i64 d]] w fun e w' => e = .returned (.int .i64 0) ∧ Below w.heap.size w w' := by
  obtain ⟨h1, h2, h3, h4, h5, h6⟩ := h
  go_enter Tryd.func32, Tryd.ntmps32
  go_wp2_with fail
  refine (civil_Length_ok y m h1 h2 h3 h4 _).mono ?_
  rintro e w1 ⟨rfl, hb1⟩
  have q2 := hb1.cell (p := ⟨w.heap.size, 2, none⟩) (by simp)
  simp at q2
  go_wp2
  go_ret
  exact ⟨rfl, ((Below.refl _ _).alloc (Nat.le_refl _) _).trans (hb1.mono (by simp))⟩
theorem civil_Check_no (y m d : Int) (h : ¬ vld y m d) (w : World) :
    Calls Tryd.prog 32 #[.agg #[.int .i64 y, .int .i64 m, .int .i64 d]] w fun e w' => e = .returned (.int .i64 4) ∧ Below w.heap.size w w' := by
  by_cases hr : 1600 ≤ y ∧ y ≤ 9999 ∧ 1 ≤ m ∧ m ≤ 12
  · obtain ⟨h1, h2, h3, h4⟩ := hr
    by_cases h5 : 1 ≤ d
    · have h6 : ¬ d ≤ dim y m := fun h6 => h ⟨h1, h2, h3, h4, h5, h6⟩
      clear h
      go_enter Tryd.func32, Tryd.ntmps32
      go_wp2_with fail
      refine (civil_Length_ok y m h1 h2 h3 h4 _).mono ?_
      rintro e w1 ⟨rfl, hb1⟩
      have q2 := hb1.cell (p := ⟨w.heap.size, 2, none⟩) (by simp)
      simp at q2
      go_wp2
      go_ret
      exact ⟨rfl, ((Below.refl _ _).alloc (Nat.le_refl _) _).trans (hb1.mono (by simp))⟩
    · clear h
      go_enter Tryd.func32, Tryd.ntmps32
      go_wp2_with fail
      refine (civil_Length_ok y m h1 h2 h3 h4 _).mono ?_
      rintro e w1 ⟨rfl, hb1⟩
      have q2 := hb1.cell (p := ⟨w.heap.size, 2, none⟩) (by simp)
      simp at q2
      go_wp2
      go_ret
      exact ⟨rfl, ((Below.refl _ _).alloc (Nat.le_refl _) _).trans (hb1.mono (by simp))⟩
  · clear h
    have HN := Lib.hid (civil_Length_no y m hr)
    clear hr
    go_enter Tryd.func32, Tryd.ntmps32
    go_wp2_with fail
    refine (HN.out _).mono ?_
    rintro e w1 ⟨rfl, hb1⟩
    have q2 := hb1.cell (p := ⟨w.heap.size, 2, none⟩) (by simp)
    simp at q2
    go_wp2
    go_ret
    exact ⟨rfl, ((Below.refl _ _).alloc (Nat.le_refl _) _).trans (hb1.mono (by simp))⟩

theorem civil_years (y : Int) (h1 : 1600 ≤ y) (h2 : y ≤ 10000) (w : World) :
    Calls Tryd.prog 33 #[.int .i64 y] w fun e w' => e = .returned (.int .i64 (yd y)) ∧ w = w' := by
  go_enter Tryd.func33, Tryd.ntmps33
  go_wp2
  go_ret
  exact ⟨ret_int (by unfold yd; omega), rfl⟩

theorem civil_Day_ok (y m d : Int) (h : vld y m d) (w : World) :
    Calls Tryd.prog 18 #[.agg #[.int .i64 y, .int .i64 m, .int .i64 d]] w fun e w' => e = .returned (.tuple #[.int .i64 (num y m d), .int .i64 0]) ∧ Below w.heap.size w w' := by
  have HK := Lib.hid (civil_Check_ok y m d h)
  have a := num_range y m d h
  obtain ⟨h1, h2, h3, h4, h5, h6⟩ := h
  have b := yd_bd y h1 (by omega)
  have c := cum_bd y m h3 (by omega)
  have e := dim_bd y m
  go_enter Tryd.func18, Tryd.ntmps18
  go_wp2_with fail
  refine (HK.out _).mono ?_
  rintro e w1 ⟨rfl, hb1⟩
  have q0 := hb1.cell (p := ⟨w.heap.size, 0, none⟩) (by simp)
  have q1 := hb1.cell (p := ⟨w.heap.size, 1, none⟩) (by simp)
  have q2 := hb1.cell (p := ⟨w.heap.size, 2, none⟩) (by simp)
  have hz1 := hb1.size
  simp at q0 q1 q2 hz1
  have hbW : Below w.heap.size w w1 := ((Below.refl _ _).alloc (Nat.le_refl _) _).trans (hb1.mono (by simp))
  have hzW : w.heap.size < w1.heap.size := by omega
  clear hb1
  go_wp2_with fail
  go_region_held3 (fun W => W.cell? ⟨w.heap.size, 0, none⟩ = some (.int .i64 y) ∧ W.cell? ⟨w.heap.size, 1, none⟩ = some (.int .i64 m) ∧ W.cell? ⟨w.heap.size, 2, none⟩ = some (.int .i64 d) ∧ Below w.heap.size w W ∧ w.heap.size < W.heap.size) (first | exact ⟨q0, q1, q2, Below.drew hbW, hzW⟩ | (go_split_ands; refine ⟨?_, ?_, ?_, ?_, ?_⟩ <;> first | assumption | (refine Eq.trans (hbc.cell (by assumption)) ?_; assumption) | exact Below.trans (by assumption) (hbc.mono (by omega)) | (have := hbc.size; omega))) (first | (go_at_call 33; refine (civil_years y h1 (by omega) _).mono ?_; rintro e w' ⟨rfl, rfl⟩) | (go_at_call 34; refine (civil_ahead y m h1 h2 h3 (by omega) _).mono ?_; rintro e w2 ⟨rfl, hbc⟩))
  all_goals
    go_wp2
    go_ret2
    refine ⟨ret_ii (by unfold num; rw [IntWalk.i64_in (yd y + cum y m) (by omega), IntWalk.i64_in (yd y + cum y m + d) (by omega), IntWalk.i64_in _ (by omega)]) rfl, ?_⟩
    go_split_ands
    assumption
theorem civil_Day_no (y m d : Int) (h : ¬ vld y m d) (w : World) :
    Calls Tryd.prog 18 #[.agg #[.int .i64 y, .int .i64 m, .int .i64 d]] w fun e w' => e = .returned (.tuple #[.int .i64 0, .int .i64 4]) ∧ Below w.heap.size w w' := by
  have HK := Lib.hid (civil_Check_no y m d h)
  clear h
  go_enter Tryd.func18, Tryd.ntmps18
  go_wp2_with fail
  refine (HK.out _).mono ?_
  rintro e w1 ⟨rfl, hb1⟩
  go_wp2
  go_ret2
  exact ⟨rfl, ((Below.refl _ _).alloc (Nat.le_refl _) _).trans (hb1.mono (by simp))⟩

theorem civil_is_yes (n : Int) (h0 : 0 ≤ n) (h1 : n < 3068037) (w : World) :
    Calls Tryd.prog 36 #[.int .i64 n] w fun e w' => e = .returned (.bool true) ∧ w = w' := by
  go_enter Tryd.func36, Tryd.ntmps36
  go_wp2
  go_ret
  exact ⟨rfl, rfl⟩
theorem civil_is_no (n : Int) (h : n < 0 ∨ 3068037 ≤ n) (w : World) :
    Calls Tryd.prog 36 #[.int .i64 n] w fun e w' => e = .returned (.bool false) ∧ w = w' := by
  rcases h with h | h
  · go_enter Tryd.func36, Tryd.ntmps36
    go_wp2
    go_ret
    exact ⟨rfl, rfl⟩
  · have h0 : 0 ≤ n := by omega
    have hd : decide (n < 3068037) = false := decide_eq_false (by omega)
    go_enter Tryd.func36, Tryd.ntmps36
    go_wp2
    go_ret
    exact ⟨rfl, rfl⟩

theorem civil_Weekday_ok (n : Int) (h0 : 0 ≤ n) (h1 : n < 3068037) (w : World) :
    Calls Tryd.prog 37 #[.int .i64 n] w fun e w' => e = .returned (.tuple #[.int .i64 (wdOf n), .int .i64 0]) ∧ w = w' := by
  go_enter Tryd.func37, Tryd.ntmps37
  go_wp2_with (go_at_call 36; refine (civil_is_yes n h0 h1 _).mono ?_; rintro e w' ⟨rfl, rfl⟩)
  go_ret2
  exact ⟨rfl, rfl⟩
theorem civil_Weekday_no (n : Int) (h : n < 0 ∨ 3068037 ≤ n) (w : World) :
    Calls Tryd.prog 37 #[.int .i64 n] w fun e w' => e = .returned (.tuple #[.int .i64 0, .int .i64 4]) ∧ w = w' := by
  have H := Lib.hid (civil_is_no n h)
  clear h
  go_enter Tryd.func37, Tryd.ntmps37
  go_wp2_with (go_at_call 36; refine (H.out _).mono ?_; rintro e w' ⟨rfl, rfl⟩)
  go_ret2
  exact ⟨rfl, rfl⟩

/-- A day of a number. -/
def DayOf (n : Int) (w : World) (e : Ending) (w' : World) : Prop :=
  ∃ y m d : Int, vld y m d ∧ num y m d = n ∧ e = .returned (.tuple #[.agg #[.int .i64 y, .int .i64 m, .int .i64 d], .int .i64 0]) ∧ Below w.heap.size w w'

set_option maxRecDepth 100000 in
set_option maxHeartbeats 2000000 in
theorem civil_Of_ok (n : Int) (h0 : 0 ≤ n) (h1 : n < 3068037) (w : World) :
    Calls Tryd.prog 20 #[.int .i64 n] w (DayOf n w) := by
  have hg := guess n h0 h1
  have hgb := guess_bd n h0 h1
  have HG := Lib.hid hg
  have H9 := Lib.hid (show n < yd (9999 + 1) by rw [show (9999 : Int) + 1 = 10000 from rfl, yd_last]; omega)
  clear hg
  by_cases hmin : 1600 + n / 146097 * 400 + n % 146097 / 36524 * 100 + n % 146097 % 36524 / 1461 * 4 + n % 146097 % 36524 % 1461 / 365 ≤ 9999
  all_goals
    go_enter Tryd.func20, Tryd.ntmps20
    go_wp2_with (go_at_call 36; refine (civil_is_yes n h0 h1 _).mono ?_; rintro e w' ⟨rfl, rfl⟩)
    go_loop [4] (fun t => ∃ y : Int, 1600 ≤ y ∧ y ≤ 9999 ∧ n < yd (y + 1) ∧ t = .int .i64 y) (fun t => (intOf t - 1600).toNat)
    case atStart => first | exact ⟨_, by omega, by omega, HG.out, rfl⟩ | exact ⟨9999, by omega, by omega, H9.out, rfl⟩
    case round =>
      clear HG H9 hmin hgb
      obtain ⟨y, hy1, hy2, hy3, rfl⟩ := hrel
      have hyb := yd_bd y hy1 (by omega)
      by_cases hc : n < yd y
      · go_wp2_with (go_at_call 33; refine (civil_years y hy1 (by omega) _).mono ?_; rintro e w' ⟨rfl, rfl⟩)
        go_round
        case rel =>
          have : 1600 < y := by
            rcases Int.lt_or_le 1600 y with h | h
            · exact h
            · have : y = 1600 := by omega
              subst this; rw [yd_first] at hc; omega
          exact ⟨y - 1, by omega, by omega, by rw [show y - 1 + 1 = y by omega]; exact hc, rfl⟩
        case measure =>
          have : 1600 < y := by
            rcases Int.lt_or_le 1600 y with h | h
            · exact h
            · have : y = 1600 := by omega
              subst this; rw [yd_first] at hc; omega
          simp [intOf]; omega
      · have hs := yd_succ y hy1
        have hl := lp_01 y
        have he := cum_end y
        go_wp2_with (go_at_call 33; refine (civil_years y hy1 (by omega) _).mono ?_; rintro e w' ⟨rfl, rfl⟩)
        go_loopw [6] (fun t wr => ∃ m : Int, 1 ≤ m ∧ m ≤ 12 ∧ t = .int .i64 m ∧ n - yd y < cum y (m + 1) ∧ Below (w.heap.size + 1) (w.alloc (.cells #[.int .i64 0, .int .i64 0, .int .i64 0] 35)) wr) (fun t _ => (intOf t).toNat)
        case atStart => exact ⟨12, by omega, by omega, rfl, by rw [show (12 : Int) + 1 = 13 from rfl, he]; omega, Below.refl _ _⟩
        case round =>
          obtain ⟨m, hm1, hm2, rfl, hm3, hB⟩ := hrel
          have hz := hB.size
          have k0 := hB.cell (p := ⟨w.heap.size, 0, none⟩) (Nat.lt_succ_self _)
          have k1 := hB.cell (p := ⟨w.heap.size, 1, none⟩) (Nat.lt_succ_self _)
          have k2 := hB.cell (p := ⟨w.heap.size, 2, none⟩) (Nat.lt_succ_self _)
          have f0 := hB.frozen (p := ⟨w.heap.size, 0, none⟩) (Nat.lt_succ_self _)
          have f1 := hB.frozen (p := ⟨w.heap.size, 1, none⟩) (Nat.lt_succ_self _)
          have f2 := hB.frozen (p := ⟨w.heap.size, 2, none⟩) (Nat.lt_succ_self _)
          simp at k0 k1 k2 f0 f1 f2 hz
          have hcb := cum_bd y m hm1 (by omega)
          by_cases hc2 : n - yd y < cum y m
          · go_wp2_with fail
            refine (civil_ahead y m hy1 hy2 hm1 (by omega) _).mono ?_
            rintro e w1 ⟨rfl, hb1⟩
            have hgt : 1 < m := by
              rcases Int.lt_or_le 1 m with h | h
              · exact h
              · have : m = 1 := by omega
                subst this; rw [cum_one] at hc2; omega
            go_wp2
            go_roundw
            case rel => exact ⟨m - 1, by omega, by omega, rfl, by rw [show m - 1 + 1 = m by omega]; exact hc2, hB.trans (hb1.mono (by omega))⟩
            case measure => simp [intOf]; omega
          · have hcs := cum_succ y m hm1 hm2
            go_wp2_with fail
            refine (civil_ahead y m hy1 hy2 hm1 (by omega) _).mono ?_
            rintro e w1 ⟨rfl, hb1⟩
            have hB1 := hB.trans (hb1.mono (by omega))
            go_wp2_with fail
            refine (civil_ahead y m hy1 hy2 hm1 (by omega) _).mono ?_
            rintro e w2 ⟨rfl, hb2⟩
            have hz1 := hB1.size
            have hB2 := hB1.trans (hb2.mono (by simp at hz1; omega))
            have hz2 := hB2.size
            have k0 := hB2.cell (p := ⟨w.heap.size, 0, none⟩) (Nat.lt_succ_self _)
            have k1 := hB2.cell (p := ⟨w.heap.size, 1, none⟩) (Nat.lt_succ_self _)
            have k2 := hB2.cell (p := ⟨w.heap.size, 2, none⟩) (Nat.lt_succ_self _)
            have f0 := hB2.frozen (p := ⟨w.heap.size, 0, none⟩) (Nat.lt_succ_self _)
            have f1 := hB2.frozen (p := ⟨w.heap.size, 1, none⟩) (Nat.lt_succ_self _)
            have f2 := hB2.frozen (p := ⟨w.heap.size, 2, none⟩) (Nat.lt_succ_self _)
            simp at k0 k1 k2 f0 f1 f2 hz2
            go_wp2
            refine bodyPost_ret (v := .tuple #[.agg #[.int .i64 y, .int .i64 m, .int .i64 (n - yd y - cum y m + 1)], .int .i64 0]) (by simp [results, Tryd.results20, go_sem, *]) rfl ⟨y, m, _, ⟨hy1, hy2, hm1, hm2, by omega, by omega⟩, by unfold num; omega, rfl, ?_⟩
            have hX : Below w.heap.size w w2 := ((Below.refl _ _).alloc (Nat.le_refl _) _).trans (hB2.mono (Nat.le_succ _))
            exact ((hX.setCell (by simp) _).setCell (by simp) _).setCell (by simp) _

theorem civil_Of_no (n : Int) (h : n < 0 ∨ 3068037 ≤ n) (w : World) :
    Calls Tryd.prog 20 #[.int .i64 n] w fun e w' => e = .returned (.tuple #[.agg #[.int .i64 0, .int .i64 0, .int .i64 0], .int .i64 4]) ∧ Below w.heap.size w w' := by
  have H := Lib.hid (civil_is_no n h)
  clear h
  go_enter Tryd.func20, Tryd.ntmps20
  go_wp2_with (go_at_call 36; refine (H.out _).mono ?_; rintro e w' ⟨rfl, rfl⟩)
  refine bodyPost_ret (v := .tuple #[.agg #[.int .i64 0, .int .i64 0, .int .i64 0], .int .i64 4]) (by simp [results, Tryd.results20, go_sem]) rfl ⟨rfl, ?_⟩
  (repeat (first | exact Below.refl _ _ | assumption | refine Below.setCell ?_ (by first | (simp; done) | (simp; omega) | omega) _ | refine Below.alloc ?_ (by first | (simp; done) | (simp; omega) | omega) _ | refine Below.drew ?_ | refine below_drewN ?_ _ | refine Below.trans ?_ (Below.mono (by assumption) (by first | (simp; done) | (simp; omega) | omega))))

end Go.Proofs.YtbeciinkecmbaaaDoor
