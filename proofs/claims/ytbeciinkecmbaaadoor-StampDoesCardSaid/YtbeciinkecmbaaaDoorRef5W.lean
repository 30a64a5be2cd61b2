/- Layer 5, the reference: the walks. -/
import Derived.Test.YtbeciinkecmbaaaDoorCivW2
import Derived.Test.YtbeciinkecmbaaaDoorStampP
set_option linter.unusedVariables false
namespace Go.Proofs.YtbeciinkecmbaaaDoor
open Go.RowKit

theorem ref5_Leap (y : Int) (h1 : 1600 ≤ y) (h2 : y ≤ 9999) (w : World) :
    Calls Tryd.prog 46 #[.int .i64 y] w fun e w' => e = .returned (.bool (decide (lp y = 1))) ∧ w = w' := by
  by_cases b : y % 4 = 0
  · have b1 := bne_f b
    by_cases c : y % 100 = 0
    · have c1 := bne_f c
      by_cases a : y % 400 = 0
      · have a1 := beq_t a
        have HE := Lib.hid (show lp y = 1 by unfold lp; rw [if_pos ⟨b, .inr a⟩])
        clear a b c
        go_enter Tryd.func46, Tryd.ntmps46
        go_wp2
        go_ret
        exact ⟨ret_bool (by rw [HE.out]; rfl), rfl⟩
      · have a1 := beq_f a
        have HE := Lib.hid (show lp y = 0 by unfold lp; rw [if_neg (fun h => h.2.elim (fun x => x c) a)])
        clear a b c
        go_enter Tryd.func46, Tryd.ntmps46
        go_wp2
        go_ret
        exact ⟨ret_bool (by rw [HE.out]; rfl), rfl⟩
    · have c1 := bne_t c
      have HE := Lib.hid (show lp y = 1 by unfold lp; rw [if_pos ⟨b, .inl c⟩])
      clear b c
      go_enter Tryd.func46, Tryd.ntmps46
      go_wp2
      go_ret
      exact ⟨ret_bool (by rw [HE.out]; rfl), rfl⟩
  · have b1 := bne_t b
    have HE := Lib.hid (show lp y = 0 by unfold lp; rw [if_neg (fun h => b h.1)])
    clear b
    go_enter Tryd.func46, Tryd.ntmps46
    go_wp2
    go_ret
    exact ⟨ret_bool (by rw [HE.out]; rfl), rfl⟩

theorem ref5_Length_ok (y m : Int) (h1 : 1600 ≤ y) (h2 : y ≤ 9999) (h3 : 1 ≤ m) (h4 : m ≤ 12) (w : World) :
    Calls Tryd.prog 40 #[.int .i64 y, .int .i64 m] w fun e w' => e = .returned (.tuple #[.int .i64 (dim y m), .int .i64 0]) ∧ w = w' := by
  have HL := Lib.hid (ref5_Leap y h1 h2)
  by_cases hm2 : m = 2
  · subst hm2
    rcases lp_01 y with hl | hl
    · rw [hl] at HL
      have HD := Lib.hid (show dim y 2 = 28 by unfold dim; rw [if_pos rfl, hl]; rfl)
      clear hl
      go_enter Tryd.func40, Tryd.ntmps40
      go_wp2_with (go_at_call 46; refine (HL.out _).mono ?_; rintro e w' ⟨rfl, rfl⟩)
      go_ret2
      exact ⟨ret_ii (by rw [HD.out]) rfl, rfl⟩
    · rw [hl] at HL
      have HD := Lib.hid (show dim y 2 = 29 by unfold dim; rw [if_pos rfl, hl]; rfl)
      clear hl
      go_enter Tryd.func40, Tryd.ntmps40
      go_wp2_with (go_at_call 46; refine (HL.out _).mono ?_; rintro e w' ⟨rfl, rfl⟩)
      go_ret2
      exact ⟨ret_ii (by rw [HD.out]) rfl, rfl⟩
  · clear HL
    rcases m_cases m h3 h4 with rfl | rfl | rfl | rfl | rfl | rfl | rfl | rfl | rfl | rfl | rfl | rfl
    all_goals first | exact absurd rfl hm2 | skip
    all_goals
      clear hm2
      go_enter Tryd.func40, Tryd.ntmps40
      go_wp2
      go_ret2
      exact ⟨ret_ii (by simp [dim]) rfl, rfl⟩
theorem ref5_Length_no (y m : Int) (h : ¬ (1600 ≤ y ∧ y ≤ 9999 ∧ 1 ≤ m ∧ m ≤ 12)) (w : World) :
    Calls Tryd.prog 40 #[.int .i64 y, .int .i64 m] w fun e w' => e = .returned (.tuple #[.int .i64 0, .int .i64 4]) ∧ w = w' := by
  by_cases h1 : 1600 ≤ y
  · by_cases h2 : y ≤ 9999
    · by_cases h3 : 1 ≤ m
      · have h4 : ¬ m ≤ 12 := fun h4 => h ⟨h1, h2, h3, h4⟩
        clear h
        go_enter Tryd.func40, Tryd.ntmps40
        go_wp2
        go_ret2
        exact ⟨rfl, rfl⟩
      · clear h
        go_enter Tryd.func40, Tryd.ntmps40
        go_wp2
        go_ret2
        exact ⟨rfl, rfl⟩
    · clear h
      go_enter Tryd.func40, Tryd.ntmps40
      go_wp2
      go_ret2
      exact ⟨rfl, rfl⟩
  · clear h
    go_enter Tryd.func40, Tryd.ntmps40
    go_wp2
    go_ret2
    exact ⟨rfl, rfl⟩

theorem ref5_Check_ok (y m d : Int) (h : vld y m d) (w : World) :
    Calls Tryd.prog 41 #[.agg #[.int .i64 y, .int .i64 m, .int .i64 d]] w fun e w' => e = .returned (.int .i64 0) ∧ Below w.heap.size w w' := by
  obtain ⟨h1, h2, h3, h4, h5, h6⟩ := h
  go_enter Tryd.func41, Tryd.ntmps41
  go_wp2_with (go_at_call 40; refine (ref5_Length_ok y m h1 h2 h3 h4 _).mono ?_; rintro e w' ⟨rfl, rfl⟩)
  go_ret
  exact ⟨rfl, by (repeat (first | exact Below.refl _ _ | assumption | refine Below.setCell ?_ (by first | (simp; done) | (simp; omega) | omega) _ | refine Below.alloc ?_ (by first | (simp; done) | (simp; omega) | omega) _ | refine Below.drew ?_ | refine below_drewN ?_ _ | refine Below.trans ?_ (Below.mono (by assumption) (by first | (simp; done) | (simp; omega) | omega))))⟩
theorem ref5_Check_no (y m d : Int) (h : ¬ vld y m d) (w : World) :
    Calls Tryd.prog 41 #[.agg #[.int .i64 y, .int .i64 m, .int .i64 d]] w fun e w' => e = .returned (.int .i64 4) ∧ Below w.heap.size w w' := by
  by_cases hr : 1600 ≤ y ∧ y ≤ 9999 ∧ 1 ≤ m ∧ m ≤ 12
  · obtain ⟨h1, h2, h3, h4⟩ := hr
    by_cases h5 : 1 ≤ d
    · have h6 : ¬ d ≤ dim y m := fun h6 => h ⟨h1, h2, h3, h4, h5, h6⟩
      clear h
      go_enter Tryd.func41, Tryd.ntmps41
      go_wp2_with (go_at_call 40; refine (ref5_Length_ok y m h1 h2 h3 h4 _).mono ?_; rintro e w' ⟨rfl, rfl⟩)
      go_ret
      exact ⟨rfl, by (repeat (first | exact Below.refl _ _ | assumption | refine Below.setCell ?_ (by first | (simp; done) | (simp; omega) | omega) _ | refine Below.alloc ?_ (by first | (simp; done) | (simp; omega) | omega) _ | refine Below.drew ?_ | refine below_drewN ?_ _ | refine Below.trans ?_ (Below.mono (by assumption) (by first | (simp; done) | (simp; omega) | omega))))⟩
    · clear h
      go_enter Tryd.func41, Tryd.ntmps41
      go_wp2_with (go_at_call 40; refine (ref5_Length_ok y m h1 h2 h3 h4 _).mono ?_; rintro e w' ⟨rfl, rfl⟩)
      go_ret
      exact ⟨rfl, by (repeat (first | exact Below.refl _ _ | assumption | refine Below.setCell ?_ (by first | (simp; done) | (simp; omega) | omega) _ | refine Below.alloc ?_ (by first | (simp; done) | (simp; omega) | omega) _ | refine Below.drew ?_ | refine below_drewN ?_ _ | refine Below.trans ?_ (Below.mono (by assumption) (by first | (simp; done) | (simp; omega) | omega))))⟩
  · clear h
    have HN := Lib.hid (ref5_Length_no y m hr)
    clear hr
    go_enter Tryd.func41, Tryd.ntmps41
    go_wp2_with (go_at_call 40; refine (HN.out _).mono ?_; rintro e w' ⟨rfl, rfl⟩)
    go_ret
    exact ⟨rfl, by (repeat (first | exact Below.refl _ _ | assumption | refine Below.setCell ?_ (by first | (simp; done) | (simp; omega) | omega) _ | refine Below.alloc ?_ (by first | (simp; done) | (simp; omega) | omega) _ | refine Below.drew ?_ | refine below_drewN ?_ _ | refine Below.trans ?_ (Below.mono (by assumption) (by first | (simp; done) | (simp; omega) | omega))))⟩

theorem ref5_long (y : Int) (h1 : 1600 ≤ y) (h2 : y ≤ 9999) (w : World) :
    Calls Tryd.prog 39 #[.int .i64 y] w fun e w' => e = .returned (.int .i64 (365 + lp y)) ∧ w = w' := by
  have HL := Lib.hid (ref5_Leap y h1 h2)
  rcases lp_01 y with hl | hl
  all_goals
    rw [hl] at HL
    have HX := Lib.hid hl
    clear hl
    go_enter Tryd.func39, Tryd.ntmps39
    go_wp2_with (go_at_call 46; refine (HL.out _).mono ?_; rintro e w' ⟨rfl, rfl⟩)
    go_ret
    exact ⟨ret_int (by rw [HX.out]; rfl), rfl⟩

set_option maxRecDepth 100000 in
set_option maxHeartbeats 2000000 in
theorem ref5_Day_ok (y m d : Int) (h : vld y m d) (w : World) :
    Calls Tryd.prog 28 #[.agg #[.int .i64 y, .int .i64 m, .int .i64 d]] w fun e w' => e = .returned (.tuple #[.int .i64 (num y m d), .int .i64 0]) ∧ Below w.heap.size w w' := by
  have HK := Lib.hid (ref5_Check_ok y m d h)
  have a := num_range y m d h
  obtain ⟨h1, h2, h3, h4, h5, h6⟩ := h
  have hdm := dim_bd y m
  go_enter Tryd.func28, Tryd.ntmps28
  go_wp2_with fail
  refine (HK.out _).mono ?_
  rintro e w1 ⟨rfl, hb1⟩
  have q0 := hb1.cell (p := ⟨w.heap.size, 0, none⟩) (by simp)
  have q1 := hb1.cell (p := ⟨w.heap.size, 1, none⟩) (by simp)
  have q2 := hb1.cell (p := ⟨w.heap.size, 2, none⟩) (by simp)
  have hz1 := hb1.size
  simp at q0 q1 q2 hz1
  have hX : Below w.heap.size w w1 := ((Below.refl _ _).alloc (Nat.le_refl _) _).trans (hb1.mono (by simp))
  clear HK hb1
  go_wp2_with fail
  go_loop [5, 6] (fun n z => ∃ Z : Int, 1600 ≤ Z ∧ Z ≤ y ∧ z = .int .i64 Z ∧ n = .int .i64 (yd Z)) (fun _ z => (y - intOf z).toNat)
  case atStart => exact ⟨1600, by omega, h1, rfl, by rw [yd_first]⟩
  case round =>
    obtain ⟨Z, hZ1, hZ2, rfl, rfl⟩ := hrel
    have hzb := yd_bd Z hZ1 (by omega)
    by_cases hc : Z + 400 ≤ y
    · have HY := Lib.hid (yd_400 Z)
      go_wp2_with fail
      go_round
      case rel => exact ⟨Z + 400, by omega, hc, rfl, val_int HY.out.symm⟩
      case measure => simp [intOf]; omega
    · go_wp2_with fail
      go_loop [5, 6] (fun n z => ∃ Z : Int, 1600 ≤ Z ∧ Z ≤ y ∧ z = .int .i64 Z ∧ n = .int .i64 (yd Z)) (fun _ z => (y - intOf z).toNat)
      case atStart => exact ⟨Z, hZ1, hZ2, rfl, rfl⟩
      case round =>
        clear hc hzb
        obtain ⟨X, hX1, hX2, rfl, rfl⟩ := hrel
        have hxb := yd_bd X hX1 (by omega)
        by_cases hc : X < y
        · have HY := Lib.hid (yd_succ X hX1)
          have hl := lp_01 X
          go_wp2_with fail
          refine (ref5_long X hX1 (by omega) _).mono ?_
          rintro e w' ⟨rfl, rfl⟩
          go_wp2_with fail
          go_round
          case rel => exact ⟨X + 1, by omega, by omega, rfl, val_int (by rw [HY.out]; omega)⟩
          case measure => simp [intOf]; omega
        · obtain rfl : X = y := by omega
          go_wp2_with fail
          go_loop [5, 7] (fun n k => ∃ K : Int, 1 ≤ K ∧ K ≤ m ∧ k = .int .i64 K ∧ n = .int .i64 (yd X + cum X K)) (fun _ k => (m - intOf k).toNat)
          case atStart => exact ⟨1, by omega, h3, rfl, val_int (by rw [cum_one]; omega)⟩
          case round =>
            obtain ⟨K, hK1, hK2, rfl, rfl⟩ := hrel
            have hcb := cum_bd X K hK1 (by omega)
            by_cases hc2 : K < m
            · have HC := Lib.hid (cum_succ X K hK1 (by omega))
              have hdk := dim_bd X K
              go_wp2_with fail
              refine (ref5_Length_ok X K h1 h2 hK1 (by omega) _).mono ?_
              rintro e w' ⟨rfl, rfl⟩
              go_wp2_with fail
              go_round
              case rel => exact ⟨K + 1, by omega, by omega, rfl, val_int (by rw [HC.out]; omega)⟩
              case measure => simp [intOf]; omega
            · obtain rfl : K = m := by omega
              go_wp2_with fail
              go_ret2
              exact ⟨ret_ii rfl rfl, hX⟩
theorem ref5_Day_no (y m d : Int) (h : ¬ vld y m d) (w : World) :
    Calls Tryd.prog 28 #[.agg #[.int .i64 y, .int .i64 m, .int .i64 d]] w fun e w' => e = .returned (.tuple #[.int .i64 0, .int .i64 4]) ∧ Below w.heap.size w w' := by
  have HK := Lib.hid (ref5_Check_no y m d h)
  clear h
  go_enter Tryd.func28, Tryd.ntmps28
  go_wp2_with fail
  refine (HK.out _).mono ?_
  rintro e w1 ⟨rfl, hb1⟩
  go_wp2
  go_ret2
  exact ⟨rfl, ((Below.refl _ _).alloc (Nat.le_refl _) _).trans (hb1.mono (by simp))⟩

theorem ref5_Weekday_ok (n : Int) (h0 : 0 ≤ n) (h1 : n < 3068037) (w : World) :
    Calls Tryd.prog 42 #[.int .i64 n] w fun e w' => e = .returned (.tuple #[.int .i64 (wdOf n), .int .i64 0]) ∧ Below w.heap.size w w' := by
  have hc : n % 7 = 0 ∨ n % 7 = 1 ∨ n % 7 = 2 ∨ n % 7 = 3 ∨ n % 7 = 4 ∨ n % 7 = 5 ∨ n % 7 = 6 := by omega
  rcases hc with e | e | e | e | e | e | e
  · have HE := Lib.hid (show wdOf n = 6 by unfold wdOf; omega)
    go_enter Tryd.func42, Tryd.ntmps42
    go_wp2
    go_ret2
    exact ⟨ret_ii (by rw [HE.out]) rfl, by (repeat (first | exact Below.refl _ _ | assumption | refine Below.setCell ?_ (by first | (simp; done) | (simp; omega) | omega) _ | refine Below.alloc ?_ (by first | (simp; done) | (simp; omega) | omega) _ | refine Below.drew ?_ | refine below_drewN ?_ _ | refine Below.trans ?_ (Below.mono (by assumption) (by first | (simp; done) | (simp; omega) | omega))))⟩
  · have HE := Lib.hid (show wdOf n = 7 by unfold wdOf; omega)
    go_enter Tryd.func42, Tryd.ntmps42
    go_wp2
    go_ret2
    exact ⟨ret_ii (by rw [HE.out]) rfl, by (repeat (first | exact Below.refl _ _ | assumption | refine Below.setCell ?_ (by first | (simp; done) | (simp; omega) | omega) _ | refine Below.alloc ?_ (by first | (simp; done) | (simp; omega) | omega) _ | refine Below.drew ?_ | refine below_drewN ?_ _ | refine Below.trans ?_ (Below.mono (by assumption) (by first | (simp; done) | (simp; omega) | omega))))⟩
  · have HE := Lib.hid (show wdOf n = 1 by unfold wdOf; omega)
    go_enter Tryd.func42, Tryd.ntmps42
    go_wp2
    go_ret2
    exact ⟨ret_ii (by rw [HE.out]) rfl, by (repeat (first | exact Below.refl _ _ | assumption | refine Below.setCell ?_ (by first | (simp; done) | (simp; omega) | omega) _ | refine Below.alloc ?_ (by first | (simp; done) | (simp; omega) | omega) _ | refine Below.drew ?_ | refine below_drewN ?_ _ | refine Below.trans ?_ (Below.mono (by assumption) (by first | (simp; done) | (simp; omega) | omega))))⟩
  · have HE := Lib.hid (show wdOf n = 2 by unfold wdOf; omega)
    go_enter Tryd.func42, Tryd.ntmps42
    go_wp2
    go_ret2
    exact ⟨ret_ii (by rw [HE.out]) rfl, by (repeat (first | exact Below.refl _ _ | assumption | refine Below.setCell ?_ (by first | (simp; done) | (simp; omega) | omega) _ | refine Below.alloc ?_ (by first | (simp; done) | (simp; omega) | omega) _ | refine Below.drew ?_ | refine below_drewN ?_ _ | refine Below.trans ?_ (Below.mono (by assumption) (by first | (simp; done) | (simp; omega) | omega))))⟩
  · have HE := Lib.hid (show wdOf n = 3 by unfold wdOf; omega)
    go_enter Tryd.func42, Tryd.ntmps42
    go_wp2
    go_ret2
    exact ⟨ret_ii (by rw [HE.out]) rfl, by (repeat (first | exact Below.refl _ _ | assumption | refine Below.setCell ?_ (by first | (simp; done) | (simp; omega) | omega) _ | refine Below.alloc ?_ (by first | (simp; done) | (simp; omega) | omega) _ | refine Below.drew ?_ | refine below_drewN ?_ _ | refine Below.trans ?_ (Below.mono (by assumption) (by first | (simp; done) | (simp; omega) | omega))))⟩
  · have HE := Lib.hid (show wdOf n = 4 by unfold wdOf; omega)
    go_enter Tryd.func42, Tryd.ntmps42
    go_wp2
    go_ret2
    exact ⟨ret_ii (by rw [HE.out]) rfl, by (repeat (first | exact Below.refl _ _ | assumption | refine Below.setCell ?_ (by first | (simp; done) | (simp; omega) | omega) _ | refine Below.alloc ?_ (by first | (simp; done) | (simp; omega) | omega) _ | refine Below.drew ?_ | refine below_drewN ?_ _ | refine Below.trans ?_ (Below.mono (by assumption) (by first | (simp; done) | (simp; omega) | omega))))⟩
  · have HE := Lib.hid (show wdOf n = 5 by unfold wdOf; omega)
    go_enter Tryd.func42, Tryd.ntmps42
    go_wp2
    go_ret2
    exact ⟨ret_ii (by rw [HE.out]) rfl, by (repeat (first | exact Below.refl _ _ | assumption | refine Below.setCell ?_ (by first | (simp; done) | (simp; omega) | omega) _ | refine Below.alloc ?_ (by first | (simp; done) | (simp; omega) | omega) _ | refine Below.drew ?_ | refine below_drewN ?_ _ | refine Below.trans ?_ (Below.mono (by assumption) (by first | (simp; done) | (simp; omega) | omega))))⟩
theorem ref5_Weekday_no (n : Int) (h : n < 0 ∨ 3068037 ≤ n) (w : World) :
    Calls Tryd.prog 42 #[.int .i64 n] w fun e w' => e = .returned (.tuple #[.int .i64 0, .int .i64 4]) ∧ Below w.heap.size w w' := by
  rcases h with h | h
  · go_enter Tryd.func42, Tryd.ntmps42
    go_wp2
    go_ret2
    exact ⟨rfl, Below.refl _ _⟩
  · have h0 : 0 ≤ n := by omega
    have hd : decide (3068036 < n) = true := decide_eq_true (by omega)
    go_enter Tryd.func42, Tryd.ntmps42
    go_wp2
    go_ret2
    exact ⟨rfl, Below.refl _ _⟩

end Go.Proofs.YtbeciinkecmbaaaDoor
