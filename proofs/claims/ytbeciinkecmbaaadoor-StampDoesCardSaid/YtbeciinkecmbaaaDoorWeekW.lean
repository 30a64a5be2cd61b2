/- Layer 6 (week): the walks of first, Iso, Day. -/
import Derived.Test.YtbeciinkecmbaaaDoorCivW2
import Derived.Test.YtbeciinkecmbaaaDoorStampP
namespace Go.Proofs.YtbeciinkecmbaaaDoor
open Go.RowKit
attribute [local go_sem ↓] Go.wp_at_zero Go.wp_at_succ

theorem vld_jan (y d : Int) (h1 : 1600 ≤ y) (h2 : y ≤ 9999) (h3 : 1 ≤ d) (h4 : d ≤ 31) : vld y 1 d := ⟨h1, h2, by omega, by omega, h3, by simp [dim]; omega⟩
theorem num_jan (y d : Int) : num y 1 d = yd y + d - 1 := by unfold num; rw [cum_one]; omega
theorem yd_bd' (y : Int) (h : 1600 ≤ y) (h2 : y ≤ 9999) : 0 ≤ yd y ∧ yd y + 365 ≤ 3068037 := by
  have h3 := yd_bd y h (by omega)
  have h4 := yd_lt y 10000 h (by omega)
  rw [yd_last] at h4
  omega

theorem week_first_ok (y : Int) (h1 : 1600 ≤ y) (h2 : y ≤ 9999) (w : World) :
    Calls Tryd.prog 35 #[.int .i64 y] w fun e w' => e = .returned (.tuple #[.int .i64 (fst y), .int .i64 0]) ∧ Below w.heap.size w w' := by
  have hb := yd_bd' y h1 h2
  have HD := Lib.hid (fun W => civil_Day_ok y 1 4 (vld_jan y 4 h1 h2 (by omega) (by omega)) W)
  rw [num_jan] at HD
  have hw := wdOf_bd (yd y + 4 - 1)
  have HW := Lib.hid (show wdOf (yd y + 4 - 1) = wdOf (yd y + 3) by congr 1; omega)
  have HWK := Lib.hid (fun W => civil_Weekday_ok (yd y + 4 - 1) (by omega) (by omega) W)
  go_enter Tryd.func35, Tryd.ntmps35
  go_wp2_with fail
  refine (HD.out _).mono ?_
  rintro e w1 ⟨rfl, hb1⟩
  go_wp2_with fail
  refine (HWK.out _).mono ?_
  rintro e w' ⟨rfl, rfl⟩
  go_wp2
  go_ret2
  exact ⟨ret_ii (by unfold fst; rw [← HW.out]; try omega) rfl, hb1⟩
theorem week_first_no (y : Int) (h : 9999 < y) (w : World) :
    Calls Tryd.prog 35 #[.int .i64 y] w fun e w' => e = .returned (.tuple #[.int .i64 0, .int .i64 4]) ∧ Below w.heap.size w w' := by
  have HD := Lib.hid (fun W => civil_Day_no y 1 4 (fun hv => by have := hv.2.1; omega) W)
  go_enter Tryd.func35, Tryd.ntmps35
  go_wp2_with fail
  refine (HD.out _).mono ?_
  rintro e w1 ⟨rfl, hb1⟩
  go_wp2
  go_ret2
  exact ⟨rfl, hb1⟩

/-- An ISO day of a number. -/
def IsoOf (n : Int) (w : World) (e : Ending) (w' : World) : Prop :=
  ∃ y k d : Int, IsoIs n y k d ∧ e = .returned (.tuple #[.agg #[.int .i64 y, .int .i64 k, .int .i64 d], .int .i64 0]) ∧ Below w.heap.size w w'

set_option maxRecDepth 100000 in
set_option maxHeartbeats 1000000 in
theorem week_Iso_ok (n : Int) (h0 : 0 ≤ n) (h1 : n < 3068037) (w : World) :
    Calls Tryd.prog 22 #[.int .i64 n] w (IsoOf n w) := by
  have hw := wdOf_bd n
  have ht := thu_hi n h1 h0
  by_cases hneg : n + 4 - wdOf n < 0
  · have HI := Lib.hid (show IsoIs n 1599 52 (wdOf n) from ⟨rfl, .inl ⟨hneg, rfl, rfl⟩⟩)
    have HO := Lib.hid (fun W => civil_Of_no (n + 1 - wdOf n + 3) (.inl (by omega)) W)
    have HK := Lib.hid (fun W => civil_Weekday_ok n h0 h1 W)
    clear ht
    generalize wdOf n = k at *
    go_enter Tryd.func22, Tryd.ntmps22
    go_wp2_with fail
    refine (HK.out _).mono ?_
    rintro e w' ⟨rfl, rfl⟩
    go_wp2_with fail
    refine (HO.out _).mono ?_
    rintro e w1 ⟨rfl, hb1⟩
    have k0 := hb1.cell (p := ⟨w.heap.size, 0, none⟩) (by simp)
    have k1 := hb1.cell (p := ⟨w.heap.size, 1, none⟩) (by simp)
    have k2 := hb1.cell (p := ⟨w.heap.size, 2, none⟩) (by simp)
    have f0 := hb1.frozen (p := ⟨w.heap.size, 0, none⟩) (by simp)
    have f1 := hb1.frozen (p := ⟨w.heap.size, 1, none⟩) (by simp)
    have f2 := hb1.frozen (p := ⟨w.heap.size, 2, none⟩) (by simp)
    have hz := hb1.size
    simp at k0 k1 k2 f0 f1 f2 hz
    have hz' : w.heap.size < w1.heap.size := by omega
    have hX : Below w.heap.size w w1 := ((Below.refl _ _).alloc (Nat.le_refl _) _).trans (hb1.mono (by simp))
    go_wp2
    refine bodyPost_ret (v := .tuple #[.agg #[.int .i64 1599, .int .i64 52, .int .i64 k], .int .i64 0]) (by simp [results, Tryd.results22, go_sem, *]) rfl ⟨1599, 52, k, HI.out, rfl, ?_⟩
    (repeat (first | exact Below.refl _ _ | assumption | refine Below.setCell ?_ (by first | (simp; done) | (simp; omega) | omega) _ | refine Below.alloc ?_ (by first | (simp; done) | (simp; omega) | omega) _ | refine Below.drew ?_ | refine below_drewN ?_ _ | refine Below.trans ?_ (Below.mono (by assumption) (by first | (simp; done) | (simp; omega) | omega))))
  · have HO := Lib.hid (fun W => civil_Of_ok (n + 1 - wdOf n + 3) (by omega) (by omega) W)
    have HK := Lib.hid (fun W => civil_Weekday_ok n h0 h1 W)
    have hw' : ∀ y, 1600 ≤ y → y ≤ 9999 → yd y ≤ n + 4 - wdOf n → n + 4 - wdOf n < yd (y + 1) → IsoIs n y ((n + 4 - wdOf n - yd y) / 7 + 1) (wdOf n) := fun y hy1 hy2 a b => ⟨rfl, .inr ⟨by omega, hy1, hy2, a, b, rfl⟩⟩
    have HW := Lib.hid hw'
    clear hw'
    have HD := Lib.hid (fun y (a : yd y ≤ n + 4 - wdOf n) => iso_div n y a)
    generalize wdOf n = k at *
    go_enter Tryd.func22, Tryd.ntmps22
    go_wp2_with fail
    refine (HK.out _).mono ?_
    rintro e w' ⟨rfl, rfl⟩
    go_wp2_with fail
    refine (HO.out _).mono ?_
    rintro e w1 ⟨y, m, d, hv, hn, rfl, hb1⟩
    have hy := num_in_year y m d hv
    rw [hn] at hy
    have hyd := HD.out y (by omega)
    have hfb := fst_bd y
    have hyb := yd_bd' y hv.1 hv.2.1
    have HI := Lib.hid (HW.out y hv.1 hv.2.1 (by omega) (by omega))
    rw [← hyd.1] at HI
    have HF := Lib.hid (fun W => week_first_ok y hv.1 hv.2.1 W)
    have hyd2 := hyd.2
    clear hyd hv hn hy HW HD HO HK
    have hz := hb1.size
    simp at hz
    go_wp2_with fail
    refine (HF.out _).mono ?_
    rintro e w2 ⟨rfl, hb2⟩
    have hz2 := hb2.size
    simp at hz2
    have g0 := hb2.cell (p := ⟨w1.heap.size, 0, none⟩) (by simp)
    have hB : Below (w.heap.size + 1) (w.alloc (.cells #[.int .i64 0, .int .i64 0, .int .i64 0] 39)) w2 := by
      refine Below.trans (Below.trans (hb1.mono (by simp)) ?_) (hb2.mono (by simp; omega))
      (repeat (first | exact Below.refl _ _ | assumption | refine Below.setCell ?_ (by first | (simp; done) | (simp; omega) | omega) _ | refine Below.alloc ?_ (by first | (simp; done) | (simp; omega) | omega) _ | refine Below.drew ?_ | refine below_drewN ?_ _ | refine Below.trans ?_ (Below.mono (by assumption) (by first | (simp; done) | (simp; omega) | omega))))
    have k0 := hB.cell (p := ⟨w.heap.size, 0, none⟩) (Nat.lt_succ_self _)
    have k1 := hB.cell (p := ⟨w.heap.size, 1, none⟩) (Nat.lt_succ_self _)
    have k2 := hB.cell (p := ⟨w.heap.size, 2, none⟩) (Nat.lt_succ_self _)
    have f0 := hB.frozen (p := ⟨w.heap.size, 0, none⟩) (Nat.lt_succ_self _)
    have f1 := hB.frozen (p := ⟨w.heap.size, 1, none⟩) (Nat.lt_succ_self _)
    have f2 := hB.frozen (p := ⟨w.heap.size, 2, none⟩) (Nat.lt_succ_self _)
    simp at g0 k0 k1 k2 f0 f1 f2
    have hX : Below w.heap.size w w2 := ((Below.refl _ _).alloc (Nat.le_refl _) _).trans (hB.mono (Nat.le_succ _))
    go_wp2
    refine bodyPost_ret (v := .tuple #[.agg #[.int .i64 y, .int .i64 ((n + 1 - k - fst y) / 7 + 1), .int .i64 k], .int .i64 0]) (by simp [results, Tryd.results22, go_sem, *]) rfl ⟨y, _, k, HI.out, rfl, ?_⟩
    (repeat (first | exact Below.refl _ _ | assumption | refine Below.setCell ?_ (by first | (simp; done) | (simp; omega) | omega) _ | refine Below.alloc ?_ (by first | (simp; done) | (simp; omega) | omega) _ | refine Below.drew ?_ | refine below_drewN ?_ _ | refine Below.trans ?_ (Below.mono (by assumption) (by first | (simp; done) | (simp; omega) | omega))))
theorem week_Iso_no (n : Int) (h : n < 0 ∨ 3068037 ≤ n) (w : World) :
    Calls Tryd.prog 22 #[.int .i64 n] w fun e w' => e = .returned (.tuple #[.agg #[.int .i64 0, .int .i64 0, .int .i64 0], .int .i64 4]) ∧ Below w.heap.size w w' := by
  have H := Lib.hid (fun W => civil_Weekday_no n h W)
  clear h
  go_enter Tryd.func22, Tryd.ntmps22
  go_wp2_with fail
  refine (H.out _).mono ?_
  rintro e w' ⟨rfl, rfl⟩
  go_wp2
  refine bodyPost_ret (v := .tuple #[.agg #[.int .i64 0, .int .i64 0, .int .i64 0], .int .i64 4]) (by simp [results, Tryd.results22, go_sem]) rfl ⟨rfl, ?_⟩
  (repeat (first | exact Below.refl _ _ | assumption | refine Below.setCell ?_ (by first | (simp; done) | (simp; omega) | omega) _ | refine Below.alloc ?_ (by first | (simp; done) | (simp; omega) | omega) _ | refine Below.drew ?_ | refine below_drewN ?_ _ | refine Below.trans ?_ (Below.mono (by assumption) (by first | (simp; done) | (simp; omega) | omega))))

set_option maxRecDepth 100000 in
theorem run_neqIso (W : World) (a b c x y z : Int) : (binOp .neq 39 (.agg #[.int .i64 a, .int .i64 b, .int .i64 c]) (.agg #[.int .i64 x, .int .i64 y, .int .i64 z])).run Tryd.prog W = .ok (.bool (!decide (a = x ∧ b = y ∧ c = z))) W := by
  rw [run_neq_struct, run_equalIn_agg W 9999 39 _ _ (by kernel_rfl) (by kernel_rfl)]
  by_cases h1 : a = x <;> by_cases h2 : b = y <;> by_cases h3 : c = z <;> (simp [go_sem, Op.eqFields, h1, h2, h3]; done)

theorem fst'_bd (y : Int) (h : y ≤ 9999) : -400 ≤ fst' y ∧ fst' y ≤ 3068040 := by
  unfold fst'
  split
  · have : fst 1600 = 2 := by decide
    omega
  · have h1 := fst_bd y
    have h2 := yd_bd' y (by omega) h
    omega

set_option maxRecDepth 100000 in
set_option maxHeartbeats 2000000 in
theorem week_Day (y k d : Int) (w : World) :
    Calls Tryd.prog 19 #[.agg #[.int .i64 y, .int .i64 k, .int .i64 d]] w fun e w' => e = .returned (.tuple #[.int .i64 (isoN y k d).1, .int .i64 (isoN y k d).2]) ∧ Below w.heap.size w w' := by
  have hno : ∀ (P : Prop), ((¬ (1 ≤ k ∧ k ≤ 53 ∧ 1 ≤ d ∧ d ≤ 7)) ∨ 9999 < y) → isoN y k d = (0, 4) := fun _ h => isoN_no y k d fun n a b c => by
    have := iso_bd n y k d a b c
    omega
  by_cases hy : 9999 < y
  · have HE := Lib.hid (hno True (.inr hy))
    have HF := Lib.hid (fun W => week_first_no y hy W)
    clear hno
    go_enter Tryd.func19, Tryd.ntmps19
    go_wp2_with fail
    refine (HF.out _).mono ?_
    rintro e w1 ⟨rfl, hb1⟩
    go_wp2
    go_ret2
    exact ⟨ret_ii (by rw [HE.out]) (by rw [HE.out]), ((Below.refl _ _).alloc (Nat.le_refl _) _).trans (hb1.mono (by simp))⟩
  have hd1 : y < 1600 ∨ 1600 ≤ y := by omega
  by_cases hr : 1 ≤ k ∧ k ≤ 53 ∧ 1 ≤ d ∧ d ≤ 7
  · obtain ⟨hk1, hk2, hd1', hd2'⟩ := hr
    clear hno
    have hi : isoN y k d = isoN y k d := rfl
    conv at hi => rhs; unfold isoN
    rcases hd1 with hy2 | hy2
    · have hF : fst' y = fst 1600 - 364 := by unfold fst'; rw [if_pos hy2]
      have HF := Lib.hid (fun W => week_first_ok 1600 (by omega) (by omega) W)
      have hG : -3 ≤ fst 1600 ∧ fst 1600 ≤ 3 := by have := fst_bd 1600; rw [yd_first] at this; omega
      have hmx : max y 1600 = 1600 := by omega
      rw [hF] at hi
      generalize fst 1600 = G at *
      by_cases hrg : 0 ≤ G - 364 + 7 * (k - 1) + d - 1 ∧ G - 364 + 7 * (k - 1) + d - 1 < 3068037
      · have HN := Lib.hid (fun W => week_Iso_ok _ hrg.1 hrg.2 W)
        have HI := Lib.hid hi
        have HR := Lib.hid hrg
        clear hi hrg hF
        go_enter Tryd.func19, Tryd.ntmps19
        go_wp2_with fail
        refine (HF.out _).mono ?_
        rintro e w1 ⟨rfl, hb1⟩
        have q0 := hb1.cell (p := ⟨w.heap.size, 0, none⟩) (by simp)
        have q1 := hb1.cell (p := ⟨w.heap.size, 1, none⟩) (by simp)
        have q2 := hb1.cell (p := ⟨w.heap.size, 2, none⟩) (by simp)
        have hz1 := hb1.size
        simp at q0 q1 q2 hz1
        go_wp2_with fail
        refine (HN.out _).mono ?_
        rintro e w2 ⟨y', k', d', hiso, rfl, hb2⟩
        have r0 := (hb2.cell (p := ⟨w.heap.size, 0, none⟩) (by show w.heap.size < _; omega)).trans q0
        have r1 := (hb2.cell (p := ⟨w.heap.size, 1, none⟩) (by show w.heap.size < _; omega)).trans q1
        have r2 := (hb2.cell (p := ⟨w.heap.size, 2, none⟩) (by show w.heap.size < _; omega)).trans q2
        have hz2 := hb2.size
        have hz3 : w.heap.size < w2.heap.size := by omega
        have hX : Below w.heap.size w w2 := (((Below.refl _ _).alloc (Nat.le_refl _) _).trans (hb1.mono (by simp))).trans (hb2.mono (by omega))
        have hneq := fun W => run_neqIso W y' k' d' y k d
        have HS := Lib.hid hiso
        clear hiso q0 q1 q2
        cases hab : decide (y' = y ∧ k' = k ∧ d' = d)
        · have HE := Lib.hid (show isoN y k d = (0, 4) by
            have he := of_decide_eq_false hab
            rw [HI.out, if_neg (fun h => he (iso_uniq _ _ _ _ _ _ _ HS.out h.2.2))])
          simp only [hab] at hneq
          clear hab
          go_wp2
          go_ret2
          refine ⟨ret_ii (by rw [HE.out]) (by rw [HE.out]), ?_⟩
          (repeat (first | exact Below.refl _ _ | assumption | refine Below.setCell ?_ (by first | (simp; done) | (simp; omega) | omega) _ | refine Below.alloc ?_ (by first | (simp; done) | (simp; omega) | omega) _ | refine Below.drew ?_ | refine below_drewN ?_ _ | refine Below.trans ?_ (Below.mono (by assumption) (by first | (simp; done) | (simp; omega) | omega))))
        · have he := of_decide_eq_true hab
          have HE := Lib.hid (show isoN y k d = ((G - 364 + 7 * (k - 1) + d - 1), 0) by
            rw [HI.out, if_pos ⟨HR.out.1, HR.out.2, by obtain ⟨rfl, rfl, rfl⟩ := he; exact HS.out⟩])
          simp only [hab] at hneq
          clear hab he
          go_wp2
          go_ret2
          refine ⟨ret_ii (by rw [HE.out]) (by rw [HE.out]), ?_⟩
          (repeat (first | exact Below.refl _ _ | assumption | refine Below.setCell ?_ (by first | (simp; done) | (simp; omega) | omega) _ | refine Below.alloc ?_ (by first | (simp; done) | (simp; omega) | omega) _ | refine Below.drew ?_ | refine below_drewN ?_ _ | refine Below.trans ?_ (Below.mono (by assumption) (by first | (simp; done) | (simp; omega) | omega))))
      · have HE := Lib.hid (show isoN y k d = (0, 4) by rw [hi, if_neg (fun h => hrg ⟨h.1, h.2.1⟩)])
        have HN := Lib.hid (fun W => week_Iso_no (G - 364 + 7 * (k - 1) + d - 1) (by omega) W)
        clear hi hrg hF
        go_enter Tryd.func19, Tryd.ntmps19
        go_wp2_with fail
        refine (HF.out _).mono ?_
        rintro e w1 ⟨rfl, hb1⟩
        have q0 := hb1.cell (p := ⟨w.heap.size, 0, none⟩) (by simp)
        have q1 := hb1.cell (p := ⟨w.heap.size, 1, none⟩) (by simp)
        have q2 := hb1.cell (p := ⟨w.heap.size, 2, none⟩) (by simp)
        have hz1 := hb1.size
        simp at q0 q1 q2 hz1
        go_wp2_with fail
        refine (HN.out _).mono ?_
        rintro e w2 ⟨rfl, hb2⟩
        have hz2 := hb2.size
        have hz3 : w.heap.size < w2.heap.size := by omega
        have hX : Below w.heap.size w w2 := (((Below.refl _ _).alloc (Nat.le_refl _) _).trans (hb1.mono (by simp))).trans (hb2.mono (by omega))
        go_wp2
        go_ret2
        refine ⟨ret_ii (by rw [HE.out]) (by rw [HE.out]), ?_⟩
        (repeat (first | exact Below.refl _ _ | assumption | refine Below.setCell ?_ (by first | (simp; done) | (simp; omega) | omega) _ | refine Below.alloc ?_ (by first | (simp; done) | (simp; omega) | omega) _ | refine Below.drew ?_ | refine below_drewN ?_ _ | refine Below.trans ?_ (Below.mono (by assumption) (by first | (simp; done) | (simp; omega) | omega))))
    · have hF : fst' y = fst y := by unfold fst'; rw [if_neg (by omega)]
      have HF := Lib.hid (fun W => week_first_ok y hy2 (by omega) W)
      have hG : -3 ≤ fst y ∧ fst y ≤ 3068040 := by have h1 := fst_bd y; have h2 := yd_bd' y hy2 (by omega); omega
      have hmx : max y 1600 = y := by omega
      rw [hF] at hi
      generalize fst y = G at *
      by_cases hrg : 0 ≤ G + 7 * (k - 1) + d - 1 ∧ G + 7 * (k - 1) + d - 1 < 3068037
      · have HN := Lib.hid (fun W => week_Iso_ok _ hrg.1 hrg.2 W)
        have HI := Lib.hid hi
        have HR := Lib.hid hrg
        clear hi hrg hF
        go_enter Tryd.func19, Tryd.ntmps19
        go_wp2_with fail
        refine (HF.out _).mono ?_
        rintro e w1 ⟨rfl, hb1⟩
        have q0 := hb1.cell (p := ⟨w.heap.size, 0, none⟩) (by simp)
        have q1 := hb1.cell (p := ⟨w.heap.size, 1, none⟩) (by simp)
        have q2 := hb1.cell (p := ⟨w.heap.size, 2, none⟩) (by simp)
        have hz1 := hb1.size
        simp at q0 q1 q2 hz1
        go_wp2_with fail
        refine (HN.out _).mono ?_
        rintro e w2 ⟨y', k', d', hiso, rfl, hb2⟩
        have r0 := (hb2.cell (p := ⟨w.heap.size, 0, none⟩) (by show w.heap.size < _; omega)).trans q0
        have r1 := (hb2.cell (p := ⟨w.heap.size, 1, none⟩) (by show w.heap.size < _; omega)).trans q1
        have r2 := (hb2.cell (p := ⟨w.heap.size, 2, none⟩) (by show w.heap.size < _; omega)).trans q2
        have hz2 := hb2.size
        have hz3 : w.heap.size < w2.heap.size := by omega
        have hX : Below w.heap.size w w2 := (((Below.refl _ _).alloc (Nat.le_refl _) _).trans (hb1.mono (by simp))).trans (hb2.mono (by omega))
        have hneq := fun W => run_neqIso W y' k' d' y k d
        have HS := Lib.hid hiso
        clear hiso q0 q1 q2
        cases hab : decide (y' = y ∧ k' = k ∧ d' = d)
        · have HE := Lib.hid (show isoN y k d = (0, 4) by
            have he := of_decide_eq_false hab
            rw [HI.out, if_neg (fun h => he (iso_uniq _ _ _ _ _ _ _ HS.out h.2.2))])
          simp only [hab] at hneq
          clear hab
          go_wp2
          go_ret2
          refine ⟨ret_ii (by rw [HE.out]) (by rw [HE.out]), ?_⟩
          (repeat (first | exact Below.refl _ _ | assumption | refine Below.setCell ?_ (by first | (simp; done) | (simp; omega) | omega) _ | refine Below.alloc ?_ (by first | (simp; done) | (simp; omega) | omega) _ | refine Below.drew ?_ | refine below_drewN ?_ _ | refine Below.trans ?_ (Below.mono (by assumption) (by first | (simp; done) | (simp; omega) | omega))))
        · have he := of_decide_eq_true hab
          have HE := Lib.hid (show isoN y k d = ((G + 7 * (k - 1) + d - 1), 0) by
            rw [HI.out, if_pos ⟨HR.out.1, HR.out.2, by obtain ⟨rfl, rfl, rfl⟩ := he; exact HS.out⟩])
          simp only [hab] at hneq
          clear hab he
          go_wp2
          go_ret2
          refine ⟨ret_ii (by rw [HE.out]) (by rw [HE.out]), ?_⟩
          (repeat (first | exact Below.refl _ _ | assumption | refine Below.setCell ?_ (by first | (simp; done) | (simp; omega) | omega) _ | refine Below.alloc ?_ (by first | (simp; done) | (simp; omega) | omega) _ | refine Below.drew ?_ | refine below_drewN ?_ _ | refine Below.trans ?_ (Below.mono (by assumption) (by first | (simp; done) | (simp; omega) | omega))))
      · have HE := Lib.hid (show isoN y k d = (0, 4) by rw [hi, if_neg (fun h => hrg ⟨h.1, h.2.1⟩)])
        have HN := Lib.hid (fun W => week_Iso_no (G + 7 * (k - 1) + d - 1) (by omega) W)
        clear hi hrg hF
        go_enter Tryd.func19, Tryd.ntmps19
        go_wp2_with fail
        refine (HF.out _).mono ?_
        rintro e w1 ⟨rfl, hb1⟩
        have q0 := hb1.cell (p := ⟨w.heap.size, 0, none⟩) (by simp)
        have q1 := hb1.cell (p := ⟨w.heap.size, 1, none⟩) (by simp)
        have q2 := hb1.cell (p := ⟨w.heap.size, 2, none⟩) (by simp)
        have hz1 := hb1.size
        simp at q0 q1 q2 hz1
        go_wp2_with fail
        refine (HN.out _).mono ?_
        rintro e w2 ⟨rfl, hb2⟩
        have hz2 := hb2.size
        have hz3 : w.heap.size < w2.heap.size := by omega
        have hX : Below w.heap.size w w2 := (((Below.refl _ _).alloc (Nat.le_refl _) _).trans (hb1.mono (by simp))).trans (hb2.mono (by omega))
        go_wp2
        go_ret2
        refine ⟨ret_ii (by rw [HE.out]) (by rw [HE.out]), ?_⟩
        (repeat (first | exact Below.refl _ _ | assumption | refine Below.setCell ?_ (by first | (simp; done) | (simp; omega) | omega) _ | refine Below.alloc ?_ (by first | (simp; done) | (simp; omega) | omega) _ | refine Below.drew ?_ | refine below_drewN ?_ _ | refine Below.trans ?_ (Below.mono (by assumption) (by first | (simp; done) | (simp; omega) | omega))))
  · have HE := Lib.hid (hno True (.inl hr))
    have HF := Lib.hid (fun W => week_first_ok (max y 1600) (by omega) (by omega) W)
    clear hno
    rcases hd1 with hy2 | hy2
    · have hmx : max y 1600 = 1600 := by omega
      rw [hmx] at HF
      have hG : -3 ≤ fst 1600 ∧ fst 1600 ≤ 3 := by have := fst_bd 1600; rw [yd_first] at this; omega
      generalize fst 1600 = G at *
      by_cases a1 : 1 ≤ k
      · by_cases a2 : k ≤ 53
        · by_cases a3 : 1 ≤ d
          · have a4 : ¬ d ≤ 7 := fun a4 => hr ⟨a1, a2, a3, a4⟩
            clear hr
            go_enter Tryd.func19, Tryd.ntmps19
            go_wp2_with fail
            refine (HF.out _).mono ?_
            rintro e w1 ⟨rfl, hb1⟩
            have q0 := hb1.cell (p := ⟨w.heap.size, 0, none⟩) (by simp)
            have q1 := hb1.cell (p := ⟨w.heap.size, 1, none⟩) (by simp)
            have q2 := hb1.cell (p := ⟨w.heap.size, 2, none⟩) (by simp)
            simp at q0 q1 q2
            go_wp2
            go_ret2
            exact ⟨ret_ii (by rw [HE.out]) (by rw [HE.out]), ((Below.refl _ _).alloc (Nat.le_refl _) _).trans (hb1.mono (by simp))⟩
          · clear hr
            go_enter Tryd.func19, Tryd.ntmps19
            go_wp2_with fail
            refine (HF.out _).mono ?_
            rintro e w1 ⟨rfl, hb1⟩
            have q0 := hb1.cell (p := ⟨w.heap.size, 0, none⟩) (by simp)
            have q1 := hb1.cell (p := ⟨w.heap.size, 1, none⟩) (by simp)
            have q2 := hb1.cell (p := ⟨w.heap.size, 2, none⟩) (by simp)
            simp at q0 q1 q2
            go_wp2
            go_ret2
            exact ⟨ret_ii (by rw [HE.out]) (by rw [HE.out]), ((Below.refl _ _).alloc (Nat.le_refl _) _).trans (hb1.mono (by simp))⟩
        · clear hr
          go_enter Tryd.func19, Tryd.ntmps19
          go_wp2_with fail
          refine (HF.out _).mono ?_
          rintro e w1 ⟨rfl, hb1⟩
          have q0 := hb1.cell (p := ⟨w.heap.size, 0, none⟩) (by simp)
          have q1 := hb1.cell (p := ⟨w.heap.size, 1, none⟩) (by simp)
          have q2 := hb1.cell (p := ⟨w.heap.size, 2, none⟩) (by simp)
          simp at q0 q1 q2
          go_wp2
          go_ret2
          exact ⟨ret_ii (by rw [HE.out]) (by rw [HE.out]), ((Below.refl _ _).alloc (Nat.le_refl _) _).trans (hb1.mono (by simp))⟩
      · clear hr
        go_enter Tryd.func19, Tryd.ntmps19
        go_wp2_with fail
        refine (HF.out _).mono ?_
        rintro e w1 ⟨rfl, hb1⟩
        have q0 := hb1.cell (p := ⟨w.heap.size, 0, none⟩) (by simp)
        have q1 := hb1.cell (p := ⟨w.heap.size, 1, none⟩) (by simp)
        have q2 := hb1.cell (p := ⟨w.heap.size, 2, none⟩) (by simp)
        simp at q0 q1 q2
        go_wp2
        go_ret2
        exact ⟨ret_ii (by rw [HE.out]) (by rw [HE.out]), ((Below.refl _ _).alloc (Nat.le_refl _) _).trans (hb1.mono (by simp))⟩
    · have hmx : max y 1600 = y := by omega
      rw [hmx] at HF
      have hG : -3 ≤ fst y ∧ fst y ≤ 3068040 := by have h1 := fst_bd y; have h2 := yd_bd' y hy2 (by omega); omega
      generalize fst y = G at *
      by_cases a1 : 1 ≤ k
      · by_cases a2 : k ≤ 53
        · by_cases a3 : 1 ≤ d
          · have a4 : ¬ d ≤ 7 := fun a4 => hr ⟨a1, a2, a3, a4⟩
            clear hr
            go_enter Tryd.func19, Tryd.ntmps19
            go_wp2_with fail
            refine (HF.out _).mono ?_
            rintro e w1 ⟨rfl, hb1⟩
            have q0 := hb1.cell (p := ⟨w.heap.size, 0, none⟩) (by simp)
            have q1 := hb1.cell (p := ⟨w.heap.size, 1, none⟩) (by simp)
            have q2 := hb1.cell (p := ⟨w.heap.size, 2, none⟩) (by simp)
            simp at q0 q1 q2
            go_wp2
            go_ret2
            exact ⟨ret_ii (by rw [HE.out]) (by rw [HE.out]), ((Below.refl _ _).alloc (Nat.le_refl _) _).trans (hb1.mono (by simp))⟩
          · clear hr
            go_enter Tryd.func19, Tryd.ntmps19
            go_wp2_with fail
            refine (HF.out _).mono ?_
            rintro e w1 ⟨rfl, hb1⟩
            have q0 := hb1.cell (p := ⟨w.heap.size, 0, none⟩) (by simp)
            have q1 := hb1.cell (p := ⟨w.heap.size, 1, none⟩) (by simp)
            have q2 := hb1.cell (p := ⟨w.heap.size, 2, none⟩) (by simp)
            simp at q0 q1 q2
            go_wp2
            go_ret2
            exact ⟨ret_ii (by rw [HE.out]) (by rw [HE.out]), ((Below.refl _ _).alloc (Nat.le_refl _) _).trans (hb1.mono (by simp))⟩
        · clear hr
          go_enter Tryd.func19, Tryd.ntmps19
          go_wp2_with fail
          refine (HF.out _).mono ?_
          rintro e w1 ⟨rfl, hb1⟩
          have q0 := hb1.cell (p := ⟨w.heap.size, 0, none⟩) (by simp)
          have q1 := hb1.cell (p := ⟨w.heap.size, 1, none⟩) (by simp)
          have q2 := hb1.cell (p := ⟨w.heap.size, 2, none⟩) (by simp)
          simp at q0 q1 q2
          go_wp2
          go_ret2
          exact ⟨ret_ii (by rw [HE.out]) (by rw [HE.out]), ((Below.refl _ _).alloc (Nat.le_refl _) _).trans (hb1.mono (by simp))⟩
      · clear hr
        go_enter Tryd.func19, Tryd.ntmps19
        go_wp2_with fail
        refine (HF.out _).mono ?_
        rintro e w1 ⟨rfl, hb1⟩
        have q0 := hb1.cell (p := ⟨w.heap.size, 0, none⟩) (by simp)
        have q1 := hb1.cell (p := ⟨w.heap.size, 1, none⟩) (by simp)
        have q2 := hb1.cell (p := ⟨w.heap.size, 2, none⟩) (by simp)
        simp at q0 q1 q2
        go_wp2
        go_ret2
        exact ⟨ret_ii (by rw [HE.out]) (by rw [HE.out]), ((Below.refl _ _).alloc (Nat.le_refl _) _).trans (hb1.mono (by simp))⟩

end Go.Proofs.YtbeciinkecmbaaaDoor
