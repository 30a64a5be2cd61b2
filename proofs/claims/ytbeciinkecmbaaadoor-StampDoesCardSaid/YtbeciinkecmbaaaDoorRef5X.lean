/- Layer 5, the reference: the walk of Of. -/
import Derived.Test.YtbeciinkecmbaaaDoorRef5W
import Derived.Test.YtbeciinkecmbaaaDoorWeekW
import Derived.Lib.SmallJoins
set_option linter.unusedVariables false
namespace Go.Proofs.YtbeciinkecmbaaaDoor
open Go.RowKit

/-- The memory of the reference's Of: its result, and the date. -/
def OfSt (w wr : World) (Y M : Int) : Prop := Below w.heap.size w wr ∧ w.heap.size + 1 < wr.heap.size ∧ wr.heap[w.heap.size]? = some (.cells #[.int .i64 0, .int .i64 0, .int .i64 0] 35 (0, 0)) ∧
  wr.heap[w.heap.size + 1]? = some (.cells #[.int .i64 Y, .int .i64 M, .int .i64 1] 35 (0, 0))
theorem OfSt.set {w wr : World} {Y M Y' M' : Int} (h : OfSt w wr Y M) (i : Nat) (v : Value) (hs : (#[.int .i64 Y, .int .i64 M, .int .i64 1] : Array Value).setIfInBounds i v = #[.int .i64 Y', .int .i64 M', .int .i64 1]) : OfSt w (wr.setCell ⟨w.heap.size + 1, i, none⟩ v) Y' M' := by
  refine ⟨h.1.setCell (by simp) _, by simpa using h.2.1, ?_, ?_⟩
  · rw [Below.heap_setCell _ _ _ _ (by simp)]; exact h.2.2.1
  · have := Joins.block_setCell (i := i) h.2.2.2 v
    rw [hs] at this
    exact this
theorem OfSt.facts {w wr : World} {Y M : Int} (h : OfSt w wr Y M) : wr.cell? ⟨w.heap.size + 1, 0, none⟩ = some (.int .i64 Y) ∧ wr.cell? ⟨w.heap.size + 1, 1, none⟩ = some (.int .i64 M) ∧ wr.cell? ⟨w.heap.size + 1, 2, none⟩ = some (.int .i64 1) ∧
    wr.cell? ⟨w.heap.size, 0, none⟩ = some (.int .i64 0) ∧ wr.cell? ⟨w.heap.size, 1, none⟩ = some (.int .i64 0) ∧ wr.cell? ⟨w.heap.size, 2, none⟩ = some (.int .i64 0) ∧
    (∀ i, wr.frozen? ⟨w.heap.size + 1, i, none⟩ = false) ∧ (∀ i, wr.frozen? ⟨w.heap.size, i, none⟩ = false) :=
  ⟨Joins.cell_of_block h.2.2.2 0, Joins.cell_of_block h.2.2.2 1, Joins.cell_of_block h.2.2.2 2, Joins.cell_of_block h.2.2.1 0, Joins.cell_of_block h.2.2.1 1, Joins.cell_of_block h.2.2.1 2, Joins.unfrozen_of_block h.2.2.2, Joins.unfrozen_of_block h.2.2.1⟩

theorem year_le (n Y : Int) (h1 : n < 3068037) (hY : 1600 ≤ Y) (h : yd Y ≤ n) : Y ≤ 9999 := by
  rcases (by omega : 9999 < Y ∨ Y ≤ 9999) with hl | hl
  · have := yd_mono 10000 Y (by omega) (by omega)
    rw [yd_last] at this
    omega
  · exact hl

set_option maxRecDepth 100000 in
set_option maxHeartbeats 4000000 in
theorem ref5_Of_ok (n : Int) (h0 : 0 ≤ n) (h1 : n < 3068037) (w : World) :
    Calls Tryd.prog 25 #[.int .i64 n] w (DayOf n w) := by
  have hg : decide (3068036 < n) = false := decide_eq_false (by omega)
  have h0' : ¬ n < 0 := by omega
  go_enter Tryd.func25, Tryd.ntmps25
  go_wp2_with fail
  go_loopw [0] (fun a wr => ∃ Y : Int, 1600 ≤ Y ∧ yd Y ≤ n ∧ a = .int .i64 (n - yd Y) ∧ OfSt w wr Y 1) (fun a _ => (intOf a).toNat)
  case atStart =>
    refine ⟨1600, by omega, by rw [yd_first]; exact h0, by rw [yd_first]; simp, by (repeat (first | exact Below.refl _ _ | assumption | refine Below.setCell ?_ (by first | (simp; done) | (simp; omega) | omega) _ | refine Below.alloc ?_ (by first | (simp; done) | (simp; omega) | omega) _ | refine Below.drew ?_ | refine below_drewN ?_ _ | refine Below.trans ?_ (Below.mono (by assumption) (by first | (simp; done) | (simp; omega) | omega)))), by simp, ?_, ?_⟩
    · rw [heap_alloc_old _ _ (by simp)]; exact heap_alloc_new w _
    · have := heap_alloc_new (w.alloc (.cells #[.int .i64 0, .int .i64 0, .int .i64 0] 35)) (.cells #[.int .i64 1600, .int .i64 1, .int .i64 1] 35)
      rw [show (w.alloc (.cells #[.int .i64 0, .int .i64 0, .int .i64 0] 35)).heap.size = w.heap.size + 1 by simp] at this
      exact this
  case round =>
    obtain ⟨Y, hY, hyn, rfl, hst⟩ := hrel
    have hY9 := year_le n Y h1 hY hyn
    have hyb := yd_bd Y hY (by omega)
    obtain ⟨c0, c1, c2, r0, r1, r2, fd, fr⟩ := hst.facts
    by_cases hc : 146097 ≤ n - yd Y
    · have HS := Lib.hid (hst.set (Y' := Y + 400) (M' := 1) 0 (.int .i64 (Y + 400)) rfl)
      have HY := Lib.hid (yd_400 Y)
      have HC := Lib.hid hc
      have f0 := fd 0
      clear r0 r1 r2 fd fr hst hg h0'
      go_wp2_with fail
      have hy4 := HY.out
      have hcc := HC.out
      exact ⟨⟨Y + 400, by omega, by rw [hy4]; omega, by rw [hy4]; exact val_int (by omega), HS.out⟩, by simp [intOf]; omega⟩
    · have hc' : n - yd Y < 146097 := by omega
      have HST := Lib.hid hst
      clear c0 c1 c2 r0 r1 r2 fd fr hst hg h0'
      go_wp2_with fail
      go_loopw [0] (fun a wr => ∃ Y : Int, 1600 ≤ Y ∧ yd Y ≤ n ∧ a = .int .i64 (n - yd Y) ∧ OfSt w wr Y 1) (fun a _ => (intOf a).toNat)
      case atStart => exact ⟨Y, hY, hyn, rfl, HST.out⟩
      case round =>
        clear hY hyn hY9 hyb hc hc' HST
        obtain ⟨Z, hZ, hyn, rfl, hst⟩ := hrel
        have hZ9 := year_le n Z h1 hZ hyn
        have hyb := yd_bd Z hZ (by omega)
        obtain ⟨c0, c1, c2, r0, r1, r2, fd, fr⟩ := hst.facts
        have hl := lp_01 Z
        by_cases hc : 365 + lp Z ≤ n - yd Z
        · have HS := Lib.hid (hst.set (Y' := Z + 1) (M' := 1) 0 (.int .i64 (Z + 1)) rfl)
          have HY := Lib.hid (show yd (Z + 1) = yd Z + (365 + lp Z) by rw [yd_succ Z hZ]; omega)
          have HC := Lib.hid hc
          have f0 := fd 0
          have HL := Lib.hid hl
          have hl0 : 365 ≤ 365 + lp Z := by omega
          have hl1 : 365 + lp Z ≤ 366 := by omega
          have HLong := Lib.hid (fun W => ref5_long Z hZ hZ9 W)
          clear r0 r1 r2 fd fr hst hl
          generalize 365 + lp Z = LZ at *
          go_wp2_with (go_at_call 39; refine (HLong.out _).mono ?_; rintro e w' ⟨rfl, rfl⟩)
          have hy4 := HY.out
          have hcc := HC.out
          exact ⟨⟨Z + 1, by omega, by rw [hy4]; omega, val_int (by rw [hy4]; omega), HS.out⟩, by simp [intOf]; omega⟩
        · have HLong := Lib.hid (fun W => ref5_long Z hZ hZ9 W)
          have hlen := dim_bd Z 1
          have HLen := Lib.hid (fun W => ref5_Length_ok Z 1 hZ hZ9 (by omega) (by omega) W)
          have hyr : n - yd Z < cum Z 13 := by rw [cum_end]; omega
          have HYR := Lib.hid hyr
          have HST := Lib.hid hst
          have hlo : n - yd Z < 365 + lp Z := by omega
          clear hyr r0 r1 r2 fd fr hst hl hc
          generalize hLZ : 365 + lp Z = LZ at *
          clear hLZ
          have hyn' : yd Z ≤ n := hyn
          go_wp2_with (go_at_call 39; refine (HLong.out _).mono ?_; rintro e w' ⟨rfl, rfl⟩)
          refine (HLen.out _).mono ?_
          rintro e w' ⟨rfl, rfl⟩
          go_wp2_with fail
          go_loopw [0, 5] (fun a k wr => ∃ M : Int, 1 ≤ M ∧ M ≤ 12 ∧ cum Z M ≤ n - yd Z ∧ a = .int .i64 (n - yd Z - cum Z M) ∧ k = .int .i64 (dim Z M) ∧ OfSt w wr Z M) (fun a _ _ => (intOf a).toNat)
          case atStart => exact ⟨1, by omega, by omega, by rw [cum_one]; omega, val_int (by rw [cum_one]; omega), rfl, HST.out⟩
          case round =>
            clear c0 c1 c2 HST hlen HLen hlo
            obtain ⟨M, hM1, hM2, hcm, rfl, rfl, hst⟩ := hrel
            obtain ⟨c0, c1, c2, r0, r1, r2, fd, fr⟩ := hst.facts
            have hdm := dim_bd Z M
            have hcb := cum_bd Z M hM1 (by omega)
            have hcs := cum_succ Z M hM1 hM2
            by_cases hc : dim Z M ≤ n - yd Z - cum Z M
            · have hM11 : M + 1 ≤ 12 := by
                rcases (by omega : M = 12 ∨ M + 1 ≤ 12) with h | h
                · subst h
                  have := HYR.out
                  rw [show (12 : Int) + 1 = 13 by omega] at hcs
                  omega
                · exact h
              have HS := Lib.hid (hst.set (Y' := Z) (M' := M + 1) 1 (.int .i64 (M + 1)) rfl)
              obtain ⟨d0, d1, d2, _⟩ := HS.out.facts
              have HCS := Lib.hid hcs
              have HLen := Lib.hid (fun W => ref5_Length_ok Z (M + 1) hZ hZ9 (by omega) hM11 W)
              have f1 := fd 1
              have hM0 : M + 1 ≤ 12 := hM11
              clear r0 r1 r2 fd fr hst hcs
              go_wp2_with fail
              refine (HLen.out _).mono ?_
              rintro e w' ⟨rfl, rfl⟩
              have hcc := HCS.out
              go_wp2_with fail
              exact ⟨⟨M + 1, by omega, hM11, by omega, val_int (by omega), rfl, HS.out⟩, by simp [intOf]; omega⟩
            · have hb := hst.1
              have HB := Lib.hid hb
              have f2 := fd 2
              have g0 := fr 0
              have g1 := fr 1
              have g2 := fr 2
              have hv : vld Z M (1 + (n - yd Z - cum Z M)) := ⟨hZ, hZ9, hM1, hM2, by omega, by omega⟩
              have hn : num Z M (1 + (n - yd Z - cum Z M)) = n := by unfold num; omega
              have HV := Lib.hid hv
              have HN := Lib.hid hn
              have hlow : n - yd Z - cum Z M ≤ 31 := by omega
              have hlow0 : 0 ≤ n - yd Z - cum Z M := by omega
              have hcd : decide (dim Z M ≤ n - yd Z - cum Z M) = false := decide_eq_false hc
              clear fd fr hst hcs hv hn hb
              go_wp2_with fail
              refine bodyPost_ret (v := .tuple #[.agg #[.int .i64 Z, .int .i64 M, .int .i64 (1 + (n - yd Z - cum Z M))], .int .i64 0]) (by simp [results, Tryd.results25, go_sem, *]) rfl ⟨Z, M, _, HV.out, HN.out, rfl, ?_⟩
              exact (((HB.out.setCell (by simp) _).setCell (by simp) _).setCell (by simp) _).setCell (by simp) _

theorem ref5_Of_no (n : Int) (h : n < 0 ∨ 3068037 ≤ n) (w : World) :
    Calls Tryd.prog 25 #[.int .i64 n] w fun e w' => e = .returned (.tuple #[.agg #[.int .i64 0, .int .i64 0, .int .i64 0], .int .i64 4]) ∧ Below w.heap.size w w' := by
  rcases h with h | h
  · go_enter Tryd.func25, Tryd.ntmps25
    go_wp2
    refine bodyPost_ret (v := .tuple #[.agg #[.int .i64 0, .int .i64 0, .int .i64 0], .int .i64 4]) (by simp [results, Tryd.results25, go_sem]) rfl ⟨rfl, ?_⟩
    (repeat (first | exact Below.refl _ _ | assumption | refine Below.setCell ?_ (by first | (simp; done) | (simp; omega) | omega) _ | refine Below.alloc ?_ (by first | (simp; done) | (simp; omega) | omega) _ | refine Below.drew ?_ | refine below_drewN ?_ _ | refine Below.trans ?_ (Below.mono (by assumption) (by first | (simp; done) | (simp; omega) | omega))))
  · have h0 : 0 ≤ n := by omega
    have hd : decide (3068036 < n) = true := decide_eq_true (by omega)
    go_enter Tryd.func25, Tryd.ntmps25
    go_wp2
    refine bodyPost_ret (v := .tuple #[.agg #[.int .i64 0, .int .i64 0, .int .i64 0], .int .i64 4]) (by simp [results, Tryd.results25, go_sem]) rfl ⟨rfl, ?_⟩
    (repeat (first | exact Below.refl _ _ | assumption | refine Below.setCell ?_ (by first | (simp; done) | (simp; omega) | omega) _ | refine Below.alloc ?_ (by first | (simp; done) | (simp; omega) | omega) _ | refine Below.drew ?_ | refine below_drewN ?_ _ | refine Below.trans ?_ (Below.mono (by assumption) (by first | (simp; done) | (simp; omega) | omega))))

/-- A block that lay ahead of a call. -/
theorem blk3 {W1 w2 : World} {g : Nat} {a b c : Value} {t : TypeId} (hb : Below W1.heap.size W1 w2) (h : W1.heap[g]? = some (.cells #[a, b, c] t (0, 0))) :
    w2.heap[g]? = some (.cells #[a, b, c] t (0, 0)) ∧ w2.cell? ⟨g, 0, none⟩ = some a ∧ w2.cell? ⟨g, 1, none⟩ = some b ∧ w2.cell? ⟨g, 2, none⟩ = some c ∧ w2.frozen? ⟨g, 0, none⟩ = false ∧ w2.frozen? ⟨g, 1, none⟩ = false ∧ w2.frozen? ⟨g, 2, none⟩ = false := by
  have hx : w2.heap[g]? = some (.cells #[a, b, c] t (0, 0)) := by rw [hb.block g (Array.getElem?_eq_some_iff.1 h).1]; exact h
  exact ⟨hx, Joins.cell_of_block hx 0, Joins.cell_of_block hx 1, Joins.cell_of_block hx 2, Joins.unfrozen_of_block hx 0, Joins.unfrozen_of_block hx 1, Joins.unfrozen_of_block hx 2⟩
theorem below_step {w W1 w2 : World} {B : Nat} (h : Below B w W1) (hB : B ≤ W1.heap.size) (hb : Below W1.heap.size W1 w2) : Below B w w2 := h.trans (hb.mono hB)

theorem ref6_Iso_no (n : Int) (h : n < 0 ∨ 3068037 ≤ n) (w : World) :
    Calls Tryd.prog 30 #[.int .i64 n] w fun e w' => e = .returned (.tuple #[.agg #[.int .i64 0, .int .i64 0, .int .i64 0], .int .i64 4]) ∧ Below w.heap.size w w' := by
  have H := Lib.hid (fun W => ref5_Weekday_no n h W)
  clear h
  go_enter Tryd.func30, Tryd.ntmps30
  go_wp2_with fail
  refine (H.out _).mono ?_
  rintro e w1 ⟨rfl, hb1⟩
  obtain ⟨hx, k0, k1, k2, f0, f1, f2⟩ := blk3 hb1 (heap_alloc_new w _)
  have hX : Below w.heap.size w w1 := below_step (by (repeat (first | exact Below.refl _ _ | assumption | refine Below.setCell ?_ (by first | (simp; done) | (simp; omega) | omega) _ | refine Below.alloc ?_ (by first | (simp; done) | (simp; omega) | omega) _ | refine Below.drew ?_ | refine below_drewN ?_ _ | refine Below.trans ?_ (Below.mono (by assumption) (by first | (simp; done) | (simp; omega) | omega))))) (by simp) hb1
  clear hx hb1
  go_wp2
  refine bodyPost_ret (v := .tuple #[.agg #[.int .i64 0, .int .i64 0, .int .i64 0], .int .i64 4]) (by simp [results, Tryd.results30, go_sem, *]) rfl ⟨rfl, ?_⟩
  exact ((hX.setCell (by simp) _).setCell (by simp) _).setCell (by simp) _

set_option maxRecDepth 100000 in
set_option maxHeartbeats 2000000 in
theorem ref6_Iso_ok (n : Int) (h0 : 0 ≤ n) (h1 : n < 3068037) (w : World) :
    Calls Tryd.prog 30 #[.int .i64 n] w (IsoOf n w) := by
  have HW := Lib.hid (fun W => ref5_Weekday_ok n h0 h1 W)
  have hwd := wdOf_bd n
  have hth := thu_hi n h1 h0
  by_cases ht : n + 4 - wdOf n < 0
  · have HI := Lib.hid (show IsoIs n 1599 52 (wdOf n) from ⟨rfl, .inl ⟨ht, rfl, rfl⟩⟩)
    generalize wdOf n = D at *
    go_enter Tryd.func30, Tryd.ntmps30
    go_wp2_with fail
    refine (HW.out _).mono ?_
    rintro e w1 ⟨rfl, hb1⟩
    obtain ⟨hx, k0, k1, k2, f0, f1, f2⟩ := blk3 hb1 (heap_alloc_new w _)
    have hX : Below w.heap.size w w1 := below_step (by (repeat (first | exact Below.refl _ _ | assumption | refine Below.setCell ?_ (by first | (simp; done) | (simp; omega) | omega) _ | refine Below.alloc ?_ (by first | (simp; done) | (simp; omega) | omega) _ | refine Below.drew ?_ | refine below_drewN ?_ _ | refine Below.trans ?_ (Below.mono (by assumption) (by first | (simp; done) | (simp; omega) | omega))))) (by simp) hb1
    clear hx hb1
    go_wp2
    refine bodyPost_ret (v := .tuple #[.agg #[.int .i64 1599, .int .i64 52, .int .i64 D], .int .i64 0]) (by simp [results, Tryd.results30, go_sem, *]) rfl ⟨1599, 52, D, HI.out, rfl, ?_⟩
    exact ((hX.setCell (by simp) _).setCell (by simp) _).setCell (by simp) _
  · have HO := Lib.hid (fun W => ref5_Of_ok (n + 4 - wdOf n) (by omega) hth W)
    have HI := Lib.hid (fun (y : Int) (h1 : 1600 ≤ y) (h2 : y ≤ 9999) (h3 : yd y ≤ n + 4 - wdOf n) (h4 : n + 4 - wdOf n < yd (y + 1)) => show IsoIs n y ((n + 4 - wdOf n - yd y) / 7 + 1) (wdOf n) from ⟨rfl, .inr ⟨by omega, h1, h2, h3, h4, rfl⟩⟩)
    generalize wdOf n = D at *
    go_enter Tryd.func30, Tryd.ntmps30
    go_wp2_with fail
    refine (HW.out _).mono ?_
    rintro e w1 ⟨rfl, hb1⟩
    obtain ⟨hx, k0, k1, k2, f0, f1, f2⟩ := blk3 hb1 (heap_alloc_new w _)
    have hX : Below w.heap.size w w1 := below_step (by (repeat (first | exact Below.refl _ _ | assumption | refine Below.setCell ?_ (by first | (simp; done) | (simp; omega) | omega) _ | refine Below.alloc ?_ (by first | (simp; done) | (simp; omega) | omega) _ | refine Below.drew ?_ | refine below_drewN ?_ _ | refine Below.trans ?_ (Below.mono (by assumption) (by first | (simp; done) | (simp; omega) | omega))))) (by simp) hb1
    have hz1 : w.heap.size + 1 ≤ w1.heap.size := by have := hb1.size; simpa using this
    have HX := Lib.hid hx
    clear hx hb1 k0 k1 k2 f0 f1 f2
    go_wp2_with fail
    refine (HO.out _).mono ?_
    rintro e w2 ⟨y, m, d, hv, hn, rfl, hb2⟩
    obtain ⟨hx, k0, k1, k2, f0, f1, f2⟩ := blk3 hb2 HX.out
    have hX2 := below_step hX (by omega) hb2
    have hz2 : w.heap.size + 1 ≤ w2.heap.size := by have := hb2.size; omega
    have HX2 := Lib.hid hx
    have hny := num_in_year y m d hv
    rw [hn] at hny
    have hyb := yd_bd' y hv.1 hv.2.1
    have hj := vld_jan y 1 hv.1 hv.2.1 (by omega) (by omega)
    have HF := Lib.hid (fun W => ref5_Day_ok y 1 1 hj W)
    rw [num_jan] at HF
    have HII := Lib.hid (HI.out y hv.1 hv.2.1 hny.1 hny.2)
    have HNY := Lib.hid hny
    have hy16 := hv.1
    clear hx hb2 k0 k1 k2 f0 f1 f2 hv hn hny hj
    go_wp2_with fail
    refine (HF.out _).mono ?_
    rintro e w3 ⟨rfl, hb3⟩
    obtain ⟨_, c0, c1, c2, _⟩ := blk3 hb3 (heap_alloc_new w2 _)
    obtain ⟨_, k0, k1, k2, f0, f1, f2⟩ := blk3 hb3 (show (w2.alloc (.cells #[.int .i64 y, .int .i64 m, .int .i64 d] 35)).heap[w.heap.size]? = _ by rw [heap_alloc_old _ _ (by omega)]; exact HX2.out)
    have hX3 : Below w.heap.size w w3 := below_step (hX2.alloc (by omega) _) (by simp; omega) hb3
    have hny := HNY.out
    rw [show yd y + 1 - 1 = yd y by omega]
    have hz3 := hb3.size
    simp at hz3
    have hq0 : 0 ≤ n + 4 - D - yd y := by omega
    have hq1 : n + 4 - D - yd y ≤ 366 := by have := yd_succ y hy16; have := lp_01 y; omega
    clear hny hb3 hz2 hz1
    go_wp2
    refine bodyPost_ret (v := .tuple #[.agg #[.int .i64 y, .int .i64 ((n + 4 - D - yd y) / 7 + 1), .int .i64 D], .int .i64 0]) (by simp [results, Tryd.results30, go_sem, *]) rfl ⟨y, _, D, HII.out, rfl, ?_⟩
    exact ((hX3.setCell (by simp) _).setCell (by simp) _).setCell (by simp) _

theorem run_eqlIso (W : World) (a b c x y z : Int) : (binOp .eql 39 (.agg #[.int .i64 a, .int .i64 b, .int .i64 c]) (.agg #[.int .i64 x, .int .i64 y, .int .i64 z])).run Tryd.prog W = .ok (.bool (decide (a = x ∧ b = y ∧ c = z))) W := by
  rw [run_eql_struct, run_equalIn_agg W 9999 39 _ _ (by kernel_rfl) (by kernel_rfl)]
  by_cases h1 : a = x <;> by_cases h2 : b = y <;> by_cases h3 : c = z <;> (simp [go_sem, Op.eqFields, h1, h2, h3]; done)

/-- The year's first day, as the reference's Day has it. -/
def fstR (y : Int) : Int := if y < 1600 then -365 else yd y
theorem fstR_near (y : Int) (h1 : 1599 ≤ y) (h2 : y ≤ 9999) : fstR y - 3 ≤ fst' y ∧ fst' y ≤ fstR y + 3 := by
  unfold fstR fst'
  split
  · have : fst 1600 = 2 := by decide
    omega
  · have h1 := fst_bd y
    omega

set_option maxRecDepth 100000 in
set_option maxHeartbeats 4000000 in
theorem ref6_Day_in (y k d : Int) (h1 : 1599 ≤ y) (h2 : y ≤ 9999) (h3 : 1 ≤ k) (h4 : k ≤ 53) (h5 : 1 ≤ d) (h6 : d ≤ 7) (w : World) :
    Calls Tryd.prog 31 #[.agg #[.int .i64 y, .int .i64 k, .int .i64 d]] w fun e w' => e = .returned (.tuple #[.int .i64 (isoN y k d).1, .int .i64 (isoN y k d).2]) ∧ Below w.heap.size w w' := by
  have heq := run_eqlIso
  have hfr := fstR_near y h1 h2
  have hno : (∀ z, fstR y + 7 * k - 11 ≤ z → z ≤ fstR y + 7 * k + 4 → ¬ (0 ≤ z ∧ z < 3068037 ∧ IsoIs z y k d)) → isoN y k d = (0, 4) := fun h => isoN_no y k d fun n a b c => by
    have e := iso_day n y k d a b c
    exact h n (by omega) (by omega) ⟨a, b, c⟩
  have HNO := Lib.hid hno
  have HF : Hid (∀ W, Calls Tryd.prog 28 #[.agg #[.int .i64 y, .int .i64 1, .int .i64 1]] W fun e w' => (if y < 1600 then e = .returned (.tuple #[.int .i64 0, .int .i64 4]) else e = .returned (.tuple #[.int .i64 (yd y), .int .i64 0])) ∧ Below W.heap.size W w') := Lib.hid fun W => by
    by_cases hy : y < 1600
    · simp only [if_pos hy]
      exact ref5_Day_no y 1 1 (fun h => by have := h.1; omega) W
    · simp only [if_neg hy]
      have := ref5_Day_ok y 1 1 (vld_jan y 1 (by omega) h2 (by omega) (by omega)) W
      rw [num_jan, show yd y + 1 - 1 = yd y by omega] at this
      exact this
  have hyb : -365 ≤ fstR y ∧ fstR y ≤ 3068037 := by
    unfold fstR
    split
    · omega
    · have := yd_bd' y (by omega) h2; omega
  obtain ⟨hyb0, hyb1⟩ := hyb
  clear hno hfr
  by_cases hy : y < 1600
  · have hfy : fstR y = -365 := if_pos hy
    have HFY := Lib.hid hfy
    simp only [if_pos hy] at HF
    clear hfy
    go_enter Tryd.func31, Tryd.ntmps31
    go_wp2_with fail
    refine (HF.out _).mono ?_
    rintro e w1 ⟨rfl, hb1⟩
    obtain ⟨hx, k0, k1, k2, f0, f1, f2⟩ := blk3 hb1 (heap_alloc_new w _)
    have hX : Below w.heap.size w w1 := below_step (by (repeat (first | exact Below.refl _ _ | assumption | refine Below.setCell ?_ (by first | (simp; done) | (simp; omega) | omega) _ | refine Below.alloc ?_ (by first | (simp; done) | (simp; omega) | omega) _ | refine Below.drew ?_ | refine below_drewN ?_ _ | refine Below.trans ?_ (Below.mono (by assumption) (by first | (simp; done) | (simp; omega) | omega))))) (by simp) hb1
    have hz1 : w.heap.size < w1.heap.size := by have := hb1.size; simp at this; omega
    clear hx hb1 f0 f1 f2
    go_wp2_with fail
    go_loopw [6] (fun a wr => ∃ X : Int, -365 + 7 * k - 11 ≤ X ∧ X ≤ -365 + 7 * k + 5 ∧ a = .int .i64 X ∧ Below w1.heap.size w1 wr ∧ (∀ z, fstR y + 7 * k - 11 ≤ z → z < X → ¬ (0 ≤ z ∧ z < 3068037 ∧ IsoIs z y k d))) (fun a _ => (-365 + 7 * k + 5 - intOf a).toNat)
    case atStart => exact ⟨-365 + 7 * k - 11, by omega, by omega, rfl, Below.refl _ _, fun z a b => by rw [HFY.out] at a; omega⟩
    case round =>
      obtain ⟨X, hX0, hX1, rfl, hB, hall⟩ := hrel
      have c0 := (hB.cell (p := ⟨w.heap.size, 0, none⟩) hz1).trans k0
      have c1 := (hB.cell (p := ⟨w.heap.size, 1, none⟩) hz1).trans k1
      have c2 := (hB.cell (p := ⟨w.heap.size, 2, none⟩) hz1).trans k2
      have hbs := hB.size
      have HALL := Lib.hid hall
      have HB := Lib.hid hB
      have HXX := Lib.hid hX
      clear hall k0 k1 k2
      by_cases hc : X ≤ -365 + 7 * k + 4
      · by_cases hr : 0 ≤ X ∧ X < 3068037
        · have HI := Lib.hid (fun W => ref6_Iso_ok X hr.1 hr.2 W)
          have HR := Lib.hid hr
          clear hr hB hX
          go_wp2_with fail
          refine (HI.out _).mono ?_
          rintro e w2 ⟨y', k', d', hi, rfl, hb2⟩
          have e0 := (hb2.cell (p := ⟨w.heap.size, 0, none⟩) (by show w.heap.size < wr.heap.size; omega)).trans c0
          have e1 := (hb2.cell (p := ⟨w.heap.size, 1, none⟩) (by show w.heap.size < wr.heap.size; omega)).trans c1
          have e2 := (hb2.cell (p := ⟨w.heap.size, 2, none⟩) (by show w.heap.size < wr.heap.size; omega)).trans c2
          have hz2 := hb2.size
          have hlt2 : w.heap.size < w2.heap.size := by omega
          have HB2 := Lib.hid ((below_step HB.out (by omega) hb2).alloc (by omega) (.cells #[.int .i64 y', .int .i64 k', .int .i64 d'] 39))
          clear c0 c1 c2 hb2
          by_cases hq : y' = y ∧ k' = k ∧ d' = d
          · obtain ⟨rfl, rfl, rfl⟩ := hq
            have HE := Lib.hid (isoN_of X _ _ _ HR.out.1 HR.out.2 hi)
            clear hi
            go_wp2_with fail
            go_ret2
            exact ⟨ret_ii (by rw [HE.out]) (by rw [HE.out]), HXX.out.trans (HB2.out.mono (Nat.le_of_lt hz1))⟩
          · have hq1 : decide (y' = y ∧ k' = k ∧ d' = d) = false := decide_eq_false hq
            have hni : ¬ (0 ≤ X ∧ X < 3068037 ∧ IsoIs X y k d) := fun h => hq (iso_uniq X y' k' d' y k d hi h.2.2)
            have HNI := Lib.hid hni
            have HQ := Lib.hid hq
            clear hi hq hni
            go_wp2_with fail
            exact ⟨⟨X + 1, by omega, by omega, rfl, HB2.out, fun z a b c => by
              rcases (by omega : z < X ∨ z = X) with h | h
              · exact HALL.out z a h c
              · subst h; exact HNI.out c⟩, by simp [intOf]; omega⟩
        · have HI := Lib.hid (fun W => ref6_Iso_no X (by omega) W)
          have HR := Lib.hid hr
          clear hr hB hX
          go_wp2_with fail
          refine (HI.out _).mono ?_
          rintro e w2 ⟨rfl, hb2⟩
          have HB2 := Lib.hid ((below_step HB.out (by omega) hb2).alloc (by have := hb2.size; omega) (.cells #[.int .i64 0, .int .i64 0, .int .i64 0] 39))
          clear c0 c1 c2 hb2
          go_wp2_with fail
          exact ⟨⟨X + 1, by omega, by omega, rfl, HB2.out, fun z a b c => by
            rcases (by omega : z < X ∨ z = X) with h | h
            · exact HALL.out z a h c
            · subst h; exact HR.out ⟨c.1, c.2.1⟩⟩, by simp [intOf]; omega⟩
      · have HE := Lib.hid (HNO.out fun z a b c => HALL.out z a (by rw [HFY.out] at b; omega) c)
        have hc' : decide (X ≤ -365 + 7 * k + 4) = false := decide_eq_false hc
        clear hB hX
        go_wp2_with fail
        go_ret2
        exact ⟨ret_ii (by rw [HE.out]) (by rw [HE.out]), HXX.out.trans (HB.out.mono (Nat.le_of_lt hz1))⟩
  · have hfy : fstR y = yd y := if_neg hy
    have HFY := Lib.hid hfy
    simp only [if_neg hy] at HF
    rw [hfy] at hyb0 hyb1
    clear hfy
    go_enter Tryd.func31, Tryd.ntmps31
    go_wp2_with fail
    refine (HF.out _).mono ?_
    rintro e w1 ⟨rfl, hb1⟩
    obtain ⟨hx, k0, k1, k2, f0, f1, f2⟩ := blk3 hb1 (heap_alloc_new w _)
    have hX : Below w.heap.size w w1 := below_step (by (repeat (first | exact Below.refl _ _ | assumption | refine Below.setCell ?_ (by first | (simp; done) | (simp; omega) | omega) _ | refine Below.alloc ?_ (by first | (simp; done) | (simp; omega) | omega) _ | refine Below.drew ?_ | refine below_drewN ?_ _ | refine Below.trans ?_ (Below.mono (by assumption) (by first | (simp; done) | (simp; omega) | omega))))) (by simp) hb1
    have hz1 : w.heap.size < w1.heap.size := by have := hb1.size; simp at this; omega
    clear hx hb1 f0 f1 f2
    go_wp2_with fail
    go_loopw [6] (fun a wr => ∃ X : Int, yd y + 7 * k - 11 ≤ X ∧ X ≤ yd y + 7 * k + 5 ∧ a = .int .i64 X ∧ Below w1.heap.size w1 wr ∧ (∀ z, fstR y + 7 * k - 11 ≤ z → z < X → ¬ (0 ≤ z ∧ z < 3068037 ∧ IsoIs z y k d))) (fun a _ => (yd y + 7 * k + 5 - intOf a).toNat)
    case atStart => exact ⟨yd y + 7 * k - 11, by omega, by omega, rfl, Below.refl _ _, fun z a b => by rw [HFY.out] at a; omega⟩
    case round =>
      obtain ⟨X, hX0, hX1, rfl, hB, hall⟩ := hrel
      have c0 := (hB.cell (p := ⟨w.heap.size, 0, none⟩) hz1).trans k0
      have c1 := (hB.cell (p := ⟨w.heap.size, 1, none⟩) hz1).trans k1
      have c2 := (hB.cell (p := ⟨w.heap.size, 2, none⟩) hz1).trans k2
      have hbs := hB.size
      have HALL := Lib.hid hall
      have HB := Lib.hid hB
      have HXX := Lib.hid hX
      clear hall k0 k1 k2
      by_cases hc : X ≤ yd y + 7 * k + 4
      · by_cases hr : 0 ≤ X ∧ X < 3068037
        · have HI := Lib.hid (fun W => ref6_Iso_ok X hr.1 hr.2 W)
          have HR := Lib.hid hr
          clear hr hB hX
          go_wp2_with fail
          refine (HI.out _).mono ?_
          rintro e w2 ⟨y', k', d', hi, rfl, hb2⟩
          have e0 := (hb2.cell (p := ⟨w.heap.size, 0, none⟩) (by show w.heap.size < wr.heap.size; omega)).trans c0
          have e1 := (hb2.cell (p := ⟨w.heap.size, 1, none⟩) (by show w.heap.size < wr.heap.size; omega)).trans c1
          have e2 := (hb2.cell (p := ⟨w.heap.size, 2, none⟩) (by show w.heap.size < wr.heap.size; omega)).trans c2
          have hz2 := hb2.size
          have hlt2 : w.heap.size < w2.heap.size := by omega
          have HB2 := Lib.hid ((below_step HB.out (by omega) hb2).alloc (by omega) (.cells #[.int .i64 y', .int .i64 k', .int .i64 d'] 39))
          clear c0 c1 c2 hb2
          by_cases hq : y' = y ∧ k' = k ∧ d' = d
          · obtain ⟨rfl, rfl, rfl⟩ := hq
            have HE := Lib.hid (isoN_of X _ _ _ HR.out.1 HR.out.2 hi)
            clear hi
            go_wp2_with fail
            go_ret2
            exact ⟨ret_ii (by rw [HE.out]) (by rw [HE.out]), HXX.out.trans (HB2.out.mono (Nat.le_of_lt hz1))⟩
          · have hq1 : decide (y' = y ∧ k' = k ∧ d' = d) = false := decide_eq_false hq
            have hni : ¬ (0 ≤ X ∧ X < 3068037 ∧ IsoIs X y k d) := fun h => hq (iso_uniq X y' k' d' y k d hi h.2.2)
            have HNI := Lib.hid hni
            have HQ := Lib.hid hq
            clear hi hq hni
            go_wp2_with fail
            exact ⟨⟨X + 1, by omega, by omega, rfl, HB2.out, fun z a b c => by
              rcases (by omega : z < X ∨ z = X) with h | h
              · exact HALL.out z a h c
              · subst h; exact HNI.out c⟩, by simp [intOf]; omega⟩
        · have HI := Lib.hid (fun W => ref6_Iso_no X (by omega) W)
          have HR := Lib.hid hr
          clear hr hB hX
          go_wp2_with fail
          refine (HI.out _).mono ?_
          rintro e w2 ⟨rfl, hb2⟩
          have HB2 := Lib.hid ((below_step HB.out (by omega) hb2).alloc (by have := hb2.size; omega) (.cells #[.int .i64 0, .int .i64 0, .int .i64 0] 39))
          clear c0 c1 c2 hb2
          go_wp2_with fail
          exact ⟨⟨X + 1, by omega, by omega, rfl, HB2.out, fun z a b c => by
            rcases (by omega : z < X ∨ z = X) with h | h
            · exact HALL.out z a h c
            · subst h; exact HR.out ⟨c.1, c.2.1⟩⟩, by simp [intOf]; omega⟩
      · have HE := Lib.hid (HNO.out fun z a b c => HALL.out z a (by rw [HFY.out] at b; omega) c)
        have hc' : decide (X ≤ yd y + 7 * k + 4) = false := decide_eq_false hc
        clear hB hX
        go_wp2_with fail
        go_ret2
        exact ⟨ret_ii (by rw [HE.out]) (by rw [HE.out]), HXX.out.trans (HB.out.mono (Nat.le_of_lt hz1))⟩

theorem ref6_Day (y k d : Int) (w : World) :
    Calls Tryd.prog 31 #[.agg #[.int .i64 y, .int .i64 k, .int .i64 d]] w fun e w' => e = .returned (.tuple #[.int .i64 (isoN y k d).1, .int .i64 (isoN y k d).2]) ∧ Below w.heap.size w w' := by
  by_cases h : 1599 ≤ y ∧ y ≤ 9999 ∧ 1 ≤ k ∧ k ≤ 53 ∧ 1 ≤ d ∧ d ≤ 7
  · exact ref6_Day_in y k d h.1 h.2.1 h.2.2.1 h.2.2.2.1 h.2.2.2.2.1 h.2.2.2.2.2 w
  · have HE := Lib.hid (isoN_no y k d fun n a b c => h (iso_bd n y k d a b c))
    have hcase : y < 1599 ∨ (1599 ≤ y ∧ 9999 < y) ∨ (1599 ≤ y ∧ y ≤ 9999 ∧ k < 1) ∨ (1599 ≤ y ∧ y ≤ 9999 ∧ 1 ≤ k ∧ 53 < k) ∨ (1599 ≤ y ∧ y ≤ 9999 ∧ 1 ≤ k ∧ k ≤ 53 ∧ d < 1) ∨ (1599 ≤ y ∧ y ≤ 9999 ∧ 1 ≤ k ∧ k ≤ 53 ∧ 1 ≤ d ∧ 7 < d) := by omega
    clear h
    rcases hcase with h | ⟨h1, h⟩ | ⟨h1, h2, h⟩ | ⟨h1, h2, h3, h⟩ | ⟨h1, h2, h3, h4, h⟩ | ⟨h1, h2, h3, h4, h5, h⟩
    all_goals
      go_enter Tryd.func31, Tryd.ntmps31
      go_wp2
      go_ret2
      exact ⟨ret_ii (by rw [HE.out]) (by rw [HE.out]), by (repeat (first | exact Below.refl _ _ | assumption | refine Below.setCell ?_ (by first | (simp; done) | (simp; omega) | omega) _ | refine Below.alloc ?_ (by first | (simp; done) | (simp; omega) | omega) _ | refine Below.drew ?_ | refine below_drewN ?_ _ | refine Below.trans ?_ (Below.mono (by assumption) (by first | (simp; done) | (simp; omega) | omega))))⟩

end Go.Proofs.YtbeciinkecmbaaaDoor
