/- Layer 2 (wide), the reference: the walks of Of, Fit, cmp. -/
import Derived.Test.YtmgoagncbmonlaaDoorWideY
set_option linter.unusedVariables false
set_option linter.unusedSimpArgs false
set_option maxRecDepth 100000
namespace Go.Proofs.YtmgoagncbmonlaaDoor
open Go.RowKit

theorem wideZ_one (w : World) : WideBlk (w.alloc wideZ) w.heap.size 0 0 := heap_alloc_new w _
theorem wide_below {w W : World} {g : Nat} (h : Below w.heap.size w W) (hg : w.heap.size ≤ g) (v0 v1 : Value) : Below w.heap.size w ((W.setCell ⟨g, 0, none⟩ v0).setCell ⟨g, 1, none⟩ v1) := (h.setCell hg _).setCell hg _
theorem sg_abs (a : Int) : sgN (decide (a < 0)) a.natAbs = a := by
  unfold sgN
  by_cases h : a < 0
  · rw [decide_eq_true h]; simp; omega
  · rw [decide_eq_false h]; simp; omega

set_option maxHeartbeats 4000000 in
theorem r02_Of (a : Int) (ha : fit a) (w : World) :
    Calls Tryd.prog 18 #[.int .i64 a] w fun e w' => e = .returned (wV a) ∧ Below w.heap.size w w' := by
  have HS := Lib.hid (fun W => r01_Size a ha W)
  unfold fit at ha
  have hP := fun W => r02_put (decide (a < 0)) 0 a.natAbs (by omega) (by omega) W
  have hK := fun W => r02_back (decide (a < 0)) a.natAbs (by omega) W
  rw [sg_abs] at hK
  simp only [Nat.zero_mul, Nat.zero_add] at hP
  rw [show ((0 : Nat) : Int) = 0 from rfl] at hP
  have HB := Lib.hid (below_al w wideZ)
  have HZ := Lib.hid (wideZ_one w)
  unfold wideZ at HB HZ
  unfold wV at *
  unfold nV at *
  generalize wHi a = vh at *
  generalize wLo a = vl at *
  generalize dg a.natAbs = D at *
  generalize ((a.natAbs : Nat) : Int) = N at *
  clear ha
  generalize hQ : (fun (e : Ending) (w' : World) => e = Ending.returned (.agg #[.int .i64 vh, .int .u64 vl]) ∧ Below w.heap.size w w') = Q
  have HQ := Lib.hid hQ
  clear hQ
  by_cases h : a < 0
  · rw [decide_eq_true h] at hP hK
    have HP := Lib.hid hP
    have HK := Lib.hid hK
    clear hP hK
    (go_enter Tryd.func18, Tryd.ntmps18; go_wp2_with fail; refine (HS.out _).mono ?_; rintro e w1 ⟨rfl, hw1⟩; subst hw1; go_wp2_with fail; refine (HP.out _).mono ?_; rintro e w2 ⟨rfl, hb2⟩; have HB2 := Lib.hid (HB.out.trans (hb2.mono HB.out.size)); have HZ2 := Lib.hid (HZ.out.keep (hb2.mono (Nat.le_refl _))); clear hb2; go_wp2_with fail; refine (HK.out _).mono ?_; rintro e w3 ⟨rfl, hb3⟩; have HB3 := Lib.hid (HB2.out.trans (hb3.mono HB2.out.size)); have hz := HZ2.out.keep (hb3.mono (Nat.le_refl _)); have q0 := Joins.unfrozen_of_block hz 0; have q1 := Joins.unfrozen_of_block hz 1; have r0 := Joins.cell_of_block hz 0; have r1 := Joins.cell_of_block hz 1; have hlt := (Array.getElem?_eq_some_iff.1 hz).1; clear hb3 hz; go_wp2_with fail; refine bodyPost_ret (v := .agg #[.int .i64 vh, .int .u64 vl]) (by simp [results, Tryd.results18, go_sem, *]) rfl ?_; rw [← HQ.out]; have hb4 := wide_below HB3.out (Nat.le_refl _) (.int .i64 vh) (.int .u64 vl); exact ⟨rfl, hb4.alloc hb4.size _⟩)
  · rw [decide_eq_false h] at hP hK
    have HP := Lib.hid hP
    have HK := Lib.hid hK
    clear hP hK
    (go_enter Tryd.func18, Tryd.ntmps18; go_wp2_with fail; refine (HS.out _).mono ?_; rintro e w1 ⟨rfl, hw1⟩; subst hw1; go_wp2_with fail; refine (HP.out _).mono ?_; rintro e w2 ⟨rfl, hb2⟩; have HB2 := Lib.hid (HB.out.trans (hb2.mono HB.out.size)); have HZ2 := Lib.hid (HZ.out.keep (hb2.mono (Nat.le_refl _))); clear hb2; go_wp2_with fail; refine (HK.out _).mono ?_; rintro e w3 ⟨rfl, hb3⟩; have HB3 := Lib.hid (HB2.out.trans (hb3.mono HB2.out.size)); have hz := HZ2.out.keep (hb3.mono (Nat.le_refl _)); have q0 := Joins.unfrozen_of_block hz 0; have q1 := Joins.unfrozen_of_block hz 1; have r0 := Joins.cell_of_block hz 0; have r1 := Joins.cell_of_block hz 1; have hlt := (Array.getElem?_eq_some_iff.1 hz).1; clear hb3 hz; go_wp2_with fail; refine bodyPost_ret (v := .agg #[.int .i64 vh, .int .u64 vl]) (by simp [results, Tryd.results18, go_sem, *]) rfl ?_; rw [← HQ.out]; have hb4 := wide_below HB3.out (Nat.le_refl _) (.int .i64 vh) (.int .u64 vl); exact ⟨rfl, hb4.alloc hb4.size _⟩)

set_option maxHeartbeats 4000000 in
theorem r02_Fit (v : Int) (h1 : -170141183460469231731687303715884105728 < v) (h2 : v < 170141183460469231731687303715884105728) (w : World) :
    Calls Tryd.prog 15 #[wV v] w fun e w' => e = .returned (.tuple #[.int .i64 (if fit v then v else 0), .int .i64 (if fit v then 0 else 2)]) ∧ Below w.heap.size w w' := by
  have HO := Lib.hid (fun W => r02_of v (by omega) h2 W)
  have HW := Lib.hid (fun W => r02_words (decide (v < 0)) v.natAbs (by omega) W)
  have HB := Lib.hid (below_al w (.cells #[.int .i64 (wHi v), .int .u64 (wLo v)] 41))
  obtain ⟨x, hx⟩ : ∃ x : Int, ((v.natAbs / 18446744073709551616 : Nat) : Int) = x := ⟨_, rfl⟩
  obtain ⟨y, hy⟩ : ∃ y : Int, ((v.natAbs % 18446744073709551616 : Nat) : Int) = y := ⟨_, rfl⟩
  rw [hx, hy] at HW
  unfold wV at HO ⊢
  unfold nV at *
  generalize wHi v = vh at *
  generalize wLo v = vl at *
  generalize dg v.natAbs = D at *
  by_cases hf : fit v
  · simp only [if_pos hf]
    unfold fit at hf
    obtain rfl : x = 0 := by omega
    by_cases hv : v < 0
    · rw [decide_eq_true hv] at *
      have a1 : (0 : Int) < y := by omega
      have a2 : ¬ (9223372036854775808 < y) := by omega
      obtain ⟨b1, hb1⟩ : ∃ b1, (y == 9223372036854775808) = b1 := ⟨_, rfl⟩
      obtain ⟨c1, hc1⟩ : ∃ c : Int, c = y - 1 := ⟨_, rfl⟩
      obtain ⟨c2, hc2⟩ : ∃ c : Int, c = -c1 := ⟨_, rfl⟩
      have k1 : IntKind.u64.wrap (y - 1) = c1 := by rw [IntKind.wrap_u64]; omega
      have k2 : IntKind.i64.wrap c1 = c1 := by rw [IntKind.wrap_i64]; omega
      have k3 : IntKind.i64.wrap (-c1) = c2 := by rw [IntKind.wrap_i64]; omega
      have k4 : IntKind.i64.wrap (c2 - 1) = v := by rw [IntKind.wrap_i64]; omega
      by_cases hy63 : y = 9223372036854775808
      · have b2 : (y == 9223372036854775808) = true := by rw [hy63]; rfl
        clear hx hy h1 h2 hf hv hc1 hc2 hb1 hy63
        (go_enter Tryd.func15, Tryd.ntmps15; go_wp2_with fail; refine (HO.out _).mono ?_; rintro e w1 ⟨rfl, hb1⟩; have HB1 := Lib.hid (HB.out.trans (hb1.mono HB.out.size)); clear hb1; go_wp2_with fail; refine (HW.out _).mono ?_; rintro e w2 ⟨rfl, hb2⟩; have n0 := Joins.cell_of_block ((hb2.block w1.heap.size (by simp)).trans (heap_alloc_new w1 _)) 0; have HB2 := Lib.hid ((HB1.out.alloc HB1.out.size _).trans (hb2.mono (HB1.out.alloc HB1.out.size _).size)); clear hb2; go_wp2_with fail; go_ret2; exact ⟨by first | trivial | rfl, HB2.out⟩)
      · have b2 : (y == 9223372036854775808) = false := beq_false_of_ne hy63
        clear hx hy h1 h2 hf hv hc1 hc2 hb1 hy63
        (go_enter Tryd.func15, Tryd.ntmps15; go_wp2_with fail; refine (HO.out _).mono ?_; rintro e w1 ⟨rfl, hb1⟩; have HB1 := Lib.hid (HB.out.trans (hb1.mono HB.out.size)); clear hb1; go_wp2_with fail; refine (HW.out _).mono ?_; rintro e w2 ⟨rfl, hb2⟩; have n0 := Joins.cell_of_block ((hb2.block w1.heap.size (by simp)).trans (heap_alloc_new w1 _)) 0; have HB2 := Lib.hid ((HB1.out.alloc HB1.out.size _).trans (hb2.mono (HB1.out.alloc HB1.out.size _).size)); clear hb2; go_wp2_with fail; go_ret2; exact ⟨by first | trivial | rfl, HB2.out⟩)
    · rw [decide_eq_false hv] at *
      have a2 : ¬ (9223372036854775808 < y) := by omega
      have b2 : (y == 9223372036854775808) = false := beq_false_of_ne (by omega)
      have k1 : IntKind.i64.wrap y = v := by rw [IntKind.wrap_i64]; omega
      clear hx hy h1 h2 hf hv
      (go_enter Tryd.func15, Tryd.ntmps15; go_wp2_with fail; refine (HO.out _).mono ?_; rintro e w1 ⟨rfl, hb1⟩; have HB1 := Lib.hid (HB.out.trans (hb1.mono HB.out.size)); clear hb1; go_wp2_with fail; refine (HW.out _).mono ?_; rintro e w2 ⟨rfl, hb2⟩; have n0 := Joins.cell_of_block ((hb2.block w1.heap.size (by simp)).trans (heap_alloc_new w1 _)) 0; have HB2 := Lib.hid ((HB1.out.alloc HB1.out.size _).trans (hb2.mono (HB1.out.alloc HB1.out.size _).size)); clear hb2; go_wp2_with fail; go_ret2; exact ⟨by first | trivial | rfl, HB2.out⟩)
  · simp only [if_neg hf]
    unfold fit at hf
    by_cases hx0 : 0 < x
    · clear hx hy h1 h2 hf
      cases hd : decide (v < 0) <;> (
        rw [hd] at *
        clear hd
        (go_enter Tryd.func15, Tryd.ntmps15; go_wp2_with fail; refine (HO.out _).mono ?_; rintro e w1 ⟨rfl, hb1⟩; have HB1 := Lib.hid (HB.out.trans (hb1.mono HB.out.size)); clear hb1; go_wp2_with fail; refine (HW.out _).mono ?_; rintro e w2 ⟨rfl, hb2⟩; have n0 := Joins.cell_of_block ((hb2.block w1.heap.size (by simp)).trans (heap_alloc_new w1 _)) 0; have HB2 := Lib.hid ((HB1.out.alloc HB1.out.size _).trans (hb2.mono (HB1.out.alloc HB1.out.size _).size)); clear hb2; go_wp2_with fail; go_ret2; exact ⟨by first | trivial | rfl, HB2.out⟩))
    · obtain rfl : x = 0 := by omega
      by_cases hy1 : 9223372036854775808 < y
      · clear hx hy h1 h2 hf
        cases hd : decide (v < 0) <;> (
          rw [hd] at *
          clear hd
          (go_enter Tryd.func15, Tryd.ntmps15; go_wp2_with fail; refine (HO.out _).mono ?_; rintro e w1 ⟨rfl, hb1⟩; have HB1 := Lib.hid (HB.out.trans (hb1.mono HB.out.size)); clear hb1; go_wp2_with fail; refine (HW.out _).mono ?_; rintro e w2 ⟨rfl, hb2⟩; have n0 := Joins.cell_of_block ((hb2.block w1.heap.size (by simp)).trans (heap_alloc_new w1 _)) 0; have HB2 := Lib.hid ((HB1.out.alloc HB1.out.size _).trans (hb2.mono (HB1.out.alloc HB1.out.size _).size)); clear hb2; go_wp2_with fail; go_ret2; exact ⟨by first | trivial | rfl, HB2.out⟩))
      · have hv : ¬ v < 0 := by omega
        rw [decide_eq_false hv] at *
        have b2 : (y == 9223372036854775808) = true := beq_iff_eq.2 (by omega)
        clear hx hy h1 h2 hf hv
        (go_enter Tryd.func15, Tryd.ntmps15; go_wp2_with fail; refine (HO.out _).mono ?_; rintro e w1 ⟨rfl, hb1⟩; have HB1 := Lib.hid (HB.out.trans (hb1.mono HB.out.size)); clear hb1; go_wp2_with fail; refine (HW.out _).mono ?_; rintro e w2 ⟨rfl, hb2⟩; have n0 := Joins.cell_of_block ((hb2.block w1.heap.size (by simp)).trans (heap_alloc_new w1 _)) 0; have HB2 := Lib.hid ((HB1.out.alloc HB1.out.size _).trans (hb2.mono (HB1.out.alloc HB1.out.size _).size)); clear hb2; go_wp2_with fail; go_ret2; exact ⟨by first | trivial | rfl, HB2.out⟩)

end Go.Proofs.YtmgoagncbmonlaaDoor
