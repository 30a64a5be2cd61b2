/- Layer 2 (wide), the reference: the walks of words, of, back, Of, Fit. -/
import Derived.Test.YtmgoagncbmonlaaDoorWideW
set_option linter.unusedVariables false
set_option linter.unusedSimpArgs false
set_option maxRecDepth 100000
namespace Go.Proofs.YtmgoagncbmonlaaDoor
open Go.RowKit

def wV (v : Int) : Value := .agg #[.int .i64 (wHi v), .int .u64 (wLo v)]
theorem below_al (w : World) (o : Obj) : Below w.heap.size w (w.alloc o) := (Below.refl _ _).alloc (Nat.le_refl _) o
theorem ret_uu {a b c d : Int} (h : a = b) (h' : c = d) : Ending.returned (.tuple #[.int .u64 a, .int .u64 c]) = .returned (.tuple #[.int .u64 b, .int .u64 d]) := by rw [h, h']

set_option maxHeartbeats 4000000 in
theorem r02_words (b : Bool) (m : Nat) (hm : m < 340282366920938463463374607431768211456) (w : World) :
    Calls Tryd.prog 29 #[nV b (dg m)] w fun e w' => e = .returned (.tuple #[.int .u64 ((m / 18446744073709551616 : Nat) : Int), .int .u64 ((m % 18446744073709551616 : Nat) : Int)]) ∧ Below w.heap.size w w' := by
  have hH : m / 18446744073709551616 < 18446744073709551616 := by omega
  have hL : m % 18446744073709551616 < 18446744073709551616 := by omega
  have HH := Lib.hid hH
  have HL := Lib.hid hL
  have HDH := Lib.hid (fun i hi => dg_high m i hi)
  have HDL := Lib.hid (fun i hi => dg_low m i hi)
  generalize m / 18446744073709551616 = h at *
  generalize m % 18446744073709551616 = l at *
  generalize dg m = D at *
  clear hm hH hL
  unfold nV
  go_enter Tryd.func29, Tryd.ntmps29
  go_wp2_with fail
  have HX : Hid (NumBlk (w.alloc (.cells #[.bool b, .int .u64 (D 0), .int .u64 (D 1), .int .u64 (D 2), .int .u64 (D 3), .int .u64 (D 4), .int .u64 (D 5), .int .u64 (D 6), .int .u64 (D 7)] 62)) w.heap.size b D) := Lib.hid (heap_alloc_new w _)
  have HB := Lib.hid (below_al w (.cells #[.bool b, .int .u64 (D 0), .int .u64 (D 1), .int .u64 (D 2), .int .u64 (D 3), .int .u64 (D 4), .int .u64 (D 5), .int .u64 (D 6), .int .u64 (D 7)] 62))
  generalize World.alloc w _ = W at *
  generalize hg : w.heap.size = g at *
  have HG := Lib.hid hg
  clear hg
  go_loopw [4, 5, 6] (fun hi lo i wr => ∃ k : Nat, k ≤ 4 ∧ i = .int .i64 ((k : Int) - 1) ∧ hi = .int .u64 (off h k) ∧ lo = .int .u64 (off l k) ∧ wr = W) (fun _ _ i _ => (intOf i + 1).toNat)
  case atStart => exact ⟨4, by omega, rfl, by rw [off_4 h HH.out]; rfl, by rw [off_4 l HL.out]; rfl, rfl⟩
  case round =>
    obtain ⟨k, hk, hi, rfl, rfl, hwr⟩ := hrel
    subst hwr
    rcases Nat.eq_zero_or_pos k with h0 | h0
    · subst h0
      subst hi
      have e1 := off_zero h
      have e2 := off_zero l
      have E := Lib.hid (And.intro e1 e2)
      clear e1 e2
      go_wp2_with fail
      go_ret2
      exact ⟨ret_uu (by rw [E.out.1]) (by rw [E.out.2]), by rw [HG.out]; exact HB.out⟩
    · obtain ⟨j, rfl⟩ : ∃ j, k = j + 1 := ⟨k - 1, by omega⟩
      rw [show ((j + 1 : Nat) : Int) - 1 = j by omega] at hi
      subst hi
      have u1 := off_up l j
      have u2 := off_up h j
      rw [← HDL.out j (by omega)] at u1
      rw [← HDH.out j (by omega)] at u2
      have hl1 := off_le l j
      have hh1 := off_le h j
      have hL := HL.out
      have hH := HH.out
      have lk0 : (0 : Int) ≤ j := by omega
      have lk8 : (j : Int) < 8 := by omega
      have lq0 : (0 : Int) ≤ 4 + (j : Int) := by omega
      have lq8 : 4 + (j : Int) < 8 := by omega
      have w1f : IntKind.i64.wrap ((j : Int) - 1) = (j : Int) - 1 := by rw [IntKind.wrap_i64]; omega
      have w4f : IntKind.i64.wrap (4 + (j : Int)) = 4 + (j : Int) := by rw [IntKind.wrap_i64]; omega
      have n4 : (4 + (j : Int)).toNat = 4 + j := by omega
      have ck := HX.out.cell j (by omega)
      have ck4 := HX.out.cell (4 + j) (by omega)
      have m1 : IntKind.u64.wrap ((off l (j + 1) : Nat) * 65536) = (off l (j + 1) : Nat) * 65536 := by rw [IntKind.wrap_u64]; omega
      have m2 : IntKind.u64.wrap ((off h (j + 1) : Nat) * 65536) = (off h (j + 1) : Nat) * 65536 := by rw [IntKind.wrap_u64]; omega
      have s1 : IntKind.u64.wrap ((off l (j + 1) : Nat) * 65536 + (D j : Nat)) = (off l j : Nat) := by rw [IntKind.wrap_u64]; omega
      have s2 : IntKind.u64.wrap ((off h (j + 1) : Nat) * 65536 + (D (4 + j) : Nat)) = (off h j : Nat) := by rw [IntKind.wrap_u64]; omega
      clear u1 u2 hl1 hh1 hL hH
      go_wp2_with fail
      exact ⟨⟨j, by omega, by first | trivial | rfl, by first | trivial | rfl, by first | trivial | rfl, by first | trivial | rfl⟩, by first | (simp [intOf]; done) | (simp [intOf]; omega)⟩

def numZ : Obj := .cells #[.bool false, .int .u64 0, .int .u64 0, .int .u64 0, .int .u64 0, .int .u64 0, .int .u64 0, .int .u64 0, .int .u64 0] 62
theorem numZ_two (w : World) (o : Obj) : NumBlk ((w.alloc o).alloc numZ) (w.heap.size + 1) false (fun _ => 0) := by
  have := heap_alloc_new (w.alloc o) numZ
  simpa [NumBlk, numZ] using this
theorem below_two (w : World) (o o2 : Obj) : Below w.heap.size w ((w.alloc o).alloc o2) := ((Below.refl _ _).alloc (Nat.le_refl _) o).alloc (by simp) o2
theorem num_back {w W : World} {g : Nat} (h : Below w.heap.size w W) (hg : w.heap.size ≤ g) (D : Nat → Nat) (b : Bool) :
    Below w.heap.size w (((((((((W.setCell ⟨g, 0, none⟩ (.bool b)).setCell ⟨g, 1, none⟩ (.int .u64 (D 0))).setCell ⟨g, 2, none⟩ (.int .u64 (D 1))).setCell ⟨g, 3, none⟩ (.int .u64 (D 2))).setCell ⟨g, 4, none⟩ (.int .u64 (D 3))).setCell ⟨g, 5, none⟩ (.int .u64 (D 4))).setCell ⟨g, 6, none⟩ (.int .u64 (D 5))).setCell ⟨g, 7, none⟩ (.int .u64 (D 6))).setCell ⟨g, 8, none⟩ (.int .u64 (D 7))) :=
  num_below h hg _ _ _ _ _ _ _ _ _

set_option maxHeartbeats 4000000 in
theorem r02_of (v : Int) (h1 : -170141183460469231731687303715884105728 ≤ v) (h2 : v < 170141183460469231731687303715884105728) (w : World) :
    Calls Tryd.prog 28 #[wV v] w fun e w' => e = .returned (nV (decide (v < 0)) (dg v.natAbs)) ∧ Below w.heap.size w w' := by
  unfold wV
  obtain ⟨L, hL, hL2⟩ : ∃ L : Nat, wLo v = L ∧ L < 18446744073709551616 := ⟨(wLo v).toNat, by unfold wLo; omega, by unfold wLo; omega⟩
  by_cases hv : 0 ≤ v
  · obtain ⟨H, hH, hH2⟩ : ∃ H : Nat, wHi v = H ∧ H < 9223372036854775808 := ⟨(wHi v).toNat, by unfold wHi; omega, by unfold wHi; omega⟩
    have he : v.natAbs = H * 18446744073709551616 + L := by unfold wHi at hH; unfold wLo at hL; omega
    have hP := fun W => r02_put false H L (by omega) hL2 W
    rw [← he] at hP
    rw [hH, hL, decide_eq_false (by omega)]
    have HP := Lib.hid hP
    have HU : IntKind.u64.wrap (H : Int) = H := wrap_u (by omega)
    have lt : (0 : Int) ≤ H := by omega
    have HB := Lib.hid (below_two w (.cells #[.int .i64 (H : Int), .int .u64 (L : Int)] 41) numZ)
    have HZ := Lib.hid (numZ_two w (.cells #[.int .i64 (H : Int), .int .u64 (L : Int)] 41))
    unfold numZ at HB HZ
    clear hP he hH hL h1 h2 hv
    generalize dg v.natAbs = D at *
    unfold nV at HP
    go_enter Tryd.func28, Tryd.ntmps28
    go_wp2_with fail
    refine (HP.out _).mono ?_
    rintro e w1 ⟨rfl, hb⟩
    (have hz := HZ.out.keep (hb.mono (Nat.le_refl _)); have HB1 := Lib.hid (HB.out.trans (hb.mono HB.out.size)); obtain ⟨q0, q1, q2, q3, q4, q5, q6, q7, q8⟩ := hz.u9; obtain ⟨r0, r1, r2, r3, r4, r5, r6, r7, r8⟩ := hz.c9; clear hb hz; go_wp2_with fail; refine bodyPost_ret (v := nV false D) (by simp [results, Tryd.results28, go_sem, nV, *]) rfl ?_; exact ⟨rfl, num_below HB1.out (by omega) _ _ _ _ _ _ _ _ _⟩)
  · obtain ⟨H, hH, hH2⟩ : ∃ H : Nat, wHi v = -(H : Int) - 1 ∧ H < 9223372036854775808 := ⟨(-(wHi v) - 1).toNat, by unfold wHi; omega, by unfold wHi; omega⟩
    rw [hH, hL, decide_eq_true (by omega)]
    have lt : ¬ (0 : Int) ≤ -(H : Int) - 1 := by omega
    have u1 : IntKind.i64.wrap (-(H : Int) - 1 + 1) = -(H : Int) := by rw [IntKind.wrap_i64]; omega
    have u2 : IntKind.i64.wrap (-(-(H : Int))) = (H : Int) := by rw [IntKind.wrap_i64]; omega
    have u2' : IntKind.i64.wrap (H : Int) = (H : Int) := by rw [IntKind.wrap_i64]; omega
    have u3 : IntKind.u64.wrap (H : Int) = H := wrap_u (by omega)
    have u4 : IntKind.u64.wrap (18446744073709551615 - (L : Int)) = 18446744073709551615 - (L : Int) := by rw [IntKind.wrap_u64]; omega
    have HB := Lib.hid (below_two w (.cells #[.int .i64 (-(H : Int) - 1), .int .u64 (L : Int)] 41) numZ)
    have HZ := Lib.hid (numZ_two w (.cells #[.int .i64 (-(H : Int) - 1), .int .u64 (L : Int)] 41))
    unfold numZ at HB HZ
    by_cases hL0 : L = 0
    · have he : v.natAbs = (H + 1) * 18446744073709551616 + 0 := by unfold wHi at hH; unfold wLo at hL; omega
      have hP := fun W => r02_put true (H + 1) 0 (by omega) (by omega) W
      rw [← he] at hP
      rw [show (((H + 1 : Nat)) : Int) = (H : Int) + 1 from rfl, show ((0 : Nat) : Int) = 0 from rfl] at hP
      have HP := Lib.hid hP
      subst hL0
      have u5 : IntKind.u64.wrap ((H : Int) + 1) = (H : Int) + 1 := by rw [IntKind.wrap_u64]; omega
      clear hP he hH hL h1 h2 hv
      generalize dg v.natAbs = D at *
      unfold nV at HP
      go_enter Tryd.func28, Tryd.ntmps28
      go_wp2_with fail
      refine (HP.out _).mono ?_
      rintro e w1 ⟨rfl, hb⟩
      (have hz := HZ.out.keep (hb.mono (Nat.le_refl _)); have HB1 := Lib.hid (HB.out.trans (hb.mono HB.out.size)); obtain ⟨q0, q1, q2, q3, q4, q5, q6, q7, q8⟩ := hz.u9; obtain ⟨r0, r1, r2, r3, r4, r5, r6, r7, r8⟩ := hz.c9; clear hb hz; go_wp2_with fail; refine bodyPost_ret (v := nV true D) (by simp [results, Tryd.results28, go_sem, nV, *]) rfl ?_; exact ⟨rfl, num_below HB1.out (by omega) _ _ _ _ _ _ _ _ _⟩)
    · have he : v.natAbs = H * 18446744073709551616 + (18446744073709551616 - L) := by unfold wHi at hH; unfold wLo at hL; omega
      have hP := fun W => r02_put true H (18446744073709551616 - L) (by omega) (by omega) W
      rw [← he] at hP
      rw [show ((18446744073709551616 - L : Nat) : Int) = 18446744073709551615 - (L : Int) + 1 by omega] at hP
      have HP := Lib.hid hP
      have u5 : IntKind.u64.wrap (18446744073709551615 - (L : Int) + 1) = 18446744073709551615 - (L : Int) + 1 := by rw [IntKind.wrap_u64]; omega
      have ne : (18446744073709551615 - (L : Int) == 18446744073709551615) = false := beq_false_of_ne (by omega)
      clear hP he hH hL h1 h2 hv hL0
      generalize dg v.natAbs = D at *
      unfold nV at HP
      go_enter Tryd.func28, Tryd.ntmps28
      go_wp2_with fail
      refine (HP.out _).mono ?_
      rintro e w1 ⟨rfl, hb⟩
      (have hz := HZ.out.keep (hb.mono (Nat.le_refl _)); have HB1 := Lib.hid (HB.out.trans (hb.mono HB.out.size)); obtain ⟨q0, q1, q2, q3, q4, q5, q6, q7, q8⟩ := hz.u9; obtain ⟨r0, r1, r2, r3, r4, r5, r6, r7, r8⟩ := hz.c9; clear hb hz; go_wp2_with fail; refine bodyPost_ret (v := nV true D) (by simp [results, Tryd.results28, go_sem, nV, *]) rfl ?_; exact ⟨rfl, num_below HB1.out (by omega) _ _ _ _ _ _ _ _ _⟩)

end Go.Proofs.YtmgoagncbmonlaaDoor
