/- Layer 2 (wide), the reference: the walks of back, Size, Of, Fit. -/
import Derived.Test.YtmgoagncbmonlaaDoorWideX
set_option linter.unusedVariables false
set_option linter.unusedSimpArgs false
set_option maxRecDepth 100000
namespace Go.Proofs.YtmgoagncbmonlaaDoor
open Go.RowKit

def wideZ : Obj := .cells #[.int .i64 0, .int .u64 0] 41
def WideBlk (w : World) (g : Nat) (a : Int) (c : Int) : Prop := w.heap[g]? = some (.cells #[.int .i64 a, .int .u64 c] 41 (0, 0))
theorem WideBlk.keep {w w' : World} {g : Nat} {a c : Int} (h : WideBlk w g a c) (hb : Below w.heap.size w w') : WideBlk w' g a c := (hb.block g (Array.getElem?_eq_some_iff.1 h).1).trans h
theorem wideZ_two (w : World) (o : Obj) : WideBlk ((w.alloc o).alloc wideZ) (w.heap.size + 1) 0 0 := by
  have := heap_alloc_new (w.alloc o) wideZ
  simpa [WideBlk, wideZ] using this
theorem numB_two (w : World) (b : Bool) (D : Nat → Nat) (o : Obj) : NumBlk ((w.alloc (.cells #[.bool b, .int .u64 (D 0), .int .u64 (D 1), .int .u64 (D 2), .int .u64 (D 3), .int .u64 (D 4), .int .u64 (D 5), .int .u64 (D 6), .int .u64 (D 7)] 62)).alloc o) w.heap.size b D :=
  (Go.heap_alloc_old _ _ (by simp)).trans (heap_alloc_new w _)

/-- What back tells of the sizes h, l. -/
theorem back_val (b : Bool) (m h l : Nat) (hm : m = h * 18446744073709551616 + l) (hl : l < 18446744073709551616) :
    (b = false ∨ m = 0 → wHi (sgN b m) = h ∧ wLo (sgN b m) = l) ∧ (b = true → l = 0 → wHi (sgN b m) = -(h : Int) ∧ wLo (sgN b m) = 0) ∧ (b = true → l ≠ 0 → wHi (sgN b m) = -(h : Int) - 1 ∧ wLo (sgN b m) = 18446744073709551616 - (l : Int)) := by
  unfold sgN wHi wLo
  cases b <;> simp <;> omega

set_option maxHeartbeats 4000000 in
theorem r02_back (b : Bool) (m : Nat) (hm : m < 170141183460469231731687303715884105728) (w : World) :
    Calls Tryd.prog 31 #[nV b (dg m)] w fun e w' => e = .returned (.tuple #[wV (sgN b m), .bool true]) ∧ Below w.heap.size w w' := by
  have HW := Lib.hid (fun W => r02_words b m (by omega) W)
  obtain ⟨h, hh⟩ : ∃ h, m / 18446744073709551616 = h := ⟨_, rfl⟩
  obtain ⟨l, hl⟩ : ∃ l, m % 18446744073709551616 = l := ⟨_, rfl⟩
  rw [hh, hl] at HW
  have hh2 : h < 9223372036854775808 := by omega
  have hl2 : l < 18446744073709551616 := by omega
  obtain ⟨v1, v2, v3⟩ := back_val b m h l (by omega) hl2
  have hm0 : m = 0 ↔ h = 0 ∧ l = 0 := by omega
  unfold wV
  generalize wHi (sgN b m) = vh at *
  generalize wLo (sgN b m) = vl at *
  generalize dg m = D at *
  have HB := Lib.hid (below_two w (.cells #[.bool b, .int .u64 (D 0), .int .u64 (D 1), .int .u64 (D 2), .int .u64 (D 3), .int .u64 (D 4), .int .u64 (D 5), .int .u64 (D 6), .int .u64 (D 7)] 62) wideZ)
  have HZ := Lib.hid (wideZ_two w (.cells #[.bool b, .int .u64 (D 0), .int .u64 (D 1), .int .u64 (D 2), .int .u64 (D 3), .int .u64 (D 4), .int .u64 (D 5), .int .u64 (D 6), .int .u64 (D 7)] 62))
  have HN := Lib.hid (numB_two w b D wideZ)
  unfold wideZ at HB HZ HN
  unfold nV at *
  have k1 : (h : Int) % 9223372036854775808 = h := by omega
  have k2 : IntKind.i64.wrap (h : Int) = h := by rw [IntKind.wrap_i64]; omega
  have k3 : (h : Int) < 9223372036854775808 := by omega
  have k4 : ¬ (9223372036854775808 < (h : Int)) := by omega
  have k5 : ((h : Int) == 9223372036854775808) = false := beq_false_of_ne (by omega)
  by_cases hs : b = false ∨ m = 0
  · obtain ⟨rfl, rfl⟩ := v1 hs
    by_cases hb : b = false
    · subst hb
      clear hs hm hh hl hh2 hl2 v1 v2 v3 hm0
      go_enter Tryd.func31, Tryd.ntmps31
      go_wp2_with fail
      refine (HW.out _).mono ?_
      rintro e w1 ⟨rfl, hb⟩
      (have hz := HZ.out.keep (hb.mono (Nat.le_refl _)); have hn := HN.out.keep (hb.mono (Nat.le_refl _)); have HB1 := Lib.hid (HB.out.trans (hb.mono HB.out.size)); have q0 := Joins.unfrozen_of_block hz 0; have q1 := Joins.unfrozen_of_block hz 1; have r0 := Joins.cell_of_block hz 0; have r1 := Joins.cell_of_block hz 1; have n0 := Joins.cell_of_block hn 0; clear hb hz hn; go_wp2_with fail; refine bodyPost_ret (v := .tuple #[.agg #[.int .i64 (h : Int), .int .u64 (l : Int)], .bool true]) (by simp [results, Tryd.results31, go_sem, *]) rfl ?_; exact ⟨rfl, (HB1.out.setCell (by simp) _).setCell (by simp) _⟩)
    · have hbt : b = true := by simpa using hb
      obtain ⟨h0, l0⟩ := hm0.1 (hs.resolve_left hb)
      subst hbt h0 l0
      clear hs hb hm hh hl hh2 hl2 v1 v2 v3 hm0
      go_enter Tryd.func31, Tryd.ntmps31
      go_wp2_with fail
      refine (HW.out _).mono ?_
      rintro e w1 ⟨rfl, hb⟩
      (have hz := HZ.out.keep (hb.mono (Nat.le_refl _)); have hn := HN.out.keep (hb.mono (Nat.le_refl _)); have HB1 := Lib.hid (HB.out.trans (hb.mono HB.out.size)); have q0 := Joins.unfrozen_of_block hz 0; have q1 := Joins.unfrozen_of_block hz 1; have r0 := Joins.cell_of_block hz 0; have r1 := Joins.cell_of_block hz 1; have n0 := Joins.cell_of_block hn 0; clear hb hz hn; go_wp2_with fail; refine bodyPost_ret (v := .tuple #[.agg #[.int .i64 0, .int .u64 0], .bool true]) (by simp [results, Tryd.results31, go_sem, *]) rfl ?_; exact ⟨rfl, (HB1.out.setCell (by simp) _).setCell (by simp) _⟩)
  · have hbt : b = true := by simpa using fun e => hs (.inl e)
    have hne : ¬ (h = 0 ∧ l = 0) := fun e => hs (.inr (hm0.2 e))
    by_cases hl0 : l = 0
    · obtain ⟨e1, rfl⟩ := v2 hbt hl0
      have hp : 0 < h := by omega
      subst hbt hl0
      have k6 : ((h : Int) == 0) = false := beq_false_of_ne (by omega)
      obtain ⟨a1, ha1⟩ : ∃ a : Int, a = (h : Int) - 1 := ⟨_, rfl⟩
      obtain ⟨a2, ha2⟩ : ∃ a : Int, a = -a1 := ⟨_, rfl⟩
      have k7 : IntKind.u64.wrap ((h : Int) - 1) = a1 := by rw [IntKind.wrap_u64]; omega
      have k8 : IntKind.i64.wrap a1 = a1 := by rw [IntKind.wrap_i64]; omega
      have k9 : IntKind.i64.wrap (-a1) = a2 := by rw [IntKind.wrap_i64]; omega
      have k10 : IntKind.i64.wrap (a2 - 1) = vh := by rw [IntKind.wrap_i64]; omega
      clear hs hm hh hl hh2 hl2 v1 v2 v3 hm0 hne hp ha1 ha2 e1 k1 k2 k3
      go_enter Tryd.func31, Tryd.ntmps31
      go_wp2_with fail
      refine (HW.out _).mono ?_
      rintro e w1 ⟨rfl, hb⟩
      (have hz := HZ.out.keep (hb.mono (Nat.le_refl _)); have hn := HN.out.keep (hb.mono (Nat.le_refl _)); have HB1 := Lib.hid (HB.out.trans (hb.mono HB.out.size)); have q0 := Joins.unfrozen_of_block hz 0; have q1 := Joins.unfrozen_of_block hz 1; have r0 := Joins.cell_of_block hz 0; have r1 := Joins.cell_of_block hz 1; have n0 := Joins.cell_of_block hn 0; clear hb hz hn; go_wp2_with fail; refine bodyPost_ret (v := .tuple #[.agg #[.int .i64 vh, .int .u64 0], .bool true]) (by simp [results, Tryd.results31, go_sem, *]) rfl ?_; exact ⟨rfl, (HB1.out.setCell (by simp) _).setCell (by simp) _⟩)
    · obtain ⟨e1, e2⟩ := v3 hbt hl0
      subst hbt
      have k6 : ((l : Int) == 0) = false := beq_false_of_ne (by omega)
      obtain ⟨a1, ha1⟩ : ∃ a : Int, a = -(h : Int) := ⟨_, rfl⟩
      obtain ⟨a2, ha2⟩ : ∃ a : Int, a = 18446744073709551615 - (l : Int) := ⟨_, rfl⟩
      have k7 : IntKind.i64.wrap (-(h : Int)) = a1 := by rw [IntKind.wrap_i64]; omega
      have k8 : IntKind.i64.wrap (a1 - 1) = vh := by rw [IntKind.wrap_i64]; omega
      have k9 : IntKind.u64.wrap (18446744073709551615 - (l : Int)) = a2 := by rw [IntKind.wrap_u64]; omega
      have k10 : IntKind.u64.wrap (a2 + 1) = vl := by rw [IntKind.wrap_u64]; omega
      by_cases hz0 : h = 0
      · subst hz0
        obtain rfl : vh = -1 := by omega
        clear hs hm hh hl hh2 hl2 v1 v2 v3 hm0 hne hl0 ha1 ha2 e1 e2 k1 k2 k3 k4 k5 k7 k8
        go_enter Tryd.func31, Tryd.ntmps31
        go_wp2_with fail
        refine (HW.out _).mono ?_
        rintro e w1 ⟨rfl, hb⟩
        (have hz := HZ.out.keep (hb.mono (Nat.le_refl _)); have hn := HN.out.keep (hb.mono (Nat.le_refl _)); have HB1 := Lib.hid (HB.out.trans (hb.mono HB.out.size)); have q0 := Joins.unfrozen_of_block hz 0; have q1 := Joins.unfrozen_of_block hz 1; have r0 := Joins.cell_of_block hz 0; have r1 := Joins.cell_of_block hz 1; have n0 := Joins.cell_of_block hn 0; clear hb hz hn; go_wp2_with fail; refine bodyPost_ret (v := .tuple #[.agg #[.int .i64 (-1), .int .u64 vl], .bool true]) (by simp [results, Tryd.results31, go_sem, *]) rfl ?_; exact ⟨rfl, (HB1.out.setCell (by simp) _).setCell (by simp) _⟩)
      · have k0 : ((h : Int) == 0) = false := beq_false_of_ne (by omega)
        have k3b : decide ((h : Int) < 9223372036854775808) = true := decide_eq_true k3
        clear hs hm hh hl hh2 hl2 v1 v2 v3 hm0 hne hl0 ha1 ha2 e1 e2 k1 hz0 k3
        generalize (h : Int) = x at *
        generalize (l : Int) = y at *
        generalize hQ : (fun (e : Ending) (w' : World) => e = Ending.returned (.tuple #[.agg #[.int .i64 vh, .int .u64 vl], .bool true]) ∧ Below w.heap.size w w') = Q
        have HQ := Lib.hid hQ
        clear hQ
        go_enter Tryd.func31, Tryd.ntmps31
        go_wp2_with fail
        refine (HW.out _).mono ?_
        rintro e w1 ⟨rfl, hb⟩
        have hz := HZ.out.keep (hb.mono (Nat.le_refl _))
        have hn := HN.out.keep (hb.mono (Nat.le_refl _))
        have HB1 := Lib.hid (HB.out.trans (hb.mono HB.out.size))
        have q0 := Joins.unfrozen_of_block hz 0
        have q1 := Joins.unfrozen_of_block hz 1
        have r0 := Joins.cell_of_block hz 0
        have r1 := Joins.cell_of_block hz 1
        have n0 := Joins.cell_of_block hn 0
        clear hb hz hn
        go_wp2_with fail
        refine bodyPost_ret (v := .tuple #[.agg #[.int .i64 vh, .int .u64 vl], .bool true]) (by simp [results, Tryd.results31, go_sem, *]) rfl ?_
        rw [← HQ.out]
        exact ⟨rfl, (HB1.out.setCell (by simp) _).setCell (by simp) _⟩

theorem r01_Size (a : Int) (ha : fit a) (w : World) :
    Calls Tryd.prog 33 #[.int .i64 a] w fun e w' => e = .returned (.int .u64 (a.natAbs : Int)) ∧ w = w' := by
  unfold fit at ha
  by_cases h : a < 0
  · have k1 : IntKind.i64.wrap (a + 1) = a + 1 := by rw [IntKind.wrap_i64]; omega
    have k2 : IntKind.i64.wrap (-(a + 1)) = -(a + 1) := by rw [IntKind.wrap_i64]; omega
    have k3 : IntKind.u64.wrap (-(a + 1)) = -(a + 1) := by rw [IntKind.wrap_u64]; omega
    have hw : IntKind.u64.wrap (-(a + 1) + 1) = (a.natAbs : Int) := by rw [IntKind.wrap_u64]; omega
    clear ha
    go_enter Tryd.func33, Tryd.ntmps33
    go_wp2_with fail
    go_ret
    first | trivial | exact ⟨rfl, rfl⟩
  · have hw : IntKind.u64.wrap a = (a.natAbs : Int) := by rw [IntKind.wrap_u64]; omega
    clear ha
    go_enter Tryd.func33, Tryd.ntmps33
    go_wp2_with fail
    go_ret
    first | trivial | exact ⟨rfl, rfl⟩

end Go.Proofs.YtmgoagncbmonlaaDoor
