/- Layer 2 (wide), the reference: the walk of Add. Written by wip/gen_add.py. -/
import Derived.Test.YtmgoagncbmonlaaDoorWideL
import Derived.OrdersHeld
import Derived.Deep.RegionHeld
import Derived.Deep.DeepCutAuto
set_option linter.unusedVariables false
set_option linter.unusedSimpArgs false
set_option maxRecDepth 100000
namespace Go.Proofs.YtmgoagncbmonlaaDoor
open Go.RowKit

def plusS (a b : Bool) (X Y : Nat) : Bool × Nat := if a = b then (a, X + Y) else if X < Y then (b, Y - X) else (a, X - Y)
theorem r02_plus (a b : Bool) (X Y : Nat) (hX : X < 170141183460469231731687303715884105728) (hY : Y < 170141183460469231731687303715884105728) (w : World) :
    Calls Tryd.prog 30 #[nV a (dg X), nV b (dg Y)] w (PlusPost (plusS a b X Y).1 (plusS a b X Y).2 w) := by
  unfold plusS
  by_cases h : a = b
  · rw [if_pos h, ← h]; exact r02_plus_same _ _ _ (by omega) w
  · have hne : (a != b) = true := by simpa using h
    rw [if_neg h]
    by_cases hlt : X < Y
    · rw [if_pos hlt]; exact r02_plus_lt _ _ hne _ _ (by omega) (by omega) hlt w
    · rw [if_neg hlt]; exact r02_plus_ge _ _ hne _ _ (by omega) (by omega) (by omega) w
theorem plusS_val (u v : Int) : sgN (plusS (decide (u < 0)) (decide (v < 0)) u.natAbs v.natAbs).1 (plusS (decide (u < 0)) (decide (v < 0)) u.natAbs v.natAbs).2 = u + v := by
  unfold plusS
  by_cases h0 : u < 0 <;> by_cases h1 : v < 0 <;> simp only [h0, h1, decide_true, decide_false, if_true, if_false, Bool.true_eq_false, Bool.false_eq_true] <;> (try split) <;> simp [sgN] <;> omega
theorem plusS_le (a b : Bool) (X Y : Nat) : (plusS a b X Y).2 ≤ X + Y := by
  unfold plusS
  split
  · exact Nat.le_refl _
  · split <;> simp <;> omega

/-- What is held while the region of Add goes: the two arguments' cells. -/
def AddS (W0 : World) (g0 g1 : Nat) (a b c d : Value) (X : World) : Prop := X.cell? ⟨g0, 0, none⟩ = some a ∧ X.cell? ⟨g0, 1, none⟩ = some b ∧ X.cell? ⟨g1, 0, none⟩ = some c ∧ X.cell? ⟨g1, 1, none⟩ = some d ∧ Below W0.heap.size W0 X
theorem add_of {W0 Y : World} {g0 g1 : Nat} {a b c d : Value} (h : AddS W0 g0 g1 a b c d W0) (hb : Below W0.heap.size W0 Y) (l0 : g0 < W0.heap.size) (l1 : g1 < W0.heap.size) : AddS W0 g0 g1 a b c d Y :=
  ⟨(hb.cell (p := ⟨g0, 0, none⟩) l0).trans h.1, (hb.cell (p := ⟨g0, 1, none⟩) l0).trans h.2.1, (hb.cell (p := ⟨g1, 0, none⟩) l1).trans h.2.2.1, (hb.cell (p := ⟨g1, 1, none⟩) l1).trans h.2.2.2.1, hb⟩
theorem numZ_at (X X6 : World) (h : X.alloc (.cells #[.bool false, .int .u64 0, .int .u64 0, .int .u64 0, .int .u64 0, .int .u64 0, .int .u64 0, .int .u64 0, .int .u64 0] 62) = X6) : NumBlk X6 X.heap.size false (fun _ => 0) := by rw [← h]; exact heap_alloc_new X _
theorem three_wide (w W : World) (a b c d : Value) (hW : ((w.alloc (.cells #[a, b] 41)).alloc (.cells #[c, d] 41)).alloc wideZ = W) : Below w.heap.size w W ∧ AddS W w.heap.size (w.heap.size + 1) a b c d W ∧ WideBlk W (w.heap.size + 1 + 1) 0 0 ∧ w.heap.size + 1 < W.heap.size := by
  have h2 := below_two w (.cells #[a, b] 41) (.cells #[c, d] 41)
  have e0 : W.heap[w.heap.size]? = some (.cells #[a, b] 41 (0, 0)) := by rw [← hW]; exact (Go.heap_alloc_old _ _ (by simp; omega)).trans ((Go.heap_alloc_old _ _ (by simp)).trans (heap_alloc_new w _))
  have e1 : W.heap[w.heap.size + 1]? = some (.cells #[c, d] 41 (0, 0)) := by
    have := heap_alloc_new (w.alloc (.cells #[a, b] 41)) (.cells #[c, d] 41)
    rw [← hW]
    refine (Go.heap_alloc_old _ _ (by simp)).trans ?_
    simpa using this
  have e2 : WideBlk W (w.heap.size + 1 + 1) 0 0 := by
    have := heap_alloc_new ((w.alloc (.cells #[a, b] 41)).alloc (.cells #[c, d] 41)) wideZ
    rw [← hW]
    simpa [WideBlk, wideZ] using this
  refine ⟨by rw [← hW]; exact h2.alloc h2.size _, ⟨Joins.cell_of_block e0 0, Joins.cell_of_block e0 1, Joins.cell_of_block e1 0, Joins.cell_of_block e1 1, Below.refl _ _⟩, e2, (Array.getElem?_eq_some_iff.1 e1).1⟩

set_option maxHeartbeats 8000000 in
theorem r02_Add (u v : Int) (hu : u.natAbs < 85070591730234615865843651857942052864) (hv : v.natAbs < 85070591730234615865843651857942052864) (w : World) :
    Calls Tryd.prog 16 #[wV u, wV v] w fun e w' => e = .returned (.tuple #[wV (u + v), .int .i64 0]) ∧ Below w.heap.size w w' := by
  have hPL := fun W => r02_plus (decide (u < 0)) (decide (v < 0)) u.natAbs v.natAbs (by omega) (by omega) W
  have hBK := fun W => r02_back (plusS (decide (u < 0)) (decide (v < 0)) u.natAbs v.natAbs).1 (plusS (decide (u < 0)) (decide (v < 0)) u.natAbs v.natAbs).2 (by have := plusS_le (decide (u < 0)) (decide (v < 0)) u.natAbs v.natAbs; omega) W
  rw [plusS_val] at hBK
  generalize plusS (decide (u < 0)) (decide (v < 0)) u.natAbs v.natAbs = R at *
  obtain ⟨s, m⟩ := R
  dsimp only at hPL hBK
  have HOU := Lib.hid (fun W => r02_of u (by omega) (by omega) W)
  have HOV := Lib.hid (fun W => r02_of v (by omega) (by omega) W)
  have HPL := Lib.hid hPL
  have HBK := Lib.hid hBK
  unfold PlusPost at HPL
  clear hPL hBK
  unfold wV at *
  unfold nV at *
  generalize wHi u = uh at *
  generalize wLo u = ul at *
  generalize wHi v = vh at *
  generalize wLo v = vl at *
  generalize wHi (u + v) = sh at *
  generalize wLo (u + v) = sl at *
  generalize decide (u < 0) = bu at *
  generalize decide (v < 0) = bv at *
  generalize dg u.natAbs = DU at *
  generalize dg v.natAbs = DV at *
  generalize dg m = DM at *
  clear hu hv
  generalize hQ : (fun (e : Ending) (w' : World) => e = Ending.returned (.tuple #[.agg #[.int .i64 sh, .int .u64 sl], .int .i64 0]) ∧ Below w.heap.size w w') = Q
  have HQ := Lib.hid hQ
  clear hQ
  go_enter Tryd.func16, Tryd.ntmps16
  go_wp2_with fail
  generalize hW : World.alloc (World.alloc (World.alloc w _) _) _ = W
  obtain ⟨hb0, hs0, hz0, lt1⟩ := three_wide w W _ _ _ _ hW
  have lt0 : w.heap.size < W.heap.size := by omega
  have H0 := Lib.hid (And.intro hb0 hz0)
  have HS0 := Lib.hid hs0
  clear hW hb0 hz0 hs0
  go_upto_region 1 with fail
  go_cut [6, 7] (fun s6 s7 wx => ∃ g6, s6 = .pointer (some ⟨g6, 0, none⟩) ∧ s7 = .bool true ∧ Below W.heap.size W wx ∧ NumBlk wx g6 s DM)
  case first =>
    refine wp_region_held_drew (S := AddS W w.heap.size (w.heap.size + 1) (.int .i64 uh) (.int .u64 ul) (.int .i64 vh) (.int .u64 vl)) (by kernel_rfl) ?_ (fun hHeld => ?_)
    · exact add_of HS0.out (Below.refl W.heap.size W).drew lt0 lt1
    generalize W.drew = Wd at *
    refine wpAnyH_take (i := 0) (v := ?_) rfl (by kernel_rfl) (by kernel_rfl) (by kernel_rfl) (fun _ _ _ h => h) (Or.inl ⟨by rfl, ?_⟩) hHeld ?_; rotate_left; focus (intro w hSw; obtain ⟨y0, y1, z0, z1, hbS⟩ := hSw; go_simp; try with_reducible rfl); try simp only [Act.put, List.setIfInBounds_toArray, List.set_cons_succ, List.set_cons_zero, List.getElem_toArray, List.getElem_cons_succ, List.getElem_cons_zero]
    refine wpAnyH_take (i := 2) (v := ?_) rfl (by kernel_rfl) (by kernel_rfl) (by kernel_rfl) (fun _ _ _ h => h) (Or.inl ⟨by rfl, ?_⟩) hHeld ?_; rotate_left; focus (intro w hSw; obtain ⟨y0, y1, z0, z1, hbS⟩ := hSw; go_simp; try with_reducible rfl); try simp only [Act.put, List.setIfInBounds_toArray, List.set_cons_succ, List.set_cons_zero, List.getElem_toArray, List.getElem_cons_succ, List.getElem_cons_zero]
    refine wpAnyH_ready (rs := [1, 8]) (by kernel_rfl) (by simp) ?_
    refine AllReadyH.cons rfl (fun K hK => ?_) ?_
    · go_simp
      refine Calls.mono (HOU.out _) ?_
      rintro e w3 ⟨rfl, hbc⟩
      have hSn := add_of HS0.out (hHeld.2.2.2.2.trans (hbc.mono hHeld.2.2.2.2.size)) lt0 lt1
      refine hK.out _ _ hSn (fun hHeld => ?_)
      clear hK K hbc hSn
      try simp only [Act.put, List.setIfInBounds_toArray, List.set_cons_succ, List.set_cons_zero, List.getElem_toArray, List.getElem_cons_succ, List.getElem_cons_zero]
      refine wpAnyH_ready (rs := [3, 8]) (by kernel_rfl) (by simp) ?_
      refine AllReadyH.cons rfl (fun K hK => ?_) ?_
      · go_simp
        refine Calls.mono (HOV.out _) ?_
        rintro e w4 ⟨rfl, hbc⟩
        have hSn := add_of HS0.out (hHeld.2.2.2.2.trans (hbc.mono hHeld.2.2.2.2.size)) lt0 lt1
        refine hK.out _ _ hSn (fun hHeld => ?_)
        clear hK K hbc hSn
        try simp only [Act.put, List.setIfInBounds_toArray, List.set_cons_succ, List.set_cons_zero, List.getElem_toArray, List.getElem_cons_succ, List.getElem_cons_zero]
        refine wpAnyH_ready (rs := [4, 8]) (by kernel_rfl) (by simp) ?_
        refine AllReadyH.cons rfl (fun K hK => ?_) ?_
        · go_simp
          refine Calls.mono (HPL.out _) ?_
          rintro e w5 ⟨rfl, hbc⟩
          have hSn := add_of HS0.out (hHeld.2.2.2.2.trans (hbc.mono hHeld.2.2.2.2.size)) lt0 lt1
          refine hK.out _ _ hSn (fun hHeld => ?_)
          clear hK K hbc hSn
          try simp only [Act.put, List.setIfInBounds_toArray, List.set_cons_succ, List.set_cons_zero, List.getElem_toArray, List.getElem_cons_succ, List.getElem_cons_zero]
          refine wpAnyH_take (i := 5) (v := ?_) rfl (by kernel_rfl) (by kernel_rfl) (by kernel_rfl) (fun _ _ _ h => h) (Or.inl ⟨by rfl, ?_⟩) hHeld ?_; rotate_left; focus (intro w hSw; obtain ⟨y0, y1, z0, z1, hbS⟩ := hSw; go_simp; try with_reducible rfl); try simp only [Act.put, List.setIfInBounds_toArray, List.set_cons_succ, List.set_cons_zero, List.getElem_toArray, List.getElem_cons_succ, List.getElem_cons_zero]
          refine wpAnyH_take (i := 6) (v := ?_) rfl (by kernel_rfl) (by kernel_rfl) (by kernel_rfl) (fun _ _ _ h => h) (Or.inl ⟨by rfl, ?_⟩) hHeld ?_; rotate_left; focus (intro w hSw; obtain ⟨y0, y1, z0, z1, hbS⟩ := hSw; go_simp; try with_reducible rfl); try simp only [Act.put, List.setIfInBounds_toArray, List.set_cons_succ, List.set_cons_zero, List.getElem_toArray, List.getElem_cons_succ, List.getElem_cons_zero]
          refine wpAnyH_take (i := 7) (v := ?_) rfl (by kernel_rfl) (by kernel_rfl) (by kernel_rfl) (fun _ _ _ h => h) (Or.inl ⟨by rfl, ?_⟩) hHeld ?_; rotate_left; focus (intro w hSw; obtain ⟨y0, y1, z0, z1, hbS⟩ := hSw; go_simp; try with_reducible rfl); try simp only [Act.put, List.setIfInBounds_toArray, List.set_cons_succ, List.set_cons_zero, List.getElem_toArray, List.getElem_cons_succ, List.getElem_cons_zero]
          refine wpAnyH_ready (rs := [8]) (by kernel_rfl) (by simp) ?_
          refine AllReadyH.cons rfl (fun K hK => ?_) AllReadyH.nil
          go_simp
          generalize hX6 : World.alloc _ _ = X6
          have hsz6 := hHeld.2.2.2.2.size
          have hb6 := hHeld.2.2.2.2.alloc hsz6 numZ
          have hz6 := numZ_at _ _ hX6
          unfold numZ at hb6
          rw [hX6] at hb6
          have hSn := add_of HS0.out hb6 lt0 lt1
          refine hK.out _ _ hSn (fun hHeld => ?_)
          clear hK K hSn hX6 hb6
          try simp only [Act.put, List.setIfInBounds_toArray, List.set_cons_succ, List.set_cons_zero, List.getElem_toArray, List.getElem_cons_succ, List.getElem_cons_zero]
          refine wpAnyH_ready (rs := [9]) (by kernel_rfl) (by simp) ?_
          refine AllReadyH.cons rfl (fun K hK => ?_) AllReadyH.nil
          obtain ⟨p0, p1, p2, p3, p4, p5, p6, p7, p8⟩ := hz6.c9
          obtain ⟨q0, q1, q2, q3, q4, q5, q6, q7, q8⟩ := hz6.u9
          go_simp
          have hbn := num_far _ hHeld.2.2.2.2 hsz6 (.bool s) (.int .u64 (DM 0)) (.int .u64 (DM 1)) (.int .u64 (DM 2)) (.int .u64 (DM 3)) (.int .u64 (DM 4)) (.int .u64 (DM 5)) (.int .u64 (DM 6)) (.int .u64 (DM 7))
          have hzn := hz6.put9 s DM
          have hSn := add_of HS0.out hbn lt0 lt1
          refine hK.out _ _ hSn (fun hHeld => ?_)
          clear hK K hSn p0 p1 p2 p3 p4 p5 p6 p7 p8 q0 q1 q2 q3 q4 q5 q6 q7 q8
          try simp only [Act.put, List.setIfInBounds_toArray, List.set_cons_succ, List.set_cons_zero, List.getElem_toArray, List.getElem_cons_succ, List.getElem_cons_zero]
          refine wpAnyH_take (i := 10) (v := ?_) rfl (by kernel_rfl) (by kernel_rfl) (by kernel_rfl) (fun _ _ _ h => h) (Or.inl ⟨by rfl, ?_⟩) hHeld ?_; rotate_left; focus (intro w hSw; obtain ⟨y0, y1, z0, z1, hbS⟩ := hSw; go_simp; try with_reducible rfl); try simp only [Act.put, List.setIfInBounds_toArray, List.set_cons_succ, List.set_cons_zero, List.getElem_toArray, List.getElem_cons_succ, List.getElem_cons_zero]
          refine wpAnyH_done (by kernel_rfl) ?_ _
          go_wp2_with fail
          go_meet
          exact ⟨_, rfl, rfl, hbn, hzn⟩
        refine AllReadyH.cons rfl (fun K hK => ?_) AllReadyH.nil
        go_simp
        generalize hX6 : World.alloc _ _ = X6
        have hsz6 := hHeld.2.2.2.2.size
        have hb6 := hHeld.2.2.2.2.alloc hsz6 numZ
        have hz6 := numZ_at _ _ hX6
        unfold numZ at hb6
        rw [hX6] at hb6
        have hSn := add_of HS0.out hb6 lt0 lt1
        refine hK.out _ _ hSn (fun hHeld => ?_)
        clear hK K hSn hX6 hb6
        try simp only [Act.put, List.setIfInBounds_toArray, List.set_cons_succ, List.set_cons_zero, List.getElem_toArray, List.getElem_cons_succ, List.getElem_cons_zero]
        refine wpAnyH_ready (rs := [4]) (by kernel_rfl) (by simp) ?_
        refine AllReadyH.cons rfl (fun K hK => ?_) AllReadyH.nil
        go_simp
        refine Calls.mono (HPL.out _) ?_
        rintro e w5 ⟨rfl, hbc⟩
        replace hz6 := NumBlk.keep hz6 hbc
        have hSn := add_of HS0.out (hHeld.2.2.2.2.trans (hbc.mono hHeld.2.2.2.2.size)) lt0 lt1
        refine hK.out _ _ hSn (fun hHeld => ?_)
        clear hK K hbc hSn
        try simp only [Act.put, List.setIfInBounds_toArray, List.set_cons_succ, List.set_cons_zero, List.getElem_toArray, List.getElem_cons_succ, List.getElem_cons_zero]
        refine wpAnyH_take (i := 5) (v := ?_) rfl (by kernel_rfl) (by kernel_rfl) (by kernel_rfl) (fun _ _ _ h => h) (Or.inl ⟨by rfl, ?_⟩) hHeld ?_; rotate_left; focus (intro w hSw; obtain ⟨y0, y1, z0, z1, hbS⟩ := hSw; go_simp; try with_reducible rfl); try simp only [Act.put, List.setIfInBounds_toArray, List.set_cons_succ, List.set_cons_zero, List.getElem_toArray, List.getElem_cons_succ, List.getElem_cons_zero]
        refine wpAnyH_take (i := 6) (v := ?_) rfl (by kernel_rfl) (by kernel_rfl) (by kernel_rfl) (fun _ _ _ h => h) (Or.inl ⟨by rfl, ?_⟩) hHeld ?_; rotate_left; focus (intro w hSw; obtain ⟨y0, y1, z0, z1, hbS⟩ := hSw; go_simp; try with_reducible rfl); try simp only [Act.put, List.setIfInBounds_toArray, List.set_cons_succ, List.set_cons_zero, List.getElem_toArray, List.getElem_cons_succ, List.getElem_cons_zero]
        refine wpAnyH_take (i := 7) (v := ?_) rfl (by kernel_rfl) (by kernel_rfl) (by kernel_rfl) (fun _ _ _ h => h) (Or.inl ⟨by rfl, ?_⟩) hHeld ?_; rotate_left; focus (intro w hSw; obtain ⟨y0, y1, z0, z1, hbS⟩ := hSw; go_simp; try with_reducible rfl); try simp only [Act.put, List.setIfInBounds_toArray, List.set_cons_succ, List.set_cons_zero, List.getElem_toArray, List.getElem_cons_succ, List.getElem_cons_zero]
        refine wpAnyH_ready (rs := [9]) (by kernel_rfl) (by simp) ?_
        refine AllReadyH.cons rfl (fun K hK => ?_) AllReadyH.nil
        obtain ⟨p0, p1, p2, p3, p4, p5, p6, p7, p8⟩ := hz6.c9
        obtain ⟨q0, q1, q2, q3, q4, q5, q6, q7, q8⟩ := hz6.u9
        go_simp
        have hbn := num_far _ hHeld.2.2.2.2 hsz6 (.bool s) (.int .u64 (DM 0)) (.int .u64 (DM 1)) (.int .u64 (DM 2)) (.int .u64 (DM 3)) (.int .u64 (DM 4)) (.int .u64 (DM 5)) (.int .u64 (DM 6)) (.int .u64 (DM 7))
        have hzn := hz6.put9 s DM
        have hSn := add_of HS0.out hbn lt0 lt1
        refine hK.out _ _ hSn (fun hHeld => ?_)
        clear hK K hSn p0 p1 p2 p3 p4 p5 p6 p7 p8 q0 q1 q2 q3 q4 q5 q6 q7 q8
        try simp only [Act.put, List.setIfInBounds_toArray, List.set_cons_succ, List.set_cons_zero, List.getElem_toArray, List.getElem_cons_succ, List.getElem_cons_zero]
        refine wpAnyH_take (i := 10) (v := ?_) rfl (by kernel_rfl) (by kernel_rfl) (by kernel_rfl) (fun _ _ _ h => h) (Or.inl ⟨by rfl, ?_⟩) hHeld ?_; rotate_left; focus (intro w hSw; obtain ⟨y0, y1, z0, z1, hbS⟩ := hSw; go_simp; try with_reducible rfl); try simp only [Act.put, List.setIfInBounds_toArray, List.set_cons_succ, List.set_cons_zero, List.getElem_toArray, List.getElem_cons_succ, List.getElem_cons_zero]
        refine wpAnyH_done (by kernel_rfl) ?_ _
        go_wp2_with fail
        go_meet
        exact ⟨_, rfl, rfl, hbn, hzn⟩
      refine AllReadyH.cons rfl (fun K hK => ?_) AllReadyH.nil
      go_simp
      generalize hX6 : World.alloc _ _ = X6
      have hsz6 := hHeld.2.2.2.2.size
      have hb6 := hHeld.2.2.2.2.alloc hsz6 numZ
      have hz6 := numZ_at _ _ hX6
      unfold numZ at hb6
      rw [hX6] at hb6
      have hSn := add_of HS0.out hb6 lt0 lt1
      refine hK.out _ _ hSn (fun hHeld => ?_)
      clear hK K hSn hX6 hb6
      try simp only [Act.put, List.setIfInBounds_toArray, List.set_cons_succ, List.set_cons_zero, List.getElem_toArray, List.getElem_cons_succ, List.getElem_cons_zero]
      refine wpAnyH_ready (rs := [3]) (by kernel_rfl) (by simp) ?_
      refine AllReadyH.cons rfl (fun K hK => ?_) AllReadyH.nil
      go_simp
      refine Calls.mono (HOV.out _) ?_
      rintro e w4 ⟨rfl, hbc⟩
      replace hz6 := NumBlk.keep hz6 hbc
      have hSn := add_of HS0.out (hHeld.2.2.2.2.trans (hbc.mono hHeld.2.2.2.2.size)) lt0 lt1
      refine hK.out _ _ hSn (fun hHeld => ?_)
      clear hK K hbc hSn
      try simp only [Act.put, List.setIfInBounds_toArray, List.set_cons_succ, List.set_cons_zero, List.getElem_toArray, List.getElem_cons_succ, List.getElem_cons_zero]
      refine wpAnyH_ready (rs := [4]) (by kernel_rfl) (by simp) ?_
      refine AllReadyH.cons rfl (fun K hK => ?_) AllReadyH.nil
      go_simp
      refine Calls.mono (HPL.out _) ?_
      rintro e w5 ⟨rfl, hbc⟩
      replace hz6 := NumBlk.keep hz6 hbc
      have hSn := add_of HS0.out (hHeld.2.2.2.2.trans (hbc.mono hHeld.2.2.2.2.size)) lt0 lt1
      refine hK.out _ _ hSn (fun hHeld => ?_)
      clear hK K hbc hSn
      try simp only [Act.put, List.setIfInBounds_toArray, List.set_cons_succ, List.set_cons_zero, List.getElem_toArray, List.getElem_cons_succ, List.getElem_cons_zero]
      refine wpAnyH_take (i := 5) (v := ?_) rfl (by kernel_rfl) (by kernel_rfl) (by kernel_rfl) (fun _ _ _ h => h) (Or.inl ⟨by rfl, ?_⟩) hHeld ?_; rotate_left; focus (intro w hSw; obtain ⟨y0, y1, z0, z1, hbS⟩ := hSw; go_simp; try with_reducible rfl); try simp only [Act.put, List.setIfInBounds_toArray, List.set_cons_succ, List.set_cons_zero, List.getElem_toArray, List.getElem_cons_succ, List.getElem_cons_zero]
      refine wpAnyH_take (i := 6) (v := ?_) rfl (by kernel_rfl) (by kernel_rfl) (by kernel_rfl) (fun _ _ _ h => h) (Or.inl ⟨by rfl, ?_⟩) hHeld ?_; rotate_left; focus (intro w hSw; obtain ⟨y0, y1, z0, z1, hbS⟩ := hSw; go_simp; try with_reducible rfl); try simp only [Act.put, List.setIfInBounds_toArray, List.set_cons_succ, List.set_cons_zero, List.getElem_toArray, List.getElem_cons_succ, List.getElem_cons_zero]
      refine wpAnyH_take (i := 7) (v := ?_) rfl (by kernel_rfl) (by kernel_rfl) (by kernel_rfl) (fun _ _ _ h => h) (Or.inl ⟨by rfl, ?_⟩) hHeld ?_; rotate_left; focus (intro w hSw; obtain ⟨y0, y1, z0, z1, hbS⟩ := hSw; go_simp; try with_reducible rfl); try simp only [Act.put, List.setIfInBounds_toArray, List.set_cons_succ, List.set_cons_zero, List.getElem_toArray, List.getElem_cons_succ, List.getElem_cons_zero]
      refine wpAnyH_ready (rs := [9]) (by kernel_rfl) (by simp) ?_
      refine AllReadyH.cons rfl (fun K hK => ?_) AllReadyH.nil
      obtain ⟨p0, p1, p2, p3, p4, p5, p6, p7, p8⟩ := hz6.c9
      obtain ⟨q0, q1, q2, q3, q4, q5, q6, q7, q8⟩ := hz6.u9
      go_simp
      have hbn := num_far _ hHeld.2.2.2.2 hsz6 (.bool s) (.int .u64 (DM 0)) (.int .u64 (DM 1)) (.int .u64 (DM 2)) (.int .u64 (DM 3)) (.int .u64 (DM 4)) (.int .u64 (DM 5)) (.int .u64 (DM 6)) (.int .u64 (DM 7))
      have hzn := hz6.put9 s DM
      have hSn := add_of HS0.out hbn lt0 lt1
      refine hK.out _ _ hSn (fun hHeld => ?_)
      clear hK K hSn p0 p1 p2 p3 p4 p5 p6 p7 p8 q0 q1 q2 q3 q4 q5 q6 q7 q8
      try simp only [Act.put, List.setIfInBounds_toArray, List.set_cons_succ, List.set_cons_zero, List.getElem_toArray, List.getElem_cons_succ, List.getElem_cons_zero]
      refine wpAnyH_take (i := 10) (v := ?_) rfl (by kernel_rfl) (by kernel_rfl) (by kernel_rfl) (fun _ _ _ h => h) (Or.inl ⟨by rfl, ?_⟩) hHeld ?_; rotate_left; focus (intro w hSw; obtain ⟨y0, y1, z0, z1, hbS⟩ := hSw; go_simp; try with_reducible rfl); try simp only [Act.put, List.setIfInBounds_toArray, List.set_cons_succ, List.set_cons_zero, List.getElem_toArray, List.getElem_cons_succ, List.getElem_cons_zero]
      refine wpAnyH_done (by kernel_rfl) ?_ _
      go_wp2_with fail
      go_meet
      exact ⟨_, rfl, rfl, hbn, hzn⟩
    refine AllReadyH.cons rfl (fun K hK => ?_) AllReadyH.nil
    go_simp
    generalize hX6 : World.alloc _ _ = X6
    have hsz6 := hHeld.2.2.2.2.size
    have hb6 := hHeld.2.2.2.2.alloc hsz6 numZ
    have hz6 := numZ_at _ _ hX6
    unfold numZ at hb6
    rw [hX6] at hb6
    have hSn := add_of HS0.out hb6 lt0 lt1
    refine hK.out _ _ hSn (fun hHeld => ?_)
    clear hK K hSn hX6 hb6
    try simp only [Act.put, List.setIfInBounds_toArray, List.set_cons_succ, List.set_cons_zero, List.getElem_toArray, List.getElem_cons_succ, List.getElem_cons_zero]
    refine wpAnyH_ready (rs := [1]) (by kernel_rfl) (by simp) ?_
    refine AllReadyH.cons rfl (fun K hK => ?_) AllReadyH.nil
    go_simp
    refine Calls.mono (HOU.out _) ?_
    rintro e w3 ⟨rfl, hbc⟩
    replace hz6 := NumBlk.keep hz6 hbc
    have hSn := add_of HS0.out (hHeld.2.2.2.2.trans (hbc.mono hHeld.2.2.2.2.size)) lt0 lt1
    refine hK.out _ _ hSn (fun hHeld => ?_)
    clear hK K hbc hSn
    try simp only [Act.put, List.setIfInBounds_toArray, List.set_cons_succ, List.set_cons_zero, List.getElem_toArray, List.getElem_cons_succ, List.getElem_cons_zero]
    refine wpAnyH_ready (rs := [3]) (by kernel_rfl) (by simp) ?_
    refine AllReadyH.cons rfl (fun K hK => ?_) AllReadyH.nil
    go_simp
    refine Calls.mono (HOV.out _) ?_
    rintro e w4 ⟨rfl, hbc⟩
    replace hz6 := NumBlk.keep hz6 hbc
    have hSn := add_of HS0.out (hHeld.2.2.2.2.trans (hbc.mono hHeld.2.2.2.2.size)) lt0 lt1
    refine hK.out _ _ hSn (fun hHeld => ?_)
    clear hK K hbc hSn
    try simp only [Act.put, List.setIfInBounds_toArray, List.set_cons_succ, List.set_cons_zero, List.getElem_toArray, List.getElem_cons_succ, List.getElem_cons_zero]
    refine wpAnyH_ready (rs := [4]) (by kernel_rfl) (by simp) ?_
    refine AllReadyH.cons rfl (fun K hK => ?_) AllReadyH.nil
    go_simp
    refine Calls.mono (HPL.out _) ?_
    rintro e w5 ⟨rfl, hbc⟩
    replace hz6 := NumBlk.keep hz6 hbc
    have hSn := add_of HS0.out (hHeld.2.2.2.2.trans (hbc.mono hHeld.2.2.2.2.size)) lt0 lt1
    refine hK.out _ _ hSn (fun hHeld => ?_)
    clear hK K hbc hSn
    try simp only [Act.put, List.setIfInBounds_toArray, List.set_cons_succ, List.set_cons_zero, List.getElem_toArray, List.getElem_cons_succ, List.getElem_cons_zero]
    refine wpAnyH_take (i := 5) (v := ?_) rfl (by kernel_rfl) (by kernel_rfl) (by kernel_rfl) (fun _ _ _ h => h) (Or.inl ⟨by rfl, ?_⟩) hHeld ?_; rotate_left; focus (intro w hSw; obtain ⟨y0, y1, z0, z1, hbS⟩ := hSw; go_simp; try with_reducible rfl); try simp only [Act.put, List.setIfInBounds_toArray, List.set_cons_succ, List.set_cons_zero, List.getElem_toArray, List.getElem_cons_succ, List.getElem_cons_zero]
    refine wpAnyH_take (i := 6) (v := ?_) rfl (by kernel_rfl) (by kernel_rfl) (by kernel_rfl) (fun _ _ _ h => h) (Or.inl ⟨by rfl, ?_⟩) hHeld ?_; rotate_left; focus (intro w hSw; obtain ⟨y0, y1, z0, z1, hbS⟩ := hSw; go_simp; try with_reducible rfl); try simp only [Act.put, List.setIfInBounds_toArray, List.set_cons_succ, List.set_cons_zero, List.getElem_toArray, List.getElem_cons_succ, List.getElem_cons_zero]
    refine wpAnyH_take (i := 7) (v := ?_) rfl (by kernel_rfl) (by kernel_rfl) (by kernel_rfl) (fun _ _ _ h => h) (Or.inl ⟨by rfl, ?_⟩) hHeld ?_; rotate_left; focus (intro w hSw; obtain ⟨y0, y1, z0, z1, hbS⟩ := hSw; go_simp; try with_reducible rfl); try simp only [Act.put, List.setIfInBounds_toArray, List.set_cons_succ, List.set_cons_zero, List.getElem_toArray, List.getElem_cons_succ, List.getElem_cons_zero]
    refine wpAnyH_ready (rs := [9]) (by kernel_rfl) (by simp) ?_
    refine AllReadyH.cons rfl (fun K hK => ?_) AllReadyH.nil
    obtain ⟨p0, p1, p2, p3, p4, p5, p6, p7, p8⟩ := hz6.c9
    obtain ⟨q0, q1, q2, q3, q4, q5, q6, q7, q8⟩ := hz6.u9
    go_simp
    have hbn := num_far _ hHeld.2.2.2.2 hsz6 (.bool s) (.int .u64 (DM 0)) (.int .u64 (DM 1)) (.int .u64 (DM 2)) (.int .u64 (DM 3)) (.int .u64 (DM 4)) (.int .u64 (DM 5)) (.int .u64 (DM 6)) (.int .u64 (DM 7))
    have hzn := hz6.put9 s DM
    have hSn := add_of HS0.out hbn lt0 lt1
    refine hK.out _ _ hSn (fun hHeld => ?_)
    clear hK K hSn p0 p1 p2 p3 p4 p5 p6 p7 p8 q0 q1 q2 q3 q4 q5 q6 q7 q8
    try simp only [Act.put, List.setIfInBounds_toArray, List.set_cons_succ, List.set_cons_zero, List.getElem_toArray, List.getElem_cons_succ, List.getElem_cons_zero]
    refine wpAnyH_take (i := 10) (v := ?_) rfl (by kernel_rfl) (by kernel_rfl) (by kernel_rfl) (fun _ _ _ h => h) (Or.inl ⟨by rfl, ?_⟩) hHeld ?_; rotate_left; focus (intro w hSw; obtain ⟨y0, y1, z0, z1, hbS⟩ := hSw; go_simp; try with_reducible rfl); try simp only [Act.put, List.setIfInBounds_toArray, List.set_cons_succ, List.set_cons_zero, List.getElem_toArray, List.getElem_cons_succ, List.getElem_cons_zero]
    refine wpAnyH_done (by kernel_rfl) ?_ _
    go_wp2_with fail
    go_meet
    exact ⟨_, rfl, rfl, hbn, hzn⟩
  case rest =>
    obtain ⟨g6, rfl, rfl, hb6, hn6⟩ := hcut
    have HB6 := Lib.hid (H0.out.1.trans (hb6.mono H0.out.1.size))
    have HZ6 := Lib.hid (H0.out.2.keep hb6)
    obtain ⟨p0, p1, p2, p3, p4, p5, p6, p7, p8⟩ := hn6.c9
    clear hb6 hn6
    go_wp2_with fail
    refine (HBK.out _).mono ?_
    rintro e w7 ⟨rfl, hb7⟩
    have HB7 := Lib.hid (HB6.out.trans (hb7.mono HB6.out.size))
    have hz := HZ6.out.keep hb7
    have q0 := Joins.unfrozen_of_block hz 0
    have q1 := Joins.unfrozen_of_block hz 1
    have r0 := Joins.cell_of_block hz 0
    have r1 := Joins.cell_of_block hz 1
    have hlt := (Array.getElem?_eq_some_iff.1 hz).1
    clear hb7 hz p0 p1 p2 p3 p4 p5 p6 p7 p8
    go_wp2_with fail
    refine bodyPost_ret (v := .tuple #[.agg #[.int .i64 sh, .int .u64 sl], .int .i64 0]) (by simp [results, Tryd.results16, go_sem, *]) rfl ?_
    rw [← HQ.out]
    have hb8 := wide_below (g := w.heap.size + 1 + 1) HB7.out (by omega) (.int .i64 sh) (.int .u64 sl)
    exact ⟨rfl, hb8.alloc hb8.size _⟩

end Go.Proofs.YtmgoagncbmonlaaDoor
