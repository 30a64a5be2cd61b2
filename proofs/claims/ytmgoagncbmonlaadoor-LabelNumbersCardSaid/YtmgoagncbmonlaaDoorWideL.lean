/- Layer 2 (wide), the reference: the walk of plus. -/
import Derived.Test.YtmgoagncbmonlaaDoorWideC
set_option linter.unusedVariables false
set_option linter.unusedSimpArgs false
set_option maxRecDepth 100000
namespace Go.Proofs.YtmgoagncbmonlaaDoor
open Go.RowKit

def subD (X Y k : Nat) : Nat → Nat := fun i => if i < k then dg (X - Y) i else dg X i
theorem subD_zero (X Y i : Nat) : dg X i = subD X Y 0 i := by unfold subD; simp
theorem subD_succ (X Y k : Nat) (i : Nat) : upd (subD X Y k) k (dg (X - Y) k) i = subD X Y (k + 1) i := by
  unfold subD upd
  by_cases h : i = k
  · subst h; rw [if_pos rfl, if_pos (by omega)]
  · rw [if_neg h]
    by_cases h2 : i < k
    · simp only [h2, if_true]; rw [if_pos (by omega)]
    · simp only [h2, if_false]; rw [if_neg (by omega)]
theorem subD_at (X Y k : Nat) : subD X Y k k = dg X k := by unfold subD; simp
theorem subD_end (X Y i : Nat) (h : i < 8) : subD X Y 8 i = dg (X - Y) i := by unfold subD; rw [if_pos h]
def addD (X Y k : Nat) : Nat → Nat := fun i => if i < k then dg (X + Y) i else dg X i
theorem addD_zero (X Y i : Nat) : dg X i = addD X Y 0 i := by unfold addD; simp
theorem addD_succ (X Y k : Nat) (i : Nat) : upd (addD X Y k) k (dg (X + Y) k) i = addD X Y (k + 1) i := by
  unfold addD upd
  by_cases h : i = k
  · subst h; rw [if_pos rfl, if_pos (by omega)]
  · rw [if_neg h]
    by_cases h2 : i < k
    · simp only [h2, if_true]; rw [if_pos (by omega)]
    · simp only [h2, if_false]; rw [if_neg (by omega)]
theorem addD_at (X Y k : Nat) : addD X Y k k = dg X k := by unfold addD; simp
theorem addD_end (X Y i : Nat) (h : i < 8) : addD X Y 8 i = dg (X + Y) i := by unfold addD; rw [if_pos h]

def PlusPost (s : Bool) (m : Nat) (w : World) (e : Ending) (w' : World) : Prop := e = .returned (.tuple #[nV s (dg m), .bool true]) ∧ Below w.heap.size w w'

set_option maxHeartbeats 8000000 in
/-- The same sign. -/
theorem r02_plus_same (s : Bool) (X Y : Nat) (hs : X + Y < 340282366920938463463374607431768211456) (w : World) :
    Calls Tryd.prog 30 #[nV s (dg X), nV s (dg Y)] w (PlusPost s (X + Y) w) := by
  have H3 := Lib.hid (three_num w s s (dg X) (dg Y))
  have HAD := Lib.hid (add_digit X Y)
  have HC8 := Lib.hid (carry_8 X Y hs)
  have HLE := Lib.hid (fun k => And.intro (carry_le X Y k) (And.intro (dg_lt X k) (dg_lt Y k)))
  generalize hQ : PlusPost s (X + Y) w = Q
  have HQ := Lib.hid hQ
  clear hQ hs
  unfold NumO numZ at H3
  unfold nV
  have hss : (s != s) = false := by cases s <;> rfl
  go_enter Tryd.func30, Tryd.ntmps30
  go_wp2_with fail
  generalize hW : World.alloc (World.alloc (World.alloc w _) _) _ = W
  obtain ⟨g0, hg0⟩ : ∃ g, g = w.heap.size := ⟨_, rfl⟩
  obtain ⟨g1, hg1⟩ : ∃ g, g = w.heap.size + 1 := ⟨_, rfl⟩
  obtain ⟨g2, hg2⟩ : ∃ g, g = w.heap.size + 1 + 1 := ⟨_, rfl⟩
  have h3 : Below w.heap.size w W ∧ NumBlk W g0 s (dg X) ∧ NumBlk W g1 s (dg Y) ∧ NumBlk W g2 false (fun _ => 0) := by rw [hg0, hg1, hg2, ← hW]; exact H3.out
  rw [← hg2, ← hg1, ← hg0]
  have HG := Lib.hid (And.intro hg0 (And.intro hg1 hg2))
  clear hg0 hg1 hg2 hW H3
  have H3 := Lib.hid h3
  clear h3
  go_loopw [9, 49] (fun c i wr => ∃ k : Nat, k ≤ 8 ∧ i = .int .i64 k ∧ c = .int .u64 (carry X Y k) ∧ Below w.heap.size w wr ∧ NumBlk wr g0 s (addD X Y k) ∧ NumBlk wr g1 s (dg Y) ∧ NumBlk wr g2 false (fun _ => 0)) (fun _ i _ => 8 - (intOf i).toNat)
  case atStart => exact ⟨0, by omega, rfl, by rw [carry_zero]; rfl, H3.out.1, H3.out.2.1.congr (fun i _ => addD_zero X Y i), H3.out.2.2.1, H3.out.2.2.2⟩
  case round =>
    obtain ⟨k, hk, rfl, rfl, hb, h0, h1, h2⟩ := hrel
    by_cases hlt : k < 8
    · have lk : (k : Int) < 8 := by omega
      have lk0 : (0 : Int) ≤ k := by omega
      have w1f : IntKind.i64.wrap ((k : Int) + 1) = (k : Int) + 1 := by rw [IntKind.wrap_i64]; omega
      have c0 := h0.cell k hlt
      rw [addD_at] at c0
      have c1 := h1.cell k hlt
      have u0 := h0.uk (1 + k)
      obtain ⟨q1, q2⟩ := HAD.out k
      obtain ⟨p1, p2, p3⟩ := HLE.out k
      obtain ⟨x, hx⟩ : ∃ x : Int, ((dg X k : Nat) : Int) = x := ⟨_, rfl⟩
      obtain ⟨y, hy⟩ : ∃ x : Int, ((dg Y k : Nat) : Int) = x := ⟨_, rfl⟩
      obtain ⟨z, hz⟩ : ∃ x : Int, ((carry X Y k : Nat) : Int) = x := ⟨_, rfl⟩
      have m1 : IntKind.u64.wrap (x + y) = x + y := by rw [IntKind.wrap_u64]; omega
      have m2 : IntKind.u64.wrap (z + (x + y)) = z + (x + y) := by rw [IntKind.wrap_u64]; omega
      have m3 : (z + (x + y)) % 65536 = ((dg (X + Y) k : Nat) : Int) := by omega
      have m4 : (z + (x + y)) / 65536 = ((carry X Y (k + 1) : Nat) : Int) := by omega
      have m4' : (z + (x + y)).tdiv 65536 = ((carry X Y (k + 1) : Nat) : Int) := by rw [Int.tdiv_eq_ediv_of_nonneg (by omega)]; exact m4
      have m5 : IntKind.u64.wrap ((carry X Y (k + 1) : Nat) : Int) = ((carry X Y (k + 1) : Nat) : Int) := wrap_u (by omega)
      rw [hx] at c0
      rw [hy] at c1
      rw [hz]
      have HI := Lib.hid (And.intro hb (And.intro h0 (And.intro h1 h2)))
      clear hb h0 h1 h2 q1 q2 p1 p2 p3 hx hy hz
      go_wp2_with fail
      go_region
      go_wp2_with fail
      have hg := HG.out
      refine ⟨⟨k + 1, by omega, by go_num, rfl, Below.drew (HI.out.1.setCell (by show w.heap.size ≤ g0; omega) _), ?_, ?_, ?_⟩, by simp [intOf]; omega⟩
      · exact (HI.out.2.1.set k (dg (X + Y) k) hlt).congr (fun i _ => addD_succ X Y k i)
      · exact HI.out.2.2.1.other (by show g0 ≠ g1; omega) _
      · exact HI.out.2.2.2.other (by show g0 ≠ g2; omega) _
    · have hk8 : k = 8 := by omega
      subst hk8
      have lk : ¬ ((8 : Nat) : Int) < 8 := by omega
      rw [HC8.out]
      obtain ⟨p0, p1, p2, p3, p4, p5, p6, p7, p8⟩ := h0.c9
      obtain ⟨q0, q1, q2, q3, q4, q5, q6, q7, q8⟩ := h2.u9
      obtain ⟨r0, r1, r2, r3, r4, r5, r6, r7, r8⟩ := h2.c9
      have HI := Lib.hid hb
      have HV := Lib.hid (nV_congr (b := s) (fun i hi => addD_end X Y i hi))
      clear hb h0 h1 h2
      go_wp2_with fail
      refine bodyPost_ret (v := .tuple #[nV s (addD X Y 8), .bool true]) (by simp [results, Tryd.results30, go_sem, nV, *]) rfl ?_
      rw [← HQ.out]
      exact ⟨by rw [HV.out], num_far _ HI.out (by have := HG.out; omega) _ _ _ _ _ _ _ _ _⟩



set_option maxHeartbeats 8000000 in
/-- Signs that differ, the first size no lesser. -/
theorem r02_plus_ge (a b : Bool) (hab : (a != b) = true) (X Y : Nat) (hX : X < 340282366920938463463374607431768211456) (hY : Y < 340282366920938463463374607431768211456) (hlt : Y ≤ X) (w : World) :
    Calls Tryd.prog 30 #[nV a (dg X), nV b (dg Y)] w (PlusPost a (X - Y) w) := by
  have H3 := Lib.hid (three_num w a b (dg X) (dg Y))
  have HCM := Lib.hid (fun W => r02_cmp X Y hX hY W)
  have hcv : cmpN X Y = if Y < X then 1 else 0 := by unfold cmpN; rw [if_neg (by omega)]
  obtain ⟨cv, hcv'⟩ : ∃ c, cmpN X Y = c := ⟨_, rfl⟩
  have hneg : ¬ cv < 0 := by rw [← hcv']; rw [hcv]; split <;> omega
  rw [hcv'] at HCM
  have HPM := Lib.hid (show Y ≤ X by omega)
  generalize hQ : PlusPost a (X - Y) w = Q
  have HQ := Lib.hid hQ
  have hab2 : (!a == b) = true := by cases a <;> cases b <;> first | rfl | exact absurd hab (by decide)
  clear hQ hX hY hlt hcv hcv' hab
  unfold arrV at HCM
  unfold nV
  go_enter Tryd.func30, Tryd.ntmps30
  go_wp2_with fail
  refine (HCM.out _).mono ?_
  rintro e w1 ⟨rfl, hb1⟩
  have h3 : Below w.heap.size w w1 ∧ NumBlk w1 w.heap.size a (dg X) ∧ NumBlk w1 (w.heap.size + 1) b (dg Y) ∧ NumBlk w1 (w.heap.size + 1 + 1) false (fun _ => 0) :=
    ⟨H3.out.1.trans (hb1.mono H3.out.1.size), H3.out.2.1.keep hb1, H3.out.2.2.1.keep hb1, H3.out.2.2.2.keep hb1⟩
  clear hb1 H3
  obtain ⟨g0, hg0⟩ : ∃ g, g = w.heap.size := ⟨_, rfl⟩
  obtain ⟨g1, hg1⟩ : ∃ g, g = w.heap.size + 1 := ⟨_, rfl⟩
  obtain ⟨g2, hg2⟩ : ∃ g, g = w.heap.size + 1 + 1 := ⟨_, rfl⟩
  have H4 : Hid (Below w.heap.size w w1 ∧ NumBlk w1 g0 a (dg X) ∧ NumBlk w1 g1 b (dg Y) ∧ NumBlk w1 g2 false (fun _ => 0)) := Lib.hid (by rw [hg0, hg1, hg2]; exact h3)
  rw [← hg2, ← hg1, ← hg0]
  have HG := Lib.hid (And.intro hg0 (And.intro hg1 hg2))
  clear hg0 hg1 hg2 h3
  go_wp2_with fail
  go_loopw [6, 24] (fun c i wr => ∃ k : Nat, k ≤ 8 ∧ i = .int .i64 k ∧ c = .int .u64 (lack X Y k) ∧ Below w.heap.size w wr ∧ NumBlk wr g0 a (subD X Y k) ∧ NumBlk wr g1 b (dg Y) ∧ NumBlk wr g2 false (fun _ => 0)) (fun _ i _ => 8 - (intOf i).toNat)
  case atStart => exact ⟨0, by omega, rfl, by rw [lack_zero]; rfl, H4.out.1, H4.out.2.1.congr (fun i _ => subD_zero X Y i), H4.out.2.2.1, H4.out.2.2.2⟩
  case round =>
    obtain ⟨k, hk, rfl, rfl, hb, h0, h1, h2⟩ := hrel
    by_cases hlt : k < 8
    · have lk : (k : Int) < 8 := by omega
      have lk0 : (0 : Int) ≤ k := by omega
      have w1f : IntKind.i64.wrap ((k : Int) + 1) = (k : Int) + 1 := by rw [IntKind.wrap_i64]; omega
      have c0 := h0.cell k hlt
      rw [subD_at] at c0
      have c1 := h1.cell k hlt
      have u0 := h0.uk (1 + k)
      obtain ⟨q1, q2⟩ := sub_digit X Y k HPM.out hlt
      have p1 := lack_le X Y k
      have p2 := dg_lt X k
      have p3 := dg_lt Y k
      have p4 := lack_le X Y (k + 1)
      obtain ⟨x, hx⟩ : ∃ x : Int, ((dg X k : Nat) : Int) = x := ⟨_, rfl⟩
      obtain ⟨y, hy⟩ : ∃ x : Int, ((dg Y k : Nat) : Int) = x := ⟨_, rfl⟩
      obtain ⟨z, hz⟩ : ∃ x : Int, ((lack X Y k : Nat) : Int) = x := ⟨_, rfl⟩
      obtain ⟨t, ht⟩ : ∃ t : Int, t = x + 65536 - y - z := ⟨_, rfl⟩
      have m1 : IntKind.u64.wrap (x + 65536) = x + 65536 := by rw [IntKind.wrap_u64]; omega
      have m2 : IntKind.u64.wrap (x + 65536 - y) = x + 65536 - y := by rw [IntKind.wrap_u64]; omega
      have m2' : IntKind.u64.wrap (x + 65536 - y - z) = t := by rw [IntKind.wrap_u64]; omega
      have m3 : t % 65536 = ((dg (X - Y) k : Nat) : Int) := by omega
      have m3' : t.tmod 65536 = ((dg (X - Y) k : Nat) : Int) := by rw [Int.tmod_eq_emod_of_nonneg (by omega)]; exact m3
      obtain ⟨d, hd⟩ : ∃ d : Int, d = t / 65536 := ⟨_, rfl⟩
      have m4 : t / 65536 = d := hd.symm
      have m4' : t.tdiv 65536 = d := by rw [Int.tdiv_eq_ediv_of_nonneg (by omega)]; exact m4
      have m5 : IntKind.u64.wrap d = d := by rw [IntKind.wrap_u64]; omega
      have m6 : IntKind.u64.wrap (1 - d) = ((lack X Y (k + 1) : Nat) : Int) := by rw [IntKind.wrap_u64]; omega
      rw [hx] at c0
      rw [hy] at c1
      rw [hz]
      have HI := Lib.hid (And.intro hb (And.intro h0 (And.intro h1 h2)))
      clear hb h0 h1 h2 q1 q2 p1 p2 p3 p4 hx hy hz ht hd
      go_wp2_with fail
      go_region
      go_wp2_with fail
      have hg := HG.out
      refine ⟨⟨k + 1, by omega, by go_num, rfl, (HI.out.1.drew).setCell (by show w.heap.size ≤ g0; omega) _, ?_, ?_, ?_⟩, by simp [intOf]; omega⟩
      · exact (NumBlk.set (w := wr.drew) HI.out.2.1 k (dg (X - Y) k) hlt).congr (fun i _ => subD_succ X Y k i)
      · exact NumBlk.other (w := wr.drew) (show NumBlk wr.drew g1 _ _ from HI.out.2.2.1) (by show g0 ≠ g1; omega) _
      · exact NumBlk.other (w := wr.drew) (show NumBlk wr.drew g2 false (fun _ => 0) from HI.out.2.2.2) (by show g0 ≠ g2; omega) _
    · have hk8 : k = 8 := by omega
      subst hk8
      have lk : ¬ ((8 : Nat) : Int) < 8 := by omega
      obtain ⟨p0, p1, p2, p3, p4, p5, p6, p7, p8⟩ := h0.c9
      obtain ⟨q0, q1, q2, q3, q4, q5, q6, q7, q8⟩ := h2.u9
      obtain ⟨r0, r1, r2, r3, r4, r5, r6, r7, r8⟩ := h2.c9
      have HI := Lib.hid hb
      have HV := Lib.hid (nV_congr (b := a) (fun i hi => subD_end X Y i hi))
      clear hb h0 h1 h2
      go_wp2_with fail
      refine bodyPost_ret (v := .tuple #[nV a (subD X Y 8), .bool true]) (by simp [results, Tryd.results30, go_sem, nV, *]) rfl ?_
      rw [← HQ.out]
      exact ⟨by rw [HV.out], num_far _ HI.out (by have := HG.out; omega) _ _ _ _ _ _ _ _ _⟩

set_option maxHeartbeats 8000000 in
/-- Signs that differ, the first size the lesser. -/
theorem r02_plus_lt (a b : Bool) (hab : (a != b) = true) (X Y : Nat) (hX : X < 340282366920938463463374607431768211456) (hY : Y < 340282366920938463463374607431768211456) (hlt : X < Y) (w : World) :
    Calls Tryd.prog 30 #[nV a (dg X), nV b (dg Y)] w (PlusPost b (Y - X) w) := by
  have H3 := Lib.hid (three_num w a b (dg X) (dg Y))
  have HCM := Lib.hid (fun W => r02_cmp X Y hX hY W)
  have hcv : cmpN X Y = -1 := by unfold cmpN; rw [if_pos hlt]
  obtain ⟨cv, hcv'⟩ : ∃ c, cmpN X Y = c := ⟨_, rfl⟩
  have hneg : cv < 0 := by rw [← hcv']; rw [hcv]; omega
  rw [hcv'] at HCM
  have HPM := Lib.hid (show X ≤ Y by omega)
  generalize hQ : PlusPost b (Y - X) w = Q
  have HQ := Lib.hid hQ
  have hab2 : (!a == b) = true := by cases a <;> cases b <;> first | rfl | exact absurd hab (by decide)
  clear hQ hX hY hlt hcv hcv' hab
  unfold arrV at HCM
  unfold nV
  go_enter Tryd.func30, Tryd.ntmps30
  go_wp2_with fail
  refine (HCM.out _).mono ?_
  rintro e w1 ⟨rfl, hb1⟩
  have h3 : Below w.heap.size w w1 ∧ NumBlk w1 w.heap.size a (dg X) ∧ NumBlk w1 (w.heap.size + 1) b (dg Y) ∧ NumBlk w1 (w.heap.size + 1 + 1) false (fun _ => 0) :=
    ⟨H3.out.1.trans (hb1.mono H3.out.1.size), H3.out.2.1.keep hb1, H3.out.2.2.1.keep hb1, H3.out.2.2.2.keep hb1⟩
  clear hb1 H3
  obtain ⟨g0, hg0⟩ : ∃ g, g = w.heap.size := ⟨_, rfl⟩
  obtain ⟨g1, hg1⟩ : ∃ g, g = w.heap.size + 1 := ⟨_, rfl⟩
  obtain ⟨g2, hg2⟩ : ∃ g, g = w.heap.size + 1 + 1 := ⟨_, rfl⟩
  have H4 : Hid (Below w.heap.size w w1 ∧ NumBlk w1 g0 a (dg X) ∧ NumBlk w1 g1 b (dg Y) ∧ NumBlk w1 g2 false (fun _ => 0)) := Lib.hid (by rw [hg0, hg1, hg2]; exact h3)
  rw [← hg2, ← hg1, ← hg0]
  have HG := Lib.hid (And.intro hg0 (And.intro hg1 hg2))
  clear hg0 hg1 hg2 h3
  obtain ⟨p0, p1, p2, p3, p4, p5, p6, p7, p8⟩ := H4.out.2.1.c9
  obtain ⟨q0, q1, q2, q3, q4, q5, q6, q7, q8⟩ := H4.out.2.1.u9
  obtain ⟨r0, r1, r2, r3, r4, r5, r6, r7, r8⟩ := H4.out.2.2.1.c9
  obtain ⟨s0, s1, s2, s3, s4, s5, s6, s7, s8⟩ := H4.out.2.2.1.u9
  have hne : g0 ≠ g1 := by have := HG.out; omega
  have hne' : g1 ≠ g0 := by have := HG.out; omega
  go_wp2_with fail
  clear p0 p1 p2 p3 p4 p5 p6 p7 p8 q0 q1 q2 q3 q4 q5 q6 q7 q8 r0 r1 r2 r3 r4 r5 r6 r7 r8 s0 s1 s2 s3 s4 s5 s6 s7 s8
  generalize hW : World.setCell (World.setCell _ _ _) _ _ = W
  have h4 : Below w.heap.size w W ∧ NumBlk W g0 b (dg Y) ∧ NumBlk W g1 a (dg X) ∧ NumBlk W g2 false (fun _ => 0) := by
    rw [← hW]
    have hg := HG.out
    refine ⟨num_far _ (num_far _ H4.out.1 (by omega) _ _ _ _ _ _ _ _ _) (by omega) _ _ _ _ _ _ _ _ _, ?_, ?_, ?_⟩
    · exact (H4.out.2.1.put9 b (dg Y)).far9 (by omega) _ _ _ _ _ _ _ _ _
    · exact (H4.out.2.2.1.far9 (by omega) _ _ _ _ _ _ _ _ _).put9 a (dg X)
    · exact (H4.out.2.2.2.far9 (by omega) _ _ _ _ _ _ _ _ _).far9 (by omega) _ _ _ _ _ _ _ _ _
  clear H4 hW hne hne'
  have H4 := Lib.hid h4
  clear h4
  go_loopw [6, 24] (fun c i wr => ∃ k : Nat, k ≤ 8 ∧ i = .int .i64 k ∧ c = .int .u64 (lack Y X k) ∧ Below w.heap.size w wr ∧ NumBlk wr g0 b (subD Y X k) ∧ NumBlk wr g1 a (dg X) ∧ NumBlk wr g2 false (fun _ => 0)) (fun _ i _ => 8 - (intOf i).toNat)
  case atStart => exact ⟨0, by omega, rfl, by rw [lack_zero]; rfl, H4.out.1, H4.out.2.1.congr (fun i _ => subD_zero Y X i), H4.out.2.2.1, H4.out.2.2.2⟩
  case round =>
    obtain ⟨k, hk, rfl, rfl, hb, h0, h1, h2⟩ := hrel
    by_cases hlt : k < 8
    · have lk : (k : Int) < 8 := by omega
      have lk0 : (0 : Int) ≤ k := by omega
      have w1f : IntKind.i64.wrap ((k : Int) + 1) = (k : Int) + 1 := by rw [IntKind.wrap_i64]; omega
      have c0 := h0.cell k hlt
      rw [subD_at] at c0
      have c1 := h1.cell k hlt
      have u0 := h0.uk (1 + k)
      obtain ⟨q1, q2⟩ := sub_digit Y X k HPM.out hlt
      have p1 := lack_le Y X k
      have p2 := dg_lt Y k
      have p3 := dg_lt X k
      have p4 := lack_le Y X (k + 1)
      obtain ⟨x, hx⟩ : ∃ x : Int, ((dg Y k : Nat) : Int) = x := ⟨_, rfl⟩
      obtain ⟨y, hy⟩ : ∃ x : Int, ((dg X k : Nat) : Int) = x := ⟨_, rfl⟩
      obtain ⟨z, hz⟩ : ∃ x : Int, ((lack Y X k : Nat) : Int) = x := ⟨_, rfl⟩
      obtain ⟨t, ht⟩ : ∃ t : Int, t = x + 65536 - y - z := ⟨_, rfl⟩
      have m1 : IntKind.u64.wrap (x + 65536) = x + 65536 := by rw [IntKind.wrap_u64]; omega
      have m2 : IntKind.u64.wrap (x + 65536 - y) = x + 65536 - y := by rw [IntKind.wrap_u64]; omega
      have m2' : IntKind.u64.wrap (x + 65536 - y - z) = t := by rw [IntKind.wrap_u64]; omega
      have m3 : t % 65536 = ((dg (Y - X) k : Nat) : Int) := by omega
      have m3' : t.tmod 65536 = ((dg (Y - X) k : Nat) : Int) := by rw [Int.tmod_eq_emod_of_nonneg (by omega)]; exact m3
      obtain ⟨d, hd⟩ : ∃ d : Int, d = t / 65536 := ⟨_, rfl⟩
      have m4 : t / 65536 = d := hd.symm
      have m4' : t.tdiv 65536 = d := by rw [Int.tdiv_eq_ediv_of_nonneg (by omega)]; exact m4
      have m5 : IntKind.u64.wrap d = d := by rw [IntKind.wrap_u64]; omega
      have m6 : IntKind.u64.wrap (1 - d) = ((lack Y X (k + 1) : Nat) : Int) := by rw [IntKind.wrap_u64]; omega
      rw [hx] at c0
      rw [hy] at c1
      rw [hz]
      have HI := Lib.hid (And.intro hb (And.intro h0 (And.intro h1 h2)))
      clear hb h0 h1 h2 q1 q2 p1 p2 p3 p4 hx hy hz ht hd
      go_wp2_with fail
      go_region
      go_wp2_with fail
      have hg := HG.out
      refine ⟨⟨k + 1, by omega, by go_num, rfl, (HI.out.1.drew).setCell (by show w.heap.size ≤ g0; omega) _, ?_, ?_, ?_⟩, by simp [intOf]; omega⟩
      · exact (NumBlk.set (w := wr.drew) HI.out.2.1 k (dg (Y - X) k) hlt).congr (fun i _ => subD_succ Y X k i)
      · exact NumBlk.other (w := wr.drew) (show NumBlk wr.drew g1 _ _ from HI.out.2.2.1) (by show g0 ≠ g1; omega) _
      · exact NumBlk.other (w := wr.drew) (show NumBlk wr.drew g2 false (fun _ => 0) from HI.out.2.2.2) (by show g0 ≠ g2; omega) _
    · have hk8 : k = 8 := by omega
      subst hk8
      have lk : ¬ ((8 : Nat) : Int) < 8 := by omega
      obtain ⟨p0, p1, p2, p3, p4, p5, p6, p7, p8⟩ := h0.c9
      obtain ⟨q0, q1, q2, q3, q4, q5, q6, q7, q8⟩ := h2.u9
      obtain ⟨r0, r1, r2, r3, r4, r5, r6, r7, r8⟩ := h2.c9
      have HI := Lib.hid hb
      have HV := Lib.hid (nV_congr (b := b) (fun i hi => subD_end Y X i hi))
      clear hb h0 h1 h2
      go_wp2_with fail
      refine bodyPost_ret (v := .tuple #[nV b (subD Y X 8), .bool true]) (by simp [results, Tryd.results30, go_sem, nV, *]) rfl ?_
      rw [← HQ.out]
      exact ⟨by rw [HV.out], num_far _ HI.out (by have := HG.out; omega) _ _ _ _ _ _ _ _ _⟩

end Go.Proofs.YtmgoagncbmonlaaDoor
