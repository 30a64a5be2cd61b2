/- Layer 2 (wide), the reference: the walk of Mul. -/
import Derived.Test.YtmgoagncbmonlaaDoorWideL
set_option linter.unusedVariables false
set_option linter.unusedSimpArgs false
set_option maxRecDepth 100000
namespace Go.Proofs.YtmgoagncbmonlaaDoor
open Go.RowKit

/-- What stands in the digits while the row i goes, j of its digits done: c is carried. -/
structure MulAt (x y i j c : Nat) (D : Nat → Nat) : Prop where
  lt : ∀ t, t < 8 → D t < 65536
  carry : c < 65536
  zero : ∀ t, i + 4 ≤ t → t < 8 → D t = 0
  val : val8 D + c * 65536 ^ (i + j) = mulF x y i j
theorem val8_upd (D : Nat → Nat) (k v : Nat) (hk : k < 8) : val8 (upd D k v) + D k * 65536 ^ k = val8 D + v * 65536 ^ k := by
  unfold val8
  rcases (by omega : k = 0 ∨ k = 1 ∨ k = 2 ∨ k = 3 ∨ k = 4 ∨ k = 5 ∨ k = 6 ∨ k = 7) with rfl | rfl | rfl | rfl | rfl | rfl | rfl | rfl <;> simp [upd] <;> omega
theorem MulAt.start (x y : Nat) : MulAt x y 0 0 0 (fun _ => 0) := ⟨fun _ _ => by decide, by decide, fun _ _ _ => rfl, by rw [mulF_start]; simp [val8]⟩
theorem MulAt.step {x y i j c : Nat} {D : Nat → Nat} (h : MulAt x y i j c D) (hi : i < 4) (hj : j < 4) :
    MulAt x y i (j + 1) ((c + D (i + j) + dg x i * dg y j) / 65536) (upd D (i + j) ((c + D (i + j) + dg x i * dg y j) % 65536)) := by
  have hq : dg x i * dg y j ≤ 65535 * 65535 := Nat.mul_le_mul (by have := dg_lt x i; omega) (by have := dg_lt y j; omega)
  have hD := h.lt (i + j) (by omega)
  have hc := h.carry
  refine ⟨fun t ht => ?_, by omega, fun t h1 h2 => ?_, ?_⟩
  · unfold upd
    split
    · exact Nat.mod_lt _ (by decide)
    · exact h.lt t ht
  · unfold upd
    rw [if_neg (by omega)]
    exact h.zero t h1 h2
  · rw [mulF_step, ← h.val]
    have hu := val8_upd D (i + j) ((c + D (i + j) + dg x i * dg y j) % 65536) (by omega)
    generalize dg x i * dg y j = q at *
    rw [show i + (j + 1) = (i + j) + 1 by omega, Nat.pow_succ]
    generalize 65536 ^ (i + j) = p at *
    have hs := Nat.div_add_mod (c + D (i + j) + q) 65536
    have e1 : (c + D (i + j) + q) / 65536 * (p * 65536) + (c + D (i + j) + q) % 65536 * p = (c + D (i + j) + q) * p := by
      rw [← Nat.mul_assoc, Nat.mul_right_comm, ← Nat.add_mul]
      congr 1
      omega
    rw [Nat.add_mul, Nat.add_mul] at e1
    omega
theorem MulAt.row {x y i c : Nat} {D : Nat → Nat} (h : MulAt x y i 4 c D) (hi : i < 4) (hy : y < 18446744073709551616) : MulAt x y (i + 1) 0 0 (upd D (i + 4) (D (i + 4) + c)) ∧ D (i + 4) = 0 := by
  obtain ⟨h1, h2, h3, h4⟩ := h
  have h0 := h3 (i + 4) (Nat.le_refl _) (by omega)
  have e := mulF_row x y i hy
  generalize mulF x y i 4 = F at h4 e
  generalize hF : mulF x y (i + 1) 0 = F' at e
  have hu := val8_upd D (i + 4) (D (i + 4) + c) (by omega)
  generalize hp : 65536 ^ (i + 4) = p at hu h4
  refine ⟨⟨fun t ht => ?_, Nat.zero_lt_succ _, fun t h5 h6 => ?_, ?_⟩, h0⟩
  · unfold upd
    split
    · rw [h0]; omega
    · exact h1 t ht
  · unfold upd
    rw [if_neg (by omega)]
    exact h3 t (by omega) h6
  · rw [hF, ← e, ← h4]
    rw [h0, Nat.zero_mul, Nat.add_zero, Nat.zero_add] at hu
    rw [h0, Nat.zero_mul, Nat.add_zero, Nat.zero_add]
    exact hu
theorem mul_fin {v F m x y : Nat} {D : Nat → Nat} (hv : v + 0 * m = F) (hF : F = x * y) (hl : ∀ t, t < 8 → D t = dg v t) (t : Nat) (ht : t < 8) : D t = dg (x * y) t := by
  rw [hl t ht, ← hF, ← hv, Nat.zero_mul, Nat.add_zero]
theorem MulAt.fin {x y : Nat} {D : Nat → Nat} (h : MulAt x y 4 0 0 D) (hx : x < 18446744073709551616) : ∀ t, t < 8 → D t = dg (x * y) t :=
  mul_fin h.val (mulF_end x y hx) (fun t ht => dg_val D h.lt t ht)

theorem sg_mul (a b : Int) : sgN (decide (a < 0) != decide (b < 0)) (a.natAbs * b.natAbs) = a * b := by
  have key : ∀ x : Int, (x < 0 ∧ ∃ n : Nat, x = -(n : Int)) ∨ (¬ x < 0 ∧ ∃ n : Nat, x = (n : Int)) := fun x => by
    by_cases h : x < 0
    · exact .inl ⟨h, x.natAbs, by omega⟩
    · exact .inr ⟨h, x.natAbs, by omega⟩
  rcases key a with ⟨ha, n, rfl⟩ | ⟨ha, n, rfl⟩ <;> rcases key b with ⟨hb, m, rfl⟩ | ⟨hb, m, rfl⟩ <;>
    simp only [ha, hb, decide_true, decide_false, Int.natAbs_neg, Int.natAbs_natCast] <;> simp [sgN, Int.neg_mul_neg, Int.neg_mul, Int.mul_neg]
theorem natMul_lt (a b : Int) (ha : fit a) (hb : fit b) : a.natAbs * b.natAbs < 170141183460469231731687303715884105728 := by
  unfold fit at ha hb
  have : a.natAbs * b.natAbs ≤ 9223372036854775808 * 9223372036854775808 := Nat.mul_le_mul (by omega) (by omega)
  omega

/-- What Mul goes by: the blocks of both, and of what is made. -/
def MulW (w wr : World) (g4 g5 g6 g7 : Nat) (ba bb s : Bool) (X Y : Nat) (D : Nat → Nat) : Prop :=
  Below w.heap.size w wr ∧ WideBlk wr g4 0 0 ∧ NumBlk wr g5 ba (dg X) ∧ NumBlk wr g6 bb (dg Y) ∧ NumBlk wr g7 s D
theorem MulW.store {w wr : World} {g4 g5 g6 g7 : Nat} {ba bb s : Bool} {X Y : Nat} {D : Nat → Nat} (h : MulW w wr g4 g5 g6 g7 ba bb s X Y D) (k v : Nat) (hk : k < 8) (hg : w.heap.size ≤ g7) (n4 : g7 ≠ g4) (n5 : g7 ≠ g5) (n6 : g7 ≠ g6) :
    MulW w (wr.setCell ⟨g7, 1 + k, none⟩ (.int .u64 v)) g4 g5 g6 g7 ba bb s X Y (upd D k v) :=
  ⟨h.1.setCell hg _, (heap_setCell_other wr _ g4 _ (fun e => n4 e.symm)).trans h.2.1, h.2.2.1.other n5 _, h.2.2.2.1.other n6 _, h.2.2.2.2.set k v hk⟩
theorem MulW.drew {w wr : World} {g4 g5 g6 g7 : Nat} {ba bb s : Bool} {X Y : Nat} {D : Nat → Nat} (h : MulW w wr g4 g5 g6 g7 ba bb s X Y D) : MulW w wr.drew g4 g5 g6 g7 ba bb s X Y D :=
  ⟨h.1.drew, h.2.1, h.2.2.1, h.2.2.2.1, h.2.2.2.2⟩

set_option maxHeartbeats 8000000 in
theorem r02_Mul (a b : Int) (ha : fit a) (hb : fit b) (w : World) :
    Calls Tryd.prog 17 #[.int .i64 a, .int .i64 b] w fun e w' => e = .returned (wV (a * b)) ∧ Below w.heap.size w w' := by
  have hSA := fun W => r01_Size a ha W
  have hSB := fun W => r01_Size b hb W
  have hPA := fun W => r02_put (decide (a < 0)) 0 a.natAbs (by omega) (by unfold fit at ha; omega) W
  have hPB := fun W => r02_put (decide (b < 0)) 0 b.natAbs (by omega) (by unfold fit at hb; omega) W
  have hBK := fun W => r02_back (decide (a < 0) != decide (b < 0)) (a.natAbs * b.natAbs) (natMul_lt a b ha hb) W
  rw [sg_mul] at hBK
  simp only [Nat.zero_mul, Nat.zero_add] at hPA hPB
  rw [show ((0 : Nat) : Int) = 0 from rfl] at hPA hPB
  have HSA := Lib.hid hSA
  have HSB := Lib.hid hSB
  have HX : Hid (a.natAbs < 18446744073709551616 ∧ b.natAbs < 18446744073709551616) := Lib.hid (by unfold fit at ha hb; omega)
  have HZ := Lib.hid (wideZ_one w)
  have HB := Lib.hid (below_al w wideZ)
  unfold wideZ at HZ HB
  obtain ⟨ba, hba⟩ : ∃ c, decide (a < 0) = c := ⟨_, rfl⟩
  obtain ⟨bb, hbb⟩ : ∃ c, decide (b < 0) = c := ⟨_, rfl⟩
  rw [hba, hbb] at hBK
  rw [hba] at hPA
  rw [hbb] at hPB
  have dA : (a < 0) ↔ ba = true := by rw [← hba]; simp
  have dB : (b < 0) ↔ bb = true := by rw [← hbb]; simp
  clear hSA hSB ha hb
  unfold wV at *
  generalize wHi (a * b) = vh at *
  generalize wLo (a * b) = vl at *
  generalize a.natAbs = X at *
  generalize b.natAbs = Y at *
  obtain ⟨s, hs⟩ : ∃ c, (ba != bb) = c := ⟨_, rfl⟩
  rw [hs] at hBK
  have hs2 : (!ba == bb) = s := hs
  have HPA := Lib.hid hPA
  have HPB := Lib.hid hPB
  have HBK := Lib.hid hBK
  clear hPA hPB hBK
  generalize hQ : (fun (e : Ending) (w' : World) => e = Ending.returned (.agg #[.int .i64 vh, .int .u64 vl]) ∧ Below w.heap.size w w') = Q
  have HQ := Lib.hid hQ
  clear hQ
  go_enter Tryd.func17, Tryd.ntmps17
  go_wp2_with fail
  refine (HSA.out _).mono ?_
  rintro e w1 ⟨rfl, hw1⟩
  subst hw1
  unfold nV at HPA HPB
  go_wp2_with fail
  refine (HPA.out _).mono ?_
  rintro e w2 ⟨rfl, hb2⟩
  have HB2 := Lib.hid (HB.out.trans (hb2.mono HB.out.size))
  have HZ2 := Lib.hid (HZ.out.keep hb2)
  clear hb2
  go_wp2_with fail
  refine (HSB.out _).mono ?_
  rintro e w3 ⟨rfl, hw3⟩
  subst hw3
  go_wp2_with fail
  refine (HPB.out _).mono ?_
  rintro e w4 ⟨rfl, hb4⟩
  have hx5 : NumBlk w4 w2.heap.size ba (dg X) := (hb4.block w2.heap.size (by simp)).trans (heap_alloc_new w2 _)
  have hB4 := (HB2.out.alloc HB2.out.size (NumO ba (dg X))).trans (hb4.mono (HB2.out.alloc HB2.out.size (NumO ba (dg X))).size)
  have hZ4 : WideBlk w4 w.heap.size 0 0 := (HZ2.out.keep (below_al w2 _)).keep hb4
  have HI4 := Lib.hid (And.intro hx5 (And.intro hB4 hZ4))
  have e5 := Joins.cell_of_block hx5 0
  have l5 := hx5.lt
  have h24 : w2.heap.size + 1 ≤ w4.heap.size := by simpa using hb4.size
  have hww : w.heap.size + 1 ≤ w2.heap.size := by have := (Array.getElem?_eq_some_iff.1 HZ2.out).1; omega
  have HG := Lib.hid (And.intro hww h24)
  clear hb4 hx5 hB4 hZ4 h24 hww HZ2 HB2
  go_wp2_with fail
  generalize hW : World.alloc (World.alloc w4 _) _ = W
  obtain ⟨g4, hg4⟩ : ∃ g, g = w.heap.size := ⟨_, rfl⟩
  obtain ⟨g5, hg5⟩ : ∃ g, g = w2.heap.size := ⟨_, rfl⟩
  obtain ⟨g6, hg6⟩ : ∃ g, g = w4.heap.size := ⟨_, rfl⟩
  obtain ⟨g7, hg7⟩ : ∃ g, g = w4.heap.size + 1 := ⟨_, rfl⟩
  have h3 : MulW w W g4 g5 g6 g7 ba bb s X Y (fun _ => 0) := by
    have h4b := below_two w4 (NumO bb (dg Y)) (NumO s (fun _ => 0))
    have hW' : (w4.alloc (NumO bb (dg Y))).alloc (NumO s (fun _ => 0)) = W := hW
    rw [hW'] at h4b
    rw [hg4, hg5, hg6, hg7]
    refine ⟨HI4.out.2.1.trans (h4b.mono HI4.out.2.1.size), HI4.out.2.2.keep h4b, HI4.out.1.keep h4b, ?_, ?_⟩
    · rw [← hW']; exact numB_two w4 bb (dg Y) _
    · rw [← hW']
      have := heap_alloc_new (w4.alloc (NumO bb (dg Y))) (NumO s (fun _ => 0))
      simpa [NumBlk, NumO] using this
  clear e5 l5
  have H3 := Lib.hid h3
  rw [← hg7, ← hg6, ← hg5, ← hg4]
  have hgg := HG.out
  have HN : Hid (w.heap.size ≤ g7 ∧ g7 ≠ g4 ∧ g7 ≠ g5 ∧ g7 ≠ g6 ∧ w.heap.size ≤ g4) := Lib.hid (by omega)
  clear h3 hW hg4 hg5 hg6 hg7 hgg HG HI4 HZ HB
  go_loopw [29] (fun i wr => ∃ (k : Nat) (D : Nat → Nat), k ≤ 4 ∧ i = .int .i64 k ∧ MulAt X Y k 0 0 D ∧ MulW w wr g4 g5 g6 g7 ba bb s X Y D) (fun i _ => 4 - (intOf i).toNat)
  case atStart => exact ⟨0, _, by omega, rfl, MulAt.start X Y, H3.out⟩
  case round =>
    obtain ⟨k, D, hk, rfl, hm, hw⟩ := hrel
    obtain ⟨wo, hwo⟩ : ∃ wo, wo = wr := ⟨_, rfl⟩
    subst hwo
    have HM := Lib.hid hm
    have HW := Lib.hid hw
    clear hm hw
    by_cases hlt : k < 4
    · have lk : (k : Int) < 4 := by omega
      have w1f : IntKind.i64.wrap ((k : Int) + 1) = (k : Int) + 1 := by rw [IntKind.wrap_i64]; omega
      go_wp2_with fail
      go_loopw [9, 32] (fun m j wr => ∃ (q c : Nat) (E : Nat → Nat), q ≤ 4 ∧ j = .int .i64 q ∧ m = .int .u64 c ∧ MulAt X Y k q c E ∧ MulW w wr g4 g5 g6 g7 ba bb s X Y E) (fun _ j _ => 4 - (intOf j).toNat)
      case atStart => exact ⟨0, 0, D, by omega, rfl, rfl, HM.out, HW.out⟩
      case round =>
        obtain ⟨q, c, E, hq, rfl, rfl, hm, hw⟩ := hrel
        by_cases hql : q < 4
        · have lq : (q : Int) < 4 := by omega
          have lq0 : (0 : Int) ≤ q := by omega
          have lq8 : (q : Int) < 8 := by omega
          have lk0 : (0 : Int) ≤ k := by omega
          have lk8 : (k : Int) < 8 := by omega
          have ls0 : (0 : Int) ≤ (k : Int) + q := by omega
          have ls8 : (k : Int) + q < 8 := by omega
          have nsum : ((k : Int) + q).toNat = k + q := by omega
          have w2f : IntKind.i64.wrap ((q : Int) + 1) = (q : Int) + 1 := by rw [IntKind.wrap_i64]; omega
          have w3f : IntKind.i64.wrap ((k : Int) + q) = (k : Int) + q := by rw [IntKind.wrap_i64]; omega
          have c0 := hw.2.2.2.2.cell (k + q) (by omega)
          have u0 := hw.2.2.2.2.uk (1 + (k + q))
          have c1 := hw.2.2.1.cell k (by omega)
          have c2 := hw.2.2.2.1.cell q (by omega)
          have hst := hm.step hlt hql
          have hE := hm.lt (k + q) (by omega)
          have hc := hm.carry
          have b1 := dg_lt X k
          have b2 := dg_lt Y q
          have hpr : dg X k * dg Y q ≤ 65535 * 65535 := Nat.mul_le_mul (by omega) (by omega)
          obtain ⟨S, hS⟩ : ∃ S, c + E (k + q) + dg X k * dg Y q = S := ⟨_, rfl⟩
          rw [hS] at hst
          obtain ⟨p, hp⟩ : ∃ p : Int, ((dg X k * dg Y q : Nat) : Int) = p := ⟨_, rfl⟩
          have hp' : ((dg X k : Nat) : Int) * ((dg Y q : Nat) : Int) = p := by rw [← hp]; exact (Int.natCast_mul _ _).symm
          obtain ⟨x, hx⟩ : ∃ x : Int, ((dg X k : Nat) : Int) = x := ⟨_, rfl⟩
          obtain ⟨y, hy⟩ : ∃ x : Int, ((dg Y q : Nat) : Int) = x := ⟨_, rfl⟩
          obtain ⟨o, ho⟩ : ∃ x : Int, ((E (k + q) : Nat) : Int) = x := ⟨_, rfl⟩
          obtain ⟨z, hz⟩ : ∃ x : Int, ((c : Nat) : Int) = x := ⟨_, rfl⟩
          rw [hx, hy] at hp'
          rw [hx] at c1
          rw [hy] at c2
          rw [ho] at c0
          obtain ⟨t, ht⟩ : ∃ t : Int, t = z + (o + p) := ⟨_, rfl⟩
          have m0 : IntKind.u64.wrap (x * y) = p := by rw [hp', IntKind.wrap_u64]; omega
          have m1 : IntKind.u64.wrap (o + p) = o + p := by rw [IntKind.wrap_u64]; omega
          have m2 : IntKind.u64.wrap (z + (o + p)) = t := by rw [IntKind.wrap_u64]; omega
          have m3 : t % 65536 = ((S % 65536 : Nat) : Int) := by omega
          have m3' : t.tmod 65536 = ((S % 65536 : Nat) : Int) := by rw [Int.tmod_eq_emod_of_nonneg (by omega)]; exact m3
          have m4 : t / 65536 = ((S / 65536 : Nat) : Int) := by omega
          have m4' : t.tdiv 65536 = ((S / 65536 : Nat) : Int) := by rw [Int.tdiv_eq_ediv_of_nonneg (by omega)]; exact m4
          have m5 : IntKind.u64.wrap ((S / 65536 : Nat) : Int) = ((S / 65536 : Nat) : Int) := wrap_u (by omega)
          generalize S % 65536 = sm at *
          generalize S / 65536 = sd at *
          rw [hz]
          have HST := Lib.hid hst
          have HWW := Lib.hid hw
          clear hm hw hst hE hc b1 b2 hpr hS hp hp' hx hy ho hz ht
          go_wp2_with fail
          go_region
          go_wp2_with fail
          have hn := HN.out
          exact ⟨⟨q + 1, sd, _, by omega, by go_num, rfl, HST.out, HWW.out.drew.store (k + q) sm (by omega) hn.1 hn.2.1 hn.2.2.1 hn.2.2.2.1⟩, by simp [intOf]; omega⟩
        · have hq4 : q = 4 := by omega
          subst hq4
          have lq : ¬ ((4 : Nat) : Int) < 4 := by omega
          obtain ⟨hrow, hE0⟩ := hm.row hlt HX.out.2
          have hc := hm.carry
          have lk0 : (0 : Int) ≤ (k : Int) + 4 := by omega
          have lk8 : (k : Int) + 4 < 8 := by omega
          have nsum : ((k : Int) + 4).toNat = k + 4 := by omega
          have w3f : IntKind.i64.wrap ((k : Int) + 4) = (k : Int) + 4 := by rw [IntKind.wrap_i64]; omega
          have c0 := hw.2.2.2.2.cell (k + 4) (by omega)
          have u0 := hw.2.2.2.2.uk (1 + (k + 4))
          obtain ⟨e, he⟩ : ∃ e, E (k + 4) + c = e := ⟨_, rfl⟩
          obtain ⟨o, ho⟩ : ∃ x : Int, ((E (k + 4) : Nat) : Int) = x := ⟨_, rfl⟩
          obtain ⟨z, hz⟩ : ∃ x : Int, ((c : Nat) : Int) = x := ⟨_, rfl⟩
          have m1 : IntKind.u64.wrap (o + z) = ((e : Nat) : Int) := by rw [IntKind.wrap_u64]; omega
          rw [he] at hrow
          rw [ho] at c0
          rw [hz]
          have HST := Lib.hid hrow
          have HWW := Lib.hid hw
          clear hm hw hrow hE0 hc he ho hz hq
          go_wp2_with fail
          have hn := HN.out
          exact ⟨⟨k + 1, _, by omega, by go_num, HST.out, HWW.out.store (k + 4) e (by omega) hn.1 hn.2.1 hn.2.2.1 hn.2.2.2.1⟩, by simp [intOf]; omega⟩
    · have hk4 : k = 4 := by omega
      subst hk4
      have lk : ¬ ((4 : Nat) : Int) < 4 := by omega
      obtain ⟨p0, p1, p2, p3, p4, p5, p6, p7, p8⟩ := HW.out.2.2.2.2.c9
      have hbk := HBK.out
      rw [← nV_congr (b := s) (fun i hi => HM.out.fin HX.out.1 i hi)] at hbk
      unfold nV at hbk
      have HBK := Lib.hid hbk
      clear hbk
      go_wp2_with fail
      refine (HBK.out _).mono ?_
      rintro e w7 ⟨rfl, hb7⟩
      have HB7 := Lib.hid (HW.out.1.trans (hb7.mono HW.out.1.size))
      have hz := HW.out.2.1.keep hb7
      have q0 := Joins.unfrozen_of_block hz 0
      have q1 := Joins.unfrozen_of_block hz 1
      have r0 := Joins.cell_of_block hz 0
      have r1 := Joins.cell_of_block hz 1
      have hlt := (Array.getElem?_eq_some_iff.1 hz).1
      clear hb7 hz p0 p1 p2 p3 p4 p5 p6 p7 p8
      go_wp2_with fail
      refine bodyPost_ret (v := .agg #[.int .i64 vh, .int .u64 vl]) (by simp [results, Tryd.results17, go_sem, *]) rfl ?_
      rw [← HQ.out]
      have hb8 := wide_below (g := g4) HB7.out HN.out.2.2.2.2 (.int .i64 vh) (.int .u64 vl)
      exact ⟨rfl, hb8.alloc hb8.size _⟩

end Go.Proofs.YtmgoagncbmonlaaDoor
