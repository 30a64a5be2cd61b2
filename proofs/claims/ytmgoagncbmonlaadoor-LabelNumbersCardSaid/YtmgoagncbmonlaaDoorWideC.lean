/- Layer 2 (wide), the reference: the walks of cmp, plus. -/
import Derived.Test.YtmgoagncbmonlaaDoorWideZ
set_option linter.unusedVariables false
set_option linter.unusedSimpArgs false
set_option maxRecDepth 100000
namespace Go.Proofs.YtmgoagncbmonlaaDoor
open Go.RowKit

def arrV (D : Nat → Nat) : Value := .agg #[.int .u64 (D 0), .int .u64 (D 1), .int .u64 (D 2), .int .u64 (D 3), .int .u64 (D 4), .int .u64 (D 5), .int .u64 (D 6), .int .u64 (D 7)]
def arrO (D : Nat → Nat) : Obj := .cells #[.int .u64 (D 0), .int .u64 (D 1), .int .u64 (D 2), .int .u64 (D 3), .int .u64 (D 4), .int .u64 (D 5), .int .u64 (D 6), .int .u64 (D 7)] 60
def ArrBlk (w : World) (g : Nat) (D : Nat → Nat) : Prop := w.heap[g]? = some (.cells #[.int .u64 (D 0), .int .u64 (D 1), .int .u64 (D 2), .int .u64 (D 3), .int .u64 (D 4), .int .u64 (D 5), .int .u64 (D 6), .int .u64 (D 7)] 60 (0, 0))
theorem ArrBlk.cell {w : World} {g : Nat} {D : Nat → Nat} (h : ArrBlk w g D) (k : Nat) (hk : k < 8) : w.cell? ⟨g, k, none⟩ = some (.int .u64 (D k)) := by
  rw [Joins.cell_of_block h k]
  rcases (by omega : k = 0 ∨ k = 1 ∨ k = 2 ∨ k = 3 ∨ k = 4 ∨ k = 5 ∨ k = 6 ∨ k = 7) with rfl | rfl | rfl | rfl | rfl | rfl | rfl | rfl <;> rfl
theorem arr_two (w : World) (A B : Nat → Nat) : ArrBlk ((w.alloc (arrO A)).alloc (arrO B)) w.heap.size A ∧ ArrBlk ((w.alloc (arrO A)).alloc (arrO B)) (w.heap.size + 1) B := by
  refine ⟨(Go.heap_alloc_old _ _ (by simp)).trans (heap_alloc_new w _), ?_⟩
  have := heap_alloc_new (w.alloc (arrO A)) (arrO B)
  simpa [ArrBlk, arrO] using this
theorem off_8 (x : Nat) (h : x < 340282366920938463463374607431768211456) : off x 8 = 0 := by unfold off; omega

set_option maxHeartbeats 4000000 in
theorem r02_cmp (a b : Nat) (ha : a < 340282366920938463463374607431768211456) (hb : b < 340282366920938463463374607431768211456) (w : World) :
    Calls Tryd.prog 42 #[arrV (dg a), arrV (dg b)] w fun e w' => e = .returned (.int .i64 (cmpN a b)) ∧ Below w.heap.size w w' := by
  have HST := Lib.hid (cmp_step a b)
  have H8 := Lib.hid (show off a 8 = off b 8 by rw [off_8 a ha, off_8 b hb])
  have HZ := Lib.hid (fun h : off a 0 = off b 0 => show a = b by rwa [off_zero, off_zero] at h)
  have HB := Lib.hid (below_two w (arrO (dg a)) (arrO (dg b)))
  have HX := Lib.hid (arr_two w (dg a) (dg b))
  clear ha hb
  generalize hc : cmpN a b = c at *
  have HC := Lib.hid hc
  clear hc
  unfold arrO at HB HX
  unfold arrV
  generalize dg a = A at *
  generalize dg b = B at *
  go_enter Tryd.func42, Tryd.ntmps42
  go_wp2_with fail
  generalize World.alloc (World.alloc w _) _ = W at *
  generalize hg : w.heap.size = g at *
  have HG := Lib.hid hg
  clear hg
  go_loopw [5] (fun i wr => ∃ k : Nat, k ≤ 8 ∧ i = .int .i64 ((k : Int) - 1) ∧ Below g w wr ∧ ArrBlk wr g A ∧ ArrBlk wr (g + 1) B ∧ off a k = off b k) (fun i _ => (intOf i + 1).toNat)
  case atStart => exact ⟨8, by omega, rfl, HB.out, HX.out.1, HX.out.2, H8.out⟩
  case round =>
    obtain ⟨k, hk, hi, hb, hx1, hx2, ho⟩ := hrel
    rcases Nat.eq_zero_or_pos k with h0 | h0
    · subst h0
      subst hi
      have he := HZ.out ho
      have HR := Lib.hid (show c = 0 by rw [← HC.out, he]; simp [cmpN])
      have HI := Lib.hid hb
      clear he ho hk hb hx1 hx2
      go_wp2_with fail
      go_ret
      exact ⟨by rw [HR.out]; rfl, by rw [HG.out]; exact HI.out⟩
    · obtain ⟨j, rfl⟩ : ∃ j, k = j + 1 := ⟨k - 1, by omega⟩
      rw [show ((j + 1 : Nat) : Int) - 1 = j by omega] at hi
      subst hi
      obtain ⟨s1, s2, s3⟩ := HST.out j ho
      have lk0 : (0 : Int) ≤ j := by omega
      have lk8 : (j : Int) < 8 := by omega
      have w1f : IntKind.i64.wrap ((j : Int) - 1) = (j : Int) - 1 := by rw [IntKind.wrap_i64]; omega
      have c1 := hx1.cell j (by omega)
      have c2 := hx2.cell j (by omega)
      have HI := Lib.hid (And.intro hb (And.intro hx1 hx2))
      clear hb hx1 hx2
      rcases Nat.lt_trichotomy (A j) (B j) with hl | hl | hl
      · have HR := Lib.hid (show c = -1 by rw [← HC.out]; unfold cmpN; rw [if_pos (s1 hl)])
        have l1 : ((A j : Nat) : Int) < ((B j : Nat) : Int) := by omega
        clear s1 s2 s3 ho hl hk
        generalize ((A j : Nat) : Int) = x at *
        generalize ((B j : Nat) : Int) = y at *
        go_wp2_with fail
        go_region
        all_goals (
          go_wp2_with fail
          go_ret
          exact ⟨by rw [HR.out]; rfl, by rw [HG.out]; exact Below.drew HI.out.1⟩)
      · have HR := Lib.hid (s3 hl)
        have l1 : ¬ ((A j : Nat) : Int) < ((B j : Nat) : Int) := by omega
        have l2 : ¬ ((B j : Nat) : Int) < ((A j : Nat) : Int) := by omega
        clear s1 s2 s3 ho hl
        generalize ((A j : Nat) : Int) = x at *
        generalize ((B j : Nat) : Int) = y at *
        go_wp2_with fail
        go_region
        go_wp2_with fail
        go_region
        go_wp2_with fail
        exact ⟨⟨j, by omega, by first | trivial | rfl, Below.drew (Below.drew HI.out.1), HI.out.2.1, HI.out.2.2, HR.out⟩, by first | (simp [intOf]; done) | (simp [intOf]; omega)⟩
      · have HR := Lib.hid (show c = 1 by rw [← HC.out]; unfold cmpN; rw [if_neg (by have := s2 hl; omega), if_pos (s2 hl)])
        have l1 : ¬ ((A j : Nat) : Int) < ((B j : Nat) : Int) := by omega
        have l2 : ((B j : Nat) : Int) < ((A j : Nat) : Int) := by omega
        clear s1 s2 s3 ho hl hk
        generalize ((A j : Nat) : Int) = x at *
        generalize ((B j : Nat) : Int) = y at *
        go_wp2_with fail
        go_region
        go_wp2_with fail
        go_region
        all_goals (
          go_wp2_with fail
          go_ret
          exact ⟨by rw [HR.out]; rfl, by rw [HG.out]; exact Below.drew (Below.drew HI.out.1)⟩)

/-! ### plus -/
def NumO (b : Bool) (D : Nat → Nat) : Obj := .cells #[.bool b, .int .u64 (D 0), .int .u64 (D 1), .int .u64 (D 2), .int .u64 (D 3), .int .u64 (D 4), .int .u64 (D 5), .int .u64 (D 6), .int .u64 (D 7)] 62
theorem three_num (w : World) (a b : Bool) (A B : Nat → Nat) : Below w.heap.size w (((w.alloc (NumO a A)).alloc (NumO b B)).alloc numZ) ∧ NumBlk (((w.alloc (NumO a A)).alloc (NumO b B)).alloc numZ) w.heap.size a A ∧ NumBlk (((w.alloc (NumO a A)).alloc (NumO b B)).alloc numZ) (w.heap.size + 1) b B ∧ NumBlk (((w.alloc (NumO a A)).alloc (NumO b B)).alloc numZ) (w.heap.size + 1 + 1) false (fun _ => 0) := by
  have h2 := below_two w (NumO a A) (NumO b B)
  refine ⟨h2.alloc h2.size _, (Go.heap_alloc_old _ _ (by simp; omega)).trans (numB_two w a A _), ?_, ?_⟩
  · have := heap_alloc_new (w.alloc (NumO a A)) (NumO b B)
    refine (Go.heap_alloc_old _ _ (by simp)).trans ?_
    simpa [NumBlk, NumO] using this
  · have := heap_alloc_new ((w.alloc (NumO a A)).alloc (NumO b B)) numZ
    simpa [NumBlk, numZ] using this
/-- All nine cells stored. -/
theorem NumBlk.put9 {w : World} {g : Nat} {b : Bool} {D : Nat → Nat} (h : NumBlk w g b D) (b' : Bool) (E : Nat → Nat) :
    NumBlk (((((((((w.setCell ⟨g, 0, none⟩ (.bool b')).setCell ⟨g, 1, none⟩ (.int .u64 (E 0))).setCell ⟨g, 2, none⟩ (.int .u64 (E 1))).setCell ⟨g, 3, none⟩ (.int .u64 (E 2))).setCell ⟨g, 4, none⟩ (.int .u64 (E 3))).setCell ⟨g, 5, none⟩ (.int .u64 (E 4))).setCell ⟨g, 6, none⟩ (.int .u64 (E 5))).setCell ⟨g, 7, none⟩ (.int .u64 (E 6))).setCell ⟨g, 8, none⟩ (.int .u64 (E 7))) g b' E := by
  have := Joins.block_setCell (Joins.block_setCell (Joins.block_setCell (Joins.block_setCell (Joins.block_setCell (Joins.block_setCell (Joins.block_setCell (Joins.block_setCell (Joins.block_setCell h (i := 0) (.bool b')) (i := 1) (.int .u64 (E 0))) (i := 2) (.int .u64 (E 1))) (i := 3) (.int .u64 (E 2))) (i := 4) (.int .u64 (E 3))) (i := 5) (.int .u64 (E 4))) (i := 6) (.int .u64 (E 5))) (i := 7) (.int .u64 (E 6))) (i := 8) (.int .u64 (E 7))
  simp only [List.setIfInBounds_toArray, List.set_cons_zero, List.set_cons_succ] at this
  exact this
theorem NumBlk.far9 {w : World} {g q : Nat} {b : Bool} {D : Nat → Nat} (h : NumBlk w g b D) (hq : q ≠ g) (v0 v1 v2 v3 v4 v5 v6 v7 v8 : Value) :
    NumBlk (((((((((w.setCell ⟨q, 0, none⟩ v0).setCell ⟨q, 1, none⟩ v1).setCell ⟨q, 2, none⟩ v2).setCell ⟨q, 3, none⟩ v3).setCell ⟨q, 4, none⟩ v4).setCell ⟨q, 5, none⟩ v5).setCell ⟨q, 6, none⟩ v6).setCell ⟨q, 7, none⟩ v7).setCell ⟨q, 8, none⟩ v8) g b D :=
  ((((((((h.other hq _).other hq _).other hq _).other hq _).other hq _).other hq _).other hq _).other hq _).other hq _
theorem num_far {w W : World} {g : Nat} (B : Nat) (h : Below B w W) (hg : B ≤ g) (v0 v1 v2 v3 v4 v5 v6 v7 v8 : Value) :
    Below B w (((((((((W.setCell ⟨g, 0, none⟩ v0).setCell ⟨g, 1, none⟩ v1).setCell ⟨g, 2, none⟩ v2).setCell ⟨g, 3, none⟩ v3).setCell ⟨g, 4, none⟩ v4).setCell ⟨g, 5, none⟩ v5).setCell ⟨g, 6, none⟩ v6).setCell ⟨g, 7, none⟩ v7).setCell ⟨g, 8, none⟩ v8) :=
  ((((((((h.setCell hg _).setCell hg _).setCell hg _).setCell hg _).setCell hg _).setCell hg _).setCell hg _).setCell hg _).setCell hg _

end Go.Proofs.YtmgoagncbmonlaaDoor
