/- Layer 11 (field): the walks of place of patterns, weeks. -/
import Derived.Test.YtjbniichcopnlaaFieldA
import Derived.Deep.RegionWith
set_option linter.unusedVariables false
set_option linter.unusedSimpArgs false
set_option maxRecDepth 100000
namespace Go.Proofs.Ytjbniichcopnlaa
open Go.RowKit

def patAt (k : Nat) (a b c : Int) : Bool :=
  match k with
  | 0 => decide (a = 4) && decide (b = 4) && decide (c = 5)
  | 1 => decide (a = 4) && decide (b = 5) && decide (c = 4)
  | _ => decide (a = 5) && decide (b = 4) && decide (c = 4)
/-- The first pattern from the k-th on. -/
def patFrom (k : Nat) (a b c : Int) : Int :=
  match k with
  | 0 => if patAt 0 a b c then 0 else if patAt 1 a b c then 1 else if patAt 2 a b c then 2 else -1
  | 1 => if patAt 1 a b c then 1 else if patAt 2 a b c then 2 else -1
  | 2 => if patAt 2 a b c then 2 else -1
  | _ => -1
theorem patFrom_step (k : Nat) (a b c : Int) (hk : k < 3) : patFrom k a b c = if patAt k a b c then (k : Int) else patFrom (k + 1) a b c := by
  obtain rfl | rfl | rfl : k = 0 ∨ k = 1 ∨ k = 2 := by omega
  all_goals rfl
theorem patFrom_ok (a b c : Int) : decide (0 < patFrom 0 a b c + 1) = patOk a b c := by
  unfold patFrom patOk
  show decide (0 < (if patAt 0 a b c then (0 : Int) else if patAt 1 a b c then 1 else if patAt 2 a b c then 2 else -1) + 1) = (patAt 0 a b c || patAt 1 a b c || patAt 2 a b c)
  cases patAt 0 a b c <;> cases patAt 1 a b c <;> cases patAt 2 a b c <;> rfl
theorem patFrom_rng (a b c : Int) : -1 ≤ patFrom 0 a b c ∧ patFrom 0 a b c ≤ 2 := by
  unfold patFrom
  cases patAt 0 a b c <;> cases patAt 1 a b c <;> cases patAt 2 a b c <;> simp
def PatBlk (w : World) (g : Nat) : Prop := ∃ T, w.heap[g]? = some (.cells #[.int .i64 4, .int .i64 4, .int .i64 5, .int .i64 4, .int .i64 5, .int .i64 4, .int .i64 5, .int .i64 4, .int .i64 4] T (0, 0))
theorem PatBlk.keep {w w' : World} {g : Nat} (h : PatBlk w g) (hb : Below w.heap.size w w') : PatBlk w' g := by
  obtain ⟨T, h⟩ := h
  exact ⟨T, (hb.block g (Array.getElem?_eq_some_iff.1 h).1).trans h⟩

set_option maxHeartbeats 2000000 in
theorem idx_pat (a b c : Int) (g : Nat) (w : World) (hg : PatBlk w g) :
    Calls Try.prog 91 #[.slice (some ⟨g, 0, none⟩) 3 3, .agg #[.int .i64 a, .int .i64 b, .int .i64 c]] w fun e w' => e = .returned (.int .i64 (patFrom 0 a b c)) ∧ Below w.heap.size w w' := by
  obtain ⟨T, hg⟩ := hg
  have hglt := (Array.getElem?_eq_some_iff.1 hg).1
  have HG := Lib.hid hg
  have hb0 : Below w.heap.size w (w.alloc (.cells #[.int .i64 a, .int .i64 b, .int .i64 c] 29)) := (Below.refl _ _).alloc (Nat.le_refl _) _
  have HB0 := Lib.hid hb0
  have hbx : (w.alloc (.cells #[.int .i64 a, .int .i64 b, .int .i64 c] 29)).heap[w.heap.size]? = some (.cells #[.int .i64 a, .int .i64 b, .int .i64 c] 29 (0, 0)) := heap_alloc_new _ _
  have HX := Lib.hid hbx
  clear hg hb0 hbx
  go_enter Try.func91, Try.ntmps91
  go_wp2_with fail
  go_loopw [8] (fun i wr => ∃ k : Nat, k ≤ 3 ∧ i = .int .i64 k ∧ Below w.heap.size w wr ∧ wr.heap[w.heap.size]? = some (.cells #[.int .i64 a, .int .i64 b, .int .i64 c] 29 (0, 0)) ∧ patFrom 0 a b c = patFrom k a b c) (fun i _ => 3 - (intOf i).toNat)
  case atStart => exact ⟨0, by omega, rfl, HB0.out, HX.out, rfl⟩
  case round =>
    obtain ⟨k, hk, rfl, hb, hx, hp⟩ := hrel
    have HB := Lib.hid hb
    have hgr := (hb.block g hglt).trans HG.out
    have x0 := Joins.cell_of_block hx 0
    have x1 := Joins.cell_of_block hx 1
    have x2 := Joins.cell_of_block hx 2
    have HXr := Lib.hid hx
    by_cases hlt : k < 3
    · rw [patFrom_step k a b c hlt] at hp
      have lk : (k : Int) < 3 := by omega
      have lk0 : (0 : Int) ≤ k := by omega
      have w1f : IntKind.i64.wrap ((k : Int) + 1) = (k : Int) + 1 := by rw [IntKind.wrap_i64]; omega
      obtain ⟨p, q, r, hq, e0, e1, e2⟩ : ∃ p q r : Int, (decide (a = p) && decide (b = q) && decide (c = r)) = patAt k a b c ∧ wr.cell? ⟨g, k * 3, none⟩ = some (.int .i64 p) ∧ wr.cell? ⟨g, k * 3 + 1, none⟩ = some (.int .i64 q) ∧ wr.cell? ⟨g, k * 3 + 2, none⟩ = some (.int .i64 r) := by
        obtain rfl | rfl | rfl : k = 0 ∨ k = 1 ∨ k = 2 := by omega
        · exact ⟨4, 4, 5, rfl, Joins.cell_of_block hgr 0, Joins.cell_of_block hgr 1, Joins.cell_of_block hgr 2⟩
        · exact ⟨4, 5, 4, rfl, Joins.cell_of_block hgr 3, Joins.cell_of_block hgr 4, Joins.cell_of_block hgr 5⟩
        · exact ⟨5, 4, 4, rfl, Joins.cell_of_block hgr 6, Joins.cell_of_block hgr 7, Joins.cell_of_block hgr 8⟩
      have heq := fun W => run_eqPat W a b c p q r
      rw [hq] at heq
      clear hb hgr hx hq
      cases hpa : patAt k a b c
      · rw [hpa] at heq hp
        have HP := Lib.hid hp
        clear hpa hp
        go_wp2_with fail
        go_quiet (fail)
        go_wp2_with fail
        exact ⟨⟨k + 1, by omega, by go_num, below_drewN HB.out _, HXr.out, HP.out⟩, by simp [intOf]; omega⟩
      · rw [hpa] at heq hp
        have HP := Lib.hid hp
        clear hpa hp
        go_wp2_with fail
        go_quiet (fail)
        go_wp2_with fail
        go_ret
        exact ⟨by rw [HP.out]; rfl, below_drewN HB.out _⟩
    · have lk : ¬ (k : Int) < 3 := by omega
      have hk3 : k = 3 := by omega
      have HP := Lib.hid (show patFrom 0 a b c = -1 by rw [hp, hk3]; rfl)
      clear hp hb hx hgr x0 x1 x2
      go_wp2_with fail
      go_ret
      exact ⟨by rw [HP.out]; rfl, HB.out⟩

end Go.Proofs.Ytjbniichcopnlaa
