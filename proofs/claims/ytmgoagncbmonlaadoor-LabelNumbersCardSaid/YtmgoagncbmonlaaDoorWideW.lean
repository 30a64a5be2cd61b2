/- Layer 2 (wide), the reference: its numbers in memory; the walks of put, words. Written by wip/gen_widew.py. -/
import Derived.Test.YtmgoagncbmonlaaDoorWideP
import Derived.Test.YtmgoagncbmonlaaDoorWords
import Derived.Test.YtmgoagncbmonlaaDoorProg
import Derived.WalkKit
import Derived.WalkSpells
import Derived.WalkLawsBesides
import Derived.WalkSmall
import Derived.Lib.Hide
import Derived.Lib.SmallJoins
import Derived.Laws.OwnMore
import Derived.Outline
import Derived.BigQuiet
set_option linter.unusedVariables false
set_option linter.unusedSimpArgs false
set_option maxRecDepth 100000
namespace Go.Proofs.YtmgoagncbmonlaaDoor
open Go.RowKit

/-- A number of the reference's: its sign, its digits. -/
def nV (b : Bool) (D : Nat → Nat) : Value := .agg #[.bool b, .int .u64 (D 0), .int .u64 (D 1), .int .u64 (D 2), .int .u64 (D 3), .int .u64 (D 4), .int .u64 (D 5), .int .u64 (D 6), .int .u64 (D 7)]
def NumBlk (w : World) (g : Nat) (b : Bool) (D : Nat → Nat) : Prop := w.heap[g]? = some (.cells #[.bool b, .int .u64 (D 0), .int .u64 (D 1), .int .u64 (D 2), .int .u64 (D 3), .int .u64 (D 4), .int .u64 (D 5), .int .u64 (D 6), .int .u64 (D 7)] 62 (0, 0))
def upd (D : Nat → Nat) (k v : Nat) : Nat → Nat := fun i => if i = k then v else D i
theorem NumBlk.congr {w : World} {g : Nat} {b : Bool} {D E : Nat → Nat} (h : NumBlk w g b D) (e : ∀ i, i < 8 → D i = E i) : NumBlk w g b E := by
  unfold NumBlk at *
  rw [h, e 0 (by omega), e 1 (by omega), e 2 (by omega), e 3 (by omega), e 4 (by omega), e 5 (by omega), e 6 (by omega), e 7 (by omega)]
theorem nV_congr {b : Bool} {D E : Nat → Nat} (e : ∀ i, i < 8 → D i = E i) : nV b D = nV b E := by
  unfold nV
  rw [e 0 (by omega), e 1 (by omega), e 2 (by omega), e 3 (by omega), e 4 (by omega), e 5 (by omega), e 6 (by omega), e 7 (by omega)]
theorem NumBlk.set {w : World} {g : Nat} {b : Bool} {D : Nat → Nat} (h : NumBlk w g b D) (k v : Nat) (hk : k < 8) : NumBlk (w.setCell ⟨g, 1 + k, none⟩ (.int .u64 v)) g b (upd D k v) := by
  have := Joins.block_setCell h (i := 1 + k) (.int .u64 v)
  unfold NumBlk
  rw [this]
  rcases (by omega : k = 0 ∨ k = 1 ∨ k = 2 ∨ k = 3 ∨ k = 4 ∨ k = 5 ∨ k = 6 ∨ k = 7) with rfl | rfl | rfl | rfl | rfl | rfl | rfl | rfl <;> simp [upd]
theorem NumBlk.cell {w : World} {g : Nat} {b : Bool} {D : Nat → Nat} (h : NumBlk w g b D) (k : Nat) (hk : k < 8) : w.cell? ⟨g, 1 + k, none⟩ = some (.int .u64 (D k)) := by
  rw [Joins.cell_of_block h (1 + k)]
  rcases (by omega : k = 0 ∨ k = 1 ∨ k = 2 ∨ k = 3 ∨ k = 4 ∨ k = 5 ∨ k = 6 ∨ k = 7) with rfl | rfl | rfl | rfl | rfl | rfl | rfl | rfl <;> rfl
theorem NumBlk.other {w : World} {g : Nat} {b : Bool} {D : Nat → Nat} (h : NumBlk w g b D) {q : Addr} (hq : q.block ≠ g) (x : Value) : NumBlk (w.setCell q x) g b D := (heap_setCell_other w q g x (fun e => hq e.symm)).trans h
theorem NumBlk.keep {w w' : World} {g : Nat} {b : Bool} {D : Nat → Nat} (h : NumBlk w g b D) (hb : Below w.heap.size w w') : NumBlk w' g b D := (hb.block g (Array.getElem?_eq_some_iff.1 h).1).trans h
theorem NumBlk.lt {w : World} {g : Nat} {b : Bool} {D : Nat → Nat} (h : NumBlk w g b D) : g < w.heap.size := (Array.getElem?_eq_some_iff.1 h).1
theorem NumBlk.c9 {w : World} {g : Nat} {b : Bool} {D : Nat → Nat} (h : NumBlk w g b D) : w.cell? ⟨g, 0, none⟩ = some (.bool b) ∧ w.cell? ⟨g, 1, none⟩ = some (.int .u64 (D 0)) ∧ w.cell? ⟨g, 2, none⟩ = some (.int .u64 (D 1)) ∧ w.cell? ⟨g, 3, none⟩ = some (.int .u64 (D 2)) ∧ w.cell? ⟨g, 4, none⟩ = some (.int .u64 (D 3)) ∧ w.cell? ⟨g, 5, none⟩ = some (.int .u64 (D 4)) ∧ w.cell? ⟨g, 6, none⟩ = some (.int .u64 (D 5)) ∧ w.cell? ⟨g, 7, none⟩ = some (.int .u64 (D 6)) ∧ w.cell? ⟨g, 8, none⟩ = some (.int .u64 (D 7)) :=
  ⟨Joins.cell_of_block h 0, Joins.cell_of_block h 1, Joins.cell_of_block h 2, Joins.cell_of_block h 3, Joins.cell_of_block h 4, Joins.cell_of_block h 5, Joins.cell_of_block h 6, Joins.cell_of_block h 7, Joins.cell_of_block h 8⟩
theorem NumBlk.u9 {w : World} {g : Nat} {b : Bool} {D : Nat → Nat} (h : NumBlk w g b D) : w.frozen? ⟨g, 0, none⟩ = false ∧ w.frozen? ⟨g, 1, none⟩ = false ∧ w.frozen? ⟨g, 2, none⟩ = false ∧ w.frozen? ⟨g, 3, none⟩ = false ∧ w.frozen? ⟨g, 4, none⟩ = false ∧ w.frozen? ⟨g, 5, none⟩ = false ∧ w.frozen? ⟨g, 6, none⟩ = false ∧ w.frozen? ⟨g, 7, none⟩ = false ∧ w.frozen? ⟨g, 8, none⟩ = false :=
  ⟨Joins.unfrozen_of_block h 0, Joins.unfrozen_of_block h 1, Joins.unfrozen_of_block h 2, Joins.unfrozen_of_block h 3, Joins.unfrozen_of_block h 4, Joins.unfrozen_of_block h 5, Joins.unfrozen_of_block h 6, Joins.unfrozen_of_block h 7, Joins.unfrozen_of_block h 8⟩
theorem NumBlk.uk {w : World} {g : Nat} {b : Bool} {D : Nat → Nat} (h : NumBlk w g b D) (k : Nat) : w.frozen? ⟨g, k, none⟩ = false := Joins.unfrozen_of_block h k

theorem wrap_u {x : Nat} (h : x < 18446744073709551616) : IntKind.u64.wrap (x : Int) = x := by rw [IntKind.wrap_u64]; omega
theorem num_below {w W : World} {g : Nat} (h : Below w.heap.size w W) (hg : w.heap.size ≤ g) (v0 v1 v2 v3 v4 v5 v6 v7 v8 : Value) :
    Below w.heap.size w (((((((((W.setCell ⟨g, 0, none⟩ v0).setCell ⟨g, 1, none⟩ v1).setCell ⟨g, 2, none⟩ v2).setCell ⟨g, 3, none⟩ v3).setCell ⟨g, 4, none⟩ v4).setCell ⟨g, 5, none⟩ v5).setCell ⟨g, 6, none⟩ v6).setCell ⟨g, 7, none⟩ v7).setCell ⟨g, 8, none⟩ v8) :=
  ((((((((h.setCell hg _).setCell hg _).setCell hg _).setCell hg _).setCell hg _).setCell hg _).setCell hg _).setCell hg _).setCell hg _

def putD (h l k : Nat) : Nat → Nat := fun i => if i < 4 then (if i < k then dg l i else 0) else (if i - 4 < k then dg h (i - 4) else 0)
theorem putD_zero (h l : Nat) (i : Nat) : 0 = putD h l 0 i := by unfold putD; simp
theorem putD_succ (h l k : Nat) (hk : k < 4) (i : Nat) (hi : i < 8) : upd (upd (putD h l k) k (dg l k)) (4 + k) (dg h k) i = putD h l (k + 1) i := by
  unfold putD upd
  by_cases h1 : i = 4 + k
  · subst h1
    rw [if_pos rfl, if_neg (by omega), if_pos (by omega)]
    congr 1; omega
  · by_cases h2 : i = k
    · subst h2; simp [hk]
    · simp only [h1, h2, if_false]
      by_cases h3 : i < 4
      · simp only [h3, if_true]
        by_cases h4 : i < k
        · rw [if_pos h4, if_pos (by omega)]
        · rw [if_neg h4, if_neg (by omega)]
      · simp only [h3, if_false]
        by_cases h4 : i - 4 < k
        · rw [if_pos h4, if_pos (by omega)]
        · rw [if_neg h4, if_neg (by omega)]
theorem putD_end (h l : Nat) (hl : l < 18446744073709551616) (i : Nat) (hi : i < 8) : putD h l 4 i = dg (h * 18446744073709551616 + l) i := by
  unfold putD
  by_cases h3 : i < 4
  · simp only [h3, if_true]; exact (dg_words h l hl i h3).1.symm
  · simp only [h3, if_false]
    rw [if_pos (by omega)]
    have := (dg_words h l hl (i - 4) (by omega)).2
    rw [show 4 + (i - 4) = i by omega] at this
    exact this.symm

set_option maxHeartbeats 4000000 in
theorem r02_put (b : Bool) (h l : Nat) (hh : h < 18446744073709551616) (hl : l < 18446744073709551616) (w : World) :
    Calls Tryd.prog 32 #[.bool b, .int .u64 h, .int .u64 l] w fun e w' => e = .returned (nV b (dg (h * 18446744073709551616 + l))) ∧ Below w.heap.size w w' := by
  go_enter Tryd.func32, Tryd.ntmps32
  go_wp2_with fail
  obtain ⟨g6, hg6⟩ : ∃ g, g = w.heap.size := ⟨_, rfl⟩
  obtain ⟨g7, hg7⟩ : ∃ g, g = w.heap.size + 1 := ⟨_, rfl⟩
  generalize hW0 : World.alloc (World.alloc _ _) _ = W0
  have hb0 : Below w.heap.size w W0 := by rw [← hW0]; (repeat (first | exact Below.refl _ _ | assumption | refine Below.setCell ?_ (by first | (simp; done) | (simp; omega) | omega) _ | refine Below.alloc ?_ (by first | (simp; done) | (simp; omega) | omega) _ | refine Below.drew ?_ | refine below_drewN ?_ _ | refine Below.trans ?_ (Below.mono (by assumption) (by first | (simp; done) | (simp; omega) | omega))))
  have h6 : NumBlk W0 g6 false (fun _ => 0) := by
    rw [← hW0, hg6]
    exact (Below.block ((Below.refl (w.alloc _).heap.size (w.alloc _)).alloc (Nat.le_refl _) _) w.heap.size (by simp)).trans (heap_alloc_new w _)
  have h7 : NumBlk W0 g7 b (fun _ => 0) := by
    rw [← hW0, hg7]
    have := heap_alloc_new (w.alloc (.cells #[.bool false, .int .u64 0, .int .u64 0, .int .u64 0, .int .u64 0, .int .u64 0, .int .u64 0, .int .u64 0, .int .u64 0] 62)) (.cells #[.bool b, .int .u64 0, .int .u64 0, .int .u64 0, .int .u64 0, .int .u64 0, .int .u64 0, .int .u64 0, .int .u64 0] 62)
    simpa [NumBlk] using this
  rw [← hg7, ← hg6]
  have HG := Lib.hid (And.intro hg6 hg7)
  have H0 := Lib.hid (And.intro hb0 (And.intro h6 h7))
  have hne : g6 ≠ g7 := by omega
  clear hW0 hb0 h6 h7 hg6 hg7
  go_loopw [1, 2, 11] (fun hi lo i wr => ∃ k : Nat, k ≤ 4 ∧ i = .int .i64 k ∧ hi = .int .u64 (off h k) ∧ lo = .int .u64 (off l k) ∧ Below w.heap.size w wr ∧ NumBlk wr g6 false (fun _ => 0) ∧ NumBlk wr g7 b (putD h l k)) (fun _ _ i _ => 4 - (intOf i).toNat)
  case atStart => exact ⟨0, by omega, rfl, by rw [off_zero], by rw [off_zero], H0.out.1, H0.out.2.1, H0.out.2.2.congr (fun i _ => putD_zero h l i)⟩
  case round =>
    obtain ⟨k, hk, rfl, rfl, rfl, hb, h6, h7⟩ := hrel
    by_cases hlt : k < 4
    · have lk : (k : Int) < 4 := by omega
      have lk8 : (k : Int) < 8 := by omega
      have lk0 : (0 : Int) ≤ k := by omega
      have lq0 : (0 : Int) ≤ 4 + (k : Int) := by omega
      have lq8 : 4 + (k : Int) < 8 := by omega
      have w1f : IntKind.i64.wrap ((k : Int) + 1) = (k : Int) + 1 := by rw [IntKind.wrap_i64]; omega
      have w4f : IntKind.i64.wrap (4 + (k : Int)) = 4 + (k : Int) := by rw [IntKind.wrap_i64]; omega
      have m1 : (off l k : Int) % 65536 = (dg l k : Nat) := by rw [← off_mod]; omega
      have m2 : (off h k : Int) % 65536 = (dg h k : Nat) := by rw [← off_mod]; omega
      have d1 : (off l k : Int) / 65536 = (off l (k + 1) : Nat) := by rw [off_succ]; omega
      have d2 : (off h k : Int) / 65536 = (off h (k + 1) : Nat) := by rw [off_succ]; omega
      have n4 : (4 + (k : Int)).toNat = 4 + k := by omega
      have ck := h7.cell k (by omega)
      have ck4 := h7.cell (4 + k) (by omega)
      have uk := h7.uk (1 + k)
      have uk4 := h7.uk (1 + (4 + k))
      have HI := Lib.hid (And.intro hb (And.intro h6 h7))
      clear hb h6 h7
      have wd1 : IntKind.u64.wrap ((off l (k + 1) : Nat) : Int) = (off l (k + 1) : Nat) := wrap_u (Nat.lt_of_le_of_lt (off_le l (k + 1)) hl)
      have wd2 : IntKind.u64.wrap ((off h (k + 1) : Nat) : Int) = (off h (k + 1) : Nat) := wrap_u (Nat.lt_of_le_of_lt (off_le h (k + 1)) hh)
      go_wp2_with fail
      have e6 := HG.out.1
      have e7 := HG.out.2
      refine ⟨⟨k + 1, by omega, by go_num, rfl, rfl, ?_, ?_, ?_⟩, by simp [intOf]; omega⟩
      · exact (HI.out.1.setCell (by show w.heap.size ≤ g7; omega) _).setCell (by show w.heap.size ≤ g7; omega) _
      · exact (HI.out.2.1.other (fun e => hne e.symm) _).other (fun e => hne e.symm) _
      · exact ((HI.out.2.2.set k (dg l k) (by omega)).set (4 + k) (dg h k) (by omega)).congr (putD_succ h l k hlt)
    · have lk : ¬ (k : Int) < 4 := by omega
      have hk4 : k = 4 := by omega
      subst hk4
      obtain ⟨p0, p1, p2, p3, p4, p5, p6, p7, p8⟩ := h7.c9
      obtain ⟨q0, q1, q2, q3, q4, q5, q6, q7, q8⟩ := h6.u9
      obtain ⟨r0, r1, r2, r3, r4, r5, r6, r7, r8⟩ := h6.c9
      have HI := Lib.hid hb
      have HV := Lib.hid (nV_congr (b := b) (fun i hi => putD_end h l hl i hi))
      clear hb h6 h7
      go_wp2_with fail
      refine bodyPost_ret (v := nV b (putD h l 4)) (by simp [results, Tryd.results32, go_sem, nV, *]) rfl ?_
      exact ⟨congrArg Ending.returned HV.out, num_below HI.out (by have := HG.out.1; omega) _ _ _ _ _ _ _ _ _⟩

end Go.Proofs.YtmgoagncbmonlaaDoor
