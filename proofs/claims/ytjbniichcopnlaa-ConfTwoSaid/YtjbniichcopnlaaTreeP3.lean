/- Layer 9 (tree): the walk of goes, all but the words. -/
import Derived.Test.YtjbniichcopnlaaTreeP2
set_option linter.unusedVariables false
set_option linter.unusedSimpArgs false
namespace Go.Proofs.Ytjbniichcopnlaa
open Go.RowKit
attribute [local go_sem ↓] Go.wp_at_zero Go.wp_at_succ

set_option maxHeartbeats 2000000 in
theorem tree_goes_long (w : World) (r bi : Nat) (K P N : Int) (S : ByteArray) (Aw : Option Addr) (cw : Nat) (hr1 : w.cell? ⟨r, 1, none⟩ = some (.pointer (some ⟨bi, 0, none⟩))) (h2 : w.cell? ⟨bi, 2, none⟩ = some (.slice Aw 8 cw)) (hK : K = 1 ∨ K = 2) :
    Calls Try.prog 22 #[.pointer (some ⟨r, 0, none⟩), .agg #[.int .i64 K, .int .i64 P, .int .i64 N, .string S]] w fun e w' => e = .returned (.int .i64 6) ∧ Step w w' [] none := by
  have lr := World.block_lt_of_cell? w _ hr1
  have li := World.block_lt_of_cell? w _ h2
  simp only at lr li
  rcases hK with rfl | rfl
  all_goals
    go_enter Try.func22, Try.ntmps22
    go_wp2
    go_ret
    exact ⟨rfl, by (repeat (first | exact Step.refl _ _ _ | assumption | refine Step.drew ?_ | refine Step.alloc ?_ _ | refine Step.setCell ?_ (by first | exact Or.inr (Or.inl (by simp)) | exact Or.inl (by simp) | exact Or.inl (by simp; omega) | exact Or.inl (by omega)) _))⟩

set_option maxHeartbeats 2000000 in
theorem tree_goes_bad (w : World) (r : Nat) (K P N : Int) (S : ByteArray) (hK : K ≠ 1 ∧ K ≠ 2 ∧ K ≠ 3 ∧ K ≠ 5) :
    Calls Try.prog 22 #[.pointer (some ⟨r, 0, none⟩), .agg #[.int .i64 K, .int .i64 P, .int .i64 N, .string S]] w fun e w' => e = .returned (.int .i64 5) ∧ Step w w' [] none := by
  have k1 : (K == 1) = false := beq_false_of_ne hK.1
  have k2 : (K == 2) = false := beq_false_of_ne hK.2.1
  have k3 : (K == 3) = false := beq_false_of_ne hK.2.2.1
  have k5 : (K == 5) = false := beq_false_of_ne hK.2.2.2
  clear hK
  go_enter Try.func22, Try.ntmps22
  go_wp2
  go_ret
  exact ⟨rfl, by (repeat (first | exact Step.refl _ _ _ | assumption | refine Step.drew ?_ | refine Step.alloc ?_ _ | refine Step.setCell ?_ (by first | exact Or.inr (Or.inl (by simp)) | exact Or.inl (by simp) | exact Or.inl (by simp; omega) | exact Or.inl (by omega)) _))⟩

set_option maxHeartbeats 2000000 in
theorem tree_goes_deep (w : World) (r : Nat) (P N : Int) (S : ByteArray) (hr2 : w.cell? ⟨r, 2, none⟩ = some (.int .i64 6)) :
    Calls Try.prog 22 #[.pointer (some ⟨r, 0, none⟩), .agg #[.int .i64 3, .int .i64 P, .int .i64 N, .string S]] w fun e w' => e = .returned (.int .i64 7) ∧ Step w w' [] none := by
  have lr := World.block_lt_of_cell? w _ hr2
  simp only at lr
  go_enter Try.func22, Try.ntmps22
  go_wp2
  go_ret
  exact ⟨rfl, by (repeat (first | exact Step.refl _ _ _ | assumption | refine Step.drew ?_ | refine Step.alloc ?_ _ | refine Step.setCell ?_ (by first | exact Or.inr (Or.inl (by simp)) | exact Or.inl (by simp) | exact Or.inl (by simp; omega) | exact Or.inl (by omega)) _))⟩

set_option maxRecDepth 100000 in
set_option maxHeartbeats 2000000 in
theorem tree_goes_open (w : World) (r bi : Nat) (D P N : Int) (S : ByteArray) (v0 v3 : Value) (hr0 : w.cell? ⟨r, 0, none⟩ = some v0) (hr1 : w.cell? ⟨r, 1, none⟩ = some (.pointer (some ⟨bi, 0, none⟩))) (hr2 : w.cell? ⟨r, 2, none⟩ = some (.int .i64 D)) (hD : 0 ≤ D ∧ D < 6)
    (fr : ∀ j, w.frozen? ⟨r, j, none⟩ = false) (h3 : w.cell? ⟨bi, 3, none⟩ = some v3) (f3 : w.frozen? ⟨bi, 3, none⟩ = false) (hrb : r ≠ bi) :
    Calls Try.prog 22 #[.pointer (some ⟨r, 0, none⟩), .agg #[.int .i64 3, .int .i64 P, .int .i64 N, .string S]] w fun e w' =>
      e = .returned (.int .i64 0) ∧ w'.cell? ⟨r, 0, none⟩ = some (.pointer (some ⟨bi, 0, none⟩)) ∧ w'.cell? ⟨r, 1, none⟩ = some (.pointer none) ∧ w'.cell? ⟨r, 2, none⟩ = some (.int .i64 (D + 1)) ∧ w'.cell? ⟨bi, 3, none⟩ = some (.bool true) ∧
        Step w w' [(r, 0), (r, 1), (r, 2), (bi, 3)] none := by
  have lr := World.block_lt_of_cell? w _ hr0
  have lb := World.block_lt_of_cell? w _ h3
  simp only at lr lb
  have fr0 := fr 0
  have fr1 := fr 1
  have fr2 := fr 2
  have hbr : bi ≠ r := fun h => hrb h.symm
  have hD6 : (D == 6) = false := beq_false_of_ne (by omega)
  have hD1 : IntKind.i64.wrap (D + 1) = D + 1 := by rw [IntKind.wrap_i64]; omega
  go_enter Try.func22, Try.ntmps22
  go_wp2
  go_ret
  refine ⟨rfl, ?_, ?_, ?_, ?_, by (repeat (first | exact Step.refl _ _ _ | assumption | refine Step.drew ?_ | refine Step.alloc ?_ _ | refine Step.setCell ?_ (by first | exact Or.inr (Or.inl (by simp)) | exact Or.inl (by simp) | exact Or.inl (by simp; omega) | exact Or.inl (by omega)) _))⟩
  · rw [World.cell?_alloc_lt _ _ _ (by simpa using lr), World.cell?_setCell_other _ _ _ _ (by simp)]
    exact World.cell?_setCell_same _ _ _ (by rw [World.cell?_setCell_other _ _ _ _ (by simp [hrb]), World.cell?_setCell_other _ _ _ _ (by simp)]; exact hr0)
  · rw [World.cell?_alloc_lt _ _ _ (by simpa using lr)]
    exact World.cell?_setCell_same _ _ _ (by rw [World.cell?_setCell_other _ _ _ _ (by simp), World.cell?_setCell_other _ _ _ _ (by simp [hrb]), World.cell?_setCell_other _ _ _ _ (by simp)]; exact hr1)
  · rw [World.cell?_alloc_lt _ _ _ (by simpa using lr), World.cell?_setCell_other _ _ _ _ (by simp), World.cell?_setCell_other _ _ _ _ (by simp), World.cell?_setCell_other _ _ _ _ (by simp [hrb])]
    exact World.cell?_setCell_same _ _ _ hr2
  · rw [World.cell?_alloc_lt _ _ _ (by simpa using lb), World.cell?_setCell_other _ _ _ _ (by simp [hbr]), World.cell?_setCell_other _ _ _ _ (by simp [hbr])]
    exact World.cell?_setCell_same _ _ _ (by rw [World.cell?_setCell_other _ _ _ _ (by simp [hbr])]; exact h3)

set_option maxRecDepth 100000 in
set_option maxHeartbeats 2000000 in
/-- An item's end: what it is stands behind its block's kids. -/
theorem tree_goes_end (w : World) (r b0 bi B0 n c : Nat) (A : Option Addr) (kcs : List Value) (P' N' : Int) (S' S : ByteArray) (P : Int) (Aw Ak : Option Addr) (nw cw nk ck : Nat) (bl : Bool) (up : Option Nat)
    (hr0 : w.cell? ⟨r, 0, none⟩ = some (.pointer (some ⟨b0, 0, none⟩))) (hr1 : w.cell? ⟨r, 1, none⟩ = some (.pointer (some ⟨bi, 0, none⟩))) (fr : ∀ j, w.frozen? ⟨r, j, none⟩ = false)
    (hb : Open6 w bi S P Aw nw cw bl Ak nk ck up)
    (hk : w.cell? ⟨b0, 4, none⟩ = some (.slice A n c)) (fk : w.frozen? ⟨b0, 4, none⟩ = false) (hown : w.ownsRow B0 40 5 (.slice A n c) n kcs)
    (hn : n ≤ 100000) (hB0 : B0 ≤ w.heap.size)
    (ar : Value.ownBlock (.slice A n c) ≠ some r) (a0 : Value.ownBlock (.slice A n c) ≠ some b0) (ai : Value.ownBlock (.slice A n c) ≠ some bi) (hrb : r ≠ b0) (hrbi : r ≠ bi) (hb0i : b0 ≠ bi) :
    Calls Try.prog 22 #[.pointer (some ⟨r, 0, none⟩), .agg #[.int .i64 5, .int .i64 P', .int .i64 N', .string S']] w fun e w' => e = .returned (.int .i64 0) ∧
      ∃ g cap, w'.ownsRow B0 40 5 (.slice (some ⟨g, 0, none⟩) (n + 1) cap) (n + 1) (kcs ++ [.string S, .int .i64 P, .slice Aw nw cw, .bool bl, .slice Ak nk ck]) ∧
        (Value.ownBlock (.slice A n c) = some g ∨ w.heap.size ≤ g) ∧ g < w'.heap.size ∧ w'.cell? ⟨b0, 4, none⟩ = some (.slice (some ⟨g, 0, none⟩) (n + 1) cap) ∧ w'.cell? ⟨r, 1, none⟩ = some (.pointer none) ∧
        Step w w' [(b0, 4), (r, 1)] (Value.ownBlock (.slice A n c)) := by
  have lr := World.block_lt_of_cell? w _ hr0
  have lb := World.block_lt_of_cell? w _ hb.1
  have lp := World.block_lt_of_cell? w _ hk
  simp only at lr lb lp
  obtain ⟨b0', b1, b2, b3, b4, b5, bf⟩ := hb
  have fr1 := fr 1
  have S1 : Step w (w.alloc (.cells #[.int .i64 5, .int .i64 P', .int .i64 N', .string S'] 58)) [] none := by (repeat (first | exact Step.refl _ _ _ | assumption | refine Step.drew ?_ | refine Step.alloc ?_ _ | refine Step.setCell ?_ (by first | exact Or.inr (Or.inl (by simp)) | exact Or.inl (by simp) | exact Or.inl (by simp; omega) | exact Or.inl (by omega)) _))
  have hc : ∀ b o v, w.cell? ⟨b, o, none⟩ = some v → (w.alloc (.cells #[.int .i64 5, .int .i64 P', .int .i64 N', .string S'] 58)).cell? ⟨b, o, none⟩ = some v := fun b o v h => (World.cell?_alloc_lt _ _ _ (World.block_lt_of_cell? w _ h)).trans h
  have HC := Lib.hid hc
  clear hc
  go_enter Try.func22, Try.ntmps22
  go_wp2_with fail
  refine (tree_close _ r b0 bi B0 n c A kcs S P Aw Ak nw cw nk ck bl (HC.out _ _ _ hr0) (HC.out _ _ _ hr1) (by rw [frozen?_alloc_cells]; exact fr1) (HC.out _ _ _ hk) (by rw [frozen?_alloc_cells]; exact fk) (hown.alloc _)
    (HC.out _ _ _ b0') (HC.out _ _ _ b1) (HC.out _ _ _ b2) (HC.out _ _ _ b3) (HC.out _ _ _ b4) hn (by simp; omega) ar a0 ai hrb hrbi hb0i).mono ?_
  rintro e w' ⟨rfl, g, cap, h1, h2, h3, h4, h5⟩
  go_wp2
  go_ret
  refine ⟨rfl, g, cap, h1, h2.imp id (fun h => by simp at h; omega), own_lt h1 (by simp), h3, h4, ?_⟩
  exact Step.trans S1 h5 (fun x hx => by cases hx) (fun x hx => hx)

end Go.Proofs.Ytjbniichcopnlaa
