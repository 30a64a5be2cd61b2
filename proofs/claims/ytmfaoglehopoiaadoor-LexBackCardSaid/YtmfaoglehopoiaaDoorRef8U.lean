/- Layer 8, the reference: text of a number. -/
import Derived.Test.YtmfaoglehopoiaaDoorRef8T
namespace Go.Proofs.YtmfaoglehopoiaaDoor
open Go.RowKit

set_option maxRecDepth 100000 in
set_option maxHeartbeats 2000000 in
theorem ref8_text_2 (t : Tok) (w : World) (hk : t.kind = 2) (h1 : t.n ≤ 9223372036854775807) :
    Calls Tryd.prog 14 #[t.val] w fun e w' => e = .returned (.tuple #[.string ⟨(textR t).1.toArray⟩, .bool (textR t).2]) ∧ Below w.heap.size w w' := by
  obtain ⟨K, P, N, S⟩ := t
  simp only at hk h1
  subst hk
  rw [show textR ⟨2, P, N, S⟩ = (Lib.itoa (max N 0), decide (0 ≤ N ∧ N ≤ 999999999 ∧ S = [])) from rfl]
  unfold Tok.val
  obtain ⟨M, hM⟩ : ∃ M : Nat, max N 0 = (M : Int) := ⟨(max N 0).toNat, by omega⟩
  have hn := fun W => ref8_Decimal M W (by omega)
  rw [hM]
  have HN := Lib.hid hn
  have HM := Lib.hid hM
  clear hn
  rcases s_nil S with rfl | hS0
  · by_cases hN0 : 0 ≤ N
    · have d0 : decide (0 ≤ N) = true := decide_eq_true hN0
      by_cases hN1 : N ≤ 999999999
      · have d1 : decide (N ≤ 999999999) = true := decide_eq_true hN1
        go_enter Tryd.func14, Tryd.ntmps14
        go_wp2
        first | go_region_with (go_at_call 23; refine Calls.mono (HN.out _) ?_; rintro e w1 ⟨rfl, hb1⟩; have a0 := hb1.cell (p := ⟨w.heap.size, 0, none⟩) (by simp <;> omega); have a1 := hb1.cell (p := ⟨w.heap.size, 1, none⟩) (by simp <;> omega); have a2 := hb1.cell (p := ⟨w.heap.size, 2, none⟩) (by simp <;> omega); have a3 := hb1.cell (p := ⟨w.heap.size, 3, none⟩) (by simp <;> omega); have hz1 := hb1.size; simp at a0 a1 a2 a3 hz1) | fail
        all_goals
          go_wp2
          go_ret2
          refine ⟨ret_sb rfl (by simp [hN0, hN1]), ?_⟩
          (repeat (first | exact Below.refl _ _ | assumption | refine Below.setCell ?_ (by first | (simp; done) | (simp; omega) | omega) _ | refine Below.alloc ?_ (by first | (simp; done) | (simp; omega) | omega) _ | refine Below.drew ?_ | refine below_drewN ?_ _ | refine Below.trans ?_ (Below.mono (by assumption) (by first | (simp; done) | (simp; omega) | omega))))
      · have d1 : decide (N ≤ 999999999) = false := decide_eq_false hN1
        go_enter Tryd.func14, Tryd.ntmps14
        go_wp2
        first | go_region_with (go_at_call 23; refine Calls.mono (HN.out _) ?_; rintro e w1 ⟨rfl, hb1⟩; have a0 := hb1.cell (p := ⟨w.heap.size, 0, none⟩) (by simp <;> omega); have a1 := hb1.cell (p := ⟨w.heap.size, 1, none⟩) (by simp <;> omega); have a2 := hb1.cell (p := ⟨w.heap.size, 2, none⟩) (by simp <;> omega); have a3 := hb1.cell (p := ⟨w.heap.size, 3, none⟩) (by simp <;> omega); have hz1 := hb1.size; simp at a0 a1 a2 a3 hz1) | fail
        all_goals
          go_wp2
          go_ret2
          refine ⟨ret_sb rfl (by simp; omega), ?_⟩
          (repeat (first | exact Below.refl _ _ | assumption | refine Below.setCell ?_ (by first | (simp; done) | (simp; omega) | omega) _ | refine Below.alloc ?_ (by first | (simp; done) | (simp; omega) | omega) _ | refine Below.drew ?_ | refine below_drewN ?_ _ | refine Below.trans ?_ (Below.mono (by assumption) (by first | (simp; done) | (simp; omega) | omega))))
    · have d0 : decide (0 ≤ N) = false := decide_eq_false hN0
      go_enter Tryd.func14, Tryd.ntmps14
      go_wp2
      first | go_region_with (go_at_call 23; refine Calls.mono (HN.out _) ?_; rintro e w1 ⟨rfl, hb1⟩; have a0 := hb1.cell (p := ⟨w.heap.size, 0, none⟩) (by simp <;> omega); have a1 := hb1.cell (p := ⟨w.heap.size, 1, none⟩) (by simp <;> omega); have a2 := hb1.cell (p := ⟨w.heap.size, 2, none⟩) (by simp <;> omega); have a3 := hb1.cell (p := ⟨w.heap.size, 3, none⟩) (by simp <;> omega); have hz1 := hb1.size; simp at a0 a1 a2 a3 hz1) | fail
      all_goals
        go_wp2
        go_ret2
        refine ⟨ret_sb rfl (by simp; omega), ?_⟩
        (repeat (first | exact Below.refl _ _ | assumption | refine Below.setCell ?_ (by first | (simp; done) | (simp; omega) | omega) _ | refine Below.alloc ?_ (by first | (simp; done) | (simp; omega) | omega) _ | refine Below.drew ?_ | refine below_drewN ?_ _ | refine Below.trans ?_ (Below.mono (by assumption) (by first | (simp; done) | (simp; omega) | omega))))
  · obtain ⟨c, S', rfl⟩ := List.exists_cons_of_ne_nil hS0
    clear hS0
    go_enter Tryd.func14, Tryd.ntmps14
    go_wp2
    first | go_region_with (go_at_call 23; refine Calls.mono (HN.out _) ?_; rintro e w1 ⟨rfl, hb1⟩; have a0 := hb1.cell (p := ⟨w.heap.size, 0, none⟩) (by simp <;> omega); have a1 := hb1.cell (p := ⟨w.heap.size, 1, none⟩) (by simp <;> omega); have a2 := hb1.cell (p := ⟨w.heap.size, 2, none⟩) (by simp <;> omega); have a3 := hb1.cell (p := ⟨w.heap.size, 3, none⟩) (by simp <;> omega); have hz1 := hb1.size; simp at a0 a1 a2 a3 hz1) | fail
    all_goals
      go_wp2
      go_ret2
      refine ⟨ret_sb rfl (by simp), ?_⟩
      (repeat (first | exact Below.refl _ _ | assumption | refine Below.setCell ?_ (by first | (simp; done) | (simp; omega) | omega) _ | refine Below.alloc ?_ (by first | (simp; done) | (simp; omega) | omega) _ | refine Below.drew ?_ | refine below_drewN ?_ _ | refine Below.trans ?_ (Below.mono (by assumption) (by first | (simp; done) | (simp; omega) | omega))))

/-- The reference's text of whatever token. -/
theorem ref8_text (t : Tok) (w : World) (hs : t.s.length ≤ maxLen) (h1 : t.n ≤ 9223372036854775807) :
    Calls Tryd.prog 14 #[t.val] w fun e w' => e = .returned (.tuple #[.string ⟨(textR t).1.toArray⟩, .bool (textR t).2]) ∧ Below w.heap.size w w' := by
  by_cases k1 : t.kind = 1
  · exact ref8_text_1 t w k1 hs
  by_cases k2 : t.kind = 2
  · exact ref8_text_2 t w k2 h1
  by_cases k3 : t.kind = 3
  · exact ref8_text_sign t w (.inl k3)
  by_cases k4 : t.kind = 4
  · exact ref8_text_sign t w (.inr (.inl k4))
  by_cases k5 : t.kind = 5
  · exact ref8_text_sign t w (.inr (.inr k5))
  exact ref8_text_none t w k1 k2 k3 k4 k5

end Go.Proofs.YtmfaoglehopoiaaDoor
