/- Layer 18 (label): the walks of written (what it refuses), Print. -/
import Derived.Test.YtmgoagncbmonlaaDoorLabW
import Derived.BigQuiet
set_option linter.unusedVariables false
namespace Go.Proofs.YtmgoagncbmonlaaDoor
open Go.RowKit

set_option maxRecDepth 100000 in
set_option maxHeartbeats 1000000 in
theorem label_written_out (l y i : Int) (h : ¬ (1 ≤ l ∧ l ≤ 5 ∧ 1601 ≤ y ∧ y ≤ 9997 ∧ 1 ≤ i)) (w : World) :
    Calls Tryd.prog 19 #[.agg #[.int .i64 l, .int .i64 y, .int .i64 i]] w fun e w' => e = .returned (.bool false) ∧ Below w.heap.size w w' := by
  have hcase : ¬ 1 ≤ l ∨ (1 ≤ l ∧ ¬ l ≤ 5) ∨ (1 ≤ l ∧ l ≤ 5 ∧ ¬ 1601 ≤ y) ∨ (1 ≤ l ∧ l ≤ 5 ∧ 1601 ≤ y ∧ ¬ y ≤ 9997) ∨ (1 ≤ l ∧ l ≤ 5 ∧ 1601 ≤ y ∧ y ≤ 9997 ∧ ¬ 1 ≤ i) := by omega
  clear h
  rcases hcase with h | ⟨h1, h⟩ | ⟨h1, h2, h⟩ | ⟨h1, h2, h3, h⟩ | ⟨h1, h2, h3, h4, h⟩
  · have hd : decide (1 ≤ l) = false := decide_eq_false h
    clear h
    go_enter Tryd.func19, Tryd.ntmps19
    go_wp2_with fail
    have hbW : Below w.heap.size w (w.alloc (.cells #[.int .i64 l, .int .i64 y, .int .i64 i] 32)) := by (repeat (first | exact Below.refl _ _ | assumption | refine Below.setCell ?_ (by first | (simp; done) | (simp; omega) | omega) _ | refine Below.alloc ?_ (by first | (simp; done) | (simp; omega) | omega) _ | refine Below.drew ?_ | refine below_drewN ?_ _ | refine Below.trans ?_ (Below.mono (by assumption) (by first | (simp; done) | (simp; omega) | omega))))
    go_quiet (fail)
    go_wp2
    go_ret
    exact ⟨rfl, by first | exact hbW | exact below_drewN hbW _⟩
  · have hd : decide (l ≤ 5) = false := decide_eq_false h
    clear h
    go_enter Tryd.func19, Tryd.ntmps19
    go_wp2_with fail
    have hbW : Below w.heap.size w (w.alloc (.cells #[.int .i64 l, .int .i64 y, .int .i64 i] 32)) := by (repeat (first | exact Below.refl _ _ | assumption | refine Below.setCell ?_ (by first | (simp; done) | (simp; omega) | omega) _ | refine Below.alloc ?_ (by first | (simp; done) | (simp; omega) | omega) _ | refine Below.drew ?_ | refine below_drewN ?_ _ | refine Below.trans ?_ (Below.mono (by assumption) (by first | (simp; done) | (simp; omega) | omega))))
    go_quiet (fail)
    go_wp2
    go_ret
    exact ⟨rfl, by first | exact hbW | exact below_drewN hbW _⟩
  · have hd : decide (1601 ≤ y) = false := decide_eq_false h
    clear h
    go_enter Tryd.func19, Tryd.ntmps19
    go_wp2_with fail
    have hbW : Below w.heap.size w (w.alloc (.cells #[.int .i64 l, .int .i64 y, .int .i64 i] 32)) := by (repeat (first | exact Below.refl _ _ | assumption | refine Below.setCell ?_ (by first | (simp; done) | (simp; omega) | omega) _ | refine Below.alloc ?_ (by first | (simp; done) | (simp; omega) | omega) _ | refine Below.drew ?_ | refine below_drewN ?_ _ | refine Below.trans ?_ (Below.mono (by assumption) (by first | (simp; done) | (simp; omega) | omega))))
    go_quiet (fail)
    go_wp2
    go_ret
    exact ⟨rfl, by first | exact hbW | exact below_drewN hbW _⟩
  · have hd : decide (y ≤ 9997) = false := decide_eq_false h
    clear h
    go_enter Tryd.func19, Tryd.ntmps19
    go_wp2_with fail
    have hbW : Below w.heap.size w (w.alloc (.cells #[.int .i64 l, .int .i64 y, .int .i64 i] 32)) := by (repeat (first | exact Below.refl _ _ | assumption | refine Below.setCell ?_ (by first | (simp; done) | (simp; omega) | omega) _ | refine Below.alloc ?_ (by first | (simp; done) | (simp; omega) | omega) _ | refine Below.drew ?_ | refine below_drewN ?_ _ | refine Below.trans ?_ (Below.mono (by assumption) (by first | (simp; done) | (simp; omega) | omega))))
    go_quiet (fail)
    go_wp2
    go_ret
    exact ⟨rfl, by first | exact hbW | exact below_drewN hbW _⟩
  · have hd : decide (1 ≤ i) = false := decide_eq_false h
    clear h
    go_enter Tryd.func19, Tryd.ntmps19
    go_wp2_with fail
    have hbW : Below w.heap.size w (w.alloc (.cells #[.int .i64 l, .int .i64 y, .int .i64 i] 32)) := by (repeat (first | exact Below.refl _ _ | assumption | refine Below.setCell ?_ (by first | (simp; done) | (simp; omega) | omega) _ | refine Below.alloc ?_ (by first | (simp; done) | (simp; omega) | omega) _ | refine Below.drew ?_ | refine below_drewN ?_ _ | refine Below.trans ?_ (Below.mono (by assumption) (by first | (simp; done) | (simp; omega) | omega))))
    go_quiet (fail)
    go_wp2
    go_ret
    exact ⟨rfl, by first | exact hbW | exact below_drewN hbW _⟩
theorem label_written_no (l y i : Int) (h : ¬ Writ l y i) (w : World) :
    Calls Tryd.prog 19 #[.agg #[.int .i64 l, .int .i64 y, .int .i64 i]] w fun e w' => e = .returned (.bool false) ∧ Below w.heap.size w w' := by
  by_cases hr : 1 ≤ l ∧ l ≤ 5 ∧ 1601 ≤ y ∧ y ≤ 9997 ∧ 1 ≤ i
  · obtain ⟨k, hk⟩ := Int.eq_ofNat_of_zero_le (show 0 ≤ l - 1 by omega)
    have hl : l = (k : Int) + 1 := by omega
    subst hl
    have := label_written_in k (by omega) y i hr.2.2.1 hr.2.2.2.1 hr.2.2.2.2 w
    rw [decide_eq_false (fun hm => h ⟨k, by omega, rfl, hr.2.2.1, hr.2.2.2.1, hr.2.2.2.2, hm⟩)] at this
    exact this
  · exact label_written_out l y i hr w
theorem label_written_yes (k : Nat) (hk : k < 5) (y i : Int) (h1 : 1601 ≤ y) (h2 : y ≤ 9997) (h3 : 1 ≤ i) (h4 : i ≤ mst k) (w : World) :
    Calls Tryd.prog 19 #[.agg #[.int .i64 ((k : Int) + 1), .int .i64 y, .int .i64 i]] w fun e w' => e = .returned (.bool true) ∧ Below w.heap.size w w' := by
  have := label_written_in k hk y i h1 h2 h3 w
  rw [decide_eq_true h4] at this
  exact this

theorem label_Print_no (l y i : Int) (h : ¬ Writ l y i) (w : World) :
    Calls Tryd.prog 9 #[.agg #[.int .i64 l, .int .i64 y, .int .i64 i]] w fun e w' => e = .returned (.tuple #[.string ⟨#[]⟩, .int .i64 1]) ∧ Below w.heap.size w w' := by
  have H := Lib.hid (fun W => label_written_no l y i h W)
  clear h
  go_enter Tryd.func9, Tryd.ntmps9
  go_wp2_with fail
  refine (H.out _).mono ?_
  rintro e w1 ⟨rfl, hb1⟩
  have hX := below_step (show Below w.heap.size w (w.alloc (.cells #[.int .i64 l, .int .i64 y, .int .i64 i] 32)) by (repeat (first | exact Below.refl _ _ | assumption | refine Below.setCell ?_ (by first | (simp; done) | (simp; omega) | omega) _ | refine Below.alloc ?_ (by first | (simp; done) | (simp; omega) | omega) _ | refine Below.drew ?_ | refine below_drewN ?_ _ | refine Below.trans ?_ (Below.mono (by assumption) (by first | (simp; done) | (simp; omega) | omega))))) (by simp) hb1
  go_wp2
  go_ret2
  exact ⟨rfl, hX⟩

/-- strings.Repeat("0", n) for the small n that are wanted here: as the walk asks it. -/
theorem nDig_year (y : Nat) (h1 : 1601 ≤ y) (h2 : y ≤ 9997) : Lib.nDigits y = 4 := by
  have := nDigits_le y 3 (by omega)
  rcases (by omega : Lib.nDigits y < 4 ∨ Lib.nDigits y = 4) with h | h
  · exfalso
    rw [Lib.nDigits_big (by omega), Lib.nDigits_big (by omega), Lib.nDigits_big (by omega)] at h
    have := Lib.nDigits_pos (y / 10 / 10 / 10)
    omega
  · exact h
theorem itoa_year (y : Nat) (h1 : 1601 ≤ y) (h2 : y ≤ 9997) (w : World) (ht : Tab w) :
    Calls Tryd.prog 21 #[.int .i64 y] w fun e w' => e = .returned (.string ⟨(digitsL y 4).toArray⟩) ∧ Below w.heap.size w w' := by
  have h := itoa_any y (by omega) (by omega) w ht
  rw [itoa_digits, nDig_year y h1 h2] at h
  exact h
theorem itoa_small (i : Nat) (h2 : i ≤ 60) (w : World) (ht : Tab w) :
    Calls Tryd.prog 21 #[.int .i64 i] w fun e w' => e = .returned (.string ⟨(digitsL i (Lib.nDigits i)).toArray⟩) ∧ Below w.heap.size w w' := by
  have h := itoa_any i (by omega) (by omega) w ht
  rw [itoa_digits] at h
  exact h


/-- Noughts ahead of a number's digits. -/
theorem rep_dig (k i : Nat) (hk : k < 5) (hk0 : 0 < k) (h1 : 1 ≤ i) (h4 : (i : Int) ≤ mst k) : Lib.nDigits i ≤ dgt k ∧ Lib.repeatL [48] (dgt k - Lib.nDigits i) ++ digitsL i (Lib.nDigits i) = digitsL i (dgt k) := by
  have hp := Lib.nDigits_pos i
  rcases mst_lt k hk i h4 h1 with ⟨rfl, _⟩ | ⟨_, hb⟩
  · omega
  · rcases k_cases k hk with rfl | rfl | rfl | rfl | rfl
    · omega
    all_goals
      simp only [dgt] at hb ⊢
      first
      | (have hn : Lib.nDigits i = 1 := Lib.nDigits_small (by omega)
         rw [hn]; exact ⟨by omega, rfl⟩)
      | (by_cases h10 : i < 10
         · have hn : Lib.nDigits i = 1 := Lib.nDigits_small h10
           rw [hn]
           refine ⟨by omega, ?_⟩
           rw [digitsL_pad 1 i (by omega)]; rfl
         · have hn : Lib.nDigits i = 2 := by rw [Lib.nDigits_big h10, Lib.nDigits_small (by omega)]
           rw [hn]; exact ⟨by omega, rfl⟩)

end Go.Proofs.YtmgoagncbmonlaaDoor
