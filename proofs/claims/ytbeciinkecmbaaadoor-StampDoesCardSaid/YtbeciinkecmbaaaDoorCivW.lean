/- Layer 5 (civil): the walks. -/
import Derived.Test.YtbeciinkecmbaaaDoorProg
import Derived.Test.YtbeciinkecmbaaaDoorCivil
import Derived.Test.YtbeciinkecmbaaaDoorConv
import Derived.WalkKit
import Derived.WalkSpells
import Derived.WalkLawsBesides
import Derived.Lib.Hide
namespace Go.Proofs.YtbeciinkecmbaaaDoor
open Go.RowKit

theorem ret_bool {a b : Bool} (h : a = b) : Ending.returned (.bool a) = .returned (.bool b) := by rw [h]
theorem val_int {k : IntKind} {a b : Int} (h : a = b) : Value.int k a = .int k b := by rw [h]
theorem ret_int {k : IntKind} {a b : Int} (h : a = b) : Ending.returned (.int k a) = .returned (.int k b) := by rw [h]
theorem ret_ii {k j : IntKind} {a b c d : Int} (h : a = b) (h' : c = d) : Ending.returned (.tuple #[.int k a, .int j c]) = .returned (.tuple #[.int k b, .int j d]) := by rw [h, h']

theorem civil_there_yes (y m : Int) (h1 : 1600 ≤ y) (h2 : y ≤ 9999) (h3 : 1 ≤ m) (h4 : m ≤ 12) (w : World) :
    Calls Tryd.prog 47 #[.int .i64 y, .int .i64 m] w fun e w' => e = .returned (.bool true) ∧ w = w' := by
  go_enter Tryd.func47, Tryd.ntmps47
  go_wp2
  go_ret
  exact ⟨rfl, rfl⟩
theorem civil_there_no (y m : Int) (h : ¬ (1600 ≤ y ∧ y ≤ 9999 ∧ 1 ≤ m ∧ m ≤ 12)) (w : World) :
    Calls Tryd.prog 47 #[.int .i64 y, .int .i64 m] w fun e w' => e = .returned (.bool false) ∧ w = w' := by
  by_cases h1 : 1600 ≤ y
  · by_cases h2 : y ≤ 9999
    · by_cases h3 : 1 ≤ m
      · have h4 : ¬ m ≤ 12 := fun h4 => h ⟨h1, h2, h3, h4⟩
        clear h
        go_enter Tryd.func47, Tryd.ntmps47
        go_wp2
        go_ret
        exact ⟨rfl, rfl⟩
      · clear h
        go_enter Tryd.func47, Tryd.ntmps47
        go_wp2
        go_ret
        exact ⟨rfl, rfl⟩
    · clear h
      go_enter Tryd.func47, Tryd.ntmps47
      go_wp2
      go_ret
      exact ⟨rfl, rfl⟩
  · clear h
    go_enter Tryd.func47, Tryd.ntmps47
    go_wp2
    go_ret
    exact ⟨rfl, rfl⟩

theorem beq_t {a b : Int} (h : a = b) : (a == b) = true := by rw [h]; simp
theorem beq_f {a b : Int} (h : ¬ a = b) : (a == b) = false := by simpa using h
theorem bne_t {a b : Int} (h : ¬ a = b) : (a != b) = true := by simpa using h
theorem bne_f {a b : Int} (h : a = b) : (a != b) = false := by rw [h]; simp

theorem civil_Leap (y : Int) (h1 : 1600 ≤ y) (h2 : y ≤ 9999) (w : World) :
    Calls Tryd.prog 44 #[.int .i64 y] w fun e w' => e = .returned (.bool (decide (lp y = 1))) ∧ w = w' := by
  by_cases a : y % 400 = 0
  · have HE := Lib.hid (show lp y = 1 by unfold lp; rw [if_pos ⟨by omega, .inr a⟩])
    have a1 := beq_t a
    clear a
    go_enter Tryd.func44, Tryd.ntmps44
    go_wp2_with (go_at_call 47; refine (civil_there_yes _ _ h1 h2 (by omega) (by omega) _).mono ?_; rintro e w' ⟨rfl, rfl⟩)
    go_ret
    exact ⟨ret_bool (by rw [HE.out]; rfl), rfl⟩
  have a1 := beq_f a
  by_cases b : y % 4 = 0
  · have b1 := beq_t b
    by_cases c : y % 100 = 0
    · have c1 := bne_f c
      have HE := Lib.hid (show lp y = 0 by unfold lp; rw [if_neg (fun h => h.2.elim (fun x => x c) a)])
      clear a b c
      go_enter Tryd.func44, Tryd.ntmps44
      go_wp2_with (go_at_call 47; refine (civil_there_yes _ _ h1 h2 (by omega) (by omega) _).mono ?_; rintro e w' ⟨rfl, rfl⟩)
      go_ret
      exact ⟨ret_bool (by rw [HE.out]; rfl), rfl⟩
    · have c1 := bne_t c
      have HE := Lib.hid (show lp y = 1 by unfold lp; rw [if_pos ⟨b, .inl c⟩])
      clear a b c
      go_enter Tryd.func44, Tryd.ntmps44
      go_wp2_with (go_at_call 47; refine (civil_there_yes _ _ h1 h2 (by omega) (by omega) _).mono ?_; rintro e w' ⟨rfl, rfl⟩)
      go_ret
      exact ⟨ret_bool (by rw [HE.out]; rfl), rfl⟩
  · have b1 := beq_f b
    have HE := Lib.hid (show lp y = 0 by unfold lp; rw [if_neg (fun h => b h.1)])
    clear a b
    go_enter Tryd.func44, Tryd.ntmps44
    go_wp2_with (go_at_call 47; refine (civil_there_yes _ _ h1 h2 (by omega) (by omega) _).mono ?_; rintro e w' ⟨rfl, rfl⟩)
    go_ret
    exact ⟨ret_bool (by rw [HE.out]; rfl), rfl⟩

theorem cumT_bd (m : Int) : 0 ≤ cumT m ∧ cumT m ≤ 365 := by
  unfold cumT
  repeat' split
  all_goals omega
theorem table_at (m : Int) (h : 1 ≤ m) (h2 : m ≤ 13) : (#[.int .i64 0, .int .i64 31, .int .i64 59, .int .i64 90, .int .i64 120, .int .i64 151, .int .i64 181, .int .i64 212, .int .i64 243, .int .i64 273, .int .i64 304, .int .i64 334, .int .i64 365] : Array Value)[m.toNat - 1]? = some (.int .i64 (cumT m)) := by
  by_cases h13 : m = 13
  · subst h13; rfl
  · rcases m_cases m h (by omega) with rfl | rfl | rfl | rfl | rfl | rfl | rfl | rfl | rfl | rfl | rfl | rfl <;> rfl

theorem civil_ahead (y m : Int) (h1 : 1600 ≤ y) (h2 : y ≤ 9999) (h3 : 1 ≤ m) (h4 : m ≤ 13) (w : World) :
    Calls Tryd.prog 34 #[.int .i64 y, .int .i64 m] w fun e w' => e = .returned (.int .i64 (cum y m)) ∧ Below w.heap.size w w' := by
  have hc := table_at m h3 h4
  have hcb := cum_bd y m h3 h4
  have hl := lp_01 y
  have hcu : cum y m = cumT m + if 2 < m then lp y else 0 := rfl
  by_cases hm : 2 < m
  · rw [if_pos hm] at hcu
    have HL := Lib.hid (civil_Leap y h1 h2)
    rcases hl with hl | hl
    · rw [hl] at HL
      have HC := Lib.hid (show cum y m = cumT m by omega)
      have hb := cumT_bd m
      clear hcu hcb hl
      go_enter Tryd.func34, Tryd.ntmps34
      go_wp2_with (go_at_call 44; refine (HL.out _).mono ?_; rintro e w' ⟨rfl, rfl⟩)
      go_ret
      exact ⟨ret_int (by rw [HC.out]), by (repeat (first | exact Below.refl _ _ | assumption | refine Below.setCell ?_ (by first | (simp; done) | (simp; omega) | omega) _ | refine Below.alloc ?_ (by first | (simp; done) | (simp; omega) | omega) _ | refine Below.drew ?_ | refine below_drewN ?_ _ | refine Below.trans ?_ (Below.mono (by assumption) (by first | (simp; done) | (simp; omega) | omega))))⟩
    · rw [hl] at HL
      have HC := Lib.hid (show cum y m = cumT m + 1 by omega)
      have hb := cumT_bd m
      clear hcu hcb hl
      go_enter Tryd.func34, Tryd.ntmps34
      go_wp2_with (go_at_call 44; refine (HL.out _).mono ?_; rintro e w' ⟨rfl, rfl⟩)
      go_ret
      exact ⟨ret_int (by rw [HC.out]), by (repeat (first | exact Below.refl _ _ | assumption | refine Below.setCell ?_ (by first | (simp; done) | (simp; omega) | omega) _ | refine Below.alloc ?_ (by first | (simp; done) | (simp; omega) | omega) _ | refine Below.drew ?_ | refine below_drewN ?_ _ | refine Below.trans ?_ (Below.mono (by assumption) (by first | (simp; done) | (simp; omega) | omega))))⟩
  · rw [if_neg hm] at hcu
    have HC := Lib.hid (show cum y m = cumT m by omega)
    clear hcu hcb hl
    go_enter Tryd.func34, Tryd.ntmps34
    go_wp2
    go_ret
    exact ⟨ret_int (by rw [HC.out]), by (repeat (first | exact Below.refl _ _ | assumption | refine Below.setCell ?_ (by first | (simp; done) | (simp; omega) | omega) _ | refine Below.alloc ?_ (by first | (simp; done) | (simp; omega) | omega) _ | refine Below.drew ?_ | refine below_drewN ?_ _ | refine Below.trans ?_ (Below.mono (by assumption) (by first | (simp; done) | (simp; omega) | omega))))⟩

theorem civil_Length_ok (y m : Int) (h1 : 1600 ≤ y) (h2 : y ≤ 9999) (h3 : 1 ≤ m) (h4 : m ≤ 12) (w : World) :
    Calls Tryd.prog 43 #[.int .i64 y, .int .i64 m] w fun e w' => e = .returned (.tuple #[.int .i64 (dim y m), .int .i64 0]) ∧ Below w.heap.size w w' := by
  have hs := cum_succ y m h3 h4
  have a := cum_bd y m h3 (by omega)
  have b := cum_bd y (m + 1) (by omega) (by omega)
  have HS := Lib.hid hs
  clear hs
  go_enter Tryd.func43, Tryd.ntmps43
  go_wp2_with (go_at_call 47; refine (civil_there_yes _ _ h1 h2 (by omega) (by omega) _).mono ?_; rintro e w' ⟨rfl, rfl⟩)
  refine (civil_ahead y (m + 1) h1 h2 (by omega) (by omega) _).mono ?_
  rintro e w1 ⟨rfl, hb1⟩
  go_wp2_with fail
  refine (civil_ahead y m h1 h2 (by omega) (by omega) _).mono ?_
  rintro e w2 ⟨rfl, hb2⟩
  go_wp2
  go_ret2
  exact ⟨ret_ii (by rw [HS.out]; omega) rfl, hb1.trans (hb2.mono hb1.size)⟩
theorem civil_Length_no (y m : Int) (h : ¬ (1600 ≤ y ∧ y ≤ 9999 ∧ 1 ≤ m ∧ m ≤ 12)) (w : World) :
    Calls Tryd.prog 43 #[.int .i64 y, .int .i64 m] w fun e w' => e = .returned (.tuple #[.int .i64 0, .int .i64 4]) ∧ Below w.heap.size w w' := by
  have HT := Lib.hid (civil_there_no y m h)
  clear h
  go_enter Tryd.func43, Tryd.ntmps43
  go_wp2_with (go_at_call 47; refine (HT.out _).mono ?_; rintro e w' ⟨rfl, rfl⟩)
  go_ret2
  exact ⟨rfl, Below.refl _ _⟩

end Go.Proofs.YtbeciinkecmbaaaDoor
