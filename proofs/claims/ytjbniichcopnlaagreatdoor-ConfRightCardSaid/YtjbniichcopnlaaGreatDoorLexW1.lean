import Derived.Test.YtjbniichcopnlaaGreatDoorProg
import Derived.Test.YtjbniichcopnlaaGreatDoorPkV1
import Derived.Test.YtjbniichcopnlaaGreatDoorPkV0
import Derived.WalkKit
import Derived.WalkSpells
import Derived.WalkLawsBesides
import Derived.Lib.Hide
/- Layer 8 (lex): the walks of the program's letter, digit, inner, run, sign, number. -/
namespace Go.Proofs.YtjbniichcopnlaaGreatDoor
open Go.RowKit

theorem ret_bool {a b : Bool} (h : a = b) : Ending.returned (.bool a) = .returned (.bool b) := by rw [h]
theorem val_int {k : IntKind} {a b : Int} (h : a = b) : Value.int k a = .int k b := by rw [h]
theorem ret_int {k : IntKind} {a b : Int} (h : a = b) : Ending.returned (.int k a) = .returned (.int k b) := by rw [h]

set_option maxHeartbeats 400000 in
theorem lex_letter (c : UInt8) (w : World) :
    Calls Tryz.prog 64 #[.int .u8 c.toNat] w fun e w' => e = .returned (.bool (isLetter c)) ∧ w = w' := by
  go_enter Tryz.func64, Tryz.ntmps64
  go_wp2
  all_goals (go_ret; exact ⟨ret_bool (by rw [Bool.eq_iff_iff, isLetter_iff]; simp; omega), rfl⟩)

set_option maxHeartbeats 400000 in
theorem lex_digit (c : UInt8) (w : World) :
    Calls Tryz.prog 96 #[.int .u8 c.toNat] w fun e w' => e = .returned (.bool (isDigit c)) ∧ w = w' := by
  go_enter Tryz.func96, Tryz.ntmps96
  go_wp2
  all_goals (go_ret; exact ⟨ret_bool (by rw [Bool.eq_iff_iff, isDigit_iff]; simp; omega), rfl⟩)

theorem isInner_eq (c : UInt8) : isInner c = (isLetter c || isDigit c || ((c.toNat : Int) == 45)) := by
  unfold isInner; rw [u8_eq']; rfl

set_option maxHeartbeats 400000 in
theorem lex_inner (c : UInt8) (w : World) :
    Calls Tryz.prog 66 #[.int .u8 c.toNat] w fun e w' => e = .returned (.bool (isInner c)) ∧ w = w' := by
  go_enter Tryz.func66, Tryz.ntmps66
  go_wp2_with (first | (go_at_call 64; refine (lex_letter _ _).mono ?_; rintro e w' ⟨rfl, rfl⟩) | (go_at_call 96; refine (lex_digit _ _).mono ?_; rintro e w' ⟨rfl, rfl⟩))
  all_goals (go_ret; exact ⟨ret_bool (by simp [isInner_eq, *]), rfl⟩)

set_option maxHeartbeats 400000 in
theorem lex_free1 (c : UInt8) (w : World) :
    Calls Tryz.prog 101 #[.int .u8 c.toNat] w fun e w' => e = .returned (.bool (notEol c)) ∧ w = w' := by
  go_enter Tryz.func101, Tryz.ntmps101
  go_wp2
  all_goals (go_ret; exact ⟨ret_bool (by simp [notEol, bne, u8_eq']), rfl⟩)

set_option maxHeartbeats 400000 in
theorem lex_run (s : ByteArray) (f : FuncId) (p : UInt8 → Bool) (w : World) (hs : s.size ≤ maxLen)
   (hf : ∀ a W, Sem.run Tryz.prog (callFunc f a) W = .ok (.enter f a) W)
   (hp : ∀ (c : UInt8) W, Calls Tryz.prog f #[.int .u8 c.toNat] W fun e w' => e = .returned (.bool (p c)) ∧ W = w') :
    Calls Tryz.prog 65 #[.string s, .func (.func f) #[] #[]] w fun e w' => e = .returned (.int .i64 (runL p s.data.toList)) ∧ w = w' := by
  unfold maxLen at hs
  have HP := Lib.hid hp
  clear hp
  go_enter Tryz.func65, Tryz.ntmps65
  go_wp2
  go_loop [5] (fun i => ∃ k : Nat, k ≤ s.size ∧ i = .int .i64 k ∧ k ≤ runL p s.data.toList) (fun i => s.size - (intOf i).toNat)
  case atStart => exact ⟨0, Nat.zero_le _, rfl, Nat.zero_le _⟩
  case round =>
    obtain ⟨k, hk, rfl, hkr⟩ := hrel
    by_cases hlt : k < s.size
    · have hst := runL_ba p s k hlt hkr
      have HS := Lib.hid hst
      clear hst
      go_wp2_with fail
      refine (HP.out _ _).mono ?_; rintro e w' ⟨rfl, rfl⟩
      go_wp2
      · go_round
        case rel => exact ⟨k + 1, by omega, by go_num, HS.out.1 ‹_›⟩
        case measure => simp [intOf]; omega
      · go_ret
        exact ⟨by rw [HS.out.2 (by simpa using ‹_›)]; rfl, rfl⟩
    · have hle := runL_le p s.data.toList
      rw [ba_len] at hle
      have hkk : runL p s.data.toList = k := by omega
      have HK := Lib.hid hkk
      clear hkk hle
      go_wp2_with fail
      go_ret
      exact ⟨by rw [HK.out]; rfl, rfl⟩

theorem callFunc_inner (a : Array Value) (W : World) : Sem.run Tryz.prog (callFunc 66 a) W = .ok (.enter 66 a) W := by kernel_rfl
theorem callFunc_digit (a : Array Value) (W : World) : Sem.run Tryz.prog (callFunc 96 a) W = .ok (.enter 96 a) W := by kernel_rfl
theorem callFunc_free1 (a : Array Value) (W : World) : Sem.run Tryz.prog (callFunc 101 a) W = .ok (.enter 101 a) W := by kernel_rfl

theorem lex_run_inner (s : ByteArray) (w : World) (hs : s.size ≤ maxLen) :
    Calls Tryz.prog 65 #[.string s, .func (.func 66) #[] #[]] w fun e w' => e = .returned (.int .i64 (runL isInner s.data.toList)) ∧ w = w' :=
  lex_run s _ _ w hs callFunc_inner lex_inner
theorem lex_run_digit (s : ByteArray) (w : World) (hs : s.size ≤ maxLen) :
    Calls Tryz.prog 65 #[.string s, .func (.func 96) #[] #[]] w fun e w' => e = .returned (.int .i64 (runL isDigit s.data.toList)) ∧ w = w' :=
  lex_run s _ _ w hs callFunc_digit lex_digit
theorem lex_run_eol (s : ByteArray) (w : World) (hs : s.size ≤ maxLen) :
    Calls Tryz.prog 65 #[.string s, .func (.func 101) #[] #[]] w fun e w' => e = .returned (.int .i64 (runL notEol s.data.toList)) ∧ w = w' :=
  lex_run s _ _ w hs callFunc_free1 lex_free1

end Go.Proofs.YtjbniichcopnlaaGreatDoor
