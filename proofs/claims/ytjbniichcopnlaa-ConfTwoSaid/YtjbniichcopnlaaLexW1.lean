/- Layer 8 (lex): the walks of the program's letter, digit, inner, run, sign, number. -/
import Derived.Test.YtjbniichcopnlaaProg
import Derived.Test.YtjbniichcopnlaaMap
import Derived.Test.YtjbniichcopnlaaLexLem
import Derived.WalkKit
import Derived.WalkSpells
import Derived.WalkLawsBesides
import Derived.Lib.Hide
namespace Go.Proofs.Ytjbniichcopnlaa
open Go.RowKit

theorem ret_bool {a b : Bool} (h : a = b) : Ending.returned (.bool a) = .returned (.bool b) := by rw [h]
theorem val_int {k : IntKind} {a b : Int} (h : a = b) : Value.int k a = .int k b := by rw [h]
theorem ret_int {k : IntKind} {a b : Int} (h : a = b) : Ending.returned (.int k a) = .returned (.int k b) := by rw [h]

set_option maxHeartbeats 400000 in
theorem lex_letter (c : UInt8) (w : World) :
    Calls Try.prog 70 #[.int .u8 c.toNat] w fun e w' => e = .returned (.bool (isLetter c)) ∧ w = w' := by
  go_enter Try.func70, Try.ntmps70
  go_wp2
  all_goals (go_ret; exact ⟨ret_bool (by rw [Bool.eq_iff_iff, isLetter_iff]; simp; omega), rfl⟩)

set_option maxHeartbeats 400000 in
theorem lex_digit (c : UInt8) (w : World) :
    Calls Try.prog 71 #[.int .u8 c.toNat] w fun e w' => e = .returned (.bool (isDigit c)) ∧ w = w' := by
  go_enter Try.func71, Try.ntmps71
  go_wp2
  all_goals (go_ret; exact ⟨ret_bool (by rw [Bool.eq_iff_iff, isDigit_iff]; simp; omega), rfl⟩)

theorem isInner_eq (c : UInt8) : isInner c = (isLetter c || isDigit c || ((c.toNat : Int) == 45)) := by
  unfold isInner; rw [u8_eq']; rfl

set_option maxHeartbeats 400000 in
theorem lex_inner (c : UInt8) (w : World) :
    Calls Try.prog 73 #[.int .u8 c.toNat] w fun e w' => e = .returned (.bool (isInner c)) ∧ w = w' := by
  go_enter Try.func73, Try.ntmps73
  go_wp2_with (first | (go_at_call 70; refine (lex_letter _ _).mono ?_; rintro e w' ⟨rfl, rfl⟩) | (go_at_call 71; refine (lex_digit _ _).mono ?_; rintro e w' ⟨rfl, rfl⟩))
  all_goals (go_ret; exact ⟨ret_bool (by simp [isInner_eq, *]), rfl⟩)

set_option maxHeartbeats 400000 in
theorem lex_free1 (c : UInt8) (w : World) :
    Calls Try.prog 68 #[.int .u8 c.toNat] w fun e w' => e = .returned (.bool (notEol c)) ∧ w = w' := by
  go_enter Try.func68, Try.ntmps68
  go_wp2
  all_goals (go_ret; exact ⟨ret_bool (by simp [notEol, bne, u8_eq']), rfl⟩)

set_option maxHeartbeats 400000 in
theorem lex_run (s : ByteArray) (f : FuncId) (p : UInt8 → Bool) (w : World) (hs : s.size ≤ maxLen)
   (hf : ∀ a W, Sem.run Try.prog (callFunc f a) W = .ok (.enter f a) W)
   (hp : ∀ (c : UInt8) W, Calls Try.prog f #[.int .u8 c.toNat] W fun e w' => e = .returned (.bool (p c)) ∧ W = w') :
    Calls Try.prog 67 #[.string s, .func (.func f) #[] #[]] w fun e w' => e = .returned (.int .i64 (runL p s.data.toList)) ∧ w = w' := by
  unfold maxLen at hs
  have HP := Lib.hid hp
  clear hp
  go_enter Try.func67, Try.ntmps67
  go_wp2
  go_loop [5] (fun i => ∃ k : Nat, k ≤ s.size ∧ i = .int .i64 k ∧ k ≤ runL p s.data.toList) (fun i => s.size - (intOf i).toNat)
  case atStart => exact ⟨0, Nat.zero_le _, rfl, Nat.zero_le _⟩
  case round =>
    obtain ⟨k, hk, rfl, hkr⟩ := hrel
    by_cases hlt : k < s.size
    · have hst := runL_ba p s k hlt hkr
      have HS := Lib.hid hst
      clear hst
      go_wp2_with fail
      refine (HP.out _ _).mono ?_; rintro e w' ⟨rfl, rfl⟩
      go_wp2
      · go_round
        case rel => exact ⟨k + 1, by omega, by go_num, HS.out.1 ‹_›⟩
        case measure => simp [intOf]; omega
      · go_ret
        exact ⟨by rw [HS.out.2 (by simpa using ‹_›)]; rfl, rfl⟩
    · have hle := runL_le p s.data.toList
      rw [ba_len] at hle
      have hkk : runL p s.data.toList = k := by omega
      have HK := Lib.hid hkk
      clear hkk hle
      go_wp2_with fail
      go_ret
      exact ⟨by rw [HK.out]; rfl, rfl⟩

theorem callFunc_inner (a : Array Value) (W : World) : Sem.run Try.prog (callFunc 73 a) W = .ok (.enter 73 a) W := by kernel_rfl
theorem callFunc_digit (a : Array Value) (W : World) : Sem.run Try.prog (callFunc 71 a) W = .ok (.enter 71 a) W := by kernel_rfl
theorem callFunc_free1 (a : Array Value) (W : World) : Sem.run Try.prog (callFunc 68 a) W = .ok (.enter 68 a) W := by kernel_rfl

theorem lex_run_inner (s : ByteArray) (w : World) (hs : s.size ≤ maxLen) :
    Calls Try.prog 67 #[.string s, .func (.func 73) #[] #[]] w fun e w' => e = .returned (.int .i64 (runL isInner s.data.toList)) ∧ w = w' :=
  lex_run s _ _ w hs callFunc_inner lex_inner
theorem lex_run_digit (s : ByteArray) (w : World) (hs : s.size ≤ maxLen) :
    Calls Try.prog 67 #[.string s, .func (.func 71) #[] #[]] w fun e w' => e = .returned (.int .i64 (runL isDigit s.data.toList)) ∧ w = w' :=
  lex_run s _ _ w hs callFunc_digit lex_digit
theorem lex_run_eol (s : ByteArray) (w : World) (hs : s.size ≤ maxLen) :
    Calls Try.prog 67 #[.string s, .func (.func 68) #[] #[]] w fun e w' => e = .returned (.int .i64 (runL notEol s.data.toList)) ∧ w = w' :=
  lex_run s _ _ w hs callFunc_free1 lex_free1

end Go.Proofs.Ytjbniichcopnlaa
