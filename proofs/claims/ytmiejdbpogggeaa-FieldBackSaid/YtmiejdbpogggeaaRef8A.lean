import Derived.Test.YtmiejdbpogggeaaPkB
import Derived.BigQuiet
import Derived.Deep.QuietTactic
/- Layer 8, the reference: the walks of letter, digit, inner, kind, Name, Same. -/
namespace Go.Proofs.Ytmiejdbpogggeaa
open Go.RowKit

set_option maxHeartbeats 400000 in
theorem ref8_letter (c : UInt8) (w : World) :
    Calls Try.prog 76 #[.int .u8 c.toNat] w fun e w' => e = .returned (.bool (isLetter c)) ∧ w = w' := by
  go_enter Try.func76, Try.ntmps76
  go_wp2
  all_goals (go_ret; exact ⟨ret_bool (by rw [Bool.eq_iff_iff, isLetter_iff]; simp; omega), rfl⟩)

set_option maxHeartbeats 400000 in
theorem ref8_digit (c : UInt8) (w : World) :
    Calls Try.prog 87 #[.int .u8 c.toNat] w fun e w' => e = .returned (.bool (isDigit c)) ∧ w = w' := by
  go_enter Try.func87, Try.ntmps87
  go_wp2
  all_goals (go_ret; exact ⟨ret_bool (by rw [Bool.eq_iff_iff, isDigit_iff]; simp; omega), rfl⟩)

set_option maxHeartbeats 400000 in
theorem ref8_inner (c : UInt8) (w : World) :
    Calls Try.prog 77 #[.int .u8 c.toNat] w fun e w' => e = .returned (.bool (isInner c)) ∧ w = w' := by
  go_enter Try.func77, Try.ntmps77
  go_wp2_with (first | (go_at_call 76; refine (ref8_letter _ _).mono ?_; rintro e w' ⟨rfl, rfl⟩) | (go_at_call 87; refine (ref8_digit _ _).mono ?_; rintro e w' ⟨rfl, rfl⟩))
  all_goals (go_ret; exact ⟨ret_bool (by simp [isInner_eq, *]), rfl⟩)


set_option maxRecDepth 100000 in
set_option maxHeartbeats 1000000 in
theorem ref8_Name (s : ByteArray) (w : World) (hs : s.size ≤ maxLen) :
    Calls Try.prog 53 #[.string s] w fun e w' => e = .returned (.bool (nameL s.data.toList)) ∧ w = w' := by
  have hs' := hs
  unfold maxLen at hs'
  have hn := nameL_eq s
  have HN := Lib.hid hn
  clear hn
  by_cases hA : 0 < s.size ∧ s.size ≤ 16
  · obtain ⟨h0, h16⟩ := hA
    cases hl : isLetter s[0]
    · go_enter Try.func53, Try.ntmps53
      go_wp2_with (first | (go_at_call 76; refine (ref8_letter _ _).mono ?_; rintro e w' ⟨rfl, rfl⟩))
      go_ret
      exact ⟨ret_bool (by rw [HN.out, dif_pos h0, hl]; simp), rfl⟩
    · go_enter Try.func53, Try.ntmps53
      go_wp2_with (first | (go_at_call 76; refine (ref8_letter _ _).mono ?_; rintro e w' ⟨rfl, rfl⟩))
      go_loop [20] (fun i => ∃ k : Nat, k ≤ s.size ∧ i = .int .i64 k ∧ k ≤ runL isInner s.data.toList) (fun i => s.size - (intOf i).toNat)
      case atStart => exact ⟨0, Nat.zero_le _, rfl, Nat.zero_le _⟩
      case round =>
        obtain ⟨k, hk, rfl, hkr⟩ := hrel
        by_cases hlt : k < s.size
        · have hst := runL_ba isInner s k hlt hkr
          cases hi : isInner s[k]
          · have hr := hst.2 hi
            have HR := Lib.hid hr
            clear hst hr hkr
            go_wp2_with (first | (go_at_call 77; refine (ref8_inner _ _).mono ?_; rintro e w' ⟨rfl, rfl⟩))
            go_ret
            exact ⟨ret_bool (by rw [HN.out, dif_pos h0, HR.out]; simp; omega), rfl⟩
          · have hr := hst.1 hi
            clear hst
            go_wp2_with (first | (go_at_call 77; refine (ref8_inner _ _).mono ?_; rintro e w' ⟨rfl, rfl⟩))
            go_round
            case rel => exact ⟨k + 1, by omega, by go_num, hr⟩
            case measure => simp [intOf]; omega
        · have hle := runL_le isInner s.data.toList
          rw [ba_len] at hle
          go_wp2_with fail
          go_ret
          exact ⟨ret_bool (by rw [HN.out, dif_pos h0, hl]; simp; omega), rfl⟩
  · have hA' : s.size < 1 ∨ 16 < s.size := by omega
    have hf : nameL s.data.toList = false := by
      rw [HN.out]
      by_cases h : 0 < s.size
      · rw [dif_pos h]; simp; omega
      · rw [dif_neg h]
    have HF := Lib.hid hf
    clear hf
    rcases hA' with h | h
    · go_enter Try.func53, Try.ntmps53
      go_wp2
      go_ret
      exact ⟨ret_bool HF.out.symm, rfl⟩
    · go_enter Try.func53, Try.ntmps53
      go_wp2
      go_ret
      exact ⟨ret_bool HF.out.symm, rfl⟩

end Go.Proofs.Ytmiejdbpogggeaa
