/- Layer 8 (lex): the walks of the program's free, Name. -/
import Derived.Test.YtjbniichcopnlaaLexW3
import Derived.Test.YtjbniichcopnlaaShelf
namespace Go.Proofs.Ytjbniichcopnlaa
open Go.RowKit

theorem blank4 (c : UInt8) : (0 ≤ Lib.indexByte [32, 9, 10, 35] c) ↔ (isBlank c || c == 35) = true := by
  simp only [Lib.indexByte, isBlank]
  by_cases h1 : c = 32
  · subst h1; simp
  by_cases h2 : c = 9
  · subst h2; simp
  by_cases h3 : c = 10
  · subst h3; simp
  by_cases h4 : c = 35
  · subst h4; simp
  have e1 : ((32 : UInt8) == c) = false := by simpa using fun h => h1 h.symm
  have e2 : ((9 : UInt8) == c) = false := by simpa using fun h => h2 h.symm
  have e3 : ((10 : UInt8) == c) = false := by simpa using fun h => h3 h.symm
  have e4 : ((35 : UInt8) == c) = false := by simpa using fun h => h4 h.symm
  simp [e1, e2, e3, e4, h1, h2, h3, h4]

theorem idx_free (c : UInt8) (w : World) (b : Bool) (h : (isBlank c || c == 35) = b) :
    Calls Try.prog 66 #[.string ⟨#[32, 9, 10, 35]⟩, .int .u8 c.toNat] w fun e w' => ∃ n : Int, (if b then 0 ≤ n else n < 0) ∧ e = .returned (.int .i64 n) ∧ w = w' := by
  refine (Try.strings_IndexByte _ _ w).mono ?_
  rintro e w' ⟨rfl, rfl⟩
  refine ⟨_, ?_, rfl, rfl⟩
  have e1 : ((c.toNat : Int).toNat.toUInt8) = c := by simp
  rw [e1]
  have h2 := blank4 c
  rw [h] at h2
  show if b then 0 ≤ Lib.indexByte [32, 9, 10, 35] c else Lib.indexByte [32, 9, 10, 35] c < 0
  cases b
  · simp only [Bool.false_eq_true, iff_false] at h2
    simp; omega
  · simpa using h2

theorem freeM_step (s : ByteArray) (k : Nat) (h : k < s.size) : freeM false (s.data.toList.drop k) = if isBlank s[k] then 1 + freeM false (s.data.toList.drop (k + 1)) else if s[k] = 35 then runL notEol (s.data.toList.drop k) + freeM false (s.data.toList.drop (k + runL notEol (s.data.toList.drop k))) else 0 := by
  have e := ba_drop_cons s k h
  by_cases h35 : s[k] = 35
  · have e' := e
    rw [h35] at e'
    rw [if_neg (by rw [h35]; decide), if_pos h35, ← List.drop_drop, e']
    exact freeM_hash _
  · rw [if_neg h35, e]
    show (if isBlank s[k] then _ else if s[k] = 35 then _ else 0) = _
    rw [if_neg h35]

theorem run_pos (s : ByteArray) (k : Nat) (h : k < s.size) (h35 : s[k] = 35) : 0 < runL notEol (s.data.toList.drop k) := by
  rw [ba_drop_cons s k h, h35]
  exact runL_head _ _ _ rfl

set_option maxRecDepth 100000 in
set_option maxHeartbeats 1000000 in
theorem lex_free (s : ByteArray) (w : World) (hs : s.size ≤ maxLen) :
    Calls Try.prog 36 #[.string s] w fun e w' => e = .returned (.int .i64 (freeM false s.data.toList)) ∧ w = w' := by
  have hs' := hs
  unfold maxLen at hs'
  go_enter Try.func36, Try.ntmps36
  go_wp2
  go_loop [3] (fun i => ∃ k : Nat, k ≤ s.size ∧ i = .int .i64 k ∧ freeM false s.data.toList = k + freeM false (s.data.toList.drop k)) (fun i => s.size - (intOf i).toNat)
  case atStart => exact ⟨0, Nat.zero_le _, rfl, by simp⟩
  case round =>
    obtain ⟨k, hk, rfl, hkr⟩ := hrel
    by_cases hlt : k < s.size
    · have hst := freeM_step s k hlt
      by_cases hb : isBlank s[k] = true
      · rw [if_pos hb] at hst
        have hn : ¬ (s[k].toNat : Int) = 35 := fun h => by
          have h2 : s[k] = 35 := by rw [← UInt8.toNat_inj]; have : (35 : UInt8).toNat = 35 := rfl; omega
          rw [h2] at hb; cases hb
        rw [hst] at hkr
        have HK := Lib.hid hkr
        have hi := fun w => idx_free s[k] w true (by rw [hb]; rfl)
        have HI := Lib.hid hi
        clear hkr hst hb hi
        go_wp2_with fail
        refine (HI.out _).mono ?_
        rintro e w' ⟨n, hn0, rfl, rfl⟩
        simp at hn0
        go_wp2
        go_round
        case rel => exact ⟨k + 1, by omega, by go_num, by rw [HK.out]; omega⟩
        case measure => simp [intOf]; omega
      · rw [if_neg hb] at hst
        by_cases h35 : s[k] = 35
        · rw [if_pos h35] at hst
          rw [hst] at hkr
          have hrp := run_pos s k hlt h35
          have hrl := runL_le notEol (s.data.toList.drop k)
          rw [List.length_drop, ba_len] at hrl
          have hi : ∀ w, Calls Try.prog 66 #[.string ⟨#[32, 9, 10, 35]⟩, .int .u8 35] w fun e w' => ∃ n : Int, (if true then 0 ≤ n else n < 0) ∧ e = .returned (.int .i64 n) ∧ w = w' := fun w => idx_free 35 w true rfl
          have hn : (s[k].toNat : Int) = 35 := by rw [h35]; rfl
          have hrun := fun w => lex_run_eol (s.extract k s.size) w (by simp; omega)
          rw [ba_from] at hrun
          generalize runL notEol (s.data.toList.drop k) = r at *
          have HK := Lib.hid hkr
          have HI := Lib.hid hi
          have HR := Lib.hid hrun
          clear hkr hst hb hi hrun h35
          go_wp2_with fail
          refine (HI.out _).mono ?_
          rintro e w' ⟨n, hn0, rfl, rfl⟩
          simp at hn0
          go_wp2_with fail
          refine (HR.out _).mono ?_
          rintro e w' ⟨rfl, rfl⟩
          go_wp2
          go_round
          case rel => exact ⟨k + r, by omega, by go_num, by rw [HK.out]; omega⟩
          case measure => simp [intOf]; omega
        · rw [if_neg h35] at hst
          rw [hst] at hkr
          have hi := fun w => idx_free s[k] w false (by simp [h35]; simpa using hb)
          have HK := Lib.hid hkr
          have HI := Lib.hid hi
          clear hkr hst hb hi
          go_wp2_with fail
          refine (HI.out _).mono ?_
          rintro e w' ⟨n, hn0, rfl, rfl⟩
          simp at hn0
          go_wp2
          go_ret
          exact ⟨by rw [HK.out]; rfl, rfl⟩
    · have hd := ba_drop_nil s k (by omega)
      rw [hd] at hkr
      have HK := Lib.hid hkr
      clear hkr hd
      go_wp2_with fail
      go_ret
      exact ⟨by rw [HK.out]; rfl, rfl⟩

theorem runL_full (p : UInt8 → Bool) : ∀ l : Bytes, l.all p = true → runL p l = l.length
  | [], _ => rfl
  | c :: r, h => by
    simp only [List.all_cons, Bool.and_eq_true] at h
    rw [runL_cons, if_pos h.1, runL_full p r h.2]; rfl

/-- A name. -/
theorem nameL_eq (s : ByteArray) : nameL s.data.toList = if h : 0 < s.size then decide (s.size ≤ 16) && isLetter s[0] && decide (runL isInner s.data.toList = s.size) else false := by
  by_cases h : 0 < s.size
  · have e := ba_drop_cons s 0 h
    rw [List.drop_zero] at e
    rw [dif_pos h]
    have hl := ba_len s
    have hr := runL_le isInner s.data.toList
    have hiff : s.data.toList.all isInner = decide (runL isInner s.data.toList = s.size) := by
      rw [Bool.eq_iff_iff, decide_eq_true_eq]
      constructor
      · intro ha
        rw [runL_full _ _ ha, hl]
      · intro hr
        have := runL_all isInner s.data.toList
        rwa [hr, ← hl, List.take_length] at this
    rw [← hiff, ← hl]
    rw [e]
    rfl
  · rw [dif_neg h]
    have : s.data.toList = [] := by
      apply List.eq_nil_of_length_eq_zero; rw [ba_len]; omega
    rw [this]; rfl

theorem toList_nil (s : ByteArray) : s.toList = [] ↔ s.size = 0 := by
  rw [ba_toList, ← ba_len, List.length_eq_zero_iff]

set_option maxRecDepth 100000 in
set_option maxHeartbeats 1000000 in
theorem lex_Name (s : ByteArray) (w : World) (hs : s.size ≤ maxLen) :
    Calls Try.prog 53 #[.string s] w fun e w' => e = .returned (.bool (nameL s.data.toList)) ∧ w = w' := by
  have hs' := hs
  unfold maxLen at hs'
  have hn := nameL_eq s
  have HN := Lib.hid hn
  clear hn
  by_cases h0 : 0 < s.size
  · have hne : ¬ s.toList = [] := fun h => by have := (toList_nil s).1 h; omega
    have hem : s.toList.isEmpty = false := by rw [List.isEmpty_eq_false_iff]; exact hne
    go_enter Try.func53, Try.ntmps53
    go_wp2_with (first | (go_at_call 70; refine (lex_letter _ _).mono ?_; rintro e w' ⟨rfl, rfl⟩) | (go_at_call 67; refine (lex_run_inner _ _ hs).mono ?_; rintro e w' ⟨rfl, rfl⟩))
    all_goals (go_ret; exact ⟨ret_bool (by rw [HN.out, dif_pos h0]; simp [*]; try first | omega | (rw [Bool.eq_iff_iff]; simp; omega)), rfl⟩)
  · have hne : s.toList = [] := (toList_nil s).2 (by omega)
    have hem : s.toList.isEmpty = true := by rw [List.isEmpty_iff]; exact hne
    go_enter Try.func53, Try.ntmps53
    go_wp2_with (first | (go_at_call 70; refine (lex_letter _ _).mono ?_; rintro e w' ⟨rfl, rfl⟩) | (go_at_call 67; refine (lex_run_inner _ _ hs).mono ?_; rintro e w' ⟨rfl, rfl⟩))
    all_goals (go_ret; exact ⟨ret_bool (by rw [HN.out, dif_neg h0]), rfl⟩)

end Go.Proofs.Ytjbniichcopnlaa
