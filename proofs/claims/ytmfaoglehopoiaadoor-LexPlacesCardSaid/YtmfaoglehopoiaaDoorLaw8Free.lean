/- Layer 8, the laws: the walk of free. -/
import Derived.Test.YtmfaoglehopoiaaDoorLexJoin
import Derived.Test.YtmfaoglehopoiaaDoorRef8A
namespace Go.Proofs.YtmfaoglehopoiaaDoor
open Go.RowKit

/-- Blanks and remarks alone. -/
def freeL : Bool → Bytes → Bool
  | _, [] => true
  | r, c :: l => if c = 10 then freeL false l else if c = 35 then freeL true l else if !r && c != 32 && c != 9 then false else freeL r l

theorem freeL_step (r : Bool) (s : ByteArray) (k : Nat) (h : k < s.size) : freeL r (s.data.toList.drop k) =
    (if ((s[k].toNat : Int) == 10) = true then freeL false (s.data.toList.drop (k + 1)) else if ((s[k].toNat : Int) == 35) = true then freeL true (s.data.toList.drop (k + 1))
      else if (!r && ((s[k].toNat : Int) != 32) && ((s[k].toNat : Int) != 9)) = true then false else freeL r (s.data.toList.drop (k + 1))) := by
  have hd : s.data.toList.drop k = s[k] :: s.data.toList.drop (k + 1) := by
    rw [List.drop_eq_getElem_cons (by rw [ba_len]; exact h), ba_get]
  have e : ∀ n : UInt8, ((s[k].toNat : Int) == (n.toNat : Int)) = decide (s[k] = n) := fun n => by
    rw [Bool.eq_iff_iff]; simp [← UInt8.toNat_inj]; omega
  have e10 := e 10
  have e35 := e 35
  have e32 := e 32
  have e9 := e 9
  simp only [show ((10 : UInt8).toNat : Int) = 10 from rfl, show ((35 : UInt8).toNat : Int) = 35 from rfl, show ((32 : UInt8).toNat : Int) = 32 from rfl, show ((9 : UInt8).toNat : Int) = 9 from rfl] at e10 e35 e32 e9
  rw [hd, freeL]
  simp only [e10, e35, bne, e32, e9, decide_eq_true_eq]
  rfl

set_option maxRecDepth 100000 in
set_option maxHeartbeats 1000000 in
theorem law8_free (s : ByteArray) (w : World) (hs : s.size ≤ maxLen) :
    Calls Tryd.prog 11 #[.string s] w fun e w' => e = .returned (.bool (freeL false s.data.toList)) ∧ w = w' := by
  unfold maxLen at hs
  go_enter Tryd.func11, Tryd.ntmps11
  go_wp2
  go_loopw [3, 7] (fun r i wr => ∃ (k : Nat) (R : Bool), k ≤ s.size ∧ i = .int .i64 k ∧ r = .bool R ∧ w = wr ∧ freeL false s.data.toList = freeL R (s.data.toList.drop k)) (fun _ i _ => s.size - (intOf i).toNat)
  case atStart => exact ⟨0, false, Nat.zero_le _, rfl, rfl, rfl, by simp⟩
  case round =>
    obtain ⟨k, R, hk, rfl, rfl, rfl, hf⟩ := hrel
    by_cases hlt : k < s.size
    · rw [freeL_step R s k hlt] at hf
      cases h10 : ((s[k].toNat : Int) == 10)
      · rw [h10, if_neg (by simp)] at hf
        cases h35 : ((s[k].toNat : Int) == 35)
        · rw [h35, if_neg (by simp)] at hf
          cases R
          · cases h32 : ((s[k].toNat : Int) != 32)
            · rw [h32] at hf
              have HF := Lib.hid hf
              clear hf
              go_wp2
              exact ⟨⟨k + 1, false, by omega, by go_num, rfl, by first | rfl | trivial, by rw [HF.out] <;> simp⟩, by simp [intOf]; omega⟩
            · cases h9 : ((s[k].toNat : Int) != 9)
              · rw [h32, h9] at hf
                have HF := Lib.hid hf
                clear hf
                go_wp2
                exact ⟨⟨k + 1, false, by omega, by go_num, rfl, by first | rfl | trivial, by rw [HF.out] <;> simp⟩, by simp [intOf]; omega⟩
              · rw [h32, h9] at hf
                have HF := Lib.hid hf
                clear hf
                go_wp2
                go_ret
                exact ⟨ret_bool (by rw [HF.out]; simp), rfl⟩
          · have hf : freeL false s.data.toList = freeL true (List.drop (k + 1) s.data.toList) := by rw [hf]; simp
            have HF := Lib.hid hf
            clear hf
            go_wp2
            exact ⟨⟨k + 1, true, by omega, by go_num, rfl, by first | rfl | trivial, by rw [HF.out] <;> simp⟩, by simp [intOf]; omega⟩
        · rw [h35, if_pos rfl] at hf
          have HF := Lib.hid hf
          clear hf
          go_wp2
          exact ⟨⟨k + 1, true, by omega, by go_num, rfl, by first | rfl | trivial, by rw [HF.out] <;> simp⟩, by simp [intOf]; omega⟩
      · rw [h10, if_pos rfl] at hf
        have HF := Lib.hid hf
        clear hf
        go_wp2
        exact ⟨⟨k + 1, false, by omega, by go_num, rfl, by first | rfl | trivial, by rw [HF.out] <;> simp⟩, by simp [intOf]; omega⟩
    · have hkl : k = s.size := by omega
      have HF := Lib.hid hf
      clear hf
      go_wp2
      go_ret
      refine ⟨ret_bool ?_, rfl⟩
      rw [HF.out, hkl, List.drop_eq_nil_of_le (by rw [ba_len]; omega)]
      rfl

end Go.Proofs.YtmfaoglehopoiaaDoor
