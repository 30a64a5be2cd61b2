/- Layer 8, the reference: the laws' exact. -/
import Derived.Test.YtmfaoglehopoiaaTokEq
import Derived.Test.YtmfaoglehopoiaaReadToks
import Derived.BigQuiet
import Derived.Deep.QuietTactic
namespace Go.Proofs.Ytmfaoglehopoiaa
open Go.RowKit

set_option maxRecDepth 100000 in
set_option maxHeartbeats 1000000 in
theorem law8_exact (A1 A2 : Option Addr) (c1 c2 : Nat) (l m : List Tok) (w : World) (h1 : Reads w w.heap.size 4 A1 l.length (l.flatMap Tok.cells)) (h2 : Reads w w.heap.size 4 A2 m.length (m.flatMap Tok.cells)) (hl : l.length ≤ maxLen) :
    Calls Try.prog 11 #[.slice A1 l.length c1, .slice A2 m.length c2] w fun e w' => e = .returned (.bool (decide (l = m))) ∧ Below w.heap.size w w' := by
  unfold maxLen at hl
  by_cases hlen : l.length = m.length
  · have hne : ((l.length : Int) != (m.length : Int)) = false := by rw [bne_eq_false_iff_eq]; omega
    have HL := Lib.hid hlen
    clear hlen
    go_enter Try.func11, Try.ntmps11
    go_wp2
    go_loopw [13] (fun i wr => ∃ k : Nat, k ≤ l.length ∧ i = .int .i64 k ∧ Below w.heap.size w wr ∧ l.take k = m.take k) (fun i _ => l.length - (intOf i).toNat)
    case atStart => exact ⟨0, Nat.zero_le _, rfl, Below.refl _ _, rfl⟩
    case round =>
      obtain ⟨k, hk, rfl, hB, htk⟩ := hrel
      have HT := Lib.hid htk
      clear htk
      by_cases hlt : k < l.length
      · obtain ⟨a, ha⟩ : ∃ a, l[k]? = some a := ⟨_, List.getElem?_eq_getElem hlt⟩
        obtain ⟨b, hb⟩ : ∃ b, m[k]? = some b := ⟨_, List.getElem?_eq_getElem (by rw [← HL.out]; exact hlt)⟩
        have hlt2 : k < m.length := by rw [← HL.out]; exact hlt
        obtain ⟨ad, hA1, hb1, p0, p1, p2, p3⟩ := tok_cells (h1.below hB) k a ha
        obtain ⟨bd, hA2, hb2, q0, q1, q2, q3⟩ := tok_cells (h2.below hB) k b hb
        subst hA1
        subst hA2
        have HA := Lib.hid ha
        have HB := Lib.hid hb
        clear ha hb
        have hneq := fun W => run_neqTok W a b
        cases hab : decide (a = b)
        · have hE := of_decide_eq_false hab
          simp only [hab] at hneq
          go_wp2
          go_quiet (fail)
          go_wp2
          go_ret
          refine ⟨ret_bool ?_, hB.trans (below_drewN (Below.refl _ _) _)⟩
          symm; rw [decide_eq_false_iff_not]; intro h; subst h
          have := HA.out.symm.trans HB.out
          exact hE (by simpa using this)
        · have hE := of_decide_eq_true hab
          simp only [hab] at hneq
          have hnx : l.take (k + 1) = m.take (k + 1) := by
            rw [List.take_add_one, List.take_add_one, HT.out, HA.out, HB.out, hE]
          have HN := Lib.hid hnx
          clear hnx hE hab
          go_wp2
          go_quiet (fail)
          go_wp2
          go_roundw
          case rel => exact ⟨k + 1, by omega, by go_num, hB.trans (below_drewN (Below.refl _ _) _), HN.out⟩
          case measure => simp [intOf]; omega
      · have hkl : k = l.length := by omega
        have hlm : l = m := by
          have := HT.out
          rw [hkl, List.take_length, HL.out, List.take_length] at this
          exact this
        have HLM := Lib.hid hlm
        clear hlm hkl
        go_wp2
        go_ret
        exact ⟨ret_bool (by simp [HLM.out]), hB⟩
  · have hne : ((l.length : Int) != (m.length : Int)) = true := by rw [bne_iff_ne]; omega
    go_enter Try.func11, Try.ntmps11
    go_wp2
    go_ret
    refine ⟨ret_bool ?_, Below.refl _ _⟩
    symm; rw [decide_eq_false_iff_not]; intro h; subst h; exact hlen rfl

end Go.Proofs.Ytmfaoglehopoiaa
