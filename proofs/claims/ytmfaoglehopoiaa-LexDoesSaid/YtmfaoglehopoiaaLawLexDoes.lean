/- The law LexDoes walked: it answers true at every text. -/
import Derived.Test.YtmfaoglehopoiaaRef8B
import Derived.Test.YtmfaoglehopoiaaRef8C
import Derived.Test.YtmfaoglehopoiaaRef8D
namespace Go.Proofs.Ytmfaoglehopoiaa
open Go.RowKit

set_option maxRecDepth 100000 in
set_option maxHeartbeats 1000000 in
theorem walk_LexDoes (s : ByteArray) (hs : s.size ≤ maxLen) (w : World) :
    Calls Try.prog 5 #[.string s] w fun e w' => e = .returned (.bool true) ∧ Below w.heap.size w w' := by
  have hs' := hs
  unfold maxLen at hs'
  by_cases hbig : 400 < s.size ∧ s.size ≤ 65536 ∨ 65540 < s.size
  · go_enter Try.func5, Try.ntmps5
    go_wp2_with fail
    refine (law8_live w).mono ?_
    rintro e w1 ⟨rfl, hb1⟩
    rcases hbig with ⟨h1, h2⟩ | h1
    · go_wp2_with fail
      go_ret
      exact ⟨rfl, hb1⟩
    · go_wp2_with fail
      go_ret
      exact ⟨rfl, hb1⟩
  · have hr : s.size ≤ 400 ∨ 65536 < s.size ∧ s.size ≤ 65540 := by omega
    clear hbig
    have hlen : (cutL s.data.toList).toks.length ≤ maxLen := Nat.le_trans (cutL_len _) (by rw [ba_len]; exact hs)
    generalize hR : cutL s.data.toList = R at *
    have hc := fun w => lex_Cut s w hs
    have hc2 := fun w => ref8_Cut s w hs
    rw [hR] at hc hc2
    have HC := Lib.hid hc
    have HC2 := Lib.hid hc2
    clear hc hc2 hR
    rcases hr with h1 | ⟨h1, h2⟩
    all_goals
      go_enter Try.func5, Try.ntmps5
      go_wp2_with fail
      refine (law8_live w).mono ?_
      rintro e w1 ⟨rfl, hb1⟩
      go_wp2_with fail
      refine (HC.out w1).mono ?_
      rintro e w2 ⟨v, rfl, hown, hb2⟩
      go_wp2_with fail
      refine (HC2.out w2).mono ?_
      rintro e w3 ⟨v2, rfl, hown2, hb3⟩
      obtain ⟨A, c, rfl, hr1⟩ := (ReadToks.of_own hown).below hb3
      obtain ⟨A2, c2, rfl, hr2⟩ := ReadToks.of_own hown2
      have hz2 := hb2.size
      have hz3 := hb3.size
      go_wp2_with fail
      refine (law8_exact A A2 c c2 _ _ w3 (hr1.more hz3) hr2 hlen).mono ?_
      rintro e w4 ⟨rfl, hb4⟩
      go_wp2_with (first | (go_at_call 12; refine (lex_Name _ _ hs).mono ?_; rintro e w' ⟨rfl, rfl⟩) | (go_at_call 13; refine (ref8_Name _ _ hs).mono ?_; rintro e w' ⟨rfl, rfl⟩))
      go_ret
      refine ⟨ret_bool (by simp), ?_⟩
      have hz1 := hb1.size
      exact ((hb1.trans (hb2.mono hz1)).trans (hb3.mono (by omega))).trans (hb4.mono (by omega))

end Go.Proofs.Ytmfaoglehopoiaa
