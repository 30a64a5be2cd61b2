/- The law LexAhead walked: it answers true at every two texts. -/
import Derived.Test.YtmfaoglehopoiaaLexPlain
import Derived.Test.YtmfaoglehopoiaaRef8D
namespace Go.Proofs.Ytmfaoglehopoiaa
open Go.RowKit

/-- What is wrong is told where it stands, whatever stands behind it; what stands ahead of it is read. -/
theorem ahead_law (l t : Bytes) (hl : l.length ≤ 200) (ht : t.length ≤ 200) (h : (cutL l).err ≠ 0) :
    (cutL l).pos < l.length ∧ (cutL (l.take (cutL l).pos)).err = 0 ∧ cutL (l ++ 10 :: t) = cutL l := by
  have e : cutL l = cutM false 0 0 0 l := by unfold cutL; rw [if_neg (by omega)]
  rw [e] at h ⊢
  obtain ⟨q, h1, _, h3, h4⟩ := cutM_before false 0 0 0 l h
  rw [Nat.zero_add] at h1
  refine ⟨by omega, ?_, ?_⟩
  · unfold cutL
    rw [if_neg (by rw [List.length_take]; omega), h1]
    exact h4
  · unfold cutL
    rw [if_neg (by simp; omega), cutM_app false 0 0 0 l t (Nat.zero_le _), if_neg h]

theorem ok_pos (l : Bytes) (h : (cutL l).err = 0) : (cutL l).pos = 0 := by
  unfold cutL at h ⊢
  split
  · rfl
  · rename_i hn
    rw [if_neg hn] at h
    exact (cutM_err _ _ _ _ _).1 h

theorem ba_eol (s t : ByteArray) : (s ++ (ByteArray.mk #[10]) ++ t).data.toList = s.data.toList ++ 10 :: t.data.toList := by
  simp [ByteArray.data_append]
theorem ba_eol_size (s t : ByteArray) : (s ++ (ByteArray.mk #[10]) ++ t).size = s.size + 1 + t.size := by
  rw [← ba_len, ba_eol]; simp; omega

set_option maxRecDepth 100000 in
set_option maxHeartbeats 1000000 in
theorem walk_LexAhead (s t : ByteArray) (hs : s.size ≤ maxLen) (ht : t.size ≤ maxLen) (w : World) :
    Calls Try.prog 4 #[.string s, .string t] w fun e w' => e = .returned (.bool true) ∧ Below w.heap.size w w' := by
  have hs' := hs
  have ht' := ht
  unfold maxLen at hs' ht'
  by_cases hbig : 200 < s.size
  · go_enter Try.func4, Try.ntmps4
    go_wp2_with fail
    refine (law8_live w).mono ?_
    rintro e w1 ⟨rfl, hb1⟩
    go_wp2_with fail
    go_ret
    exact ⟨rfl, hb1⟩
  by_cases hbig2 : 200 < t.size
  · go_enter Try.func4, Try.ntmps4
    go_wp2_with fail
    refine (law8_live w).mono ?_
    rintro e w1 ⟨rfl, hb1⟩
    go_wp2_with fail
    go_ret
    exact ⟨rfl, hb1⟩
  have hc := fun w => lex_Cut s w hs
  by_cases hE : (cutL s.data.toList).err = 0
  · have hp := ok_pos _ hE
    generalize cutL s.data.toList = R at *
    obtain ⟨toks, p, er⟩ := R
    simp only at hE hp
    subst hE
    subst hp
    have HC := Lib.hid hc
    clear hc
    go_enter Try.func4, Try.ntmps4
    go_wp2_with fail
    refine (law8_live w).mono ?_
    rintro e w1 ⟨rfl, hb1⟩
    go_wp2_with fail
    refine (HC.out w1).mono ?_
    rintro e w2 ⟨v, rfl, hown, hb2⟩
    go_wp2_with fail
    go_ret
    exact ⟨rfl, hb1.trans (hb2.mono hb1.size)⟩
  · obtain ⟨h1, h2, h3⟩ := ahead_law s.data.toList t.data.toList (by rw [ba_len]; omega) (by rw [ba_len]; omega) hE
    rw [ba_len] at h1
    have hc2 := fun w => lex_Cut (s.extract 0 (cutL s.data.toList).pos) w (by simp; omega)
    rw [ba_to] at hc2
    generalize hR2 : cutL (s.data.toList.take (cutL s.data.toList).pos) = R2 at *
    obtain ⟨toks2, p2, er2⟩ := R2
    simp only at h2
    subst h2
    clear hR2
    generalize cutL s.data.toList = R at *
    obtain ⟨toks, p, er⟩ := R
    simp only at hE h1 hc2
    have he0 : (er == 0) = false := by simpa using hE
    have hc3 := fun w => lex_Cut (s ++ ⟨#[10]⟩ ++ t) w (by rw [ba_eol_size]; unfold maxLen; omega)
    rw [ba_eol, h3] at hc3
    have HC := Lib.hid hc
    have HC2 := Lib.hid hc2
    have HC3 := Lib.hid hc3
    clear hc hc2 hc3 h3 hE
    go_enter Try.func4, Try.ntmps4
    go_wp2_with fail
    refine (law8_live w).mono ?_
    rintro e w1 ⟨rfl, hb1⟩
    go_wp2_with fail
    refine (HC.out w1).mono ?_
    rintro e w2 ⟨v, rfl, hown, hb2⟩
    go_wp2_with fail
    refine (HC2.out w2).mono ?_
    rintro e w3 ⟨v2, rfl, hown2, hb3⟩
    go_wp2_with fail
    refine (HC3.out w3).mono ?_
    rintro e w4 ⟨v3, rfl, hown3, hb4⟩
    go_wp2_with fail
    go_ret
    have hz1 := hb1.size
    have hz2 := hb2.size
    have hz3 := hb3.size
    exact ⟨ret_bool (by simp), ((hb1.trans (hb2.mono hz1)).trans (hb3.mono (by omega))).trans (hb4.mono (by omega))⟩

end Go.Proofs.Ytmfaoglehopoiaa
