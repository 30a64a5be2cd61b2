/- The law LexNames walked: it answers true at every text. -/
import Derived.Test.YtmfaoglehopoiaaLexPlain
import Derived.Test.YtmfaoglehopoiaaRef8D
namespace Go.Proofs.Ytmfaoglehopoiaa
open Go.RowKit

theorem toks_one (l : List Tok) (h : l.length = 1) : ∃ t, l = [t] := by
  match l, h with
  | [t], _ => exact ⟨t, rfl⟩

set_option maxRecDepth 100000 in
set_option maxHeartbeats 1000000 in
theorem walk_LexNames (s : ByteArray) (hs : s.size ≤ maxLen) (w : World) :
    Calls Try.prog 6 #[.string s] w fun e w' => e = .returned (.bool true) ∧ Below w.heap.size w w' := by
  have hs' := hs
  unfold maxLen at hs'
  by_cases hbig : 400 < s.size
  · go_enter Try.func6, Try.ntmps6
    go_wp2_with fail
    refine (law8_live w).mono ?_
    rintro e w1 ⟨rfl, hb1⟩
    go_wp2_with fail
    go_ret
    exact ⟨rfl, hb1⟩
  · have hlaw := names_law s.data.toList (by rw [ba_len]; omega)
    have hlen := cutL_len s.data.toList
    rw [ba_len] at hlen
    generalize hR : cutL s.data.toList = R at *
    obtain ⟨toks, p, er⟩ := R
    have hc := fun w => lex_Cut s w hs
    have hn := fun w => lex_Name s w hs
    rw [hR] at hc
    generalize nameL s.data.toList = N at *
    have HC := Lib.hid hc
    have HN := Lib.hid hn
    clear hc hR hn
    simp only at hlen
    by_cases hE : er = 0
    · subst hE
      by_cases h1 : toks.length = 1
      · obtain ⟨t, rfl⟩ := toks_one toks h1
        have heq := fun W => run_eqlTok W t ⟨1, 0, 0, s.data.toList⟩
        simp only [ba_mk_toList] at heq
        have hd : N = decide (t = ⟨1, 0, 0, s.data.toList⟩) := by rw [hlaw]; simp
        rw [← hd] at heq
        clear hd h1 hlaw
        go_enter Try.func6, Try.ntmps6
        go_wp2_with fail
        refine (law8_live w).mono ?_
        rintro e w1 ⟨rfl, hb1⟩
        go_wp2_with fail
        refine (HC.out w1).mono ?_
        rintro e w2 ⟨v, rfl, hown, hb2⟩
        obtain ⟨g, c, rfl, hg, hgl⟩ := own_head hown Nat.one_pos
        have hcell := hown.cells (g := g) rfl
        have p0 := hcell 0 _ rfl
        have p1 := hcell 1 _ rfl
        have p2 := hcell 2 _ rfl
        have p3 := hcell 3 _ rfl
        clear hcell hown
        simp [Addr.add] at p0 p1 p2 p3
        go_wp2_with fail
        refine (HN.out w2).mono ?_
        rintro e w3 ⟨rfl, rfl⟩
        go_wp2_with fail
        go_ret
        exact ⟨ret_bool (by simp), hb1.trans (hb2.mono hb1.size)⟩
      · have hd : N = false := by
          rw [hlaw, decide_eq_false_iff_not]; rintro ⟨_, h⟩; simp only at h; rw [h] at h1; exact h1 rfl
        subst hd
        have hl1 : ((toks.length : Int) == 1) = false := by rw [beq_eq_false_iff_ne]; omega
        clear hlaw
        go_enter Try.func6, Try.ntmps6
        go_wp2_with fail
        refine (law8_live w).mono ?_
        rintro e w1 ⟨rfl, hb1⟩
        go_wp2_with fail
        refine (HC.out w1).mono ?_
        rintro e w2 ⟨v, rfl, hown, hb2⟩
        obtain ⟨A, c, rfl, _⟩ := own_form hown
        go_wp2_with fail
        refine (HN.out w2).mono ?_
        rintro e w3 ⟨rfl, rfl⟩
        go_wp2_with fail
        go_ret
        exact ⟨ret_bool (by simp), hb1.trans (hb2.mono hb1.size)⟩
    · have hd : N = false := by rw [hlaw]; simp [hE]
      subst hd
      have he0 : (er == 0) = false := by simpa using hE
      clear hlaw hE
      go_enter Try.func6, Try.ntmps6
      go_wp2_with fail
      refine (law8_live w).mono ?_
      rintro e w1 ⟨rfl, hb1⟩
      go_wp2_with fail
      refine (HC.out w1).mono ?_
      rintro e w2 ⟨v, rfl, hown, hb2⟩
      obtain ⟨A, c, rfl, _⟩ := own_form hown
      go_wp2_with fail
      refine (HN.out w2).mono ?_
      rintro e w3 ⟨rfl, rfl⟩
      go_wp2_with fail
      go_ret
      exact ⟨ret_bool (by simp), hb1.trans (hb2.mono hb1.size)⟩

end Go.Proofs.Ytmfaoglehopoiaa
