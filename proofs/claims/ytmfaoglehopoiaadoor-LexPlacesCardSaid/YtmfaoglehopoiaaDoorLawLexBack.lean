/- Layer 8, the laws: the walk of LexBack. -/
import Derived.Test.YtmfaoglehopoiaaDoorRef8V
import Derived.Test.YtmfaoglehopoiaaDoorOpenToks
import Derived.Test.YtmfaoglehopoiaaDoorLexBackP
namespace Go.Proofs.YtmfaoglehopoiaaDoor
open Go.RowKit

theorem fits_join {l : List Tok} (h : ∀ t ∈ l, (textL t).2 = true) : ∀ t ∈ l, t.s.length ≤ maxLen ∧ -9223372036854775808 ≤ t.n ∧ t.n ≤ 9223372036854775807 := fun t ht => by
  have := text_fits t (h t ht)
  unfold maxLen
  omega

set_option maxRecDepth 100000 in
set_option maxHeartbeats 2000000 in
theorem walk_LexBack (w : World) (ht : Tab w) (s : ByteArray) (hs : s.size ≤ maxLen) (A : Option Addr) (c : Nat) (l : List Tok) (h : Reads w w.heap.size 4 A l.length (l.flatMap Tok.cells))
    (hl : l.length ≤ maxLen) (hfit : ∀ t ∈ l, TokFits t) :
    Calls Tryd.prog 4 #[.string s, .slice A l.length c] w fun e w' => e = .returned (.bool true) ∧ Below w.heap.size w w' := by
  have hsx : ∀ t ∈ l, t.s.length ≤ maxLen ∧ -9223372036854775808 ≤ t.n ∧ t.n ≤ 9223372036854775807 := fun t h => ⟨(hfit t h).2.2.2, (hfit t h).2.2.1.1, (hfit t h).2.2.1.2⟩
  have HV := Lib.hid (law8_live w)
  have HJ := Lib.hid (fun W (hb : Below w.heap.size w W) => lex_Join A c l W ((h.below hb).more hb.size) (ht.below hb) hl hsx)
  have HRD := Lib.hid (fun W (hb : Below w.heap.size w W) => (h.below hb).more hb.size)
  have HT := Lib.hid (fun W (hb : Below w.heap.size w W) => ht.below hb)
  have hs' := hs
  unfold maxLen at hl hs'
  clear hsx hfit h ht
  by_cases hbig : 400 < s.size
  · clear HJ HRD HT
    go_enter Tryd.func4, Tryd.ntmps4
    go_wp2_with fail
    refine HV.out.mono ?_
    rintro e w1 ⟨rfl, hb1⟩
    go_wp2_with fail
    go_ret
    exact ⟨rfl, hb1⟩
  by_cases hbig2 : 100 < l.length
  · clear HJ HRD HT
    go_enter Tryd.func4, Tryd.ntmps4
    go_wp2_with fail
    refine HV.out.mono ?_
    rintro e w1 ⟨rfl, hb1⟩
    go_wp2_with fail
    go_ret
    exact ⟨rfl, hb1⟩
  have hjc := join_cut l (by omega)
  have hjs := join_small l
  have hl1 := cutL_len (joinL l).1
  have hc1 := fun W => lex_Cut ⟨(joinL l).1.toArray⟩ W (by rw [← ba_len, ba_mk]; unfold maxLen; omega)
  simp only at hc1
  have hc := fun W => lex_Cut s W hs
  have hlen := cutL_len s.data.toList
  rw [ba_len] at hlen
  have hnil := cut_err_pos s.data.toList (by rw [ba_len]; omega)
  have hj2 := cut_join s.data.toList (by rw [ba_len]; omega)
  have hjc2 := join_cut (cutL s.data.toList).toks (by omega)
  have hjs2 := join_small (cutL s.data.toList).toks
  have hl2 := cutL_len (joinL (cutL s.data.toList).toks).1
  have hc2 := fun W => lex_Cut ⟨(joinL (cutL s.data.toList).toks).1.toArray⟩ W (by rw [← ba_len, ba_mk]; unfold maxLen; omega)
  simp only at hc2
  have hfit2 := fits_join (cut_fits s.data.toList (by rw [ba_len]; omega))
  have hjn2 := fun W A c h ht => lex_Join A c (cutL s.data.toList).toks W h ht (by unfold maxLen; omega) hfit2
  clear hfit2
  generalize cutL (joinL l).1 = R1 at *
  generalize joinL l = J1 at *
  generalize cutL (joinL (cutL s.data.toList).toks).1 = R2 at *
  generalize joinL (cutL s.data.toList).toks = J2 at *
  generalize cutL s.data.toList = R at *
  obtain ⟨t1, p1, e1⟩ := R1
  obtain ⟨t2, p2, e2⟩ := R2
  obtain ⟨S1, E1⟩ := J1
  obtain ⟨S2, E2⟩ := J2
  obtain ⟨toks, p, er⟩ := R
  simp only at *
  subst hj2
  obtain ⟨rfl, rfl, hb2⟩ := hjc2 rfl
  have hsm2 : sameL toks t2 = true := by rw [sameL_bare, decide_eq_true_eq, hb2]
  have HS2 := Lib.hid hsm2
  have HC := Lib.hid hc
  have HC1 := Lib.hid hc1
  have HC2 := Lib.hid hc2
  have HJ2 := Lib.hid hjn2
  have HN := Lib.hid hnil
  have HL1 := Lib.hid hl1
  have HL2 := Lib.hid hl2
  have HJC := Lib.hid hjc
  clear hsm2 hc hc1 hc2 hjn2 hnil hjc hjc2 hb2 hl1 hl2
  rcases Classical.em (E1 = 0) with hE | hE
  case' inl =>
    subst hE
    obtain ⟨rfl, rfl, hb1'⟩ := HJC.out rfl
    have HS1 := Lib.hid (show sameL t1 l = true by rw [sameL_bare, decide_eq_true_eq, hb1'])
    clear hb1'
    go_enter Tryd.func4, Tryd.ntmps4
    go_wp2_with fail
    refine HV.out.mono ?_
    rintro e w1 ⟨rfl, hb1⟩
    go_wp2_with fail
    refine (HJ.out w1 hb1).mono ?_
    rintro e w2 ⟨rfl, hb2⟩
    have hb12 := hb1.trans (hb2.mono hb1.size)
    go_wp2_with fail
    refine (HC1.out w2).mono ?_
    rintro e w3 ⟨v1, rfl, hown1, hb3⟩
    have hb13 := hb12.trans (hb3.mono hb12.size)
    obtain ⟨A1, c1, rfl, hnc1⟩ := own_form hown1
    go_wp2_with fail
    refine (ref8_Same A1 A c1 c t1 l w3 (Reads.of_own hown1) (HRD.out w3 hb13) (by have := HL1.out; unfold maxLen; omega)).mono ?_
    rintro e wX ⟨rfl, hb4⟩
    rw [HS1.out]
    have hbX := hb13.trans (hb4.mono hb13.size)
    clear hb1 hb2 hb3 hb12 hb13 hown1 hb4 HS1
  case' inr =>
    have hE0 : (E1 == 0) = false := beq_eq_false_iff_ne.2 hE
    clear hE
    go_enter Tryd.func4, Tryd.ntmps4
    go_wp2_with fail
    refine HV.out.mono ?_
    rintro e w1 ⟨rfl, hb1⟩
    go_wp2_with fail
    refine (HJ.out w1 hb1).mono ?_
    rintro e wX ⟨rfl, hb2⟩
    have hbX := hb1.trans (hb2.mono hb1.size)
    clear hb1 hb2
  all_goals
    clear HC1 HL1 HJC HJ HV
    go_wp2_with fail
    refine (HC.out _).mono ?_
    rintro e w5 ⟨v, rfl, hown, hb5⟩
    obtain ⟨A5, c5, rfl, hnc5⟩ := own_form hown
    have hbY := hbX.trans (hb5.mono hbX.size)
    by_cases hF : er = 0
    · subst hF
      have hr := Reads.of_own hown
      go_wp2_with fail
      refine (HJ2.out w5 A5 c5 hr (HT.out _ hbY)).mono ?_
      rintro e w6 ⟨rfl, hb6⟩
      have hbZ := hbY.trans (hb6.mono hbY.size)
      have hr6 := (hr.below hb6).more hb6.size
      go_wp2_with fail
      refine (HC2.out _).mono ?_
      rintro e w7 ⟨v7, rfl, hown7, hb7⟩
      obtain ⟨A7, c7, rfl, hnc7⟩ := own_form hown7
      have hbU := hbZ.trans (hb7.mono hbZ.size)
      go_wp2_with fail
      refine (ref8_Same A5 A7 c5 c7 toks t2 w7 ((hr6.below hb7).more hb7.size) (Reads.of_own hown7) (by unfold maxLen; omega)).mono ?_
      rintro e w8 ⟨rfl, hb8⟩
      rw [HS2.out]
      go_wp2
      go_ret
      exact ⟨rfl, hbU.trans (hb8.mono hbU.size)⟩
    · have hF0 : (er != 0) = true := by simpa using hF
      have hn := (HN.out hF).1
      subst hn
      clear hF
      go_wp2_with fail
      go_ret
      exact ⟨rfl, hbY⟩

end Go.Proofs.YtmfaoglehopoiaaDoor
