/- The law TreeOpen walked: it answers true at every text. -/
import Derived.Test.YtmblooibnmahnaaTreeL
import Derived.Test.YtmblooibnmahnaaTreeO
set_option linter.unusedVariables false
set_option linter.unusedSimpArgs false
namespace Go.Proofs.Ytmblooibnmahnaa
open Go.RowKit

set_option maxRecDepth 100000 in
set_option maxHeartbeats 2000000 in
theorem walk_TreeOpen (s : ByteArray) (hs : s.size ≤ maxLen) (w : World) :
    Calls Try.prog 5 #[.string s] w fun e w' => e = .returned (.bool true) ∧ Below w.heap.size w w' := by
  have hs' := hs
  unfold maxLen at hs'
  have HV := Lib.hid (law9_live w)
  by_cases hbig : 400 < s.size
  · go_enter Try.func5, Try.ntmps5
    go_wp2_with fail
    refine HV.out.mono ?_
    rintro e w1 ⟨rfl, hb1⟩
    go_wp2_with fail
    go_ret
    exact ⟨rfl, hb1⟩
  · have HP := Lib.hid (fun W => tree_Parse s W hs)
    have HC := Lib.hid (fun W => lex_Cut s W hs)
    have hlaw := open_law s.data.toList (by rw [ba_len]; omega)
    have herr := tree_err s.data.toList (by rw [ba_len]; omega)
    have hce := fun h => (treeL_err0 s.data.toList h).1
    rw [ba_len] at hlaw herr
    have HLAW := Lib.hid hlaw
    have HERR := Lib.hid herr
    have HCE := Lib.hid hce
    clear hlaw herr hce
    generalize hR : treeL s.data.toList = R at *
    generalize hQ : cutL s.data.toList = Q at *
    obtain ⟨nodes, p, er⟩ := R
    obtain ⟨toks, cp, ce⟩ := Q
    dsimp only at HLAW HERR HCE
    by_cases her : er = 0
    · subst her
      obtain rfl : ce = 0 := HCE.out rfl
      obtain ⟨_, l2, l3⟩ := HLAW.out rfl
      rcases List.eq_nil_or_concat toks with rfl | ⟨ts, t, rfl⟩
      · have hn := l2 rfl
        subst hn
        clear l2 l3 hR hQ
        go_enter Try.func5, Try.ntmps5
        go_wp2_with fail
        refine HV.out.mono ?_
        rintro e w1 ⟨rfl, hb1⟩
        go_wp2_with fail
        refine (HP.out _).mono ?_
        rintro e w2 ⟨A, c, kcs, rfl, hnil, hr, hn, hb2⟩
        go_wp2_with fail
        refine (HC.out _).mono ?_
        rintro e w3 ⟨v, rfl, hown, hb3⟩
        obtain ⟨A', c', rfl, hrd⟩ := ReadToks.of_own hown
        have hB := (hb1.trans (hb2.mono hb1.size)).trans (hb3.mono (by have := hb1.size; have := hb2.size; omega))
        dsimp only
        clear hown hrd hr hn hnil hb1 hb2 hb3
        go_wp2
        go_ret
        exact ⟨rfl, hB⟩
      · obtain ⟨q, q1, q2, q3, q4⟩ := l3 ts t (by simp)
        have HP2 := Lib.hid (fun W => tree_Parse (s.extract 0 q) W (by rw [ByteArray.size_extract]; unfold maxLen; omega))
        rw [ba_to, q3] at HP2
        have hnl : 0 < nodes.length := List.length_pos_iff.2 q4
        have hnl' : (0 : Int) < nodes.length := by omega
        have HQ := Lib.hid (show (ts ++ [t])[ts.length]? = some t by simp)
        rw [List.concat_eq_append] at HC
        have hq0 : ¬ ((q : Int) < 0) := by omega
        have hq1 : ¬ ((s.size : Int) < q) := by omega
        have hlq := cutL_len s.data.toList
        rw [hQ] at hlq
        rw [ba_len] at hlq
        simp only [List.concat_eq_append, List.length_append, List.length_singleton] at hlq
        have wm : IntKind.i64.wrap ((ts.length : Int) + 1 - 1) = ts.length := by rw [IntKind.wrap_i64]; omega
        clear l2 l3 hR hQ q3 q4 HLAW HERR HCE
        go_enter Try.func5, Try.ntmps5
        go_wp2_with fail
        refine HV.out.mono ?_
        rintro e w1 ⟨rfl, hb1⟩
        go_wp2_with fail
        refine (HP.out _).mono ?_
        rintro e w2 ⟨A, c, kcs, rfl, hnil, hr, hn, hb2⟩
        go_wp2_with fail
        refine (HC.out _).mono ?_
        rintro e w3 ⟨v, rfl, hown, hb3⟩
        obtain ⟨A', c', rfl, hrd⟩ := ReadToks.of_own hown
        obtain ⟨ad, rfl, _, t0, t1, t2, t3⟩ := tok_cells hrd ts.length t HQ.out
        rw [q1] at t1
        have hB := (hb1.trans (hb2.mono hb1.size)).trans (hb3.mono (by have := hb1.size; have := hb2.size; omega))
        have HB := Lib.hid hB
        dsimp only
        rw [List.length_append, List.length_singleton]
        clear hown hrd hr hn hnil hb1 hb2 hb3 hB
        go_wp2_with fail
        refine (HP2.out _).mono ?_
        rintro e w4 ⟨A2, c2, kcs2, rfl, _, _, _, hb4⟩
        have hB4 := HB.out.trans (hb4.mono HB.out.size)
        clear hb4
        go_wp2
        go_ret
        exact ⟨rfl, hB4⟩
    · obtain ⟨hn, hp0, hp1⟩ := HERR.out her
      subst hn
      have hne : (er != 0) = true := by simpa using her
      clear hR hQ
      go_enter Try.func5, Try.ntmps5
      go_wp2_with fail
      refine HV.out.mono ?_
      rintro e w1 ⟨rfl, hb1⟩
      go_wp2_with fail
      refine (HP.out _).mono ?_
      rintro e w2 ⟨A, c, kcs, rfl, hnil, hr, hn, hb2⟩
      go_wp2_with fail
      refine (HC.out _).mono ?_
      rintro e w3 ⟨v, rfl, hown, hb3⟩
      have hB := (hb1.trans (hb2.mono hb1.size)).trans (hb3.mono (by have := hb1.size; have := hb2.size; omega))
      dsimp only
      clear hown hr hn hnil hb1 hb2 hb3
      go_wp2
      go_ret
      exact ⟨rfl, hB⟩

end Go.Proofs.Ytmblooibnmahnaa
