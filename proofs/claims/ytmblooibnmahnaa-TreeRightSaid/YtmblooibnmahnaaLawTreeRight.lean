/- The law TreeRight walked: it answers true at every text. -/
import Derived.Test.YtmblooibnmahnaaTreeR2
set_option linter.unusedVariables false
set_option linter.unusedSimpArgs false
namespace Go.Proofs.Ytmblooibnmahnaa
open Go.RowKit

set_option maxRecDepth 100000 in
set_option maxHeartbeats 2000000 in
theorem walk_TreeRight (s : ByteArray) (hs : s.size ≤ maxLen) (w : World) :
    Calls Try.prog 8 #[.string s] w fun e w' => e = .returned (.bool true) ∧ Below w.heap.size w w' := by
  have hs' := hs
  unfold maxLen at hs'
  have HV := Lib.hid (law9_live w)
  by_cases hbig : 400 < s.size
  · go_enter Try.func8, Try.ntmps8
    go_wp2_with fail
    refine HV.out.mono ?_
    rintro e w1 ⟨rfl, hb1⟩
    go_wp2_with fail
    go_ret
    exact ⟨rfl, hb1⟩
  · have HP := Lib.hid (fun W => tree_Parse s W hs)
    have HC := Lib.hid (fun W => lex_Cut s W hs)
    by_cases hce : (cutL s.data.toList).err = 0
    · by_cases her : (treeL s.data.toList).err = 0
      · obtain ⟨r1, r2, r3, r4⟩ := right_law s.data.toList (by rw [ba_len]; omega) her
        have HR1 := Lib.hid r1
        have HR2 := Lib.hid r2
        have HR4 := Lib.hid r4
        generalize treeL s.data.toList = R at *
        generalize cutL s.data.toList = Q at *
        obtain ⟨nodes, p, er⟩ := R
        obtain ⟨toks, cp, ce⟩ := Q
        dsimp only at her hce HR1 HR2 HR4
        subst her
        subst hce
        clear r1 r2 r3 r4
        go_enter Try.func8, Try.ntmps8
        go_wp2_with fail
        refine HV.out.mono ?_
        rintro e w1 ⟨rfl, hb1⟩
        go_wp2_with fail
        refine (HP.out _).mono ?_
        rintro e w2 ⟨A, c, kcs, rfl, hnil, hr, hn, hb2⟩
        have hok := ROk.of_parse hr hn
        go_wp2_with fail
        refine (HC.out _).mono ?_
        rintro e w3 ⟨v, rfl, hown, hb3⟩
        have hB := (hb1.trans (hb2.mono hb1.size)).trans (hb3.mono (by have := hb1.size; have := hb2.size; omega))
        have hok3 := hok.below hb3
        have hb23 : w2.heap.size ≤ w3.heap.size := hb3.size
        have HB := Lib.hid hB
        have HOK := Lib.hid hok3
        dsimp only
        clear hown hr hn hnil hb1 hb2 hb3 hB hok hok3
        go_wp2_with fail
        refine (ref9_Few nodes A c _ w2.heap.size 400 (by have := HR4.out; omega) (by omega) hb23 HOK.out HR1.out).mono ?_
        rintro e w4 ⟨rfl, hb4⟩
        have HOK4 := Lib.hid (HOK.out.below (hb4.mono hb23))
        have hb24 : w2.heap.size ≤ w4.heap.size := by have := hb4.size; omega
        have HB4 := Lib.hid (HB.out.trans (hb4.mono HB.out.size))
        clear hb4
        go_wp2_with fail
        refine (tree_Check nodes A c _ w2.heap.size (by have := HR4.out; omega) hb24 HOK4.out HR1.out).mono ?_
        rintro e w5 ⟨rfl, hb5⟩
        have HOK5 := Lib.hid (HOK4.out.below (hb5.mono hb24))
        have hb25 : w2.heap.size ≤ w5.heap.size := by have := hb5.size; omega
        have HB5 := Lib.hid (HB4.out.trans (hb5.mono HB4.out.size))
        clear hb5
        go_wp2_with fail
        refine (tree_Deep (cntL nodes + 1) nodes A c _ w2.heap.size (by omega) (by have := HR4.out; omega) hb25 HOK5.out).mono ?_
        rintro e w6 ⟨rfl, hb6⟩
        have hB6 := HB5.out.trans (hb6.mono HB5.out.size)
        have hd6 : (deepL nodes : Int) ≤ 6 := by have := HR2.out; omega
        clear hb6
        go_wp2
        go_ret
        exact ⟨by first | rfl | exact ret_bool (by simp; omega), hB6⟩
      · have hne : ((treeL s.data.toList).err != 0) = true := by simpa using her
        generalize treeL s.data.toList = R at *
        generalize cutL s.data.toList = Q at *
        obtain ⟨nodes, p, er⟩ := R
        obtain ⟨toks, cp, ce⟩ := Q
        dsimp only at her hce hne
        subst hce
        clear her
        go_enter Try.func8, Try.ntmps8
        go_wp2_with fail
        refine HV.out.mono ?_
        rintro e w1 ⟨rfl, hb1⟩
        go_wp2_with fail
        refine (HP.out _).mono ?_
        rintro e w2 ⟨A, c, kcs, rfl, hnil, hr, hn, hb2⟩
        go_wp2_with fail
        refine (HC.out _).mono ?_
        rintro e w3 ⟨v, rfl, hown, hb3⟩
        have hB := (hb1.trans (hb2.mono hb1.size)).trans (hb3.mono (by have := hb1.size; have := hb2.size; omega))
        dsimp only
        clear hown hr hn hnil hb1 hb2 hb3
        go_wp2
        go_ret
        exact ⟨rfl, hB⟩
    · have hT : treeL s.data.toList = ⟨[], (cutL s.data.toList).pos, (cutL s.data.toList).err⟩ := by unfold treeL; rw [if_pos hce]
      rw [hT] at HP
      generalize cutL s.data.toList = Q at *
      obtain ⟨toks, cp, ce⟩ := Q
      dsimp only at hce HP
      have hne : (ce != 0) = true := by simpa using hce
      clear hT hce
      go_enter Try.func8, Try.ntmps8
      go_wp2_with fail
      refine HV.out.mono ?_
      rintro e w1 ⟨rfl, hb1⟩
      go_wp2_with fail
      refine (HP.out _).mono ?_
      rintro e w2 ⟨A, c, kcs, rfl, hnil, hr, hn, hb2⟩
      go_wp2_with fail
      refine (HC.out _).mono ?_
      rintro e w3 ⟨v, rfl, hown, hb3⟩
      have hB := (hb1.trans (hb2.mono hb1.size)).trans (hb3.mono (by have := hb1.size; have := hb2.size; omega))
      dsimp only
      clear hown hr hn hnil hb1 hb2 hb3
      go_wp2
      go_ret
      exact ⟨by first | rfl | exact ret_bool (by simp), hB⟩

end Go.Proofs.Ytmblooibnmahnaa
