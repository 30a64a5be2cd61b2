/- The law TreeTokens walked: it answers true at every text. -/
import Derived.Test.YtmblooibnmahnaaTreeF
import Derived.Test.YtmblooibnmahnaaRef8S
set_option linter.unusedVariables false
set_option linter.unusedSimpArgs false
namespace Go.Proofs.Ytmblooibnmahnaa
open Go.RowKit

theorem sameL_bare0 : ∀ l : List Tok, sameL (l.map Tok.bare0) l = true
  | [] => rfl
  | t :: l => by
    rw [List.map_cons, sameL, sameL_bare0 l]
    simp [sameTok, Tok.bare0]

set_option maxRecDepth 100000 in
set_option maxHeartbeats 2000000 in
theorem walk_TreeTokens (s : ByteArray) (hs : s.size ≤ maxLen) (w : World) :
    Calls Try.prog 4 #[.string s] w fun e w' => e = .returned (.bool true) ∧ Below w.heap.size w w' := by
  have hs' := hs
  unfold maxLen at hs'
  have HV := Lib.hid (law9_live w)
  by_cases hbig : 400 < s.size
  · go_enter Try.func4, Try.ntmps4
    go_wp2_with fail
    refine HV.out.mono ?_
    rintro e w1 ⟨rfl, hb1⟩
    go_wp2_with fail
    go_ret
    exact ⟨rfl, hb1⟩
  · have HP := Lib.hid (fun W => tree_Parse s W hs)
    have HC := Lib.hid (fun W => lex_Cut s W hs)
    by_cases her : (treeL s.data.toList).err = 0
    · obtain ⟨r1, r2, r3, r4⟩ := right_law s.data.toList (by rw [ba_len]; omega) her
      obtain ⟨hce, hp0, hfl⟩ := tokens_law s.data.toList her
      have htl := cutL_len s.data.toList
      rw [ba_len] at htl
      have HR1 := Lib.hid r1
      have HR4 := Lib.hid r4
      have HFL := Lib.hid hfl
      generalize treeL s.data.toList = R at *
      generalize cutL s.data.toList = Q at *
      obtain ⟨nodes, p, er⟩ := R
      obtain ⟨toks, cp, ce⟩ := Q
      dsimp only at her hce hp0 HR1 HR4 HFL htl
      subst her
      subst hce
      subst hp0
      have hsm : sameL (flatL nodes) toks = true := by rw [HFL.out]; exact sameL_bare0 toks
      have HSM := Lib.hid hsm
      have hfc := flat_cnt nodes
      clear r1 r2 r3 r4 hfl hsm
      go_enter Try.func4, Try.ntmps4
      go_wp2_with fail
      refine HV.out.mono ?_
      rintro e w1 ⟨rfl, hb1⟩
      go_wp2_with fail
      refine (HP.out _).mono ?_
      rintro e w2 ⟨A, c, kcs, rfl, hnil, hr, hn, hb2⟩
      have hok := ROk.of_parse hr hn
      go_wp2_with fail
      refine (HC.out _).mono ?_
      rintro e w3 ⟨v, rfl, hown, hb3⟩
      obtain ⟨A', c', rfl, hrd⟩ := ReadToks.of_own hown
      have hB := (hb1.trans (hb2.mono hb1.size)).trans (hb3.mono (by have := hb1.size; have := hb2.size; omega))
      have hok3 := hok.below hb3
      have hb23 : w2.heap.size ≤ w3.heap.size := hb3.size
      have HB := Lib.hid hB
      have HOK := Lib.hid hok3
      have HRD := Lib.hid hrd
      dsimp only
      clear hown hr hn hnil hb1 hb2 hb3 hB hok hok3 hrd
      go_wp2_with fail
      refine (ref9_Few nodes A c _ w2.heap.size 400 (by have := HR4.out; omega) (by omega) hb23 HOK.out HR1.out).mono ?_
      rintro e w4 ⟨rfl, hb4⟩
      have HOK4 := Lib.hid (HOK.out.below (hb4.mono hb23))
      have hb24 : w2.heap.size ≤ w4.heap.size := by have := hb4.size; omega
      have HB4 := Lib.hid (HB.out.trans (hb4.mono HB.out.size))
      have HRD4 := Lib.hid (HRD.out.below hb4)
      have hb34 : w3.heap.size ≤ w4.heap.size := hb4.size
      clear hb4
      go_wp2_with fail
      refine (law9_flat (cntL nodes + 1) nodes A c _ w2.heap.size (by omega) (by have := HR4.out; omega) hb24 HOK4.out).mono ?_
      rintro e w5 ⟨v5, rfl, hown5, hb5⟩
      obtain ⟨A5, c5, rfl, _⟩ := own_form hown5
      have HB5 := Lib.hid (HB4.out.trans (hb5.mono HB4.out.size))
      have hr5 : Reads w5 w5.heap.size 4 A5 (flatL nodes).length ((flatL nodes).flatMap Tok.cells) := Reads.of_own hown5
      have hr5' : Reads w5 w5.heap.size 4 A' toks.length (toks.flatMap Tok.cells) := (HRD4.out.below (hb5.mono hb34)).more (by have := hb5.size; omega)
      have hsame := ref8_Same A5 A' c5 c' (flatL nodes) toks w5 hr5 hr5' (by have := HR4.out; unfold maxLen; omega)
      rw [HSM.out] at hsame
      have HSA := Lib.hid hsame
      clear hown5 hb5 hr5 hr5' hsame
      go_wp2_with fail
      refine HSA.out.mono ?_
      rintro e w6 ⟨rfl, hb6⟩
      have hB6 := HB5.out.trans (hb6.mono HB5.out.size)
      clear hb6
      go_wp2
      go_ret
      exact ⟨by first | rfl | exact ret_bool (by simp), hB6⟩
    · obtain ⟨hn0, hp0, hp1⟩ := tree_err s.data.toList (by rw [ba_len]; omega) her
      rw [ba_len] at hp1
      have hne : ((treeL s.data.toList).err != 0) = true := by simpa using her
      generalize treeL s.data.toList = R at *
      obtain ⟨nodes, p, er⟩ := R
      dsimp only at her hne hn0 hp0 hp1
      subst hn0
      clear her
      go_enter Try.func4, Try.ntmps4
      go_wp2_with fail
      refine HV.out.mono ?_
      rintro e w1 ⟨rfl, hb1⟩
      go_wp2_with fail
      refine (HP.out _).mono ?_
      rintro e w2 ⟨A, c, kcs, rfl, hnil, hr, hn, hb2⟩
      have hB := hb1.trans (hb2.mono hb1.size)
      clear hr hn hnil hb1 hb2
      go_wp2
      go_ret
      exact ⟨by first | rfl | exact ret_bool (by simp; omega), hB⟩

end Go.Proofs.Ytmblooibnmahnaa
