/- The law LayoutTokens walked: it answers true at every text. -/
import Derived.Test.YtaffbnjdlgcaiaaDoorLayD
import Derived.Test.YtaffbnjdlgcaiaaDoorReadToks
import Derived.Test.YtaffbnjdlgcaiaaDoorCutP
set_option linter.unusedVariables false
set_option linter.unusedSimpArgs false
namespace Go.Proofs.YtaffbnjdlgcaiaaDoor
open Go.RowKit

/-- A text of the same tokens as a short one: it is read as few items. -/
theorem canon_in2 (s t : Bytes) (hs : s.length ≤ 400) (h1 : (cutL s).err = 0) (h2 : (cutL t).err = 0) (h : (cutL s).toks.map Tok.bare0 = (cutL t).toks.map Tok.bare0) :
    (treeL t).err = 0 → checkL 0 (treeL t).nodes = 0 ∧ cntL (treeL t).nodes ≤ 100000 := fun he => by
  obtain ⟨a1, a2⟩ := tree_alike s t h1 h2 h
  obtain ⟨b1, b2⟩ := canon_in s hs (by rw [← a1]; exact he)
  exact ⟨by rw [← check_z, a2, check_z]; exact b1, by rw [← cnt_z, a2, cnt_z]; exact b2⟩

set_option maxRecDepth 100000 in
set_option maxHeartbeats 4000000 in
theorem walk_LayoutTokens (w : World) (ht : Tab w) (hsp : SpaceTab w) (s : ByteArray) (hs : s.size ≤ maxLen) :
    Calls Tryd.prog 8 #[.string s] w fun e w' => e = .returned (.bool true) ∧ Below w.heap.size w w' := by
  have hs' := hs
  unfold maxLen at hs'
  have HV := Lib.hid (law10_live w ht hsp)
  by_cases hbig : 400 < s.size
  · clear ht hsp
    go_enter Tryd.func8, Tryd.ntmps8
    go_wp2_with fail
    refine HV.out.mono ?_
    rintro e w1 ⟨rfl, hb1⟩
    go_wp2_with fail
    go_ret
    exact ⟨rfl, hb1⟩
  have hls : s.data.toList.length ≤ 400 := by rw [ba_len]; omega
  have hg1 := hsp.lt
  have hg2 := ht.lt
  have HKA := Lib.hid (fun W => lex_Cut s W hs)
  by_cases he : (cutL s.data.toList).err = 0
  · have htl := cutL_len s.data.toList
    have hj := cut_join s.data.toList (by omega)
    obtain ⟨j1, j2, j3⟩ := join_cut (cutL s.data.toList).toks (by omega) hj
    have hjs := join_small (cutL s.data.toList).toks
    have hfit := cut_fits s.data.toList (by omega)
    have HCA := Lib.hid (fun (W : World) (hb : Below w.heap.size w W) => layout_Canon s W (by omega) (canon_in _ hls) (ht.below hb) (hsp.below hb) (by have := hb.size; omega) (by have := hb.size; omega))
    have HCB := Lib.hid (fun (W : World) (hb : Below w.heap.size w W) => layout_Canon ⟨(joinL (cutL s.data.toList).toks).1.toArray⟩ W (by rw [ba_mk]; omega) (by rw [ba_mk]; exact canon_in2 _ _ hls he j1 j3.symm) (ht.below hb) (hsp.below hb) (by have := hb.size; omega) (by have := hb.size; omega))
    rw [ba_mk] at HCB
    obtain ⟨a1, a2⟩ := canon_alike s.data.toList (joinL (cutL s.data.toList).toks).1 he j1 j3.symm
    have HJ := Lib.hid (fun (W : World) (hb : Below w.heap.size w W) (A : Option Addr) (c : Nat) (h : Reads W W.heap.size 4 A (cutL s.data.toList).toks.length ((cutL s.data.toList).toks.flatMap Tok.cells)) => lex_Join A c (cutL s.data.toList).toks W h (ht.below hb) (by unfold maxLen; omega) (fun t htm => by
      obtain ⟨f1, f2, f3⟩ := text_fits t (hfit t htm)
      exact ⟨by unfold maxLen; omega, by omega, by omega⟩))
    rw [hj] at HJ
    generalize cutL s.data.toList = Q at *
    obtain ⟨qt, qp, qe⟩ := Q
    simp only at he htl HKA HJ HCA HCB a1 a2
    subst he
    generalize (joinL qt).1 = t at *
    generalize canonL s.data.toList = C at *
    generalize canonL t = D at *
    obtain ⟨c1, c2, c3⟩ := C
    obtain ⟨d1, d2, d3⟩ := D
    simp only at a1 a2 HCA HCB
    subst a1 a2
    clear ht hsp hj j1 j2 j3 hjs hfit hls
    go_enter Tryd.func8, Tryd.ntmps8
    go_wp2_with fail
    refine HV.out.mono ?_
    rintro e w1 ⟨rfl, hb1⟩
    have HB1 := Lib.hid hb1
    clear hb1
    go_wp2_with fail
    refine (HKA.out w1).mono ?_
    rintro e w2 ⟨v2, rfl, hown2, hb2⟩
    obtain ⟨A2, c2', rfl, hrd2⟩ := ReadToks.of_own hown2
    have HB2 := Lib.hid (HB1.out.trans (hb2.mono HB1.out.size))
    have HJ2 := Lib.hid (HJ.out w2 HB2.out A2 c2' hrd2)
    dsimp only
    clear hown2 hb2 hrd2
    go_wp2_with fail
    refine HJ2.out.mono ?_
    rintro e w3 ⟨rfl, hb3⟩
    have HB3 := Lib.hid (HB2.out.trans (hb3.mono HB2.out.size))
    clear hb3
    go_wp2_with fail
    refine (HCA.out w3 HB3.out).mono ?_
    rintro e w4 ⟨rfl, hb4⟩
    have HB4 := Lib.hid (HB3.out.trans (hb4.mono HB3.out.size))
    clear hb4
    go_wp2_with fail
    refine (HCB.out w4 HB4.out).mono ?_
    rintro e w5 ⟨rfl, hb5⟩
    have HB5 := Lib.hid (HB4.out.trans (hb5.mono HB4.out.size))
    clear hb5
    go_wp2_with fail
    go_ret
    exact ⟨by first | rfl | exact ret_bool (by simp), HB5.out⟩
  · have hnil : (cutL s.data.toList).toks = [] := (cut_err_nil s.data.toList he)
    have hne : ((cutL s.data.toList).err == 0) = false := beq_false_of_ne he
    generalize cutL s.data.toList = Q at *
    obtain ⟨qt, qp, qe⟩ := Q
    simp only at he hnil hne HKA
    subst hnil
    have HE := Lib.hid he
    clear ht hsp hls he
    go_enter Tryd.func8, Tryd.ntmps8
    go_wp2_with fail
    refine HV.out.mono ?_
    rintro e w1 ⟨rfl, hb1⟩
    have HB1 := Lib.hid hb1
    clear hb1
    go_wp2_with fail
    refine (HKA.out w1).mono ?_
    rintro e w2 ⟨v2, rfl, hown2, hb2⟩
    obtain ⟨A2, c2', rfl, hrd2⟩ := ReadToks.of_own hown2
    have HB2 := Lib.hid (HB1.out.trans (hb2.mono HB1.out.size))
    dsimp only
    simp only [List.length_nil]
    clear hown2 hb2 hrd2
    go_wp2_with fail
    go_ret
    exact ⟨by first | rfl | exact ret_bool (by simp), HB2.out⟩

end Go.Proofs.YtaffbnjdlgcaiaaDoor
