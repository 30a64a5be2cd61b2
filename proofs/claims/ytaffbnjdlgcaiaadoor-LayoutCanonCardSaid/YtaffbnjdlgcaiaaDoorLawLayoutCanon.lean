/- The law LayoutCanon walked: it answers true at every text. -/
import Derived.Test.YtaffbnjdlgcaiaaDoorLayD
import Derived.Test.YtaffbnjdlgcaiaaDoorReadToks
set_option linter.unusedVariables false
set_option linter.unusedSimpArgs false
namespace Go.Proofs.YtaffbnjdlgcaiaaDoor
open Go.RowKit

set_option maxRecDepth 100000 in
set_option maxHeartbeats 4000000 in
theorem walk_LayoutCanon (w : World) (ht : Tab w) (hsp : SpaceTab w) (s : ByteArray) (hs : s.size ≤ maxLen) :
    Calls Tryd.prog 4 #[.string s] w fun e w' => e = .returned (.bool true) ∧ Below w.heap.size w w' := by
  have hs' := hs
  unfold maxLen at hs'
  have HV := Lib.hid (law10_live w ht hsp)
  by_cases hbig : 400 < s.size
  · clear ht hsp
    go_enter Tryd.func4, Tryd.ntmps4
    go_wp2_with fail
    refine HV.out.mono ?_
    rintro e w1 ⟨rfl, hb1⟩
    go_wp2_with fail
    go_ret
    exact ⟨rfl, hb1⟩
  have hls : s.data.toList.length ≤ 400 := by rw [ba_len]; omega
  have hg1 := hsp.lt
  have hg2 := ht.lt
  have HCA := Lib.hid (fun (W : World) (hb : Below w.heap.size w W) => layout_Canon s W (by omega) (canon_in _ hls) (ht.below hb) (hsp.below hb) (by have := hb.size; omega) (by have := hb.size; omega))
  by_cases he : (canonL s.data.toList).2.2 = 0
  · obtain ⟨c1, c2, c3, c4⟩ := canon_law s.data.toList he
    obtain ⟨o1, o2⟩ := canon_out s.data.toList hls he
    have HCB := Lib.hid (fun (W : World) (hb : Below w.heap.size w W) => layout_Canon ⟨(canonL s.data.toList).1.toArray⟩ W (by rw [ba_mk]; omega) (by rw [ba_mk]; exact o2) (ht.below hb) (hsp.below hb) (by have := hb.size; omega) (by have := hb.size; omega))
    rw [ba_mk, c1] at HCB
    have HKA := Lib.hid (fun W => lex_Cut s W hs)
    have HKB := Lib.hid (fun W => lex_Cut ⟨(canonL s.data.toList).1.toArray⟩ W (by unfold maxLen; rw [← ba_len, ba_mk]; omega))
    rw [ba_mk] at HKB
    have hsm := sameL_eq _ _ c4
    have htl := cutL_len s.data.toList
    generalize cutL s.data.toList = Q at *
    generalize canonL s.data.toList = C at *
    obtain ⟨t, p, e⟩ := C
    simp only at he o1 c3 hsm HCB HKB HCA
    subst he
    generalize cutL t = R at *
    obtain ⟨qt, qp, qe⟩ := Q
    obtain ⟨rt, rp, re⟩ := R
    simp only at c2 c3 hsm htl HKA HKB
    subst c2 c3
    have HSM := Lib.hid hsm
    have htl' : qt.length ≤ 400 := by omega
    clear ht hsp c1 c4 o1 o2 hsm htl hls
    go_enter Tryd.func4, Tryd.ntmps4
    go_wp2_with fail
    refine HV.out.mono ?_
    rintro e w1 ⟨rfl, hb1⟩
    have HB1 := Lib.hid hb1
    clear hb1
    go_wp2_with fail
    refine (HCA.out w1 HB1.out).mono ?_
    rintro e w2 ⟨rfl, hb2⟩
    have HB2 := Lib.hid (HB1.out.trans (hb2.mono HB1.out.size))
    clear hb2
    go_wp2_with fail
    refine (HCB.out w2 HB2.out).mono ?_
    rintro e w3 ⟨rfl, hb3⟩
    have HB3 := Lib.hid (HB2.out.trans (hb3.mono HB2.out.size))
    clear hb3
    go_wp2_with fail
    refine (HKA.out w3).mono ?_
    rintro e w4 ⟨v4, rfl, hown4, hb4⟩
    obtain ⟨A4, c4, rfl, hrd4⟩ := ReadToks.of_own hown4
    have HB4 := Lib.hid (HB3.out.trans (hb4.mono HB3.out.size))
    have HRD4 := Lib.hid hrd4
    dsimp only
    clear hown4 hb4 hrd4
    go_wp2_with fail
    refine (HKB.out w4).mono ?_
    rintro e w5 ⟨v5, rfl, hown5, hb5⟩
    obtain ⟨A5, c5, rfl, hrd5⟩ := ReadToks.of_own hown5
    have HB5 := Lib.hid (HB4.out.trans (hb5.mono HB4.out.size))
    have hsame := ref8_Same A4 A5 c4 c5 qt rt w5 ((HRD4.out.below hb5).more hb5.size) hrd5 (by unfold maxLen; omega)
    rw [HSM.out] at hsame
    have HSA := Lib.hid hsame
    dsimp only
    clear hown5 hb5 hrd5 hsame
    go_wp2_with fail
    refine HSA.out.mono ?_
    rintro e w6 ⟨rfl, hb6⟩
    have HB6 := Lib.hid (HB5.out.trans (hb6.mono HB5.out.size))
    clear hb6
    go_wp2_with fail
    go_ret
    exact ⟨by first | rfl | exact ret_bool (by simp), HB6.out⟩
  · have c1 := canon_err s.data.toList he
    have hne : ((canonL s.data.toList).2.2 == 0) = false := beq_false_of_ne he
    generalize canonL s.data.toList = C at *
    obtain ⟨t, p, e⟩ := C
    simp only at he c1 hne HCA
    subst c1
    have HE := Lib.hid he
    clear ht hsp hls he
    go_enter Tryd.func4, Tryd.ntmps4
    go_wp2_with fail
    refine HV.out.mono ?_
    rintro e w1 ⟨rfl, hb1⟩
    have HB1 := Lib.hid hb1
    clear hb1
    go_wp2_with fail
    refine (HCA.out w1 HB1.out).mono ?_
    rintro e w2 ⟨rfl, hb2⟩
    have HB2 := Lib.hid (HB1.out.trans (hb2.mono HB1.out.size))
    clear hb2
    go_wp2_with fail
    go_ret
    exact ⟨by first | rfl | exact ret_bool (by simp), HB2.out⟩

end Go.Proofs.YtaffbnjdlgcaiaaDoor
