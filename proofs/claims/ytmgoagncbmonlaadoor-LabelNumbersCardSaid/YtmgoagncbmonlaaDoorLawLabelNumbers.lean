/- The law LabelNumbers: its walk. -/
import Derived.Test.YtmgoagncbmonlaaDoorAmtW
import Derived.Test.YtmgoagncbmonlaaDoorLabL
import Derived.Test.YtmgoagncbmonlaaDoorR18N
set_option linter.unusedVariables false
namespace Go.Proofs.YtmgoagncbmonlaaDoor
open Go.RowKit

set_option maxRecDepth 100000 in
set_option maxHeartbeats 2000000 in
theorem walk_LabelNumbers (w : World) (ht : Tab w) (s : ByteArray) (ws : s.size ≤ maxLen) :
    Calls Tryd.prog 3 #[.string s] w fun e w' => e = .returned (.bool true) ∧ Below w.heap.size w w' := by
  have HV := Lib.hid (law18_live w ht)
  clear ht
  by_cases hbig : 200 < s.size
  · have l1 : (200 : Int) < s.size := by omega
    go_enter Tryd.func3, Tryd.ntmps3
    go_wp2_with fail
    refine HV.out.mono ?_
    rintro e w1 ⟨rfl, hb1⟩
    go_wp2_with fail
    go_ret
    exact ⟨rfl, hb1⟩
  · have l1 : ¬ (200 : Int) < s.size := by omega
    have H1 := Lib.hid (fun W => label_Amount s W (by unfold maxLen; omega))
    have H2 := Lib.hid (fun W => ref18_Amount s (by omega) W)
    have H3 := Lib.hid (fun W => label_Small s W (by unfold maxLen; omega))
    have H4 := Lib.hid (fun W => ref18_Small s (by omega) W)
    generalize amountL s.data.toList = R at *
    generalize smallL s.data.toList = T at *
    obtain ⟨r1, r2⟩ := R
    obtain ⟨t1, t2⟩ := T
    clear hbig
    go_enter Tryd.func3, Tryd.ntmps3
    go_wp2_with fail
    refine HV.out.mono ?_
    rintro e w1 ⟨rfl, hb1⟩
    have HB1 := Lib.hid hb1
    clear hb1
    go_wp2_with fail
    refine (H1.out _).mono ?_
    rintro e w2 ⟨rfl, hb2⟩
    have HB2 := Lib.hid (HB1.out.trans (hb2.mono HB1.out.size))
    clear hb2
    go_wp2_with fail
    refine (H2.out _).mono ?_
    rintro e w3 ⟨rfl, hb3⟩
    have HB3 := Lib.hid (HB2.out.trans (hb3.mono HB2.out.size))
    clear hb3
    go_wp2_with fail
    refine (H3.out _).mono ?_
    rintro e w4 ⟨rfl, hb4⟩
    have HB4 := Lib.hid (HB3.out.trans (hb4.mono HB3.out.size))
    clear hb4
    go_wp2_with fail
    refine (H4.out _).mono ?_
    rintro e w5 ⟨rfl, hb5⟩
    have HB5 := Lib.hid (HB4.out.trans (hb5.mono HB4.out.size))
    clear hb5
    go_wp2_with fail
    go_ret
    exact ⟨by first | trivial | rfl | simp, HB5.out⟩

end Go.Proofs.YtmgoagncbmonlaaDoor
