/- The law TreeTells walked: it answers true at any items. -/
import Derived.Test.YtmblooibnmahnaaTreeG4
import Derived.Test.YtmblooibnmahnaaTreeT
set_option linter.unusedVariables false
set_option linter.unusedSimpArgs false
namespace Go.Proofs.Ytmblooibnmahnaa
open Go.RowKit

set_option maxRecDepth 100000 in
set_option maxHeartbeats 4000000 in
theorem walk_TreeTells (l m : List NodeL) (A A' : Option Addr) (c c' : Nat) (w : World) (hl : l.length ≤ maxLen) (hm : m.length ≤ maxLen) (hfl : fitNs l) (hfm : fitNs m) (h1 : ROk w w.heap.size A l) (h2 : ROk w w.heap.size A' m) :
    Calls Try.prog 9 #[.slice A l.length c, .slice A' m.length c'] w fun e w' => e = .returned (.bool true) ∧ Below w.heap.size w w' := by
  have HV := Lib.hid (law9_live w)
  have HL := Lib.hid hl
  have HM := Lib.hid hm
  have HFL := Lib.hid hfl
  have HFM := Lib.hid hfm
  have H1 := Lib.hid h1
  have H2 := Lib.hid h2
  obtain ⟨a1, a2, a3⟩ := left_geL l 40 12 (by omega)
  obtain ⟨b1, b2, b3⟩ := left_geL m 40 12 (by omega)
  have HFew1 := Lib.hid (fun W (hz : w.heap.size ≤ W.heap.size) (h : ROk W w.heap.size A l) => ref9_FewG l A c W w.heap.size 40 (by omega) (by omega) HL.out HFL.out hz h)
  have HFew2 := Lib.hid (fun W (hz : w.heap.size ≤ W.heap.size) (h : ROk W w.heap.size A' m) => ref9_FewG m A' c' W w.heap.size 40 (by omega) (by omega) HM.out HFM.out hz h)
  clear hl hm hfl hfm h1 h2
  by_cases hf1 : 0 ≤ leftL 40 12 l
  case neg =>
    rw [decide_eq_false hf1] at HFew1
    clear a1 a2 a3 b1 b2 b3 hf1
    go_enter Try.func9, Try.ntmps9
    go_wp2_with fail
    refine HV.out.mono ?_
    rintro e w1 ⟨rfl, hb1⟩
    have HB1 := Lib.hid hb1
    have HO1 := Lib.hid (H1.out.below hb1)
    clear hb1
    go_wp2_with fail
    refine (HFew1.out _ HB1.out.size HO1.out).mono ?_
    rintro e w2 ⟨rfl, hb2⟩
    have HB2 := Lib.hid (HB1.out.trans (hb2.mono HB1.out.size))
    clear hb2
    go_wp2_with fail
    go_ret
    exact ⟨rfl, HB2.out⟩
  rw [decide_eq_true hf1] at HFew1
  by_cases hf2 : 0 ≤ leftL 40 12 m
  case neg =>
    rw [decide_eq_false hf2] at HFew2
    clear a1 a2 a3 b1 b2 b3 hf1 hf2
    go_enter Try.func9, Try.ntmps9
    go_wp2_with fail
    refine HV.out.mono ?_
    rintro e w1 ⟨rfl, hb1⟩
    have HB1 := Lib.hid hb1
    have HO1 := Lib.hid (H1.out.below hb1)
    clear hb1
    go_wp2_with fail
    refine (HFew1.out _ HB1.out.size HO1.out).mono ?_
    rintro e w2 ⟨rfl, hb2⟩
    have HB2 := Lib.hid (HB1.out.trans (hb2.mono HB1.out.size))
    clear hb2
    go_wp2_with fail
    refine (HFew2.out _ HB2.out.size (H2.out.below HB2.out)).mono ?_
    rintro e w3 ⟨rfl, hb3⟩
    have HB3 := Lib.hid (HB2.out.trans (hb3.mono HB2.out.size))
    clear hb3
    go_wp2_with fail
    go_ret
    exact ⟨rfl, HB3.out⟩
  rw [decide_eq_true hf2] at HFew2
  obtain ⟨hfw, hcn⟩ := a3 hf1
  have hcl : cntL l ≤ 100000 := by omega
  have HFW := Lib.hid hfw
  have HCK := Lib.hid (fun W (hz : w.heap.size ≤ W.heap.size) (h : ROk W w.heap.size A l) => tree_CheckG l A c W w.heap.size hcl hz h HFL.out)
  have HRCK := Lib.hid (fun W (hz : w.heap.size ≤ W.heap.size) (h : ROk W w.heap.size A l) => ref9_Check l A c W w.heap.size hcl hz h HFL.out)
  have HD := Lib.hid (fun W (hz : w.heap.size ≤ W.heap.size) (h : ROk W w.heap.size A l) => tree_Deep (cntL l + 1) l A c W w.heap.size (by omega) hcl hz h)
  have HRD := Lib.hid (fun W (hz : w.heap.size ≤ W.heap.size) (h : ROk W w.heap.size A l) => ref9_Deep (cntL l + 1) l A c W w.heap.size (by omega) hcl hz h)
  have HS := Lib.hid (fun W (hz : w.heap.size ≤ W.heap.size) (h : ROk W w.heap.size A l) (h' : ROk W w.heap.size A' m) => tree_Same l m A A' c c' W w.heap.size hcl HFW.out hz h h')
  have HRS := Lib.hid (fun W (hz : w.heap.size ≤ W.heap.size) (h : ROk W w.heap.size A l) (h' : ROk W w.heap.size A' m) => ref9_Same l m A A' c c' W w.heap.size hcl hz h h')
  have hss := fun W (hz : w.heap.size ≤ W.heap.size) (h : ROk W w.heap.size A l) => tree_Same l l A A c c W w.heap.size hcl HFW.out hz h h
  rw [sameNs_refl] at hss
  have HSS := Lib.hid hss
  clear a1 a2 a3 b1 b2 b3 hf1 hf2 hss hcl hcn hfw
  generalize checkL 0 l = ck at *
  generalize deepL l = dp at *
  generalize sameNs l m = sm at *
  go_enter Try.func9, Try.ntmps9
  go_wp2_with fail
  refine HV.out.mono ?_
  rintro e w1 ⟨rfl, hb1⟩
  have HB1 := Lib.hid hb1
  clear hb1
  go_wp2_with fail
  refine (HFew1.out _ HB1.out.size (H1.out.below HB1.out)).mono ?_
  rintro e w2 ⟨rfl, hb2⟩
  have HB2 := Lib.hid (HB1.out.trans (hb2.mono HB1.out.size))
  clear hb2
  go_wp2_with fail
  refine (HFew2.out _ HB2.out.size (H2.out.below HB2.out)).mono ?_
  rintro e w3 ⟨rfl, hb3⟩
  have HB3 := Lib.hid (HB2.out.trans (hb3.mono HB2.out.size))
  clear hb3
  go_wp2_with fail
  refine (HCK.out _ HB3.out.size (H1.out.below HB3.out)).mono ?_
  rintro e w4 ⟨rfl, hb4⟩
  have HB4 := Lib.hid (HB3.out.trans (hb4.mono HB3.out.size))
  clear hb4
  go_wp2_with fail
  refine (HRCK.out _ HB4.out.size (H1.out.below HB4.out)).mono ?_
  rintro e w5 ⟨rfl, hb5⟩
  have HB5 := Lib.hid (HB4.out.trans (hb5.mono HB4.out.size))
  clear hb5
  go_wp2_with fail
  refine (HD.out _ HB5.out.size (H1.out.below HB5.out)).mono ?_
  rintro e w6 ⟨rfl, hb6⟩
  have HB6 := Lib.hid (HB5.out.trans (hb6.mono HB5.out.size))
  clear hb6
  go_wp2_with fail
  refine (HRD.out _ HB6.out.size (H1.out.below HB6.out)).mono ?_
  rintro e w7 ⟨rfl, hb7⟩
  have HB7 := Lib.hid (HB6.out.trans (hb7.mono HB6.out.size))
  clear hb7
  go_wp2_with fail
  refine (HS.out _ HB7.out.size (H1.out.below HB7.out) (H2.out.below HB7.out)).mono ?_
  rintro e w8 ⟨rfl, hb8⟩
  have HB8 := Lib.hid (HB7.out.trans (hb8.mono HB7.out.size))
  clear hb8
  go_wp2_with fail
  refine (HRS.out _ HB8.out.size (H1.out.below HB8.out) (H2.out.below HB8.out)).mono ?_
  rintro e w9 ⟨rfl, hb9⟩
  have HB9 := Lib.hid (HB8.out.trans (hb9.mono HB8.out.size))
  clear hb9
  go_wp2_with fail
  refine (HSS.out _ HB9.out.size (H1.out.below HB9.out)).mono ?_
  rintro e w10 ⟨rfl, hb10⟩
  have HB10 := Lib.hid (HB9.out.trans (hb10.mono HB9.out.size))
  clear hb10
  go_wp2_with fail
  go_ret
  exact ⟨rfl, HB10.out⟩

end Go.Proofs.Ytmblooibnmahnaa
