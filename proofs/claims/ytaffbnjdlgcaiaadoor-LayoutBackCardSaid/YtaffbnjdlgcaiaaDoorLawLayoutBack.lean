/- The law LayoutBack walked: it answers true at any items. -/
import Derived.Test.YtaffbnjdlgcaiaaDoorLayD
import Derived.Test.YtaffbnjdlgcaiaaDoorTreeS
set_option linter.unusedVariables false
set_option linter.unusedSimpArgs false
namespace Go.Proofs.YtaffbnjdlgcaiaaDoor
open Go.RowKit

set_option maxRecDepth 100000 in
set_option maxHeartbeats 4000000 in
theorem walk_LayoutBack (w : World) (ht : Tab w) (hsp : SpaceTab w) (A : Option Addr) (c : Nat) (l : List NodeL) (hok : ROk w w.heap.size A l) (hlen : l.length ≤ maxLen) (hfit : fitNs l) :
    Calls Tryd.prog 7 #[.slice A l.length c] w fun e w' => e = .returned (.bool true) ∧ Below w.heap.size w w' := by
  have HV := Lib.hid (law10_live w ht hsp)
  have hg1 := hsp.lt
  have hg2 := ht.lt
  have HT := Lib.hid ht
  have HS := Lib.hid hsp
  have HOK := Lib.hid hok
  obtain ⟨a1, a2, a3⟩ := left_geL l 60 12 (by omega)
  have HFew := Lib.hid (fun W (hb : Below w.heap.size w W) => ref9_FewG l A c W w.heap.size 60 (by omega) (by omega) hlen hfit hb.size (HOK.out.below hb))
  by_cases hf : 0 ≤ leftL 60 12 l
  case neg =>
    rw [decide_eq_false hf] at HFew
    clear ht hsp hok hfit hlen a1 a2 a3 hf
    go_enter Tryd.func7, Tryd.ntmps7
    go_wp2_with fail
    refine HV.out.mono ?_
    rintro e w1 ⟨rfl, hb1⟩
    have HB1 := Lib.hid hb1
    clear hb1
    go_wp2_with fail
    refine (HFew.out _ HB1.out).mono ?_
    rintro e w2 ⟨rfl, hb2⟩
    have HB2 := Lib.hid (HB1.out.trans (hb2.mono HB1.out.size))
    clear hb2
    go_wp2_with fail
    go_ret
    exact ⟨rfl, HB2.out⟩
  rw [decide_eq_true hf] at HFew
  obtain ⟨f1, f2⟩ := a3 hf
  have hnd := left_ndL l 60 12 (by omega) hf
  obtain ⟨y1, y2, y3⟩ := few_lay l 60 (by omega) (by omega)
  have hcnt : cntL l ≤ 100000 := by omega
  have HPR := Lib.hid (fun W (hb : Below w.heap.size w W) => layout_Print l A c W hcnt ((HOK.out.below hb).wide hb.size) hfit (HT.out.below hb) (HS.out.below hb) (by have := hb.size; omega) (by have := hb.size; omega))
  by_cases he : (layL l).2 = 0
  · obtain ⟨h1, h2, h3, h4⟩ := lay_ok l he
    obtain ⟨p1, p2, p3⟩ := print_tree l he
    have hpl : (layL l).1.length ≤ 65536 := by rw [h4]; exact h3
    have HP := Lib.hid (fun W => tree_Parse ⟨(layL l).1.toArray⟩ W (by unfold maxLen; rw [← ba_len, ba_mk]; omega))
    rw [ba_mk] at HP
    have hsame := sameNs_z _ _ p3
    have hck2 : checkL 0 (treeL (layL l).1).nodes = 0 := by rw [← check_z, p3, check_z]; exact h1
    have hcn2 : cntL (treeL (layL l).1).nodes ≤ 100000 := by rw [← cnt_z, p3, cnt_z]; exact hcnt
    have hlf2 : leftL 60 12 (treeL (layL l).1).nodes = leftL 60 12 l := by rw [← left_z, p3, left_z]
    have hfn2 := few_of_checkL _ 0 hck2
    have hft2 := fit_of_checkL _ 0 hck2 hcn2
    have hln2 := cntL_len (treeL (layL l).1).nodes
    generalize treeL (layL l).1 = R at *
    obtain ⟨m, rp, re⟩ := R
    simp only at p1 p2 hsame hcn2 hlf2 hfn2 hft2 hln2 HP
    subst p1 p2
    generalize layL l = Y at *
    obtain ⟨t, ye⟩ := Y
    simp only at he HPR HP
    subst he
    have HF2 := Lib.hid (fun W A c B (hB : B ≤ W.heap.size) (h : ROk W B A m) => ref9_FewG m A c W B 60 (by omega) (by omega) (by unfold maxLen; omega) hft2 hB h)
    rw [hlf2, decide_eq_true hf] at HF2
    have HSM := Lib.hid (fun W A' c' B (hB : B ≤ W.heap.size) (h1 : ROk W B A' m) (h2 : ROk W B A l) => tree_Same m l A' A c' c W B hcn2 hfn2 hB h1 h2)
    rw [hsame] at HSM
    clear ht hsp hok hfit hlen a1 a2 a3 hf f1 f2 hnd y1 y2 y3 hcnt h1 h2 h3 h4 p3 hpl hsame hck2 hcn2 hlf2 hfn2 hft2 hln2
    go_enter Tryd.func7, Tryd.ntmps7
    go_wp2_with fail
    refine HV.out.mono ?_
    rintro e w1 ⟨rfl, hb1⟩
    have HB1 := Lib.hid hb1
    clear hb1
    go_wp2_with fail
    refine (HFew.out _ HB1.out).mono ?_
    rintro e w2 ⟨rfl, hb2⟩
    have HB2 := Lib.hid (HB1.out.trans (hb2.mono HB1.out.size))
    clear hb2
    go_wp2_with fail
    refine (HPR.out _ HB2.out).mono ?_
    rintro e w3 ⟨rfl, hb3⟩
    have HB3 := Lib.hid (HB2.out.trans (hb3.mono HB2.out.size))
    clear hb3
    go_wp2_with fail
    refine (HP.out w3).mono ?_
    rintro e w4 ⟨A4, c4, kcs, rfl, _, hr, hn, hb4⟩
    have hr4 := ROk.of_parse hr hn
    have HB4 := Lib.hid (HB3.out.trans (hb4.mono HB3.out.size))
    have HR4 := Lib.hid hr4
    dsimp only
    clear hr hn hb4 hr4
    go_wp2_with fail
    refine (HF2.out w4 A4 c4 _ (Nat.le_refl _) HR4.out).mono ?_
    rintro e w5 ⟨rfl, hb5⟩
    have HB5 := Lib.hid (HB4.out.trans (hb5.mono HB4.out.size))
    have HS5 := Lib.hid (HSM.out w5 A4 c4 w4.heap.size hb5.size (HR4.out.below hb5) ((HOK.out.below (HB4.out.trans (hb5.mono HB4.out.size))).wide HB4.out.size))
    clear hb5
    go_wp2_with fail
    refine HS5.out.mono ?_
    rintro e w6 ⟨rfl, hb6⟩
    have HB6 := Lib.hid (HB5.out.trans (hb6.mono HB5.out.size))
    clear hb6
    go_wp2_with fail
    go_ret
    exact ⟨by first | rfl | exact ret_bool (by simp), HB6.out⟩
  · have hs0 := y2 he
    have HCK := Lib.hid (fun W (hb : Below w.heap.size w W) => tree_CheckG l A c W w.heap.size hcnt hb.size (HOK.out.below hb) hfit)
    rw [← y1] at HCK
    have hne : ((layL l).2 == 0) = false := beq_false_of_ne he
    generalize layL l = Y at *
    obtain ⟨t, ye⟩ := Y
    simp only at he hs0 hne HPR HCK
    subst hs0
    have HE := Lib.hid he
    clear ht hsp hok hfit hlen a1 a2 a3 hf f1 f2 hnd y1 y2 y3 hcnt he
    go_enter Tryd.func7, Tryd.ntmps7
    go_wp2_with fail
    refine HV.out.mono ?_
    rintro e w1 ⟨rfl, hb1⟩
    have HB1 := Lib.hid hb1
    clear hb1
    go_wp2_with fail
    refine (HFew.out _ HB1.out).mono ?_
    rintro e w2 ⟨rfl, hb2⟩
    have HB2 := Lib.hid (HB1.out.trans (hb2.mono HB1.out.size))
    clear hb2
    go_wp2_with fail
    refine (HPR.out _ HB2.out).mono ?_
    rintro e w3 ⟨rfl, hb3⟩
    have HB3 := Lib.hid (HB2.out.trans (hb3.mono HB2.out.size))
    clear hb3
    go_wp2_with fail
    refine (HCK.out w3 HB3.out).mono ?_
    rintro e w4 ⟨rfl, hb4⟩
    have HB4 := Lib.hid (HB3.out.trans (hb4.mono HB3.out.size))
    clear hb4
    go_wp2_with fail
    go_ret
    exact ⟨by first | rfl | exact ret_bool (by simp), HB4.out⟩

end Go.Proofs.YtaffbnjdlgcaiaaDoor
