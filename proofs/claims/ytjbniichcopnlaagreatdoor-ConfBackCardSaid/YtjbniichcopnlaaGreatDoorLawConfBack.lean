import Derived.Test.YtjbniichcopnlaaGreatDoorConfP
import Derived.Test.YtjbniichcopnlaaGreatDoorPkV45
/- The law ConfBack walked: it answers true at any calendars. -/
set_option linter.unusedVariables false
set_option linter.unusedSimpArgs false
namespace Go.Proofs.YtjbniichcopnlaaGreatDoor
open Go.RowKit

set_option maxRecDepth 100000 in
set_option maxHeartbeats 4000000 in
theorem walk_ConfBack (w : World) (ht : Tab w) (hsp : SpaceTab w) (A : Option Addr) (c : Nat) (l : List CalL) (hnl : NilOk A c) (hr : ReadsM w (· < w.heap.size) 14 A l.length (l.flatMap CalL.cc)) (hl : l.length ≤ maxLen) (hn : ∀ t ∈ l, t.name.length ≤ maxLen) :
    Calls Tryz.prog 3 #[.slice A l.length c] w fun e w' => e = .returned (.bool true) ∧ Below w.heap.size w w' := by
  have HV := Lib.hid (law12_live w)
  have hg1 := hsp.lt
  have hg2 := ht.lt
  have HFW := Lib.hid (fun W (hb : Below w.heap.size w W) => ref12_Few l A c W w.heap.size hb.size (ccells_keep hr hb (Nat.le_refl _)) hl hn)
  have HCK := Lib.hid (fun W (hb : Below w.heap.size w W) => conf_Check l A c W w.heap.size hb.size (ccells_keep hr hb (Nat.le_refl _)) hl hn)
  have HPR := Lib.hid (fun W (hb : Below w.heap.size w W) => conf_Print l A c W w.heap.size hb.size (ccells_keep hr hb (Nat.le_refl _)) hl hn (ht.below hb) (hsp.below hb) (Nat.lt_of_lt_of_le hg1 hb.size) (Nat.lt_of_lt_of_le hg2 hb.size))
  have HR := Lib.hid hr
  have HL := Lib.hid hl
  unfold maxLen at hl
  clear hr hn ht hsp hnl
  generalize hfw : (fewK l && decide ((l.length : Int) ≤ 40)) = fw at *
  cases fw with
  | false =>
    clear hfw HCK HPR
    go_enter Tryz.func3, Tryz.ntmps3
    go_wp2_with fail
    refine HV.out.mono ?_
    rintro e w1 ⟨rfl, hb1⟩
    have HB1 := Lib.hid hb1
    clear hb1
    go_wp2_with fail
    refine (HFW.out w1 HB1.out).mono ?_
    rintro e w2 ⟨rfl, hb2⟩
    have HB2 := Lib.hid (HB1.out.trans (hb2.mono HB1.out.size))
    clear hb2
    go_wp2_with fail
    go_ret
    exact ⟨rfl, HB2.out⟩
  | true =>
  clear hfw
  by_cases hc : confC l = 0
  case neg =>
    have hp : confP l = ([], confC l) := by unfold confP; rw [if_pos hc]
    rw [hp] at HPR
    generalize confC l = C at *
    have hne : (C == 0) = false := beq_false_of_ne hc
    clear hc hp
    go_enter Tryz.func3, Tryz.ntmps3
    go_wp2_with fail
    refine HV.out.mono ?_
    rintro e w1 ⟨rfl, hb1⟩
    have HB1 := Lib.hid hb1
    clear hb1
    go_wp2_with fail
    refine (HFW.out w1 HB1.out).mono ?_
    rintro e w2 ⟨rfl, hb2⟩
    have HB2 := Lib.hid (HB1.out.trans (hb2.mono HB1.out.size))
    clear hb2
    go_wp2_with fail
    refine (HPR.out w2 HB2.out).mono ?_
    rintro e w3 ⟨rfl, hb3⟩
    have HB3 := Lib.hid (HB2.out.trans (hb3.mono HB2.out.size))
    clear hb3
    dsimp only
    go_wp2_with fail
    refine (HCK.out w3 HB3.out).mono ?_
    rintro e w4 ⟨rfl, hb4⟩
    have HB4 := Lib.hid (HB3.out.trans (hb4.mono HB3.out.size))
    clear hb4
    go_wp2_with fail
    go_ret
    exact ⟨by first | rfl | exact ret_bool (by simp), HB4.out⟩
  have hp : confP l = layL (l.map nodeC) := by unfold confP; rw [if_neg (by simp [hc])]
  have hy := lay_nodes l hc
  have hyl := lay_nodes_len l hc
  have hback := back_law l hc
  rw [hp] at HPR
  generalize layL (l.map nodeC) = Y at *
  obtain ⟨b, e0⟩ := Y
  simp only at hy hyl hback HPR
  subst hy
  obtain ⟨S, hS⟩ : ∃ S : ByteArray, S = ⟨b.toArray⟩ := ⟨_, rfl⟩
  have hSd : S.data.toList = b := by rw [hS]
  rw [← hS] at HPR
  have hSs : S.size ≤ 65536 := by rw [← ba_len, hSd]; exact hyl
  obtain ⟨ti1, ti2⟩ := text_in S.data.toList (by rw [hSd]; exact hyl)
  have HRD := Lib.hid (fun W => conf_Read S W (by unfold maxLen; omega) ti1 ti2)
  rw [hSd, hback] at HRD
  clear hp hback ti1 ti2 hc hyl hS hSd HCK
  go_enter Tryz.func3, Tryz.ntmps3
  go_wp2_with fail
  refine HV.out.mono ?_
  rintro e w1 ⟨rfl, hb1⟩
  have HB1 := Lib.hid hb1
  clear hb1
  go_wp2_with fail
  refine (HFW.out w1 HB1.out).mono ?_
  rintro e w2 ⟨rfl, hb2⟩
  have HB2 := Lib.hid (HB1.out.trans (hb2.mono HB1.out.size))
  clear hb2
  go_wp2_with fail
  refine (HPR.out w2 HB2.out).mono ?_
  rintro e w3 ⟨rfl, hb3⟩
  have HB3 := Lib.hid (HB2.out.trans (hb3.mono HB2.out.size))
  clear hb3
  dsimp only
  go_wp2_with fail
  refine (HRD.out w3).mono ?_
  rintro e w4 ⟨v4, rfl, hown4, hb4⟩
  obtain ⟨A4, c4, rfl, hnil4, hr4⟩ := own_cals_reads hown4
  have HR4 := Lib.hid hr4
  have HB4 := Lib.hid (HB3.out.trans (hb4.mono HB3.out.size))
  clear hown4 hb4 hnil4 hr4
  dsimp only
  go_wp2_with fail
  have hsame := ref12_Same A4 A c4 c l l w4 HR4.out (ccells_keep HR.out HB4.out HB4.out.size) HL.out
  rw [decide_eq_true rfl] at hsame
  refine hsame.mono ?_
  rintro e8 w8 ⟨rfl, hb8⟩
  have HB8 := Lib.hid (HB4.out.trans (hb8.mono HB4.out.size))
  clear hb8 hsame
  go_wp2_with fail
  go_ret
  exact ⟨by first | rfl | exact ret_bool (by simp), HB8.out⟩

end Go.Proofs.YtjbniichcopnlaaGreatDoor
