import Derived.Test.YtjbniichcopnlaaGreatDoorConfP
import Derived.Test.YtjbniichcopnlaaGreatDoorPkV45
/- The law ConfRight walked: it answers true at any text. -/
set_option linter.unusedVariables false
set_option linter.unusedSimpArgs false
namespace Go.Proofs.YtjbniichcopnlaaGreatDoor
open Go.RowKit

set_option maxRecDepth 100000 in
set_option maxHeartbeats 4000000 in
theorem walk_ConfRight (w : World) (ht : Tab w) (hsp : SpaceTab w) (s : ByteArray) (hs : s.size ≤ maxLen) :
    Calls Tryz.prog 4 #[.string s] w fun e w' => e = .returned (.bool true) ∧ Below w.heap.size w w' := by
  have hs' := hs
  unfold maxLen at hs'
  have HV := Lib.hid (law12_live w)
  have hg1 := hsp.lt
  have hg2 := ht.lt
  have HT := Lib.hid (And.intro ht hsp)
  clear ht hsp
  by_cases hbig : 2000 < s.size
  · go_enter Tryz.func4, Tryz.ntmps4
    go_wp2_with fail
    refine HV.out.mono ?_
    rintro e w1 ⟨rfl, hb1⟩
    go_wp2_with fail
    go_ret
    exact ⟨rfl, hb1⟩
  have hs2 : s.size ≤ 2000 := by omega
  obtain ⟨ti1, ti2⟩ := text_in s.data.toList (by rw [ba_len]; omega)
  have HR := Lib.hid (fun W => conf_Read s W hs ti1 ti2)
  obtain ⟨cf1, cf2⟩ := conf_facts s.data.toList
  obtain ⟨ci1, ci2⟩ := conf_in s.data.toList (by rw [ba_len]; omega)
  rw [ba_len] at ci2
  by_cases he : (confRead s.data.toList).err = 0
  case neg =>
    have hnil := cf1 he
    have hne : ((confRead s.data.toList).err == 0) = false := beq_false_of_ne he
    clear ti1 ti2 cf1 cf2
    generalize confRead s.data.toList = C at *
    obtain ⟨cals, cp, ce⟩ := C
    simp only at he hnil hne HR ci1 ci2
    subst hnil
    clear he
    go_enter Tryz.func4, Tryz.ntmps4
    go_wp2_with fail
    refine HV.out.mono ?_
    rintro e w1 ⟨rfl, hb1⟩
    have HB1 := Lib.hid hb1
    clear hb1
    go_wp2_with fail
    refine (HR.out w1).mono ?_
    rintro e w2 ⟨v2, rfl, hown2, hb2⟩
    obtain ⟨A2, c2, rfl, _⟩ := own_form hown2
    have HB2 := Lib.hid (HB1.out.trans (hb2.mono HB1.out.size))
    clear hown2 hb2
    dsimp only [List.length_nil]
    go_wp2_with fail
    go_ret
    exact ⟨by first | rfl | exact ret_bool (by simp), HB2.out⟩
  obtain ⟨d1, d2, d3, d4, d5⟩ := cf2 he
  have hrc := (right_conf s.data.toList he).1
  obtain ⟨k1, k2, k3⟩ := canon_conf s.data.toList (by rw [ba_len]; omega) he
  have hck := fun h => tree_right s.data.toList (by rw [ba_len]; omega) h
  have hnam : ∀ t ∈ (confRead s.data.toList).cals, t.name.length ≤ maxLen := fun t ht => by
    have h1 := confGo_ok _ [] (conf_parts _ hrc).2 t ht
    have h2 := name16 t.name (by
      unfold okC at h1
      simp only [Bool.and_eq_true] at h1
      exact h1.1.2)
    unfold maxLen; omega
  have HCA := Lib.hid (fun W (hb : Below w.heap.size w W) => layout_Canon s W (by rw [ba_len]; omega) (fun h => ⟨(hck h).1, by have := (hck h).2; rw [ba_len] at this; omega⟩) (HT.out.1.below hb) (HT.out.2.below hb) (Nat.lt_of_lt_of_le hg1 hb.size) (Nat.lt_of_lt_of_le hg2 hb.size))
  generalize canonL s.data.toList = K at *
  obtain ⟨u, kp, ke⟩ := K
  simp only at k1 k2 k3 HCA
  subst k1
  obtain ⟨U, hU⟩ : ∃ U : ByteArray, U = ⟨u.toArray⟩ := ⟨_, rfl⟩
  have hUd : U.data.toList = u := by rw [hU]
  have hUs : U.size ≤ 65536 := by rw [← ba_len, hUd]; exact k2
  rw [← hU] at HCA
  obtain ⟨ui1, ui2⟩ := text_in U.data.toList (by rw [hUd]; exact k2)
  have HRU := Lib.hid (fun W => conf_Read U W (by unfold maxLen; omega) ui1 ui2)
  rw [hUd, k3] at HRU
  clear ti1 ti2 cf1 cf2 d3 d4 d5 k2 k3 ui1 ui2 hck hU hUd ci1 ci2
  generalize confRead s.data.toList = C at *
  obtain ⟨L, cp, ce⟩ := C
  simp only at he d1 hrc hnam HR HRU
  subst he d1
  have hp : confP L = layL (L.map nodeC) := by unfold confP; rw [if_neg (by simp [hrc])]
  have hy := lay_nodes L hrc
  have hyl := lay_nodes_len L hrc
  have hback := back_law L hrc
  have hlen := (conf_parts L hrc).1
  have HPR := Lib.hid (fun A c W (hb : Below w.heap.size w W) (hr : ReadsM W (· < W.heap.size) 14 A L.length (L.flatMap CalL.cc)) => conf_Print L A c W W.heap.size (Nat.le_refl _) hr (by unfold maxLen; omega) hnam (HT.out.1.below hb) (HT.out.2.below hb) (Nat.lt_of_lt_of_le hg1 hb.size) (Nat.lt_of_lt_of_le hg2 hb.size))
  have HCK := Lib.hid (fun A c W (hr : ReadsM W (· < W.heap.size) 14 A L.length (L.flatMap CalL.cc)) => conf_Check L A c W W.heap.size (Nat.le_refl _) hr (by unfold maxLen; omega) hnam)
  rw [hp] at HPR
  rw [hrc] at HCK
  generalize layL (L.map nodeC) = Y at *
  obtain ⟨b, e0⟩ := Y
  simp only at hy hyl hback HPR
  subst hy
  obtain ⟨S, hS⟩ : ∃ S : ByteArray, S = ⟨b.toArray⟩ := ⟨_, rfl⟩
  have hSd : S.data.toList = b := by rw [hS]
  have hSs : S.size ≤ 65536 := by rw [← ba_len, hSd]; exact hyl
  rw [← hS] at HPR
  obtain ⟨si1, si2⟩ := text_in S.data.toList (by rw [hSd]; exact hyl)
  have HRS := Lib.hid (fun W => conf_Read S W (by unfold maxLen; omega) si1 si2)
  rw [hSd, hback] at HRS
  clear hp hback si1 si2 hyl hS hSd hrc hnam
  go_enter Tryz.func4, Tryz.ntmps4
  go_wp2_with fail
  refine HV.out.mono ?_
  rintro e w1 ⟨rfl, hb1⟩
  have HB1 := Lib.hid hb1
  clear hb1
  go_wp2_with fail
  refine (HR.out w1).mono ?_
  rintro e w2 ⟨v2, rfl, hown2, hb2⟩
  obtain ⟨A2, c2, rfl, _, hr2⟩ := own_cals_reads hown2
  have HR2 := Lib.hid hr2
  have HB2 := Lib.hid (HB1.out.trans (hb2.mono HB1.out.size))
  clear hown2 hb2 hr2
  dsimp only
  go_wp2_with fail
  refine (HPR.out A2 c2 w2 HB2.out HR2.out).mono ?_
  rintro e w3 ⟨rfl, hb3⟩
  have HB23 := Lib.hid hb3
  have HB3 := Lib.hid (HB2.out.trans (hb3.mono HB2.out.size))
  clear hb3
  dsimp only
  go_wp2_with fail
  refine (HRS.out w3).mono ?_
  rintro e w4 ⟨v4, rfl, hown4, hb4⟩
  obtain ⟨A4, c4, rfl, _, hr4⟩ := own_cals_reads hown4
  have HR4 := Lib.hid hr4
  have HB24 := Lib.hid (HB23.out.trans (hb4.mono HB23.out.size))
  have HB4 := Lib.hid (HB3.out.trans (hb4.mono HB3.out.size))
  clear hown4 hb4 hr4
  dsimp only
  go_wp2_with fail
  refine (HCA.out w4 HB4.out).mono ?_
  rintro e w5 ⟨rfl, hb5⟩
  have HB45 := Lib.hid hb5
  have HB5 := Lib.hid (HB4.out.trans (hb5.mono HB4.out.size))
  clear hb5
  dsimp only
  go_wp2_with fail
  refine (HRU.out w5).mono ?_
  rintro e w6 ⟨v6, rfl, hown6, hb6⟩
  obtain ⟨A6, c6, rfl, _, hr6⟩ := own_cals_reads hown6
  have HR6 := Lib.hid hr6
  have HB46 := Lib.hid (HB45.out.trans (hb6.mono HB45.out.size))
  have HB26 := Lib.hid (HB24.out.trans (HB46.out.mono HB24.out.size))
  have HB6 := Lib.hid (HB5.out.trans (hb6.mono HB5.out.size))
  clear hown6 hb6 hr6
  dsimp only
  go_wp2_with fail
  refine (HCK.out A2 c2 w6 (ccells_keep HR2.out HB26.out HB26.out.size)).mono ?_
  rintro e w7 ⟨rfl, hb7⟩
  have HB67 := Lib.hid hb7
  have HB7 := Lib.hid (HB6.out.trans (hb7.mono HB6.out.size))
  clear hb7
  go_wp2_with fail
  have h27 := HB26.out.trans (HB67.out.mono HB26.out.size)
  have h47 := HB46.out.trans (HB67.out.mono HB46.out.size)
  have hsame := ref12_Same A2 A4 c2 c4 L L w7 (ccells_keep HR2.out h27 h27.size) (ccells_keep HR4.out h47 h47.size) (by unfold maxLen; omega)
  rw [decide_eq_true rfl] at hsame
  refine hsame.mono ?_
  rintro e w8 ⟨rfl, hb8⟩
  have HB68 := Lib.hid (HB67.out.trans (hb8.mono HB67.out.size))
  have HB28 := Lib.hid (h27.trans (hb8.mono h27.size))
  have HB8 := Lib.hid (HB7.out.trans (hb8.mono HB7.out.size))
  clear hb8 hsame h27 h47
  go_wp2_with fail
  have hsame := ref12_Same A2 A6 c2 c6 L L w8 (ccells_keep HR2.out HB28.out HB28.out.size) (ccells_keep HR6.out HB68.out HB68.out.size) (by unfold maxLen; omega)
  rw [decide_eq_true rfl] at hsame
  refine hsame.mono ?_
  rintro e w9 ⟨rfl, hb9⟩
  have HB9 := Lib.hid (HB8.out.trans (hb9.mono HB8.out.size))
  clear hb9 hsame
  go_wp2_with fail
  go_ret
  exact ⟨by first | rfl | exact ret_bool (by simp), HB9.out⟩

end Go.Proofs.YtjbniichcopnlaaGreatDoor
