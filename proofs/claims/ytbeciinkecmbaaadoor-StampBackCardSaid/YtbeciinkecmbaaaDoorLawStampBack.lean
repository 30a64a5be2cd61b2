/- The law StampBack: its walk. -/
import Derived.Test.YtbeciinkecmbaaaDoorStampQ
import Derived.Test.YtbeciinkecmbaaaDoorStampO
set_option linter.unusedVariables false
namespace Go.Proofs.YtbeciinkecmbaaaDoor
open Go.RowKit

theorem ba_mk_data (s : ByteArray) (L : Bytes) (h : s.data.toList = L) : (⟨L.toArray⟩ : ByteArray) = s := by
  subst h; cases s; simp

/-- What was read is written so. -/
theorem print_back (s : ByteArray) (h : (parseD s.data.toList).2 = 0) (w : World) (ht : Tab w) :
    Calls Tryd.prog 9 #[.int .i64 (parseD s.data.toList).1] w fun e w' => e = .returned (.tuple #[.string s, .int .i64 0]) ∧ Below w.heap.size w w' := by
  obtain ⟨y, m, d, hv, hn, hs⟩ := parseD_back s.data.toList h
  have hr := num_range y m d hv
  refine (stamp_Print_ok _ (by omega) (by omega) w ht).mono ?_
  rintro e w' ⟨⟨y', m', d', hv', hn', rfl⟩, hb⟩
  obtain ⟨h1, h2, h3⟩ := num_inj y' m' d' y m d hv' hv (by omega)
  have : y' = y := by omega
  have : m' = m := by omega
  have : d' = d := by omega
  subst y' m' d'
  exact ⟨by rw [ba_mk_data s _ hs], hb⟩
theorem printIso_back (s : ByteArray) (h : (parseI s.data.toList).2 = 0) (w : World) (ht : Tab w) :
    Calls Tryd.prog 10 #[.int .i64 (parseI s.data.toList).1] w fun e w' => e = .returned (.tuple #[.string s, .int .i64 0]) ∧ Below w.heap.size w w' := by
  obtain ⟨y, m, d, h0, h1, hv, hs⟩ := parseI_back s.data.toList h
  refine (stamp_PrintIso_ok _ h0 h1 w ht).mono ?_
  rintro e w' ⟨⟨y', m', d', hv', rfl⟩, hb⟩
  obtain ⟨h1, h2, h3⟩ := iso_uniq _ y' m' d' y m d hv' hv
  have : y' = y := by omega
  have : m' = m := by omega
  have : d' = d := by omega
  subst y' m' d'
  exact ⟨by rw [ba_mk_data s _ hs], hb⟩
/-- What is written is read. -/
theorem parse_text (n : Int) (y m d : Nat) (hv : vld y m d) (hn : num y m d = n) (w : World) :
    Calls Tryd.prog 11 #[.string ⟨(dText y m d).toArray⟩] w fun e w' => e = .returned (.tuple #[.int .i64 n, .int .i64 0]) ∧ Below w.heap.size w w' := by
  have hd := dim_bd y m
  have hv' := hv
  obtain ⟨h1, h2, h3, h4, h5, h6⟩ := hv'
  have h := stamp_Parse ⟨(dText y m d).toArray⟩ w (by have := dText_len y m d; unfold maxLen; show (dText y m d).toArray.size ≤ _; simp; omega)
  rw [show (ByteArray.mk (dText y m d).toArray).data.toList = dText y m d from rfl, parseD_text y m d (by omega) (by omega) (by omega)] at h
  unfold dayN at h
  rw [if_pos hv, hn] at h
  exact h
theorem parseIso_text (n : Int) (y m d : Nat) (h0 : 0 ≤ n) (h1 : n < 3068037) (hv : IsoIs n y m d) (w : World) :
    Calls Tryd.prog 15 #[.string ⟨(iText y m d).toArray⟩] w fun e w' => e = .returned (.tuple #[.int .i64 n, .int .i64 0]) ∧ Below w.heap.size w w' := by
  have hd := iso_bd n y m d h0 h1 hv
  have h := stamp_ParseIso ⟨(iText y m d).toArray⟩ w (by have := iText_len y m d; unfold maxLen; show (iText y m d).toArray.size ≤ _; simp; omega)
  rw [show (ByteArray.mk (iText y m d).toArray).data.toList = iText y m d from rfl, parseI_text y m d (by omega) (by omega) (by omega), isoN_of n y m d h0 h1 hv] at h
  exact h

set_option maxRecDepth 100000 in
set_option maxHeartbeats 2000000 in
/-- The end of the law: whatever text, read, and written. -/
theorem walk_StampBack (w : World) (ht : Tab w) (a : Int) (_wa : (Lit.int .i64 a).wf = true) (s : ByteArray) (hsz : s.size ≤ maxLen) :
    Calls Tryd.prog 6 #[.int .i64 a, .string s] w fun e w' => e = .returned (.bool true) ∧ Below w.heap.size w w' := by
  have HV := Lib.hid (law7_live w ht)
  have HT := Lib.hid (fun W (hb : Below w.heap.size w W) => ht.below hb)
  have HP := Lib.hid (fun W => stamp_Parse s W hsz)
  have HI := Lib.hid (fun W => stamp_ParseIso s W hsz)
  have hboth := parse_both s.data.toList
  have HPB := Lib.hid (print_back s)
  have HIB := Lib.hid (printIso_back s)
  clear ht hsz
  generalize hD : parseD s.data.toList = D at *
  generalize hI : parseI s.data.toList = I at *
  obtain ⟨n, g⟩ := D
  obtain ⟨m, h⟩ := I
  dsimp only at hboth HPB HIB HP HI
  clear hD hI
  by_cases ha : 0 ≤ a ∧ a < 3068037
  · have HA := Lib.hid (fun W hW => stamp_Print_ok a ha.1 ha.2 W hW)
    have HAI := Lib.hid (fun W hW => stamp_PrintIso_ok a ha.1 ha.2 W hW)
    obtain ⟨ha0, ha1⟩ := ha
    have HT1 := Lib.hid (fun y m d hv hn W => parse_text a y m d hv hn W)
    have HT2 := Lib.hid (fun y m d hv W => parseIso_text a y m d ha0 ha1 hv W)
    go_enter Tryd.func6, Tryd.ntmps6
    go_wp2_with fail
    refine HV.out.mono ?_
    rintro e w1 ⟨rfl, hb1⟩
    go_wp2_with fail
    refine (HA.out _ (HT.out _ hb1)).mono ?_
    rintro e w2 ⟨⟨y, mm, d, hv, hn, rfl⟩, hb2⟩
    have hB2 := hb1.trans (hb2.mono hb1.size)
    have hr1 := fun W => HT1.out y mm d hv hn W
    have HR1 := Lib.hid hr1
    generalize dText y mm d = S at *
    clear hv hn hr1
    go_wp2_with fail
    refine (HAI.out _ (HT.out _ hB2)).mono ?_
    rintro e w3 ⟨⟨y', mm', d', hv', rfl⟩, hb3⟩
    have hB3 := hB2.trans (hb3.mono hB2.size)
    have HR2 := Lib.hid (fun W => HT2.out y' mm' d' hv' W)
    generalize iText y' mm' d' = T at *
    clear hv'
    go_wp2_with fail
    refine (HR1.out _).mono ?_
    rintro e w4 ⟨rfl, hb4⟩
    have hB4 := hB3.trans (hb4.mono hB3.size)
    go_wp2_with fail
    refine (HR2.out _).mono ?_
    rintro e w5 ⟨rfl, hb5⟩
    have hB5 := hB4.trans (hb5.mono hB4.size)
    go_wp2_with fail
    refine (HP.out _).mono ?_
    rintro e w6 ⟨rfl, hb6⟩
    have hB6 := hB5.trans (hb6.mono hB5.size)
    go_wp2_with fail
    refine (HI.out _).mono ?_
    rintro e w7 ⟨rfl, hb7⟩
    have hB7 := hB6.trans (hb7.mono hB6.size)
    by_cases hg : g = 0
    · subst hg
      have hh : ¬ h = 0 := by omega
      have hh1 : (h == 0) = false := beq_f hh
      have hh2 : (h != 0) = true := bne_t hh
      clear hboth
      go_wp2_with fail
      refine (HPB.out (by first | trivial | rfl) _ (HT.out _ hB7)).mono ?_
      rintro e w8 ⟨rfl, hb8⟩
      have hB8 := hB7.trans (hb8.mono hB7.size)
      go_wp2_with fail
      go_ret
      exact ⟨rfl, hB8⟩
    · by_cases hh : h = 0
      · subst hh
        have hg1 : (g == 0) = false := beq_f hg
        have hg2 : (g != 0) = true := bne_t hg
        clear hboth
        go_wp2_with fail
        refine (HIB.out (by first | trivial | rfl) _ (HT.out _ hB7)).mono ?_
        rintro e w8 ⟨rfl, hb8⟩
        have hB8 := hB7.trans (hb8.mono hB7.size)
        go_wp2_with fail
        go_ret
        exact ⟨rfl, hB8⟩
      · have hg1 : (g == 0) = false := beq_f hg
        have hg2 : (g != 0) = true := bne_t hg
        have hh1 : (h == 0) = false := beq_f hh
        have hh2 : (h != 0) = true := bne_t hh
        clear hboth
        go_wp2_with fail
        go_ret
        exact ⟨rfl, hB7⟩
  · have HN1 := Lib.hid (fun W => stamp_Print_no a (out_of a ha) W)
    have HN2 := Lib.hid (fun W => stamp_PrintIso_no a (out_of a ha) W)
    have hcond : (decide (0 ≤ a) && decide (a < 3068037)) = false := by
      rw [Bool.and_eq_false_iff, decide_eq_false_iff_not, decide_eq_false_iff_not]; omega
    rcases out_of a ha with ho | ho
    all_goals
      clear ha hcond
      try have h0 : 0 ≤ a := by omega
      go_enter Tryd.func6, Tryd.ntmps6
      go_wp2_with fail
      refine HV.out.mono ?_
      rintro e w1 ⟨rfl, hb1⟩
      go_wp2_with fail
      refine (HN1.out _).mono ?_
      rintro e w2 ⟨rfl, hb2⟩
      have hB2 := hb1.trans (hb2.mono hb1.size)
      go_wp2_with fail
      refine (HN2.out _).mono ?_
      rintro e w3 ⟨rfl, hb3⟩
      have hB5 := hB2.trans (hb3.mono hB2.size)
      go_wp2_with fail
      refine (HP.out _).mono ?_
      rintro e w6 ⟨rfl, hb6⟩
      have hB6 := hB5.trans (hb6.mono hB5.size)
      go_wp2_with fail
      refine (HI.out _).mono ?_
      rintro e w7 ⟨rfl, hb7⟩
      have hB7 := hB6.trans (hb7.mono hB6.size)
      by_cases hg : g = 0
      · subst hg
        have hh : ¬ h = 0 := by omega
        have hh1 : (h == 0) = false := beq_f hh
        have hh2 : (h != 0) = true := bne_t hh
        clear hboth
        go_wp2_with fail
        refine (HPB.out (by first | trivial | rfl) _ (HT.out _ hB7)).mono ?_
        rintro e w8 ⟨rfl, hb8⟩
        have hB8 := hB7.trans (hb8.mono hB7.size)
        go_wp2_with fail
        go_ret
        exact ⟨rfl, hB8⟩
      · by_cases hh : h = 0
        · subst hh
          have hg1 : (g == 0) = false := beq_f hg
          have hg2 : (g != 0) = true := bne_t hg
          clear hboth
          go_wp2_with fail
          refine (HIB.out (by first | trivial | rfl) _ (HT.out _ hB7)).mono ?_
          rintro e w8 ⟨rfl, hb8⟩
          have hB8 := hB7.trans (hb8.mono hB7.size)
          go_wp2_with fail
          go_ret
          exact ⟨rfl, hB8⟩
        · have hg1 : (g == 0) = false := beq_f hg
          have hg2 : (g != 0) = true := bne_t hg
          have hh1 : (h == 0) = false := beq_f hh
          have hh2 : (h != 0) = true := bne_t hh
          clear hboth
          go_wp2_with fail
          go_ret
          exact ⟨rfl, hB7⟩

end Go.Proofs.YtbeciinkecmbaaaDoor
