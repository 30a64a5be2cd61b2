/- The law StampDoes: its walk. -/
import Derived.Test.YtbeciinkecmbaaaDoorRef7X
set_option linter.unusedVariables false
namespace Go.Proofs.YtbeciinkecmbaaaDoor
open Go.RowKit

theorem print_one (n : Int) (h0 : 0 ≤ n) (h1 : n < 3068037) : ∃ T : ByteArray, (∀ w, Tab w → Calls Tryd.prog 9 #[.int .i64 n] w fun e w' => e = .returned (.tuple #[.string T, .int .i64 0]) ∧ Below w.heap.size w w') ∧
    ∀ w, Calls Tryd.prog 12 #[.int .i64 n] w fun e w' => e = .returned (.tuple #[.string T, .int .i64 0]) ∧ Below w.heap.size w w' := by
  obtain ⟨y, h2, h3, h4, h5⟩ := year_ex n h0 h1
  by_cases hex : ∃ y m d : Nat, vld y m d ∧ num y m d = n
  · obtain ⟨y, m, d, hv, hn⟩ := hex
    have key : ∀ y' m' d' : Nat, vld y' m' d' → num y' m' d' = n → dText y' m' d' = dText y m d := fun y' m' d' hv' hn' => by
      obtain ⟨h1, h2, h3⟩ := num_inj y' m' d' y m d hv' hv (by omega)
      have : y' = y := by omega
      have : m' = m := by omega
      have : d' = d := by omega
      subst y' m' d'; rfl
    refine ⟨⟨(dText y m d).toArray⟩, fun w ht => ?_, fun w => ?_⟩
    · refine (stamp_Print_ok n h0 h1 w ht).mono ?_
      rintro e w' ⟨⟨y', m', d', hv', hn', rfl⟩, hb⟩
      exact ⟨by rw [key y' m' d' hv' hn'], hb⟩
    · refine (ref7_Print_ok n h0 h1 w).mono ?_
      rintro e w' ⟨⟨y', m', d', hv', hn', rfl⟩, hb⟩
      exact ⟨by rw [key y' m' d' hv' hn'], hb⟩
  · refine ⟨⟨#[]⟩, fun w ht => ?_, fun w => ?_⟩
    · refine (stamp_Print_ok n h0 h1 w ht).mono ?_
      rintro e w' ⟨⟨y', m', d', hv', hn', rfl⟩, hb⟩
      exact absurd ⟨y', m', d', hv', hn'⟩ hex
    · refine (ref7_Print_ok n h0 h1 w).mono ?_
      rintro e w' ⟨⟨y', m', d', hv', hn', rfl⟩, hb⟩
      exact absurd ⟨y', m', d', hv', hn'⟩ hex
theorem printIso_one (n : Int) (h0 : 0 ≤ n) (h1 : n < 3068037) : ∃ T : ByteArray, (∀ w, Tab w → Calls Tryd.prog 10 #[.int .i64 n] w fun e w' => e = .returned (.tuple #[.string T, .int .i64 0]) ∧ Below w.heap.size w w') ∧
    ∀ w, Calls Tryd.prog 14 #[.int .i64 n] w fun e w' => e = .returned (.tuple #[.string T, .int .i64 0]) ∧ Below w.heap.size w w' := by
  obtain ⟨y, m, d, hv⟩ := iso_ex n h0 h1
  have hbd := iso_bd n y m d h0 h1 hv
  obtain ⟨y, rfl⟩ := Int.eq_ofNat_of_zero_le (show 0 ≤ y by omega)
  obtain ⟨m, rfl⟩ := Int.eq_ofNat_of_zero_le (show 0 ≤ m by omega)
  obtain ⟨d, rfl⟩ := Int.eq_ofNat_of_zero_le (show 0 ≤ d by omega)
  have key : ∀ y' m' d' : Nat, IsoIs n y' m' d' → iText y' m' d' = iText y m d := fun y' m' d' hv' => by
    obtain ⟨h1, h2, h3⟩ := iso_uniq n y' m' d' y m d hv' hv
    have : y' = y := by omega
    have : m' = m := by omega
    have : d' = d := by omega
    subst y' m' d'; rfl
  refine ⟨⟨(iText y m d).toArray⟩, fun w ht => ?_, fun w => ?_⟩
  · refine (stamp_PrintIso_ok n h0 h1 w ht).mono ?_
    rintro e w' ⟨⟨y', m', d', hv', rfl⟩, hb⟩
    exact ⟨by rw [key y' m' d' hv'], hb⟩
  · refine (ref7_PrintIso_ok n h0 h1 w).mono ?_
    rintro e w' ⟨⟨y', m', d', hv', rfl⟩, hb⟩
    exact ⟨by rw [key y' m' d' hv'], hb⟩
/-- A day written: by both the same. -/
theorem print_both (n : Int) : ∃ (T U : ByteArray) (c : Int), (∀ w, Tab w → Calls Tryd.prog 9 #[.int .i64 n] w fun e w' => e = .returned (.tuple #[.string T, .int .i64 c]) ∧ Below w.heap.size w w') ∧
    (∀ w, Calls Tryd.prog 12 #[.int .i64 n] w fun e w' => e = .returned (.tuple #[.string T, .int .i64 c]) ∧ Below w.heap.size w w') ∧
    (∀ w, Tab w → Calls Tryd.prog 10 #[.int .i64 n] w fun e w' => e = .returned (.tuple #[.string U, .int .i64 c]) ∧ Below w.heap.size w w') ∧
    ∀ w, Calls Tryd.prog 14 #[.int .i64 n] w fun e w' => e = .returned (.tuple #[.string U, .int .i64 c]) ∧ Below w.heap.size w w' := by
  by_cases h : 0 ≤ n ∧ n < 3068037
  · obtain ⟨T, a, b⟩ := print_one n h.1 h.2
    obtain ⟨U, c, d⟩ := printIso_one n h.1 h.2
    exact ⟨T, U, 0, a, b, c, d⟩
  · have h' := out_of n h
    exact ⟨⟨#[]⟩, ⟨#[]⟩, 4, fun w _ => stamp_Print_no n h' w, fun w => ref7_Print_no n h' w, fun w _ => stamp_PrintIso_no n h' w, fun w => ref7_PrintIso_no n h' w⟩

set_option maxRecDepth 100000 in
set_option maxHeartbeats 2000000 in
theorem walk_StampDoes (w : World) (ht : Tab w) (a : Int) (_wa : (Lit.int .i64 a).wf = true) (s : ByteArray) (hsz : s.size ≤ maxLen) :
    Calls Tryd.prog 5 #[.int .i64 a, .string s] w fun e w' => e = .returned (.bool true) ∧ Below w.heap.size w w' := by
  have HV := Lib.hid (law7_live w ht)
  have HT := Lib.hid (fun W (hb : Below w.heap.size w W) => ht.below hb)
  obtain ⟨T, U, c, h1, h2, h3, h4⟩ := print_both a
  have H1 := Lib.hid h1
  have H2 := Lib.hid h2
  have H3 := Lib.hid h3
  have H4 := Lib.hid h4
  have P1 := Lib.hid (fun W => stamp_Parse s W hsz)
  have P2 := Lib.hid (fun W => ref7_Parse s W hsz)
  have P3 := Lib.hid (fun W => stamp_ParseIso s W hsz)
  have P4 := Lib.hid (fun W => ref7_ParseIso s W hsz)
  generalize parseD s.data.toList = D at *
  generalize parseI s.data.toList = I at *
  obtain ⟨n, g⟩ := D
  obtain ⟨m, h⟩ := I
  dsimp only at P1 P2 P3 P4
  clear ht h1 h2 h3 h4 hsz
  go_enter Tryd.func5, Tryd.ntmps5
  go_wp2_with fail
  refine HV.out.mono ?_
  rintro e w1 ⟨rfl, hb1⟩
  go_wp2_with fail
  refine (H1.out _ (HT.out _ hb1)).mono ?_
  rintro e w2 ⟨rfl, hb2⟩
  have hB2 := hb1.trans (hb2.mono hb1.size)
  clear hb1 hb2
  go_wp2_with fail
  refine (H2.out _).mono ?_
  rintro e w3 ⟨rfl, hb3⟩
  have hB3 := hB2.trans (hb3.mono hB2.size)
  clear hB2 hb3
  go_wp2_with fail
  refine (P1.out _).mono ?_
  rintro e w4 ⟨rfl, hb4⟩
  have hB4 := hB3.trans (hb4.mono hB3.size)
  clear hB3 hb4
  go_wp2_with fail
  refine (P2.out _).mono ?_
  rintro e w5 ⟨rfl, hb5⟩
  have hB5 := hB4.trans (hb5.mono hB4.size)
  clear hB4 hb5
  go_wp2_with fail
  refine (H3.out _ (HT.out _ hB5)).mono ?_
  rintro e w6 ⟨rfl, hb6⟩
  have hB6 := hB5.trans (hb6.mono hB5.size)
  clear hB5 hb6
  go_wp2_with fail
  refine (H4.out _).mono ?_
  rintro e w7 ⟨rfl, hb7⟩
  have hB7 := hB6.trans (hb7.mono hB6.size)
  clear hB6 hb7
  go_wp2_with fail
  refine (P3.out _).mono ?_
  rintro e w8 ⟨rfl, hb8⟩
  have hB8 := hB7.trans (hb8.mono hB7.size)
  clear hB7 hb8
  go_wp2_with fail
  refine (P4.out _).mono ?_
  rintro e w9 ⟨rfl, hb9⟩
  have hB9 := hB8.trans (hb9.mono hB8.size)
  clear hB8 hb9
  go_wp2
  go_ret
  exact ⟨by first | rfl | exact ret_bool (by simp), hB9⟩

end Go.Proofs.YtbeciinkecmbaaaDoor
