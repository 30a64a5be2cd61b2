/- The law LabelDecimal: its walk. -/
import Derived.Test.YtiedmfpinipppaaDoorLawLabelOver
set_option linter.unusedVariables false
namespace Go.Proofs.YtiedmfpinipppaaDoor
open Go.RowKit

/-- Behind the digits: what is asked of the three texts. -/
theorem dec_calls (n : Int) (h : fit n) : (∀ W, Calls Tryd.prog 16 #[.string ⟨(decL n).toArray⟩] W fun e w' => e = .returned (.tuple #[.int .i64 n, .int .i64 0]) ∧ Below W.heap.size W w') ∧
    (∀ W, Calls Tryd.prog 16 #[.string ⟨(badL n).toArray⟩] W fun e w' => e = .returned (.tuple #[.int .i64 0, .int .i64 5]) ∧ Below W.heap.size W w') ∧
    (∀ W, Calls Tryd.prog 16 #[.string ⟨(decL n ++ [32]).toArray⟩] W fun e w' => e = .returned (.tuple #[.int .i64 0, .int .i64 5]) ∧ Below W.heap.size W w') ∧
    (∀ W, Calls Tryd.prog 18 #[.string ⟨(decL n).toArray⟩] W fun e w' => e = .returned (.tuple #[.int .i64 (if n < -999999999 ∨ 999999999 < n then 0 else n), .int .i64 (if n < -999999999 ∨ 999999999 < n then 2 else 0)]) ∧ Below W.heap.size W w') := by
  have hl := decL_len n h
  have hb : (badL n).length ≤ 21 := by
    have := recDec_len n.natAbs (by unfold fit at h; omega)
    unfold badL
    split
    · decide
    · split
      · rw [List.length_cons, List.length_cons]; omega
      · rw [List.length_cons]; omega
  refine ⟨fun W => ?_, fun W => ?_, fun W => ?_, fun W => ?_⟩
  · have := label_Amount ⟨(decL n).toArray⟩ W (by unfold maxLen; show (decL n).toArray.size ≤ _; rw [List.size_toArray]; omega)
    rw [show (ByteArray.mk (decL n).toArray).data.toList = decL n from rfl, amt_dec n h] at this
    exact this
  · have := label_Amount ⟨(badL n).toArray⟩ W (by unfold maxLen; show (badL n).toArray.size ≤ _; rw [List.size_toArray]; omega)
    rw [show (ByteArray.mk (badL n).toArray).data.toList = badL n from rfl, amt_bad n] at this
    exact this
  · have := label_Amount ⟨(decL n ++ [32]).toArray⟩ W (by unfold maxLen; show (decL n ++ [32]).toArray.size ≤ _; rw [List.size_toArray, List.length_append, List.length_singleton]; omega)
    have e := amt_tail n 32 (by decide)
    simp only at this
    rw [e] at this
    exact this
  · have := label_Small ⟨(decL n).toArray⟩ W (by unfold maxLen; show (decL n).toArray.size ≤ _; rw [List.size_toArray]; omega)
    rw [show (ByteArray.mk (decL n).toArray).data.toList = decL n from rfl] at this
    unfold smallL at this
    rw [amt_dec n h] at this
    by_cases hq : n < -999999999 ∨ 999999999 < n
    · simpa [hq] using this
    · simpa [hq] using this

set_option maxRecDepth 100000 in
set_option maxHeartbeats 2000000 in
theorem walk_LabelDecimal (w : World) (ht : Tab w) (n : Int) (wn : (Lit.int .i64 n).wf = true) :
    Calls Tryd.prog 8 #[.int .i64 n] w fun e w' => e = .returned (.bool true) ∧ Below w.heap.size w w' := by
  have HV := Lib.hid (law18_live w ht)
  have hfit := wf_fit wn
  clear ht wn
  obtain ⟨d1, d2, d3, d4⟩ := dec_calls n hfit
  by_cases h0 : n < 0
  · obtain ⟨N, hN⟩ := Int.eq_ofNat_of_zero_le (show 0 ≤ -n by omega)
    have hn : n = -(N : Int) := by omega
    subst hn
    have hN1 : N ≤ 9223372036854775808 := by have := hfit.1; omega
    have hNp : N ≠ 0 := by omega
    have hlen := recDec_len N hN1
    have HN := Lib.hid hN1
    have hne := recDec_ne N hNp
    have e1 : decL (-(N : Int)) = 45 :: recDec N := by unfold decL; rw [if_neg (by omega), if_pos h0]; congr 2; omega
    have e2 : badL (-(N : Int)) = 45 :: 48 :: recDec N := by unfold badL; rw [if_neg (by omega), if_pos h0]; congr 3; omega
    rw [e1] at d1 d3 d4
    rw [e2] at d2
    have HD1 := Lib.hid d1
    have HD2 := Lib.hid d2
    have HD3 := Lib.hid d3
    have HD4 := Lib.hid d4
    have hlt1 : ¬ (999999999 < -(N : Int)) := by omega
    have HNP := Lib.hid hNp
    clear d1 d2 d3 d4 hfit e1 e2 hN hNp
    go_enter Tryd.func8, Tryd.ntmps8
    go_wp2_with fail
    refine HV.out.mono ?_
    rintro e w1 ⟨rfl, hb1⟩
    have HB1 := Lib.hid hb1
    clear hb1
    go_wp2_with fail
    go_loopw [3, 4, 5] (fun a b c wr => ∃ (x : Nat) (S : Bytes), x ≤ N ∧ a = .string ⟨S.toArray⟩ ∧ b = .int .i64 (-(x : Int)) ∧ recDec N = recDec x ++ S ∧ Below w.heap.size w wr) (fun _ b _ _ => (intOf b).natAbs)
    case atStart => exact ⟨N, [], Nat.le_refl _, rfl, rfl, by simp, HB1.out⟩
    case round =>
      obtain ⟨x, S, hx, rfl, rfl, hS, hB⟩ := hrel
      have hSl := recDec_snoc_len hS (by have := HN.out; omega)
      by_cases hx0 : x = 0
      · subst hx0
        have hS' : S = recDec N := by rw [hS, recDec_zero]; rfl
        subst hS'
        have HBB := Lib.hid hB
        clear hS hB hx
        generalize recDec N = T at *
        have hne' : (T == ([] : Bytes)) = false := by simpa using hne
        have hov1 : ¬ (9223372036854775807 < 1 + (T.length : Int)) := by omega
        have hov2 : ¬ (9223372036854775807 < 1 + (1 + (T.length : Int))) := by omega
        have hov3 : ¬ (9223372036854775807 < 1 + (T.length : Int) + 1) := by omega
        have hw : IntKind.i64.wrap (-(N : Int)) = -(N : Int) := by rw [IntKind.wrap_i64]; have := HN.out; omega
        have H1 := Lib.hid (fun W => show Calls Tryd.prog 16 #[.string (⟨#[45]⟩ ++ ⟨T.toArray⟩)] W fun e w' => e = .returned (.tuple #[.int .i64 (-(N : Int)), .int .i64 0]) ∧ Below W.heap.size W w' by
          have := HD1.out W; rw [ByteArray.mk_append_mk]; simpa using this)
        have H2 := Lib.hid (fun W => show Calls Tryd.prog 16 #[.string (⟨#[45]⟩ ++ (⟨#[48]⟩ ++ ⟨T.toArray⟩))] W fun e w' => e = .returned (.tuple #[.int .i64 0, .int .i64 5]) ∧ Below W.heap.size W w' by
          have := HD2.out W; rw [ByteArray.mk_append_mk, ByteArray.mk_append_mk]; simpa using this)
        have H3 := Lib.hid (fun W => show Calls Tryd.prog 16 #[.string (⟨#[45]⟩ ++ ⟨T.toArray⟩ ++ ⟨#[32]⟩)] W fun e w' => e = .returned (.tuple #[.int .i64 0, .int .i64 5]) ∧ Below W.heap.size W w' by
          have := HD3.out W; rw [ByteArray.mk_append_mk, ByteArray.mk_append_mk]; simpa using this)
        by_cases hq : -(N : Int) < -999999999
        · have H4 := Lib.hid (fun W => show Calls Tryd.prog 18 #[.string (⟨#[45]⟩ ++ ⟨T.toArray⟩)] W fun e w' => e = .returned (.tuple #[.int .i64 0, .int .i64 2]) ∧ Below W.heap.size W w' by
            have := HD4.out W; simp only [if_pos (show -(N : Int) < -999999999 ∨ 999999999 < -(N : Int) from .inl hq)] at this
            rw [ByteArray.mk_append_mk]; simpa using this)
          clear HD1 HD2 HD3 HD4
          go_wp2_with fail
          refine (H1.out _).mono ?_
          rintro e w2 ⟨rfl, hb2⟩
          have hB2 := HBB.out.trans (hb2.mono HBB.out.size)
          clear hb2
          go_wp2_with fail
          refine (H2.out _).mono ?_
          rintro e w3 ⟨rfl, hb3⟩
          have hB3 := hB2.trans (hb3.mono hB2.size)
          clear hb3 hB2
          go_wp2_with fail
          refine (H3.out _).mono ?_
          rintro e w4 ⟨rfl, hb4⟩
          have hB4 := hB3.trans (hb4.mono hB3.size)
          clear hb4 hB3
          go_wp2_with fail
          refine (H4.out _).mono ?_
          rintro e w5 ⟨rfl, hb5⟩
          have hB5 := hB4.trans (hb5.mono hB4.size)
          clear hb5 hB4
          clear hov1 hov2 hov3 hne hne' hlen hSl H1 H2 H3 H4 hN1
          go_wp2
          go_ret
          exact ⟨rfl, hB5⟩
        · have H4 := Lib.hid (fun W => show Calls Tryd.prog 18 #[.string (⟨#[45]⟩ ++ ⟨T.toArray⟩)] W fun e w' => e = .returned (.tuple #[.int .i64 (-(N : Int)), .int .i64 0]) ∧ Below W.heap.size W w' by
            have := HD4.out W; simp only [if_neg (show ¬ (-(N : Int) < -999999999 ∨ 999999999 < -(N : Int)) by omega)] at this
            rw [ByteArray.mk_append_mk]; simpa using this)
          clear HD1 HD2 HD3 HD4
          go_wp2_with fail
          refine (H1.out _).mono ?_
          rintro e w2 ⟨rfl, hb2⟩
          have hB2 := HBB.out.trans (hb2.mono HBB.out.size)
          clear hb2
          go_wp2_with fail
          refine (H2.out _).mono ?_
          rintro e w3 ⟨rfl, hb3⟩
          have hB3 := hB2.trans (hb3.mono hB2.size)
          clear hb3 hB2
          go_wp2_with fail
          refine (H3.out _).mono ?_
          rintro e w4 ⟨rfl, hb4⟩
          have hB4 := hB3.trans (hb4.mono hB3.size)
          clear hb4 hB3
          go_wp2_with fail
          refine (H4.out _).mono ?_
          rintro e w5 ⟨rfl, hb5⟩
          have hB5 := hB4.trans (hb5.mono hB4.size)
          clear hb5 hB4
          clear hov1 hov2 hov3 hne hne' hlen hSl H1 H2 H3 H4 hN1
          go_wp2
          go_ret
          exact ⟨rfl, hB5⟩
      · have hsz : ¬ (9223372036854775807 < 1 + (S.length : Int)) := by omega
        have hx0I : ¬ (-(x : Int) = 0) := by omega
        have hbs := hB.size
        have hx9 : (x : Int) ≤ 9223372036854775808 := by have := HN.out; omega
        have HS := Lib.hid hS
        have HBB := Lib.hid hB
        have HX := Lib.hid hx
        have HX0 := Lib.hid hx0
        clear hS hB hx hx0
        have hcv := conv_digit18 wr x
        have hxd : ((x / 10 : Nat) : Int) = (x : Int) / 10 := by omega
        have HXD := Lib.hid hxd
        clear hxd
        by_cases hx10 : 0 < (x : Int) % 10
        · go_wp2_with fail
          refine ⟨⟨x / 10, UInt8.ofNat (48 + x % 10) :: S, by have := HX.out; omega, by rw [ByteArray.mk_append_mk]; simp, val_int (by rw [HXD.out]), ?_, HBB.out.alloc hbs _⟩, by have := HX0.out; simp [intOf]; omega⟩
          rw [HS.out, recDec_pos x HX0.out, List.append_assoc]
          rfl
        · have hm0 : (x : Int) % 10 = 0 := by omega
          have hcv0 : (convert 34 9 (.slice (some ⟨wr.heap.size, 0, none⟩) 1 1)).run Tryd.prog (wr.alloc (.cells #[.int .u8 48] 5)) =
              .ok (.string ⟨#[UInt8.ofNat (48 + x % 10)]⟩) (wr.alloc (.cells #[.int .u8 48] 5)) := by
            rw [hm0] at hcv
            exact hcv
          clear hcv
          go_wp2_with fail
          refine ⟨⟨x / 10, UInt8.ofNat (48 + x % 10) :: S, by have := HX.out; omega, by rw [ByteArray.mk_append_mk]; simp, val_int (by rw [HXD.out]), ?_, HBB.out.alloc hbs _⟩, by have := HX0.out; simp [intOf]; omega⟩
          rw [HS.out, recDec_pos x HX0.out, List.append_assoc]
          rfl
  · obtain ⟨N, rfl⟩ := Int.eq_ofNat_of_zero_le (show 0 ≤ n by omega)
    have hN1 : N ≤ 9223372036854775807 := by have := hfit.2; omega
    have hlen := recDec_len N (by omega)
    have HN := Lib.hid hN1
    by_cases hz : N = 0
    · subst hz
      rw [show decL ((0 : Nat) : Int) = [48] from rfl] at d1 d3 d4
      rw [show badL ((0 : Nat) : Int) = [45, 48] from rfl] at d2
      have H1 := Lib.hid d1
      have H2 := Lib.hid d2
      have H3 := Lib.hid (fun W => show Calls Tryd.prog 16 #[.string (⟨#[48]⟩ ++ ⟨#[32]⟩)] W fun e w' => e = .returned (.tuple #[.int .i64 0, .int .i64 5]) ∧ Below W.heap.size W w' from d3 W)
      have H4 := Lib.hid (fun W => show Calls Tryd.prog 18 #[.string ⟨#[48]⟩] W fun e w' => e = .returned (.tuple #[.int .i64 0, .int .i64 0]) ∧ Below W.heap.size W w' from d4 W)
      clear d1 d2 d3 d4 hfit
      go_enter Tryd.func8, Tryd.ntmps8
      go_wp2_with fail
      refine HV.out.mono ?_
      rintro e w1 ⟨rfl, hb1⟩
      have HBB := Lib.hid hb1
      clear hb1
      go_wp2_with fail
      go_loopw [3, 4, 5] (fun a b c wr => a = .string ⟨#[]⟩ ∧ b = .int .i64 0 ∧ wr = w1) (fun _ _ _ _ => 0)
      case atStart => exact ⟨rfl, rfl, rfl⟩
      case round =>
        obtain ⟨rfl, rfl, rfl⟩ := hrel
        go_wp2_with fail
        refine (H1.out _).mono ?_
        rintro e w2 ⟨rfl, hb2⟩
        have hB2 := HBB.out.trans (hb2.mono HBB.out.size)
        clear hb2
        go_wp2_with fail
        refine (H2.out _).mono ?_
        rintro e w3 ⟨rfl, hb3⟩
        have hB3 := hB2.trans (hb3.mono hB2.size)
        clear hb3 hB2
        go_wp2_with fail
        refine (H3.out _).mono ?_
        rintro e w4 ⟨rfl, hb4⟩
        have hB4 := hB3.trans (hb4.mono hB3.size)
        clear hb4 hB3
        go_wp2_with fail
        refine (H4.out _).mono ?_
        rintro e w5 ⟨rfl, hb5⟩
        have hB5 := hB4.trans (hb5.mono hB4.size)
        clear hb5 hB4
        go_wp2
        go_ret
        exact ⟨rfl, hB5⟩
    · have hne := recDec_ne N hz
      have e1 : decL (N : Int) = recDec N := by unfold decL; rw [if_neg (by omega), if_neg (by omega)]; rfl
      have e2 : badL (N : Int) = 48 :: recDec N := by unfold badL; rw [if_neg (by omega), if_neg (by omega)]; rfl
      rw [e1] at d1 d3 d4
      rw [e2] at d2
      have HD1 := Lib.hid d1
      have HD2 := Lib.hid d2
      have HD3 := Lib.hid d3
      have HD4 := Lib.hid d4
      have hlt1 : ¬ ((N : Int) < -999999999) := by omega
      clear d1 d2 d3 d4 hfit e1 e2
      go_enter Tryd.func8, Tryd.ntmps8
      go_wp2_with fail
      refine HV.out.mono ?_
      rintro e w1 ⟨rfl, hb1⟩
      have HB1 := Lib.hid hb1
      clear hb1
      go_wp2_with fail
      go_loopw [3, 4, 5] (fun a b c wr => ∃ (x : Nat) (S : Bytes), x ≤ N ∧ a = .string ⟨S.toArray⟩ ∧ b = .int .i64 x ∧ recDec N = recDec x ++ S ∧ Below w.heap.size w wr) (fun _ b _ _ => (intOf b).toNat)
      case atStart => exact ⟨N, [], Nat.le_refl _, rfl, rfl, by simp, HB1.out⟩
      case round =>
        obtain ⟨x, S, hx, rfl, rfl, hS, hB⟩ := hrel
        have hSl := recDec_snoc_len hS (by have := HN.out; omega)
        by_cases hx0 : x = 0
        · subst hx0
          have hS' : S = recDec N := by rw [hS, recDec_zero]; rfl
          subst hS'
          have HBB := Lib.hid hB
          clear hS hB hx
          generalize recDec N = T at *
          have hne' : (T == ([] : Bytes)) = false := by simpa using hne
          have hov1 : ¬ (9223372036854775807 < (T.length : Int) + 1) := by omega
          have hov2 : ¬ (9223372036854775807 < 1 + (T.length : Int)) := by omega
          have H1 := Lib.hid HD1.out
          have H2 := Lib.hid (fun W => show Calls Tryd.prog 16 #[.string (⟨#[48]⟩ ++ ⟨T.toArray⟩)] W fun e w' => e = .returned (.tuple #[.int .i64 0, .int .i64 5]) ∧ Below W.heap.size W w' by
            have := HD2.out W; rw [ByteArray.mk_append_mk]; simpa using this)
          have H3 := Lib.hid (fun W => show Calls Tryd.prog 16 #[.string (⟨T.toArray⟩ ++ ⟨#[32]⟩)] W fun e w' => e = .returned (.tuple #[.int .i64 0, .int .i64 5]) ∧ Below W.heap.size W w' by
            have := HD3.out W; rw [ByteArray.mk_append_mk]; simpa using this)
          by_cases hq : 999999999 < (N : Int)
          · have H4 := Lib.hid (fun W => show Calls Tryd.prog 18 #[.string ⟨T.toArray⟩] W fun e w' => e = .returned (.tuple #[.int .i64 0, .int .i64 2]) ∧ Below W.heap.size W w' by
              have := HD4.out W; simp only [if_pos (show (N : Int) < -999999999 ∨ 999999999 < (N : Int) from .inr hq)] at this; exact this)
            clear HD1 HD2 HD3 HD4
            go_wp2_with fail
            refine (H1.out _).mono ?_
            rintro e w2 ⟨rfl, hb2⟩
            have hB2 := HBB.out.trans (hb2.mono HBB.out.size)
            clear hb2
            go_wp2_with fail
            refine (H2.out _).mono ?_
            rintro e w3 ⟨rfl, hb3⟩
            have hB3 := hB2.trans (hb3.mono hB2.size)
            clear hb3 hB2
            go_wp2_with fail
            refine (H3.out _).mono ?_
            rintro e w4 ⟨rfl, hb4⟩
            have hB4 := hB3.trans (hb4.mono hB3.size)
            clear hb4 hB3
            go_wp2_with fail
            refine (H4.out _).mono ?_
            rintro e w5 ⟨rfl, hb5⟩
            have hB5 := hB4.trans (hb5.mono hB4.size)
            clear hb5 hB4
            go_wp2
            go_ret
            exact ⟨rfl, hB5⟩
          · have H4 := Lib.hid (fun W => show Calls Tryd.prog 18 #[.string ⟨T.toArray⟩] W fun e w' => e = .returned (.tuple #[.int .i64 N, .int .i64 0]) ∧ Below W.heap.size W w' by
              have := HD4.out W; simp only [if_neg (show ¬ ((N : Int) < -999999999 ∨ 999999999 < (N : Int)) by omega)] at this; exact this)
            clear HD1 HD2 HD3 HD4
            go_wp2_with fail
            refine (H1.out _).mono ?_
            rintro e w2 ⟨rfl, hb2⟩
            have hB2 := HBB.out.trans (hb2.mono HBB.out.size)
            clear hb2
            go_wp2_with fail
            refine (H2.out _).mono ?_
            rintro e w3 ⟨rfl, hb3⟩
            have hB3 := hB2.trans (hb3.mono hB2.size)
            clear hb3 hB2
            go_wp2_with fail
            refine (H3.out _).mono ?_
            rintro e w4 ⟨rfl, hb4⟩
            have hB4 := hB3.trans (hb4.mono hB3.size)
            clear hb4 hB3
            go_wp2_with fail
            refine (H4.out _).mono ?_
            rintro e w5 ⟨rfl, hb5⟩
            have hB5 := hB4.trans (hb5.mono hB4.size)
            clear hb5 hB4
            have hw : IntKind.i64.wrap (N : Int) = N := by rw [IntKind.wrap_i64]; have := HN.out; omega
            have hq2 : (N : Int) ≤ 999999999 := by omega
            clear hq hov1 hov2 hne hne' hlen hSl H1 H2 H3 H4 hN1
            go_wp2
            go_ret
            exact ⟨rfl, hB5⟩
        · have hcv := conv_digit18 wr x
          have hsz : ¬ (9223372036854775807 < 1 + (S.length : Int)) := by omega
          have hx0I : ¬ ((x : Int) = 0) := by omega
          have hbs := hB.size
          have hx9 : (x : Int) ≤ 9223372036854775807 := by have := HN.out; omega
          have hd0 : ¬ ((x : Int) % 10 < 0) := by omega
          have HS := Lib.hid hS
          have HBB := Lib.hid hB
          have HX := Lib.hid hx
          have HX0 := Lib.hid hx0
          clear hS hB hx hx0
          go_wp2_with fail
          have hxd : ((x / 10 : Nat) : Int) = (x : Int) / 10 := by omega
          refine ⟨⟨x / 10, UInt8.ofNat (48 + x % 10) :: S, by have := HX.out; omega, by rw [ByteArray.mk_append_mk]; simp, by go_num, ?_, HBB.out.alloc hbs _⟩, by have := HX0.out; simp [intOf]; omega⟩
          rw [HS.out, recDec_pos x HX0.out, List.append_assoc]
          rfl

end Go.Proofs.YtiedmfpinipppaaDoor
