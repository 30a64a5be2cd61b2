/- The law LabelOver: its walk. -/
import Derived.Test.YtiedmfpinipppaaDoorAmtW
import Derived.Test.YtiedmfpinipppaaDoorLabL
set_option linter.unusedVariables false
namespace Go.Proofs.YtiedmfpinipppaaDoor
open Go.RowKit

theorem conv_digit18 (w : World) (x : Nat) : (convert 34 9 (.slice (some ⟨w.heap.size, 0, none⟩) 1 1)).run Tryd.prog (w.alloc (.cells #[.int .u8 (48 + (x : Int) % 10)] 5)) =
    .ok (.string ⟨#[UInt8.ofNat (48 + x % 10)]⟩) (w.alloc (.cells #[.int .u8 (48 + (x : Int) % 10)] 5)) := by
  refine run_convert_bytes_back _ _ _ _ ⟨w.heap.size, 0, none⟩ 1 [UInt8.ofNat (48 + x % 10)] Tryd.underlying34 (by kernel_rfl) (by kernel_rfl) ?_
  intro j hj
  simp at hj
  subst hj
  simp [Addr.add]
  omega
theorem wf_u8' {x : Int} (h : (Lit.int .u8 x).wf = true) : 0 ≤ x ∧ x ≤ 255 := by
  simp only [Lit.wf, Bool.and_eq_true, decide_eq_true_eq] at h
  have h1 := h.1
  have h2 := h.2
  simp [IntKind.min, IntKind.max, IntKind.bits, IntKind.signed] at h1 h2
  omega
theorem wf_fit {x : Int} (h : (Lit.int .i64 x).wf = true) : fit x := by
  simp only [Lit.wf, Bool.and_eq_true, decide_eq_true_eq] at h
  have h1 := h.1
  have h2 := h.2
  simp [IntKind.min, IntKind.max, IntKind.bits, IntKind.signed] at h1 h2
  exact ⟨h1, h2⟩
theorem recDec_snoc_len {n x : Nat} {S : Bytes} (h : recDec n = recDec x ++ S) (hn : n ≤ 9223372036854775808) : S.length ≤ 19 := by
  have := recDec_len n hn
  rw [h, List.length_append] at this
  omega
theorem repl_snoc (L : Bytes) (k : Nat) (c : UInt8) : L ++ List.replicate k c ++ [c] = L ++ List.replicate (k + 1) c := by
  rw [List.replicate_succ', List.append_assoc]

set_option maxRecDepth 100000 in
set_option maxHeartbeats 2000000 in
theorem walk_LabelOver (w : World) (ht : Tab w) (n : Int) (wn : (Lit.int .i64 n).wf = true) (more : Int) (wm : (Lit.int .u8 more).wf = true) :
    Calls Tryd.prog 6 #[.int .i64 n, .int .u8 more] w fun e w' => e = .returned (.bool true) ∧ Below w.heap.size w w' := by
  have HV := Lib.hid (law18_live w ht)
  obtain ⟨hm0, hm1⟩ := wf_u8' wm
  have hfit := wf_fit wn
  clear ht wn wm
  by_cases h1 : n < 1
  · go_enter Tryd.func6, Tryd.ntmps6
    go_wp2_with fail
    refine HV.out.mono ?_
    rintro e w1 ⟨rfl, hb1⟩
    go_wp2
    go_ret
    exact ⟨rfl, hb1⟩
  · obtain ⟨N, rfl⟩ := Int.eq_ofNat_of_zero_le (show 0 ≤ n by omega)
    obtain ⟨M, rfl⟩ := Int.eq_ofNat_of_zero_le hm0
    have hN0 : N ≠ 0 := by omega
    have hN1 : N ≤ 9223372036854775807 := by have := hfit.2; omega
    have hlen := recDec_len N (by omega)
    have hL := amt_long N (20 + M % 20 - min (recDec N).length 19) hN0 (by rw [Nat.min_eq_left hlen]; omega)
    obtain ⟨J, hJ⟩ : ∃ J, J = 20 + M % 20 - min (recDec N).length 19 := ⟨_, rfl⟩
    rw [← hJ] at hL
    have hJb : J ≤ 40 := by omega
    have hJi : (20 + (M : Int) % 20 - min ((recDec N).length : Int) 19) = (J : Int) := by rw [hJ]; omega
    have hJw : IntKind.i64.wrap (20 + (M : Int) % 20 - min ((recDec N).length : Int) 19) = (J : Int) := by rw [hJi, IntKind.wrap_i64]; omega
    have hL1 : (recDec N ++ List.replicate J 55).length ≤ 59 := by rw [List.length_append, List.length_replicate]; omega
    have HL1 := Lib.hid hL1
    have HA := Lib.hid (fun W => label_Amount ⟨(recDec N ++ List.replicate J 55).toArray⟩ W (by unfold maxLen; show (recDec N ++ List.replicate J 55).toArray.size ≤ _; rw [List.size_toArray]; omega))
    have HB := Lib.hid (fun W => label_Amount ⟨(45 :: (recDec N ++ List.replicate J 55)).toArray⟩ W (by unfold maxLen; show (45 :: (recDec N ++ List.replicate J 55)).toArray.size ≤ _; rw [List.size_toArray, List.length_cons]; omega))
    have HC := Lib.hid (fun W => label_Amount ⟨(recDec N ++ List.replicate J 55 ++ [120]).toArray⟩ W (by unfold maxLen; show (recDec N ++ List.replicate J 55 ++ [120]).toArray.size ≤ _; rw [List.size_toArray, List.length_append, List.length_singleton]; omega))
    simp only [hL.1] at HA
    simp only [hL.2.1] at HB
    simp only [hL.2.2] at HC
    have HN := Lib.hid hN1
    clear hL hL1 hJ hfit hN0
    go_enter Tryd.func6, Tryd.ntmps6
    go_wp2_with fail
    refine HV.out.mono ?_
    rintro e w1 ⟨rfl, hb1⟩
    have HB1 := Lib.hid hb1
    clear hb1
    go_wp2_with fail
    go_loopw [5, 6] (fun a b wr => ∃ (x : Nat) (S : Bytes), x ≤ N ∧ a = .string ⟨S.toArray⟩ ∧ b = .int .i64 x ∧ recDec N = recDec x ++ S ∧ Below w.heap.size w wr) (fun _ b _ => (intOf b).toNat)
    case atStart => exact ⟨N, [], Nat.le_refl _, rfl, rfl, by simp, HB1.out⟩
    case round =>
      obtain ⟨x, S, hx, rfl, rfl, hS, hB⟩ := hrel
      have hSl := recDec_snoc_len hS (by have := HN.out; omega)
      by_cases hx0 : x = 0
      · subst hx0
        have hS' : S = recDec N := by rw [hS, recDec_zero]; rfl
        subst hS'
        have HBB := Lib.hid hB
        clear hS hB hx
        go_wp2_with fail
        go_loopw [5, 38] (fun a i wq => ∃ k : Nat, k ≤ J ∧ a = .string ⟨(recDec N ++ List.replicate k 55).toArray⟩ ∧ i = .int .i64 k ∧ wq = wr) (fun _ i _ => J - (intOf i).toNat)
        case atStart => exact ⟨0, Nat.zero_le _, by simp, rfl, rfl⟩
        case round =>
          obtain ⟨k, hk, rfl, rfl, rfl⟩ := hrel
          obtain ⟨T, hT⟩ : ∃ T, T = recDec N ++ List.replicate k 55 := ⟨_, rfl⟩
          have hTl : T.length ≤ 59 := by rw [hT, List.length_append, List.length_replicate]; omega
          have HT := Lib.hid hT
          rw [← hT]
          clear hT
          by_cases hlt : k < J
          · have hov : ¬ (9223372036854775807 < (T.length : Int) + 1) := by omega
            go_wp2_with fail
            exact ⟨⟨k + 1, by omega, by rw [ByteArray.mk_append_mk, ← repl_snoc, ← HT.out], by go_num, by first | trivial | rfl⟩, by simp [intOf]; omega⟩
          · have hkJ : k = J := by omega
            rw [← hkJ, ← HT.out] at HA HB HC
            have hov1 : ¬ (9223372036854775807 < (T.length : Int) + 1) := by omega
            have hov2 : ¬ (9223372036854775807 < 1 + (T.length : Int)) := by omega
            have HB2 := Lib.hid (fun W => show Calls Tryd.prog 16 #[.string (⟨#[45]⟩ ++ ⟨T.toArray⟩)] W fun e w' => e = .returned (.tuple #[.int .i64 0, .int .i64 2]) ∧ Below W.heap.size W w' by
              have := HB.out W
              rw [ByteArray.mk_append_mk]
              simpa using this)
            have HC2 := Lib.hid (fun W => show Calls Tryd.prog 16 #[.string (⟨T.toArray⟩ ++ ⟨#[120]⟩)] W fun e w' => e = .returned (.tuple #[.int .i64 0, .int .i64 5]) ∧ Below W.heap.size W w' by
              have := HC.out W
              rw [ByteArray.mk_append_mk]
              simpa using this)
            have hltI : ¬ (k : Int) < J := by omega
            clear HB HC hlt hk hkJ HT
            go_wp2_with fail
            refine (HA.out _).mono ?_
            rintro e w2 ⟨rfl, hb2⟩
            have hB2 := HBB.out.trans (hb2.mono HBB.out.size)
            clear hb2
            go_wp2_with fail
            refine (HB2.out _).mono ?_
            rintro e w3 ⟨rfl, hb3⟩
            have hB3 := hB2.trans (hb3.mono hB2.size)
            clear hb3 hB2
            go_wp2_with fail
            refine (HC2.out _).mono ?_
            rintro e w4 ⟨rfl, hb4⟩
            have hB4 := hB3.trans (hb4.mono hB3.size)
            clear hb4 hB3
            go_wp2
            go_ret
            exact ⟨rfl, hB4⟩
      · have hcv := conv_digit18 wr x
        have hsz : ¬ (9223372036854775807 < 1 + (S.length : Int)) := by omega
        have hx0I : ¬ ((x : Int) = 0) := by omega
        have hbs := hB.size
        have hx9 : (x : Int) ≤ 9223372036854775807 := by have := HN.out; omega
        have HS := Lib.hid hS
        have HBB := Lib.hid hB
        have HX := Lib.hid hx
        have HX0 := Lib.hid hx0
        clear hS hB hx hx0
        go_wp2_with fail
        have hxd : ((x / 10 : Nat) : Int) = (x : Int) / 10 := by omega
        refine ⟨⟨x / 10, UInt8.ofNat (48 + x % 10) :: S, by have := HX.out; omega, by rw [ByteArray.mk_append_mk]; simp, by go_num, ?_, HBB.out.alloc hbs _⟩, by have := HX0.out; simp [intOf]; omega⟩
        rw [HS.out, recDec_pos x HX0.out, List.append_assoc]
        rfl

end Go.Proofs.YtiedmfpinipppaaDoor
