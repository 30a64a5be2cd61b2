/- Layer 7, the reference: the walks of Digits, Print, PrintIso, like, number, Parse, ParseIso. -/
import Derived.Test.YtbeciinkecmbaaaDoorRef5X
import Derived.Test.YtbeciinkecmbaaaDoorStampQ
import Derived.Test.YtbeciinkecmbaaaDoorStampO
set_option linter.unusedVariables false
namespace Go.Proofs.YtbeciinkecmbaaaDoor
open Go.RowKit

theorem conv_digit (w : World) (x : Nat) : (convert 27 9 (.slice (some ⟨w.heap.size, 0, none⟩) 1 1)).run Tryd.prog (w.alloc (.cells #[.int .u8 (48 + (x : Int) % 10)] 5)) =
    .ok (.string ⟨#[UInt8.ofNat (48 + x % 10)]⟩) (w.alloc (.cells #[.int .u8 (48 + (x : Int) % 10)] 5)) := by
  refine run_convert_bytes_back _ _ _ _ ⟨w.heap.size, 0, none⟩ 1 [UInt8.ofNat (48 + x % 10)] Tryd.underlying27 (by kernel_rfl) (by kernel_rfl) ?_
  intro j hj
  simp at hj
  subst hj
  simp [Addr.add]
  omega

set_option maxHeartbeats 1000000 in
theorem ref7_Digits (n m : Nat) (w : World) (hn : n ≤ 9223372036854775807) (hm : m ≤ 1000) :
    Calls Tryd.prog 26 #[.int .i64 n, .int .i64 m] w fun e w' => e = .returned (.string ⟨(digitsL n m).toArray⟩) ∧ Below w.heap.size w w' := by
  go_enter Tryd.func26, Tryd.ntmps26
  go_wp2
  go_loopw [0, 5, 7] (fun a s i wr => ∃ (k x : Nat) (S : Bytes), k ≤ m ∧ x ≤ n ∧ i = .int .i64 k ∧ a = .int .i64 x ∧ s = .string ⟨S.toArray⟩ ∧ S.length = k ∧ Below w.heap.size w wr ∧ digitsL n m = digitsL x (m - k) ++ S) (fun _ _ i _ => m - (intOf i).toNat)
  case atStart => exact ⟨0, n, [], Nat.zero_le _, Nat.le_refl _, rfl, rfl, rfl, rfl, Below.refl _ _, by simp⟩
  case round =>
    obtain ⟨k, x, S, hk, hx, rfl, rfl, rfl, hS, hB, heq⟩ := hrel
    have hbs := hB.size
    have HE := Lib.hid heq
    clear heq
    by_cases hlt : k < m
    · have hcv := conv_digit wr x
      have hsz : ¬ (9223372036854775807 < 1 + (S.length : Int)) := by omega
      go_wp2
      have hx0 : ((x / 10 : Nat) : Int) = (x : Int) / 10 := by omega
      have hd : m - k = (m - (k + 1)) + 1 := by omega
      refine ⟨⟨k + 1, x / 10, UInt8.ofNat (48 + x % 10) :: S, by omega, by omega, by go_num, by go_num, by rw [ByteArray.mk_append_mk]; simp, by simp [hS], hB.alloc hbs _, ?_⟩, by simp [intOf]; omega⟩
      rw [HE.out, hd, digitsL]
      simp
    · have hkm : k = m := by omega
      have HH := Lib.hid (by rw [HE.out, hkm, Nat.sub_self]; rfl : digitsL n m = S)
      go_wp2
      go_ret
      exact ⟨ret_s (by rw [HH.out]), hB⟩

set_option maxRecDepth 100000 in
set_option maxHeartbeats 1000000 in
theorem ref7_Print_ok (n : Int) (h0 : 0 ≤ n) (h1 : n < 3068037) (w : World) :
    Calls Tryd.prog 12 #[.int .i64 n] w fun e w' => (∃ y m d : Nat, vld y m d ∧ num y m d = n ∧ e = .returned (.tuple #[.string ⟨(dText y m d).toArray⟩, .int .i64 0])) ∧ Below w.heap.size w w' := by
  go_enter Tryd.func12, Tryd.ntmps12
  go_wp2_with fail
  refine (ref5_Of_ok n h0 h1 _).mono ?_
  rintro e w1 ⟨y, m, d, hv, hn, rfl, hb1⟩
  have hd := dim_bd y m
  obtain ⟨Y, rfl⟩ := Int.eq_ofNat_of_zero_le (show 0 ≤ y by have := hv.1; omega)
  obtain ⟨M, rfl⟩ := Int.eq_ofNat_of_zero_le (show 0 ≤ m by have := hv.2.2.1; omega)
  obtain ⟨D, rfl⟩ := Int.eq_ofNat_of_zero_le (show 0 ≤ d by have := hv.2.2.2.2.1; omega)
  have hY : Y ≤ 9999 := by have := hv.2.1; omega
  have hM : M ≤ 12 := by have := hv.2.2.2.1; omega
  have hD : D ≤ 31 := by have := hv.2.2.2.2.2; omega
  have HV := Lib.hid hv
  have HN := Lib.hid hn
  clear hd hv hn
  have lY := digitsL_len 4 Y
  have lM := digitsL_len 2 M
  have lD := digitsL_len 2 D
  have PY := Lib.hid (fun W => show Calls Tryd.prog 26 #[.int .i64 (Y : Int), .int .i64 4] W fun e w' => e = .returned (.string ⟨(digitsL Y 4).toArray⟩) ∧ Below W.heap.size W w' from ref7_Digits Y 4 W (by omega) (by omega))
  have PM := Lib.hid (fun W => show Calls Tryd.prog 26 #[.int .i64 (M : Int), .int .i64 2] W fun e w' => e = .returned (.string ⟨(digitsL M 2).toArray⟩) ∧ Below W.heap.size W w' from ref7_Digits M 2 W (by omega) (by omega))
  have PD := Lib.hid (fun W => show Calls Tryd.prog 26 #[.int .i64 (D : Int), .int .i64 2] W fun e w' => e = .returned (.string ⟨(digitsL D 2).toArray⟩) ∧ Below W.heap.size W w' from ref7_Digits D 2 W (by omega) (by omega))
  have hX : dText Y M D = digitsL Y 4 ++ [45] ++ digitsL M 2 ++ [45] ++ digitsL D 2 := rfl
  have HX := Lib.hid hX
  clear hX
  have hbW : Below w.heap.size w (w1.alloc (.cells #[.int .i64 (Y : Int), .int .i64 (M : Int), .int .i64 (D : Int)] 35)) := hb1.alloc hb1.size _
  have hzW : w1.heap.size < (w1.alloc (.cells #[.int .i64 (Y : Int), .int .i64 (M : Int), .int .i64 (D : Int)] 35)).heap.size := by simp
  have q0 : (w1.alloc (.cells #[.int .i64 (Y : Int), .int .i64 (M : Int), .int .i64 (D : Int)] 35)).cell? ⟨w1.heap.size, 0, none⟩ = some (.int .i64 (Y : Int)) := by simp
  have q1 : (w1.alloc (.cells #[.int .i64 (Y : Int), .int .i64 (M : Int), .int .i64 (D : Int)] 35)).cell? ⟨w1.heap.size, 1, none⟩ = some (.int .i64 (M : Int)) := by simp
  have q2 : (w1.alloc (.cells #[.int .i64 (Y : Int), .int .i64 (M : Int), .int .i64 (D : Int)] 35)).cell? ⟨w1.heap.size, 2, none⟩ = some (.int .i64 (D : Int)) := by simp
  have hz1 := hb1.size
  go_wp2_with fail
  go_region_held3 (fun W => W.cell? ⟨w1.heap.size, 0, none⟩ = some (.int .i64 (Y : Int)) ∧ W.cell? ⟨w1.heap.size, 1, none⟩ = some (.int .i64 (M : Int)) ∧ W.cell? ⟨w1.heap.size, 2, none⟩ = some (.int .i64 (D : Int)) ∧ Below w.heap.size w W ∧ w1.heap.size < W.heap.size) (first | exact ⟨q0, q1, q2, Below.drew hbW, hzW⟩ | (go_split_ands; refine ⟨?_, ?_, ?_, ?_, ?_⟩ <;> first | assumption | (refine Eq.trans (hbc.cell (by assumption)) ?_; assumption) | exact Below.trans (by assumption) (hbc.mono (by omega)) | (have := hbc.size; omega))) (first
    | (go_at_call 26; ((with_reducible refine Calls.mono (PY.out _) ?_); rintro e w2 ⟨rfl, hbc⟩))
    | (go_at_call 26; ((with_reducible refine Calls.mono (PM.out _) ?_); rintro e w2 ⟨rfl, hbc⟩))
    | (go_at_call 26; ((with_reducible refine Calls.mono (PD.out _) ?_); rintro e w2 ⟨rfl, hbc⟩)))
  all_goals
    go_wp2
    go_ret2
    refine ⟨⟨Y, M, D, HV.out, HN.out, ret_se (by rw [HX.out]; simp [ByteArray.mk_append_mk]) rfl⟩, ?_⟩
    go_split_ands
    assumption

set_option maxRecDepth 100000 in
set_option maxHeartbeats 1000000 in
theorem ref7_PrintIso_ok (n : Int) (h0 : 0 ≤ n) (h1 : n < 3068037) (w : World) :
    Calls Tryd.prog 14 #[.int .i64 n] w fun e w' => (∃ y m d : Nat, IsoIs n y m d ∧ e = .returned (.tuple #[.string ⟨(iText y m d).toArray⟩, .int .i64 0])) ∧ Below w.heap.size w w' := by
  go_enter Tryd.func14, Tryd.ntmps14
  go_wp2_with fail
  refine (ref6_Iso_ok n h0 h1 _).mono ?_
  rintro e w1 ⟨y, m, d, hv, rfl, hb1⟩
  have hbd := iso_bd n y m d h0 h1 hv
  obtain ⟨Y, rfl⟩ := Int.eq_ofNat_of_zero_le (show 0 ≤ y by omega)
  obtain ⟨M, rfl⟩ := Int.eq_ofNat_of_zero_le (show 0 ≤ m by omega)
  obtain ⟨D, rfl⟩ := Int.eq_ofNat_of_zero_le (show 0 ≤ d by omega)
  have hY : Y ≤ 9999 := by omega
  have hM : M ≤ 53 := by omega
  have hD : D ≤ 7 := by omega
  have HV := Lib.hid hv
  clear hbd hv
  have lY := digitsL_len 4 Y
  have lM := digitsL_len 2 M
  have lD := digitsL_len 1 D
  have PY := Lib.hid (fun W => show Calls Tryd.prog 26 #[.int .i64 (Y : Int), .int .i64 4] W fun e w' => e = .returned (.string ⟨(digitsL Y 4).toArray⟩) ∧ Below W.heap.size W w' from ref7_Digits Y 4 W (by omega) (by omega))
  have PM := Lib.hid (fun W => show Calls Tryd.prog 26 #[.int .i64 (M : Int), .int .i64 2] W fun e w' => e = .returned (.string ⟨(digitsL M 2).toArray⟩) ∧ Below W.heap.size W w' from ref7_Digits M 2 W (by omega) (by omega))
  have PD := Lib.hid (fun W => show Calls Tryd.prog 26 #[.int .i64 (D : Int), .int .i64 1] W fun e w' => e = .returned (.string ⟨(digitsL D 1).toArray⟩) ∧ Below W.heap.size W w' from ref7_Digits D 1 W (by omega) (by omega))
  have hX : iText Y M D = digitsL Y 4 ++ [45, 87] ++ digitsL M 2 ++ [45] ++ digitsL D 1 := rfl
  have HX := Lib.hid hX
  clear hX
  have hbW : Below w.heap.size w (w1.alloc (.cells #[.int .i64 (Y : Int), .int .i64 (M : Int), .int .i64 (D : Int)] 39)) := hb1.alloc hb1.size _
  have hzW : w1.heap.size < (w1.alloc (.cells #[.int .i64 (Y : Int), .int .i64 (M : Int), .int .i64 (D : Int)] 39)).heap.size := by simp
  have q0 : (w1.alloc (.cells #[.int .i64 (Y : Int), .int .i64 (M : Int), .int .i64 (D : Int)] 39)).cell? ⟨w1.heap.size, 0, none⟩ = some (.int .i64 (Y : Int)) := by simp
  have q1 : (w1.alloc (.cells #[.int .i64 (Y : Int), .int .i64 (M : Int), .int .i64 (D : Int)] 39)).cell? ⟨w1.heap.size, 1, none⟩ = some (.int .i64 (M : Int)) := by simp
  have q2 : (w1.alloc (.cells #[.int .i64 (Y : Int), .int .i64 (M : Int), .int .i64 (D : Int)] 39)).cell? ⟨w1.heap.size, 2, none⟩ = some (.int .i64 (D : Int)) := by simp
  have hz1 := hb1.size
  go_wp2_with fail
  go_region_held3 (fun W => W.cell? ⟨w1.heap.size, 0, none⟩ = some (.int .i64 (Y : Int)) ∧ W.cell? ⟨w1.heap.size, 1, none⟩ = some (.int .i64 (M : Int)) ∧ W.cell? ⟨w1.heap.size, 2, none⟩ = some (.int .i64 (D : Int)) ∧ Below w.heap.size w W ∧ w1.heap.size < W.heap.size) (first | exact ⟨q0, q1, q2, Below.drew hbW, hzW⟩ | (go_split_ands; refine ⟨?_, ?_, ?_, ?_, ?_⟩ <;> first | assumption | (refine Eq.trans (hbc.cell (by assumption)) ?_; assumption) | exact Below.trans (by assumption) (hbc.mono (by omega)) | (have := hbc.size; omega))) (first
    | (go_at_call 26; ((with_reducible refine Calls.mono (PY.out _) ?_); rintro e w2 ⟨rfl, hbc⟩))
    | (go_at_call 26; ((with_reducible refine Calls.mono (PM.out _) ?_); rintro e w2 ⟨rfl, hbc⟩))
    | (go_at_call 26; ((with_reducible refine Calls.mono (PD.out _) ?_); rintro e w2 ⟨rfl, hbc⟩)))
  all_goals
    go_wp2
    go_ret2
    refine ⟨⟨Y, M, D, HV.out, ret_se (by rw [HX.out]; simp [ByteArray.mk_append_mk]) rfl⟩, ?_⟩
    go_split_ands
    assumption

theorem ref7_Print_no (n : Int) (h : n < 0 ∨ 3068037 ≤ n) (w : World) :
    Calls Tryd.prog 12 #[.int .i64 n] w fun e w' => e = .returned (.tuple #[.string ⟨#[]⟩, .int .i64 4]) ∧ Below w.heap.size w w' := by
  have H := Lib.hid (fun W => ref5_Of_no n h W)
  clear h
  go_enter Tryd.func12, Tryd.ntmps12
  go_wp2_with fail
  refine (H.out _).mono ?_
  rintro e w1 ⟨rfl, hb1⟩
  go_wp2
  go_ret2
  exact ⟨rfl, hb1.alloc hb1.size _⟩
theorem ref7_PrintIso_no (n : Int) (h : n < 0 ∨ 3068037 ≤ n) (w : World) :
    Calls Tryd.prog 14 #[.int .i64 n] w fun e w' => e = .returned (.tuple #[.string ⟨#[]⟩, .int .i64 4]) ∧ Below w.heap.size w w' := by
  have H := Lib.hid (fun W => ref6_Iso_no n h W)
  clear h
  go_enter Tryd.func14, Tryd.ntmps14
  go_wp2_with fail
  refine (H.out _).mono ?_
  rintro e w1 ⟨rfl, hb1⟩
  go_wp2
  go_ret2
  exact ⟨rfl, hb1.alloc hb1.size _⟩

end Go.Proofs.YtbeciinkecmbaaaDoor
