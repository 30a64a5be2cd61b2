/- Layer 7 (stamp): the walks of padded, Print, PrintIso. -/
import Derived.Test.YtbeciinkecmbaaaDoorWeekW
import Derived.Test.YtbeciinkecmbaaaDoorShelf
import Derived.Lib.SmallJoins
import Derived.Lib.ItoaMem
import Derived.Deep.RegionWith
namespace Go.Proofs.YtbeciinkecmbaaaDoor
open Go.RowKit
attribute [local go_sem ↓] Go.wp_at_zero Go.wp_at_succ

/-- The table of powers of ten, as strconv has it. -/
def Tab (w : World) : Prop := Lib.TabIs Tryd.prog w "internal/strconv.uint64pow10" .u64 Lib.pow10Tab
theorem Tab.below {w w' : World} (h : Tab w) (hb : Below w.heap.size w w') : Tab w' :=
  Joins.tab_stays (g := 0) (by kernel_rfl) h hb (Nat.le_refl _)
theorem Tab.drew {w : World} (h : Tab w) : Tab w.drew := h.below ((Below.refl _ _).drew)
theorem below_grow {B : Nat} {a w : World} (h : Below B a w) (hB : B ≤ w.heap.size) (k : Nat) (os : Array Obj) : Below B a (Go.Sort.grow (w.drewN k) os) :=
  h.trans ⟨rfl, rfl, rfl, by simp [Go.Sort.grow], fun i hi => by
    show (w.heap ++ os)[i]? = w.heap[i]?
    rw [Array.getElem?_append_left (by omega)]⟩
/-- strconv.Itoa: below the heap's end the world is as it was. -/
theorem itoa_any (n : Int) (h0 : -9223372036854775808 ≤ n) (h1 : n ≤ 9223372036854775807) (w : World) (ht : Tab w) :
    Calls Tryd.prog 23 #[.int .i64 n] w fun e w' => e = .returned (.string ⟨(Lib.itoa n).toArray⟩) ∧ Below w.heap.size w w' :=
  (Tryd.strconv_Itoa n h0 h1 w ht).mono fun _ _ ⟨he, k, os, hw⟩ => ⟨he, hw ▸ below_grow (Below.refl _ _) (Nat.le_refl _) k os⟩

theorem ret_s {a b : ByteArray} (h : a = b) : Ending.returned (.string a) = .returned (.string b) := by rw [h]
theorem ret_se {k : IntKind} {a b : ByteArray} {x y : Int} (h : a = b) (h' : x = y) : Ending.returned (.tuple #[.string a, .int k x]) = .returned (.tuple #[.string b, .int k y]) := by rw [h, h']

theorem nDigits_le (n : Nat) (k : Nat) (h : n < 10 ^ (k + 1)) : Lib.nDigits n ≤ k + 1 := by
  induction k generalizing n with
  | zero => rw [Lib.nDigits_small (by omega)]; omega
  | succ k ih =>
    by_cases h0 : n < 10
    · rw [Lib.nDigits_small h0]; omega
    · rw [Lib.nDigits_big h0]
      have := ih (n / 10) (by rw [Nat.pow_succ] at h; omega)
      omega
theorem itoa_digits (n : Nat) : Lib.itoa (n : Int) = digitsL n (Lib.nDigits n) := by
  rw [digitsL_dec _ _ rfl, Lib.itoa, if_neg (by omega), Int.toNat_natCast]

/-- A number in so many digits: it has no more. -/
theorem stamp_padded (n m : Nat) (hn : n ≤ 10000) (h : Lib.nDigits n ≤ m) (hm : m ≤ 100) (w : World) (ht : Tab w) :
    Calls Tryd.prog 21 #[.int .i64 n, .int .i64 m] w fun e w' => e = .returned (.string ⟨(digitsL n m).toArray⟩) ∧ Below w.heap.size w w' := by
  have HI := Lib.hid (fun W (hW : Tab W) => itoa_any n (by omega) (by omega) W hW)
  rw [itoa_digits] at HI
  have HT := Lib.hid ht
  clear ht
  obtain ⟨k0, hk0⟩ : ∃ k, k = Lib.nDigits n := ⟨_, rfl⟩
  rw [← hk0] at HI h
  have HK := Lib.hid hk0
  clear hk0
  go_enter Tryd.func21, Tryd.ntmps21
  go_wp2_with fail
  refine (HI.out _ HT.out).mono ?_
  rintro e w1 ⟨rfl, hb1⟩
  go_wp2_with fail
  go_loop [5] (fun s => ∃ (k : Nat) (S : Bytes), k ≤ m ∧ Lib.nDigits n ≤ k ∧ S.length = k ∧ S = digitsL n k ∧ s = .string ⟨S.toArray⟩) (fun s => match s with | .string b => m - b.size | _ => 0)
  case atStart => exact ⟨k0, _, h, by rw [HK.out]; exact Nat.le_refl _, digitsL_len _ _, rfl, rfl⟩
  case round =>
    obtain ⟨k, S, hk, hkn, hl, hS, rfl⟩ := hrel
    have hsz : ¬ (9223372036854775807 < 1 + (S.length : Int)) := by omega
    by_cases hlt : k < m
    · have hx : 48 :: S = digitsL n (k + 1) := by rw [hS, ← digitsL_pad k n hkn]
      have HX := Lib.hid hx
      have hlt' : (S.length : Int) < m := by omega
      clear hx hS
      go_wp2_with fail
      go_round
      case rel => exact ⟨k + 1, 48 :: S, by omega, by omega, by simp [hl], HX.out, by rw [ByteArray.mk_append_mk]; simp⟩
      case measure => rw [ByteArray.mk_append_mk]; simp [ByteArray.size]; omega
    · have HX := Lib.hid (show S = digitsL n m by rw [hS]; congr 1; omega)
      have hlt' : ¬ (S.length : Int) < m := by omega
      clear hS
      go_wp2_with fail
      go_ret
      exact ⟨ret_s (by rw [HX.out]), hb1⟩

set_option maxRecDepth 100000 in
set_option maxHeartbeats 1000000 in
/-- A day's text, or why there is none. -/
theorem stamp_Print_ok (n : Int) (h0 : 0 ≤ n) (h1 : n < 3068037) (w : World) (ht : Tab w) :
    Calls Tryd.prog 9 #[.int .i64 n] w fun e w' => (∃ y m d : Nat, vld y m d ∧ num y m d = n ∧ e = .returned (.tuple #[.string ⟨(dText y m d).toArray⟩, .int .i64 0])) ∧ Below w.heap.size w w' := by
  have HT := Lib.hid (fun W (hb : Below w.heap.size w W) => ht.below hb)
  clear ht
  go_enter Tryd.func9, Tryd.ntmps9
  go_wp2_with fail
  refine (civil_Of_ok n h0 h1 _).mono ?_
  rintro e w1 ⟨y, m, d, hv, hn, rfl, hb1⟩
  have hd := dim_bd y m
  obtain ⟨Y, rfl⟩ := Int.eq_ofNat_of_zero_le (show 0 ≤ y by have := hv.1; omega)
  obtain ⟨M, rfl⟩ := Int.eq_ofNat_of_zero_le (show 0 ≤ m by have := hv.2.2.1; omega)
  obtain ⟨D, rfl⟩ := Int.eq_ofNat_of_zero_le (show 0 ≤ d by have := hv.2.2.2.2.1; omega)
  have hY : Y ≤ 9999 := by have := hv.2.1; omega
  have hM : M ≤ 12 := by have := hv.2.2.2.1; omega
  have hD : D ≤ 31 := by have := hv.2.2.2.2.2; omega
  have nY := nDigits_le Y 3 (by omega)
  have nM := nDigits_le M 1 (by omega)
  have nD := nDigits_le D 1 (by omega)
  have HV := Lib.hid hv
  have HN := Lib.hid hn
  clear hd hv hn
  have lY := digitsL_len 4 Y
  have lM := digitsL_len 2 M
  have lD := digitsL_len 2 D
  have pY : ∀ W, Tab W → Calls Tryd.prog 21 #[.int .i64 (Y : Int), .int .i64 4] W fun e w' => e = .returned (.string ⟨(digitsL Y 4).toArray⟩) ∧ Below W.heap.size W w' := fun W hW => stamp_padded Y 4 (by omega) nY (by omega) W hW
  have PY := Lib.hid pY
  clear pY
  have pM : ∀ W, Tab W → Calls Tryd.prog 21 #[.int .i64 (M : Int), .int .i64 2] W fun e w' => e = .returned (.string ⟨(digitsL M 2).toArray⟩) ∧ Below W.heap.size W w' := fun W hW => stamp_padded M 2 (by omega) nM (by omega) W hW
  have PM := Lib.hid pM
  clear pM
  have pD : ∀ W, Tab W → Calls Tryd.prog 21 #[.int .i64 (D : Int), .int .i64 2] W fun e w' => e = .returned (.string ⟨(digitsL D 2).toArray⟩) ∧ Below W.heap.size W w' := fun W hW => stamp_padded D 2 (by omega) nD (by omega) W hW
  have PD := Lib.hid pD
  clear pD
  have hX : dText Y M D = digitsL Y 4 ++ [45] ++ digitsL M 2 ++ [45] ++ digitsL D 2 := rfl
  have HX := Lib.hid hX
  clear hX
  have hbW : Below w.heap.size w (w1.alloc (.cells #[.int .i64 (Y : Int), .int .i64 (M : Int), .int .i64 (D : Int)] 35)) := hb1.alloc hb1.size _
  have hzW : w1.heap.size < (w1.alloc (.cells #[.int .i64 (Y : Int), .int .i64 (M : Int), .int .i64 (D : Int)] 35)).heap.size := by simp
  have q0 : (w1.alloc (.cells #[.int .i64 (Y : Int), .int .i64 (M : Int), .int .i64 (D : Int)] 35)).cell? ⟨w1.heap.size, 0, none⟩ = some (.int .i64 (Y : Int)) := by simp
  have q1 : (w1.alloc (.cells #[.int .i64 (Y : Int), .int .i64 (M : Int), .int .i64 (D : Int)] 35)).cell? ⟨w1.heap.size, 1, none⟩ = some (.int .i64 (M : Int)) := by simp
  have q2 : (w1.alloc (.cells #[.int .i64 (Y : Int), .int .i64 (M : Int), .int .i64 (D : Int)] 35)).cell? ⟨w1.heap.size, 2, none⟩ = some (.int .i64 (D : Int)) := by simp
  have hz1 := hb1.size
  clear nY nM nD
  go_wp2_with fail
  go_region_held3 (fun W => W.cell? ⟨w1.heap.size, 0, none⟩ = some (.int .i64 (Y : Int)) ∧ W.cell? ⟨w1.heap.size, 1, none⟩ = some (.int .i64 (M : Int)) ∧ W.cell? ⟨w1.heap.size, 2, none⟩ = some (.int .i64 (D : Int)) ∧ Below w.heap.size w W ∧ w1.heap.size < W.heap.size) (first | exact ⟨q0, q1, q2, Below.drew hbW, hzW⟩ | (go_split_ands; refine ⟨?_, ?_, ?_, ?_, ?_⟩ <;> first | assumption | (refine Eq.trans (hbc.cell (by assumption)) ?_; assumption) | exact Below.trans (by assumption) (hbc.mono (by omega)) | (have := hbc.size; omega))) (first
    | (go_at_call 21; ((with_reducible refine Calls.mono (PY.out _ (HT.out _ (by first | assumption | (go_split_ands; assumption)))) ?_); rintro e w2 ⟨rfl, hbc⟩))
    | (go_at_call 21; ((with_reducible refine Calls.mono (PM.out _ (HT.out _ (by first | assumption | (go_split_ands; assumption)))) ?_); rintro e w2 ⟨rfl, hbc⟩))
    | (go_at_call 21; ((with_reducible refine Calls.mono (PD.out _ (HT.out _ (by first | assumption | (go_split_ands; assumption)))) ?_); rintro e w2 ⟨rfl, hbc⟩)))
  all_goals
    go_wp2
    go_ret2
    refine ⟨⟨Y, M, D, HV.out, HN.out, ret_se (by rw [HX.out]; simp [ByteArray.mk_append_mk]) rfl⟩, ?_⟩
    go_split_ands
    assumption

set_option maxRecDepth 100000 in
set_option maxHeartbeats 1000000 in
/-- A day's text by its week, or why there is none. -/
theorem stamp_PrintIso_ok (n : Int) (h0 : 0 ≤ n) (h1 : n < 3068037) (w : World) (ht : Tab w) :
    Calls Tryd.prog 10 #[.int .i64 n] w fun e w' => (∃ y m d : Nat, IsoIs n y m d ∧ e = .returned (.tuple #[.string ⟨(iText y m d).toArray⟩, .int .i64 0])) ∧ Below w.heap.size w w' := by
  have HT := Lib.hid (fun W (hb : Below w.heap.size w W) => ht.below hb)
  clear ht
  go_enter Tryd.func10, Tryd.ntmps10
  go_wp2_with fail
  refine (week_Iso_ok n h0 h1 _).mono ?_
  rintro e w1 ⟨y, m, d, hv, rfl, hb1⟩
  have hbd := iso_bd n y m d h0 h1 hv
  obtain ⟨Y, rfl⟩ := Int.eq_ofNat_of_zero_le (show 0 ≤ y by omega)
  obtain ⟨M, rfl⟩ := Int.eq_ofNat_of_zero_le (show 0 ≤ m by omega)
  obtain ⟨D, rfl⟩ := Int.eq_ofNat_of_zero_le (show 0 ≤ d by omega)
  have hY : Y ≤ 9999 := by omega
  have hM : M ≤ 53 := by omega
  have hD : D ≤ 7 := by omega
  have nY := nDigits_le Y 3 (by omega)
  have nM := nDigits_le M 1 (by omega)
  have nD := nDigits_le D 0 (by omega)
  have HV := Lib.hid hv
  clear hv hbd
  have lY := digitsL_len 4 Y
  have lM := digitsL_len 2 M
  have lD := digitsL_len 1 D
  have pY : ∀ W, Tab W → Calls Tryd.prog 21 #[.int .i64 (Y : Int), .int .i64 4] W fun e w' => e = .returned (.string ⟨(digitsL Y 4).toArray⟩) ∧ Below W.heap.size W w' := fun W hW => stamp_padded Y 4 (by omega) nY (by omega) W hW
  have PY := Lib.hid pY
  clear pY
  have pM : ∀ W, Tab W → Calls Tryd.prog 21 #[.int .i64 (M : Int), .int .i64 2] W fun e w' => e = .returned (.string ⟨(digitsL M 2).toArray⟩) ∧ Below W.heap.size W w' := fun W hW => stamp_padded M 2 (by omega) nM (by omega) W hW
  have PM := Lib.hid pM
  clear pM
  have pD : ∀ W, Tab W → Calls Tryd.prog 23 #[.int .i64 (D : Int)] W fun e w' => e = .returned (.string ⟨(digitsL D 1).toArray⟩) ∧ Below W.heap.size W w' := fun W hW => by
    have h := itoa_any D (by omega) (by omega) W hW
    rw [itoa_digits, show Lib.nDigits D = 1 by have := Lib.nDigits_pos D; omega] at h
    exact h
  have PD := Lib.hid pD
  clear pD
  have hX : iText Y M D = digitsL Y 4 ++ [45, 87] ++ digitsL M 2 ++ [45] ++ digitsL D 1 := rfl
  have HX := Lib.hid hX
  clear hX
  have hbW : Below w.heap.size w (w1.alloc (.cells #[.int .i64 (Y : Int), .int .i64 (M : Int), .int .i64 (D : Int)] 39)) := hb1.alloc hb1.size _
  have hzW : w1.heap.size < (w1.alloc (.cells #[.int .i64 (Y : Int), .int .i64 (M : Int), .int .i64 (D : Int)] 39)).heap.size := by simp
  have q0 : (w1.alloc (.cells #[.int .i64 (Y : Int), .int .i64 (M : Int), .int .i64 (D : Int)] 39)).cell? ⟨w1.heap.size, 0, none⟩ = some (.int .i64 (Y : Int)) := by simp
  have q1 : (w1.alloc (.cells #[.int .i64 (Y : Int), .int .i64 (M : Int), .int .i64 (D : Int)] 39)).cell? ⟨w1.heap.size, 1, none⟩ = some (.int .i64 (M : Int)) := by simp
  have q2 : (w1.alloc (.cells #[.int .i64 (Y : Int), .int .i64 (M : Int), .int .i64 (D : Int)] 39)).cell? ⟨w1.heap.size, 2, none⟩ = some (.int .i64 (D : Int)) := by simp
  have hz1 := hb1.size
  clear nY nM nD
  go_wp2_with fail
  go_region_held3 (fun W => W.cell? ⟨w1.heap.size, 0, none⟩ = some (.int .i64 (Y : Int)) ∧ W.cell? ⟨w1.heap.size, 1, none⟩ = some (.int .i64 (M : Int)) ∧ W.cell? ⟨w1.heap.size, 2, none⟩ = some (.int .i64 (D : Int)) ∧ Below w.heap.size w W ∧ w1.heap.size < W.heap.size) (first | exact ⟨q0, q1, q2, Below.drew hbW, hzW⟩ | (go_split_ands; refine ⟨?_, ?_, ?_, ?_, ?_⟩ <;> first | assumption | (refine Eq.trans (hbc.cell (by assumption)) ?_; assumption) | exact Below.trans (by assumption) (hbc.mono (by omega)) | (have := hbc.size; omega))) (first
    | (go_at_call 21; ((with_reducible refine Calls.mono (PY.out _ (HT.out _ (by first | assumption | (go_split_ands; assumption)))) ?_); rintro e w2 ⟨rfl, hbc⟩))
    | (go_at_call 21; ((with_reducible refine Calls.mono (PM.out _ (HT.out _ (by first | assumption | (go_split_ands; assumption)))) ?_); rintro e w2 ⟨rfl, hbc⟩))
    | (go_at_call 23; ((with_reducible refine Calls.mono (PD.out _ (HT.out _ (by first | assumption | (go_split_ands; assumption)))) ?_); rintro e w2 ⟨rfl, hbc⟩)))
  all_goals
    go_wp2
    go_ret2
    refine ⟨⟨Y, M, D, HV.out, ret_se (by rw [HX.out]; simp [ByteArray.mk_append_mk]) rfl⟩, ?_⟩
    go_split_ands
    assumption

theorem stamp_Print_no (n : Int) (h : n < 0 ∨ 3068037 ≤ n) (w : World) :
    Calls Tryd.prog 9 #[.int .i64 n] w fun e w' => e = .returned (.tuple #[.string ⟨#[]⟩, .int .i64 4]) ∧ Below w.heap.size w w' := by
  have H := Lib.hid (fun W => civil_Of_no n h W)
  clear h
  go_enter Tryd.func9, Tryd.ntmps9
  go_wp2_with fail
  refine (H.out _).mono ?_
  rintro e w1 ⟨rfl, hb1⟩
  go_wp2
  go_ret2
  exact ⟨rfl, hb1.alloc hb1.size _⟩
theorem stamp_PrintIso_no (n : Int) (h : n < 0 ∨ 3068037 ≤ n) (w : World) :
    Calls Tryd.prog 10 #[.int .i64 n] w fun e w' => e = .returned (.tuple #[.string ⟨#[]⟩, .int .i64 4]) ∧ Below w.heap.size w w' := by
  have H := Lib.hid (fun W => week_Iso_no n h W)
  clear h
  go_enter Tryd.func10, Tryd.ntmps10
  go_wp2_with fail
  refine (H.out _).mono ?_
  rintro e w1 ⟨rfl, hb1⟩
  go_wp2
  go_ret2
  exact ⟨rfl, hb1.alloc hb1.size _⟩

end Go.Proofs.YtbeciinkecmbaaaDoor
