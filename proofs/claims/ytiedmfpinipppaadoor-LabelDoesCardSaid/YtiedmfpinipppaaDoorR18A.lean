/- Layer 18, the reference: the walks of most, digits, sign, may, Print, Number. -/
import Derived.Test.YtiedmfpinipppaaDoorLabC
import Derived.BigQuiet
set_option linter.unusedVariables false
namespace Go.Proofs.YtiedmfpinipppaaDoor
open Go.RowKit

theorem conv_digit (w : World) (x : Nat) : (convert 34 9 (.slice (some ⟨w.heap.size, 0, none⟩) 1 1)).run Tryd.prog (w.alloc (.cells #[.int .u8 (48 + (x : Int) % 10)] 5)) =
    .ok (.string ⟨#[UInt8.ofNat (48 + x % 10)]⟩) (w.alloc (.cells #[.int .u8 (48 + (x : Int) % 10)] 5)) := by
  refine run_convert_bytes_back _ _ _ _ ⟨w.heap.size, 0, none⟩ 1 [UInt8.ofNat (48 + x % 10)] Tryd.underlying34 (by kernel_rfl) (by kernel_rfl) ?_
  intro j hj
  simp at hj
  subst hj
  simp [Addr.add]
  omega

set_option maxHeartbeats 1000000 in
theorem ref7_Digits (n m : Nat) (w : World) (hn : n ≤ 9223372036854775807) (hm : m ≤ 1000) :
    Calls Tryd.prog 26 #[.int .i64 n, .int .i64 m] w fun e w' => e = .returned (.string ⟨(digitsL n m).toArray⟩) ∧ Below w.heap.size w w' := by
  go_enter Tryd.func26, Tryd.ntmps26
  go_wp2
  go_loopw [0, 5, 7] (fun a s i wr => ∃ (k x : Nat) (S : Bytes), k ≤ m ∧ x ≤ n ∧ i = .int .i64 k ∧ a = .int .i64 x ∧ s = .string ⟨S.toArray⟩ ∧ S.length = k ∧ Below w.heap.size w wr ∧ digitsL n m = digitsL x (m - k) ++ S) (fun _ _ i _ => m - (intOf i).toNat)
  case atStart => exact ⟨0, n, [], Nat.zero_le _, Nat.le_refl _, rfl, rfl, rfl, rfl, Below.refl _ _, by simp⟩
  case round =>
    obtain ⟨k, x, S, hk, hx, rfl, rfl, rfl, hS, hB, heq⟩ := hrel
    have hbs := hB.size
    have HE := Lib.hid heq
    clear heq
    by_cases hlt : k < m
    · have hcv := conv_digit wr x
      have hsz : ¬ (9223372036854775807 < 1 + (S.length : Int)) := by omega
      go_wp2
      have hx0 : ((x / 10 : Nat) : Int) = (x : Int) / 10 := by omega
      have hd : m - k = (m - (k + 1)) + 1 := by omega
      refine ⟨⟨k + 1, x / 10, UInt8.ofNat (48 + x % 10) :: S, by omega, by omega, by go_num, by go_num, by rw [ByteArray.mk_append_mk]; simp, by simp [hS], hB.alloc hbs _, ?_⟩, by simp [intOf]; omega⟩
      rw [HE.out, hd, digitsL]
      simp
    · have hkm : k = m := by omega
      have HH := Lib.hid (by rw [HE.out, hkm, Nat.sub_self]; rfl : digitsL n m = S)
      go_wp2
      go_ret
      exact ⟨ret_s (by rw [HH.out]), hB⟩

theorem ref18_most (k : Nat) (hk : k < 5) (w : World) : Calls Tryd.prog 46 #[.int .i64 ((k : Int) + 1)] w fun e w' => e = .returned (.int .i64 (mst k)) ∧ Below w.heap.size w w' := by
  have key : ∀ l r : Int, (l = 1 ∧ r = 1) ∨ (l = 2 ∧ r = 2) ∨ (l = 3 ∧ r = 4) ∨ (l = 4 ∧ r = 52) ∨ (l = 5 ∧ r = 60) → Calls Tryd.prog 46 #[.int .i64 l] w fun e w' => e = .returned (.int .i64 r) ∧ Below w.heap.size w w' := by
    intro l r h
    rcases h with ⟨rfl, rfl⟩ | ⟨rfl, rfl⟩ | ⟨rfl, rfl⟩ | ⟨rfl, rfl⟩ | ⟨rfl, rfl⟩
    all_goals
      go_enter Tryd.func46, Tryd.ntmps46
      go_wp2
      go_ret
      exact ⟨rfl, (Below.refl _ _).alloc (Nat.le_refl _) _⟩
  exact key _ _ (by rcases k_cases k hk with rfl | rfl | rfl | rfl | rfl <;> simp [mst])
theorem ref18_digits (k : Nat) (hk : k < 5) (w : World) : Calls Tryd.prog 28 #[.int .i64 ((k : Int) + 1)] w fun e w' => e = .returned (.int .i64 (dgt k)) ∧ Below w.heap.size w w' := by
  have key : ∀ l r : Int, (l = 1 ∧ r = 0) ∨ (l = 2 ∧ r = 1) ∨ (l = 3 ∧ r = 1) ∨ (l = 4 ∧ r = 2) ∨ (l = 5 ∧ r = 2) → Calls Tryd.prog 28 #[.int .i64 l] w fun e w' => e = .returned (.int .i64 r) ∧ Below w.heap.size w w' := by
    intro l r h
    rcases h with ⟨rfl, rfl⟩ | ⟨rfl, rfl⟩ | ⟨rfl, rfl⟩ | ⟨rfl, rfl⟩ | ⟨rfl, rfl⟩
    all_goals
      go_enter Tryd.func28, Tryd.ntmps28
      go_wp2
      go_ret
      exact ⟨rfl, (Below.refl _ _).alloc (Nat.le_refl _) _⟩
  exact key _ _ (by rcases k_cases k hk with rfl | rfl | rfl | rfl | rfl <;> simp [dgt])
theorem ref18_sign (k : Nat) (hk : k < 5) (w : World) : Calls Tryd.prog 27 #[.int .i64 ((k : Int) + 1)] w fun e w' => e = .returned (.string ⟨(sgn k).toArray⟩) ∧ Below w.heap.size w w' := by
  have key : ∀ (l : Int) (r : Bytes), (l = 1 ∧ r = []) ∨ (l = 2 ∧ r = [45, 72]) ∨ (l = 3 ∧ r = [45, 81]) ∨ (l = 4 ∧ r = [45, 80]) ∨ (l = 5 ∧ r = [45, 87]) → Calls Tryd.prog 27 #[.int .i64 l] w fun e w' => e = .returned (.string ⟨r.toArray⟩) ∧ Below w.heap.size w w' := by
    intro l r h
    rcases h with ⟨rfl, rfl⟩ | ⟨rfl, rfl⟩ | ⟨rfl, rfl⟩ | ⟨rfl, rfl⟩ | ⟨rfl, rfl⟩
    all_goals
      go_enter Tryd.func27, Tryd.ntmps27
      go_wp2
      go_ret
      exact ⟨rfl, (Below.refl _ _).alloc (Nat.le_refl _) _⟩
  exact key _ _ (by rcases k_cases k hk with rfl | rfl | rfl | rfl | rfl <;> simp [sgn])

set_option maxRecDepth 100000 in
set_option maxHeartbeats 1000000 in
theorem ref18_may_in (k : Nat) (hk : k < 5) (y i : Int) (h1 : 1601 ≤ y) (h2 : y ≤ 9997) (h3 : 1 ≤ i) (w : World) :
    Calls Tryd.prog 25 #[.agg #[.int .i64 ((k : Int) + 1), .int .i64 y, .int .i64 i]] w fun e w' => e = .returned (.bool (decide (i ≤ mst k))) ∧ Below w.heap.size w w' := by
  have HM := Lib.hid (ref18_most k hk)
  have q0 : (w.alloc (.cells #[.int .i64 ((k : Int) + 1), .int .i64 y, .int .i64 i] 23)).cell? ⟨w.heap.size, 0, none⟩ = some (.int .i64 ((k : Int) + 1)) := by simp
  have q1 : (w.alloc (.cells #[.int .i64 ((k : Int) + 1), .int .i64 y, .int .i64 i] 23)).cell? ⟨w.heap.size, 1, none⟩ = some (.int .i64 y) := by simp
  have q2 : (w.alloc (.cells #[.int .i64 ((k : Int) + 1), .int .i64 y, .int .i64 i] 23)).cell? ⟨w.heap.size, 2, none⟩ = some (.int .i64 i) := by simp
  have hbW : Below w.heap.size w (w.alloc (.cells #[.int .i64 ((k : Int) + 1), .int .i64 y, .int .i64 i] 23)) := by (repeat (first | exact Below.refl _ _ | assumption | refine Below.setCell ?_ (by first | (simp; done) | (simp; omega) | omega) _ | refine Below.alloc ?_ (by first | (simp; done) | (simp; omega) | omega) _ | refine Below.drew ?_ | refine below_drewN ?_ _ | refine Below.trans ?_ (Below.mono (by assumption) (by first | (simp; done) | (simp; omega) | omega))))
  have hzW : w.heap.size < (w.alloc (.cells #[.int .i64 ((k : Int) + 1), .int .i64 y, .int .i64 i] 23)).heap.size := by simp
  have l1 : 1 ≤ (k : Int) + 1 := by omega
  have l2 : (k : Int) + 1 ≤ 5 := by omega
  go_enter Tryd.func25, Tryd.ntmps25
  go_wp2_with fail
  generalize w.alloc (.cells #[.int .i64 ((k : Int) + 1), .int .i64 y, .int .i64 i] 23) = W at *
  have hleW : w.heap.size ≤ W.heap.size := by omega
  go_region_with (go_at_call 46; refine (HM.out _).mono ?_; rintro e w2 ⟨rfl, hbc⟩; have p0 := (hbc.cell (p := ⟨w.heap.size, 0, none⟩) hzW).trans q0; have p1 := (hbc.cell (p := ⟨w.heap.size, 1, none⟩) hzW).trans q1; have p2 := (hbc.cell (p := ⟨w.heap.size, 2, none⟩) hzW).trans q2)
  all_goals
    go_wp2
    go_ret
    exact ⟨rfl, by first | exact hbW.trans (hbc.mono hleW) | exact (Below.drew hbW).trans (hbc.mono hleW) | exact Below.drew (hbW.trans (hbc.mono hleW)) | exact Below.drew ((Below.drew hbW).trans (hbc.mono hleW))⟩

set_option maxRecDepth 100000 in
set_option maxHeartbeats 1000000 in
theorem ref18_may_out (l y i : Int) (h : ¬ (1 ≤ l ∧ l ≤ 5 ∧ 1601 ≤ y ∧ y ≤ 9997 ∧ 1 ≤ i)) (w : World) :
    Calls Tryd.prog 25 #[.agg #[.int .i64 l, .int .i64 y, .int .i64 i]] w fun e w' => e = .returned (.bool false) ∧ Below w.heap.size w w' := by
  have hcase : ¬ 1 ≤ l ∨ (1 ≤ l ∧ ¬ l ≤ 5) ∨ (1 ≤ l ∧ l ≤ 5 ∧ ¬ 1601 ≤ y) ∨ (1 ≤ l ∧ l ≤ 5 ∧ 1601 ≤ y ∧ ¬ y ≤ 9997) ∨ (1 ≤ l ∧ l ≤ 5 ∧ 1601 ≤ y ∧ y ≤ 9997 ∧ ¬ 1 ≤ i) := by omega
  clear h
  rcases hcase with h | ⟨h1, h⟩ | ⟨h1, h2, h⟩ | ⟨h1, h2, h3, h⟩ | ⟨h1, h2, h3, h4, h⟩
  all_goals
    have hd := decide_eq_false h
    clear h
    go_enter Tryd.func25, Tryd.ntmps25
    go_wp2_with fail
    have hbW : Below w.heap.size w (w.alloc (.cells #[.int .i64 l, .int .i64 y, .int .i64 i] 23)) := by (repeat (first | exact Below.refl _ _ | assumption | refine Below.setCell ?_ (by first | (simp; done) | (simp; omega) | omega) _ | refine Below.alloc ?_ (by first | (simp; done) | (simp; omega) | omega) _ | refine Below.drew ?_ | refine below_drewN ?_ _ | refine Below.trans ?_ (Below.mono (by assumption) (by first | (simp; done) | (simp; omega) | omega))))
    go_quiet (fail)
    go_wp2
    go_ret
    exact ⟨rfl, by first | exact hbW | exact below_drewN hbW _⟩
theorem ref18_may (k : Nat) (hk : k < 5) (y i : Int) (w : World) :
    Calls Tryd.prog 25 #[.agg #[.int .i64 ((k : Int) + 1), .int .i64 y, .int .i64 i]] w fun e w' => e = .returned (.bool (decide (1601 ≤ y ∧ y ≤ 9997 ∧ 1 ≤ i ∧ i ≤ mst k))) ∧ Below w.heap.size w w' := by
  by_cases h : 1601 ≤ y ∧ y ≤ 9997 ∧ 1 ≤ i
  · have := ref18_may_in k hk y i h.1 h.2.1 h.2.2 w
    rw [show decide (1601 ≤ y ∧ y ≤ 9997 ∧ 1 ≤ i ∧ i ≤ mst k) = decide (i ≤ mst k) by rw [decide_eq_decide]; exact ⟨fun a => a.2.2.2, fun a => ⟨h.1, h.2.1, h.2.2, a⟩⟩]
    exact this
  · have := ref18_may_out ((k : Int) + 1) y i (fun a => h ⟨a.2.2.1, a.2.2.2.1, a.2.2.2.2⟩) w
    rw [decide_eq_false (fun a => h ⟨a.1, a.2.1, a.2.2.1⟩)]
    exact this
theorem ref18_may_no (l y i : Int) (h : ¬ Writ l y i) (w : World) :
    Calls Tryd.prog 25 #[.agg #[.int .i64 l, .int .i64 y, .int .i64 i]] w fun e w' => e = .returned (.bool false) ∧ Below w.heap.size w w' := by
  by_cases hr : 1 ≤ l ∧ l ≤ 5 ∧ 1601 ≤ y ∧ y ≤ 9997 ∧ 1 ≤ i
  · obtain ⟨k, hk⟩ := Int.eq_ofNat_of_zero_le (show 0 ≤ l - 1 by omega)
    have hl : l = (k : Int) + 1 := by omega
    subst hl
    have := ref18_may_in k (by omega) y i hr.2.2.1 hr.2.2.2.1 hr.2.2.2.2 w
    rw [decide_eq_false (fun hm => h ⟨k, by omega, rfl, hr.2.2.1, hr.2.2.2.1, hr.2.2.2.2, hm⟩)] at this
    exact this
  · exact ref18_may_out l y i hr w

theorem ref18_Print_no (l y i : Int) (h : ¬ Writ l y i) (w : World) :
    Calls Tryd.prog 12 #[.agg #[.int .i64 l, .int .i64 y, .int .i64 i]] w fun e w' => e = .returned (.tuple #[.string ⟨#[]⟩, .int .i64 1]) ∧ Below w.heap.size w w' := by
  have H := Lib.hid (fun W => ref18_may_no l y i h W)
  clear h
  go_enter Tryd.func12, Tryd.ntmps12
  go_wp2_with fail
  refine (H.out _).mono ?_
  rintro e w1 ⟨rfl, hb1⟩
  have hX := below_step (show Below w.heap.size w (w.alloc (.cells #[.int .i64 l, .int .i64 y, .int .i64 i] 23)) by (repeat (first | exact Below.refl _ _ | assumption | refine Below.setCell ?_ (by first | (simp; done) | (simp; omega) | omega) _ | refine Below.alloc ?_ (by first | (simp; done) | (simp; omega) | omega) _ | refine Below.drew ?_ | refine below_drewN ?_ _ | refine Below.trans ?_ (Below.mono (by assumption) (by first | (simp; done) | (simp; omega) | omega))))) (by simp) hb1
  go_wp2
  go_ret2
  exact ⟨rfl, hX⟩

set_option maxRecDepth 100000 in
set_option maxHeartbeats 1000000 in
theorem ref18_Print_yes (k y i : Nat) (hk : k < 5) (h1 : 1601 ≤ y) (h2 : y ≤ 9997) (h3 : 1 ≤ i) (h4 : (i : Int) ≤ mst k) (w : World) :
    Calls Tryd.prog 12 #[.agg #[.int .i64 ((k : Int) + 1), .int .i64 y, .int .i64 i]] w fun e w' => e = .returned (.tuple #[.string ⟨(uText k y i).toArray⟩, .int .i64 0]) ∧ Below w.heap.size w w' := by
  have HW := Lib.hid (fun W => show Calls Tryd.prog 25 #[.agg #[.int .i64 ((k : Int) + 1), .int .i64 y, .int .i64 i]] W fun e w' => e = .returned (.bool true) ∧ Below W.heap.size W w' by
    have := ref18_may k hk y i W
    rw [decide_eq_true ⟨by omega, by omega, by omega, h4⟩] at this
    exact this)
  have HS := Lib.hid (ref18_sign k hk)
  have HD := Lib.hid (ref18_digits k hk)
  have hd2 : dgt k ≤ 2 := by rcases k_cases k hk with rfl | rfl | rfl | rfl | rfl <;> decide
  have hi60 : i ≤ 60 := by rcases k_cases k hk with rfl | rfl | rfl | rfl | rfl <;> simp [mst] at h4 <;> omega
  have PY := Lib.hid (fun W => show Calls Tryd.prog 26 #[.int .i64 (y : Int), .int .i64 4] W fun e w' => e = .returned (.string ⟨(digitsL y 4).toArray⟩) ∧ Below W.heap.size W w' from ref7_Digits y 4 W (by omega) (by omega))
  have PI := Lib.hid (fun W => show Calls Tryd.prog 26 #[.int .i64 (i : Int), .int .i64 (dgt k : Int)] W fun e w' => e = .returned (.string ⟨(digitsL i (dgt k)).toArray⟩) ∧ Below W.heap.size W w' from ref7_Digits i (dgt k) W (by omega) (by omega))
  have hX : uText k y i = digitsL y 4 ++ sgn k ++ digitsL i (dgt k) := rfl
  have HX := Lib.hid hX
  have lY := digitsL_len 4 y
  have lI := digitsL_len (dgt k) i
  have lS : (sgn k).length ≤ 2 := by rcases k_cases k hk with rfl | rfl | rfl | rfl | rfl <;> decide
  have s1 : ¬ (9223372036854775807 < 4 + ((sgn k).length : Int)) := by omega
  have s2 : ¬ (9223372036854775807 < 4 + ((sgn k).length : Int) + (dgt k : Int)) := by omega
  have s3 : ¬ (9223372036854775807 < 4 + (sgn k).length) := by omega
  have s4 : ¬ (9223372036854775807 < 4 + (sgn k).length + dgt k) := by omega
  clear hX
  go_enter Tryd.func12, Tryd.ntmps12
  go_wp2_with fail
  refine (HW.out _).mono ?_
  rintro e w1 ⟨rfl, hb1⟩
  obtain ⟨hx, q0, q1, q2, f0, f1, f2⟩ := blk3 hb1 (heap_alloc_new w (.cells #[.int .i64 ((k : Int) + 1), .int .i64 y, .int .i64 i] 23))
  have hbW : Below w.heap.size w w1 := below_step (by (repeat (first | exact Below.refl _ _ | assumption | refine Below.setCell ?_ (by first | (simp; done) | (simp; omega) | omega) _ | refine Below.alloc ?_ (by first | (simp; done) | (simp; omega) | omega) _ | refine Below.drew ?_ | refine below_drewN ?_ _ | refine Below.trans ?_ (Below.mono (by assumption) (by first | (simp; done) | (simp; omega) | omega))))) (by simp) hb1
  have hzW : w.heap.size < w1.heap.size := by have := hb1.size; simp at this; omega
  clear hx f0 f1 f2 hb1
  go_wp2_with fail
  go_region_held3 (fun W => W.cell? ⟨w.heap.size, 0, none⟩ = some (.int .i64 ((k : Int) + 1)) ∧ W.cell? ⟨w.heap.size, 1, none⟩ = some (.int .i64 (y : Int)) ∧ W.cell? ⟨w.heap.size, 2, none⟩ = some (.int .i64 (i : Int)) ∧ Below w.heap.size w W ∧ w.heap.size < W.heap.size) (first | exact ⟨q0, q1, q2, Below.drew hbW, hzW⟩ | (go_split_ands; refine ⟨?_, ?_, ?_, ?_, ?_⟩ <;> first | assumption | (refine Eq.trans (hbc.cell (by assumption)) ?_; assumption) | exact Below.trans (by assumption) (hbc.mono (by omega)) | (have := hbc.size; omega))) (first
    | (go_at_call 26; ((with_reducible refine Calls.mono (PY.out _) ?_); rintro e w2 ⟨rfl, hbc⟩))
    | (go_at_call 26; ((with_reducible refine Calls.mono (PI.out _) ?_); rintro e w2 ⟨rfl, hbc⟩))
    | (go_at_call 27; ((with_reducible refine Calls.mono (HS.out _) ?_); rintro e w2 ⟨rfl, hbc⟩))
    | (go_at_call 28; ((with_reducible refine Calls.mono (HD.out _) ?_); rintro e w2 ⟨rfl, hbc⟩)))
  all_goals
    go_wp2
    go_ret2
    refine ⟨ret_se (by rw [HX.out]; simp [ByteArray.mk_append_mk]) rfl, ?_⟩
    go_split_ands
    assumption

/-- What Number tells. -/
def numR (l : Bytes) : Int × Bool := if l.all isDigit = true then (numL l, decide (0 < l.length)) else (0, false)
theorem number_data (s : ByteArray) (hs : s.size ≤ 9) : ∃ (N : Nat → Int) (ok : Nat → Prop), N 0 = 0 ∧ ok 0 ∧ (∀ k, ok k → 0 ≤ N k ∧ N k ≤ 1000000000) ∧
    (∀ k (h : k < s.size), ok k → 48 ≤ (s[k].toNat : Int) → (s[k].toNat : Int) ≤ 57 → ok (k + 1) ∧ N (k + 1) = N k * 10 + ((s[k].toNat : Int) - 48)) ∧ (∀ k (h : k < s.size), ¬ (48 ≤ (s[k].toNat : Int) ∧ (s[k].toNat : Int) ≤ 57) → numR s.data.toList = (0, false)) ∧ (ok s.size → numR s.data.toList = (N s.size, decide (0 < s.size))) := by
  obtain ⟨x, N, ok, hx, hN0, hok0, hNb, hyes, hno, hend⟩ := count_data s hs
  refine ⟨N, ok, hN0, hok0, hNb, fun k h ho h1 h2 => ?_, fun k h hn => ?_, fun ho => ?_⟩
  · rw [← (hx k h).1] at h1 h2 ⊢
    exact hyes k h ho h1 h2
  · rw [← (hx k h).1] at hn
    have := hno k h hn
    unfold cntR at this
    unfold numR
    by_cases ha : s.data.toList.all isDigit = true
    · rw [if_pos ha] at this; simp at this
    · rw [if_neg ha]
  · have := hend ho
    unfold cntR at this
    unfold numR
    by_cases ha : s.data.toList.all isDigit = true
    · rw [if_pos ha] at this ⊢
      simp only [Prod.mk.injEq, and_true] at this
      rw [this, ba_len]
    · rw [if_neg ha] at this; simp at this

set_option maxHeartbeats 1000000 in
theorem ref18_Number (s : ByteArray) (w : World) (hs : s.size ≤ 9) :
    Calls Tryd.prog 29 #[.string s] w fun e w' => e = .returned (.tuple #[.int .i64 (numR s.data.toList).1, .bool (numR s.data.toList).2]) ∧ w = w' := by
  obtain ⟨N, ok, hN0, hok0, hNb, hyes, hno, hend⟩ := number_data s hs
  have HNB := Lib.hid hNb
  have HY := Lib.hid hyes
  have HN := Lib.hid hno
  have HE := Lib.hid hend
  have HK0 := Lib.hid hok0
  generalize numR s.data.toList = R at *
  clear hNb hyes hno hend hok0
  go_enter Tryd.func29, Tryd.ntmps29
  go_wp2_with fail
  go_loopw [4, 8] (fun a i wr => ∃ k : Nat, k ≤ s.size ∧ a = .int .i64 (N k) ∧ i = .int .i64 k ∧ wr = w ∧ ok k) (fun _ i _ => s.size - (intOf i).toNat)
  case atStart => exact ⟨0, Nat.zero_le _, by rw [hN0], rfl, rfl, HK0.out⟩
  case round =>
    obtain ⟨k, hk, rfl, rfl, hwr, hok⟩ := hrel
    subst hwr
    have HOK := Lib.hid hok
    have hb := HNB.out k hok
    obtain ⟨hb0, hb1⟩ := hb
    clear hok
    by_cases hlt : k < s.size
    · by_cases h1 : (s[k].toNat : Int) < 48
      · have HR := Lib.hid (HN.out k hlt (by omega))
        go_wp2_with fail
        go_ret2
        exact ⟨ret_ib (by rw [HR.out]) (by rw [HR.out]), rfl⟩
      · by_cases h2 : 57 < (s[k].toNat : Int)
        · have HR := Lib.hid (HN.out k hlt (by omega))
          go_wp2_with fail
          go_ret2
          exact ⟨ret_ib (by rw [HR.out]) (by rw [HR.out]), rfl⟩
        · have hy := HY.out k hlt HOK.out (by omega) (by omega)
          have HYY := Lib.hid hy
          have h48 : 48 ≤ (s[k].toNat : Int) := by omega
          clear hy
          go_wp2_with fail
          exact ⟨⟨k + 1, by omega, val_int (by rw [HYY.out.2]; omega), by go_num, by first | trivial | rfl, HYY.out.1⟩, by simp [intOf]; omega⟩
    · have hks : k = s.size := by omega
      have HR := Lib.hid (show R = (N k, decide (0 < s.size)) by rw [hks]; exact HE.out (by rw [← hks]; exact HOK.out))
      clear hk
      go_wp2_with fail
      go_ret2
      exact ⟨ret_ib (by rw [HR.out]) (by first | (rw [HR.out]; done) | (rw [HR.out]; simp)), rfl⟩

end Go.Proofs.YtiedmfpinipppaaDoor
