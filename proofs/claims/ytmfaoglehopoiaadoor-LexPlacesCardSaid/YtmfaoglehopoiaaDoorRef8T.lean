/- Layers 7 and 8, the references: Digits, Decimal, text, Join. -/
import Derived.Test.YtmfaoglehopoiaaDoorLexJoin
import Derived.Test.YtmfaoglehopoiaaDoorRef8A
import Derived.Lib.ItoaNum
namespace Go.Proofs.YtmfaoglehopoiaaDoor
open Go.RowKit

theorem ret_bs {a b : ByteArray} (h : a = b) : Ending.returned (.string a) = .returned (.string b) := by rw [h]

/-- So many last digits of a number. -/
def digitsL : Nat → Nat → Bytes
  | _, 0 => []
  | n, m + 1 => digitsL (n / 10) m ++ [UInt8.ofNat (48 + n % 10)]

theorem digitsL_len : ∀ (m n : Nat), (digitsL n m).length = m
  | 0, _ => rfl
  | m + 1, n => by simp [digitsL, digitsL_len m]

theorem digitsL_dec : ∀ (m n : Nat), Lib.nDigits n = m → digitsL n m = Lib.decDigits n := by
  intro m
  induction m with
  | zero => intro n h; have := Lib.nDigits_pos n; omega
  | succ m ih =>
    intro n h
    by_cases h10 : n < 10
    · rw [Lib.decDigits_one h10]
      rw [Lib.nDigits_small h10] at h
      have : m = 0 := by omega
      subst this
      simp [digitsL, Nat.mod_eq_of_lt h10]
    · rw [Lib.nDigits_big h10] at h
      rw [digitsL, ih (n / 10) (by omega)]
      conv => rhs; rw [Lib.decDigits, dif_neg h10]

theorem conv_digit (w : World) (x : Nat) : (convert 44 9 (.slice (some ⟨w.heap.size, 0, none⟩) 1 1)).run Tryd.prog (w.alloc (.cells #[.int .u8 (48 + (x : Int) % 10)] 5)) =
    .ok (.string ⟨#[UInt8.ofNat (48 + x % 10)]⟩) (w.alloc (.cells #[.int .u8 (48 + (x : Int) % 10)] 5)) := by
  refine run_convert_bytes_back _ _ _ _ ⟨w.heap.size, 0, none⟩ 1 [UInt8.ofNat (48 + x % 10)] Tryd.underlying44 (by kernel_rfl) (by kernel_rfl) ?_
  intro j hj
  simp at hj
  subst hj
  simp [Addr.add]
  omega

set_option maxHeartbeats 1000000 in
theorem ref7_Digits (n m : Nat) (w : World) (hn : n ≤ 9223372036854775807) (hm : m ≤ 1000) :
    Calls Tryd.prog 37 #[.int .i64 n, .int .i64 m] w fun e w' => e = .returned (.string ⟨(digitsL n m).toArray⟩) ∧ Below w.heap.size w w' := by
  go_enter Tryd.func37, Tryd.ntmps37
  go_wp2
  go_loopw [0, 5, 7] (fun a s i wr => ∃ (k x : Nat) (S : Bytes), k ≤ m ∧ x ≤ n ∧ i = .int .i64 k ∧ a = .int .i64 x ∧ s = .string ⟨S.toArray⟩ ∧ S.length = k ∧ Below w.heap.size w wr ∧ digitsL n m = digitsL x (m - k) ++ S) (fun _ _ i _ => m - (intOf i).toNat)
  case atStart => exact ⟨0, n, [], Nat.zero_le _, Nat.le_refl _, rfl, rfl, rfl, rfl, Below.refl _ _, by simp⟩
  case round =>
    obtain ⟨k, x, S, hk, hx, rfl, rfl, rfl, hS, hB, heq⟩ := hrel
    have hbs := hB.size
    have HE := Lib.hid heq
    clear heq
    by_cases hlt : k < m
    · have hcv := conv_digit wr x
      have hsz : ¬ (9223372036854775807 < 1 + (S.length : Int)) := by omega
      go_wp2
      have hx0 : ((x / 10 : Nat) : Int) = (x : Int) / 10 := by omega
      have hd : m - k = (m - (k + 1)) + 1 := by omega
      refine ⟨⟨k + 1, x / 10, UInt8.ofNat (48 + x % 10) :: S, by omega, by omega, by go_num, by go_num, by rw [ByteArray.mk_append_mk]; simp, by simp [hS], hB.alloc hbs _, ?_⟩, by simp [intOf]; omega⟩
      rw [HE.out, hd, digitsL]
      simp
    · have hkm : k = m := by omega
      have HH := Lib.hid (by rw [HE.out, hkm, Nat.sub_self]; rfl : digitsL n m = S)
      go_wp2
      go_ret
      exact ⟨ret_bs (by rw [HH.out]), hB⟩

theorem nDigits_le (n : Nat) (h : n ≤ 9223372036854775807) : Lib.nDigits n ≤ 19 := by
  by_cases h0 : n < 10
  · rw [Lib.nDigits_small h0]; omega
  have hk : ∀ (k u : Nat), u < 10 ^ (k + 1) → Lib.nDigits u ≤ k + 1 := by
    intro k
    induction k with
    | zero => intro u hu; rw [Lib.nDigits_small (by omega)]; omega
    | succ k ih =>
      intro u hu
      by_cases h0 : u < 10
      · rw [Lib.nDigits_small h0]; omega
      · rw [Lib.nDigits_big h0]
        have := ih (u / 10) (by rw [Nat.pow_succ] at hu; omega)
        omega
  exact hk 18 n (by omega)

set_option maxHeartbeats 1000000 in
theorem ref8_Decimal (n : Nat) (w : World) (hn : n ≤ 9223372036854775807) :
    Calls Tryd.prog 23 #[.int .i64 n] w fun e w' => e = .returned (.string ⟨(Lib.itoa n).toArray⟩) ∧ Below w.heap.size w w' := by
  have hnd := nDigits_le n hn
  have hi : Lib.itoa n = digitsL n (Lib.nDigits n) := by
    rw [digitsL_dec _ _ rfl, Lib.itoa, if_neg (by omega), Int.toNat_natCast]
  have HI := Lib.hid hi
  have HD := Lib.hid (fun W => ref7_Digits n (Lib.nDigits n) W hn (by omega))
  clear hi
  go_enter Tryd.func23, Tryd.ntmps23
  go_wp2
  go_loopw [3, 4] (fun c x wr => ∃ k m : Nat, c = .int .i64 k ∧ x = .int .i64 m ∧ m ≤ n ∧ wr = w ∧ Lib.nDigits n + 1 = k + Lib.nDigits m) (fun _ x _ => (intOf x).toNat)
  case atStart => exact ⟨1, n, rfl, rfl, Nat.le_refl _, rfl, by omega⟩
  case round =>
    obtain ⟨k, m, rfl, rfl, hm, rfl, hk⟩ := hrel
    have hkk : k ≤ 19 := by have := Lib.nDigits_pos m; omega
    by_cases h10 : 10 ≤ m
    · have hb := Lib.nDigits_big (u := m) (by omega)
      have HK := Lib.hid hk
      have HB := Lib.hid hb
      clear hk hb
      go_wp2
      exact ⟨⟨k + 1, m / 10, by go_num, by go_num, by omega, trivial, by have := HK.out; have := HB.out; omega⟩, by simp [intOf]; omega⟩
    · have hb := Lib.nDigits_small (u := m) (by omega)
      have hkn : k = Lib.nDigits n := by omega
      have HK := Lib.hid hkn
      clear hk hb hkn
      go_wp2_with fail
      rw [HK.out]
      refine (HD.out _).mono ?_
      rintro e w1 ⟨rfl, hb1⟩
      go_wp2
      go_ret
      exact ⟨ret_bs (by rw [HI.out]), hb1⟩

/-- The reference's text of a token. -/
def textR (t : Tok) : Bytes × Bool := if t.kind = 2 then (Lib.itoa (max t.n 0), (textL t).2) else textL t

theorem str_eql (S : Bytes) (w : World) : (binOp .eql 9 (.string ⟨S.toArray⟩) (.string ⟨#[]⟩)).run Tryd.prog w = .ok (.bool (decide (S = []))) w := by
  cases S <;> simp [go_sem]

set_option maxRecDepth 100000 in
set_option maxHeartbeats 2000000 in
theorem ref8_text_1 (t : Tok) (w : World) (hk : t.kind = 1) (hs : t.s.length ≤ maxLen) :
    Calls Tryd.prog 14 #[t.val] w fun e w' => e = .returned (.tuple #[.string ⟨(textR t).1.toArray⟩, .bool (textR t).2]) ∧ Below w.heap.size w w' := by
  obtain ⟨K, P, N, S⟩ := t
  simp only at hk hs
  subst hk
  have hn := fun w => ref8_Name ⟨S.toArray⟩ w (by rw [← ba_len, ba_mk]; exact hs)
  rw [ba_mk] at hn
  rw [show textR ⟨1, P, N, S⟩ = (S, nameL S && decide (N = 0)) from rfl]
  unfold Tok.val
  have HN := Lib.hid hn
  clear hn
  by_cases hN0 : N = 0
  · subst hN0
    generalize nameL S = b at *
    cases b
    all_goals
      go_enter Tryd.func14, Tryd.ntmps14
      go_wp2
      go_quiet (first | (go_at_call 22; exact quiet_add_left (HN.out _)) | (go_at_call 22; exact quiet_left (HN.out _)))
      go_wp2
      go_ret2
      refine ⟨ret_sb rfl (by simp), ?_⟩
      (repeat (first | exact Below.refl _ _ | assumption | refine Below.setCell ?_ (by first | (simp; done) | (simp; omega) | omega) _ | refine Below.alloc ?_ (by first | (simp; done) | (simp; omega) | omega) _ | refine Below.drew ?_ | refine below_drewN ?_ _ | refine Below.trans ?_ (Below.mono (by assumption) (by first | (simp; done) | (simp; omega) | omega))))
  · have hd : (N == 0) = false := beq_eq_false_iff_ne.2 hN0
    have hd' := Lib.hid hN0
    clear hN0
    generalize nameL S = b at *
    cases b
    all_goals
      go_enter Tryd.func14, Tryd.ntmps14
      go_wp2
      go_quiet (first | (go_at_call 22; exact quiet_add_left (HN.out _)) | (go_at_call 22; exact quiet_left (HN.out _)))
      go_wp2
      go_ret2
      refine ⟨ret_sb rfl (by simp [hd'.out]), ?_⟩
      (repeat (first | exact Below.refl _ _ | assumption | refine Below.setCell ?_ (by first | (simp; done) | (simp; omega) | omega) _ | refine Below.alloc ?_ (by first | (simp; done) | (simp; omega) | omega) _ | refine Below.drew ?_ | refine below_drewN ?_ _ | refine Below.trans ?_ (Below.mono (by assumption) (by first | (simp; done) | (simp; omega) | omega))))

set_option maxRecDepth 100000 in
set_option maxHeartbeats 2000000 in
theorem ref8_text_sign (t : Tok) (w : World) (hk : t.kind = 3 ∨ t.kind = 4 ∨ t.kind = 5) :
    Calls Tryd.prog 14 #[t.val] w fun e w' => e = .returned (.tuple #[.string ⟨(textR t).1.toArray⟩, .bool (textR t).2]) ∧ Below w.heap.size w w' := by
  obtain ⟨K, P, N, S⟩ := t
  simp only at hk
  rcases hk with rfl | rfl | rfl
  · rw [show textR ⟨3, P, N, S⟩ = ([123], decide (N = 0 ∧ S = [])) from rfl]
    unfold Tok.val
    by_cases hS0 : S = []
    · subst hS0
      by_cases hN0 : N = 0
      · subst hN0
        go_enter Tryd.func14, Tryd.ntmps14
        go_wp2
        go_quiet (fail)
        go_wp2
        go_ret2
        refine ⟨ret_sb rfl (by simp), ?_⟩
        (repeat (first | exact Below.refl _ _ | assumption | refine Below.setCell ?_ (by first | (simp; done) | (simp; omega) | omega) _ | refine Below.alloc ?_ (by first | (simp; done) | (simp; omega) | omega) _ | refine Below.drew ?_ | refine below_drewN ?_ _ | refine Below.trans ?_ (Below.mono (by assumption) (by first | (simp; done) | (simp; omega) | omega))))
      · have hd : (N == 0) = false := beq_eq_false_iff_ne.2 hN0
        have HX := Lib.hid hN0
        clear hN0
        go_enter Tryd.func14, Tryd.ntmps14
        go_wp2
        go_quiet (fail)
        go_wp2
        go_ret2
        refine ⟨ret_sb rfl (by simp [HX.out]), ?_⟩
        (repeat (first | exact Below.refl _ _ | assumption | refine Below.setCell ?_ (by first | (simp; done) | (simp; omega) | omega) _ | refine Below.alloc ?_ (by first | (simp; done) | (simp; omega) | omega) _ | refine Below.drew ?_ | refine below_drewN ?_ _ | refine Below.trans ?_ (Below.mono (by assumption) (by first | (simp; done) | (simp; omega) | omega))))
    · obtain ⟨c, S', rfl⟩ := List.exists_cons_of_ne_nil hS0
      clear hS0
      go_enter Tryd.func14, Tryd.ntmps14
      go_wp2
      go_quiet (fail)
      go_wp2
      go_ret2
      refine ⟨ret_sb rfl (by simp), ?_⟩
      (repeat (first | exact Below.refl _ _ | assumption | refine Below.setCell ?_ (by first | (simp; done) | (simp; omega) | omega) _ | refine Below.alloc ?_ (by first | (simp; done) | (simp; omega) | omega) _ | refine Below.drew ?_ | refine below_drewN ?_ _ | refine Below.trans ?_ (Below.mono (by assumption) (by first | (simp; done) | (simp; omega) | omega))))
  · rw [show textR ⟨4, P, N, S⟩ = ([125], decide (N = 0 ∧ S = [])) from rfl]
    unfold Tok.val
    by_cases hS0 : S = []
    · subst hS0
      by_cases hN0 : N = 0
      · subst hN0
        go_enter Tryd.func14, Tryd.ntmps14
        go_wp2
        go_quiet (fail)
        go_wp2
        go_ret2
        refine ⟨ret_sb rfl (by simp), ?_⟩
        (repeat (first | exact Below.refl _ _ | assumption | refine Below.setCell ?_ (by first | (simp; done) | (simp; omega) | omega) _ | refine Below.alloc ?_ (by first | (simp; done) | (simp; omega) | omega) _ | refine Below.drew ?_ | refine below_drewN ?_ _ | refine Below.trans ?_ (Below.mono (by assumption) (by first | (simp; done) | (simp; omega) | omega))))
      · have hd : (N == 0) = false := beq_eq_false_iff_ne.2 hN0
        have HX := Lib.hid hN0
        clear hN0
        go_enter Tryd.func14, Tryd.ntmps14
        go_wp2
        go_quiet (fail)
        go_wp2
        go_ret2
        refine ⟨ret_sb rfl (by simp [HX.out]), ?_⟩
        (repeat (first | exact Below.refl _ _ | assumption | refine Below.setCell ?_ (by first | (simp; done) | (simp; omega) | omega) _ | refine Below.alloc ?_ (by first | (simp; done) | (simp; omega) | omega) _ | refine Below.drew ?_ | refine below_drewN ?_ _ | refine Below.trans ?_ (Below.mono (by assumption) (by first | (simp; done) | (simp; omega) | omega))))
    · obtain ⟨c, S', rfl⟩ := List.exists_cons_of_ne_nil hS0
      clear hS0
      go_enter Tryd.func14, Tryd.ntmps14
      go_wp2
      go_quiet (fail)
      go_wp2
      go_ret2
      refine ⟨ret_sb rfl (by simp), ?_⟩
      (repeat (first | exact Below.refl _ _ | assumption | refine Below.setCell ?_ (by first | (simp; done) | (simp; omega) | omega) _ | refine Below.alloc ?_ (by first | (simp; done) | (simp; omega) | omega) _ | refine Below.drew ?_ | refine below_drewN ?_ _ | refine Below.trans ?_ (Below.mono (by assumption) (by first | (simp; done) | (simp; omega) | omega))))
  · rw [show textR ⟨5, P, N, S⟩ = ([59], decide (N = 0 ∧ S = [])) from rfl]
    unfold Tok.val
    by_cases hS0 : S = []
    · subst hS0
      by_cases hN0 : N = 0
      · subst hN0
        go_enter Tryd.func14, Tryd.ntmps14
        go_wp2
        go_quiet (fail)
        go_wp2
        go_ret2
        refine ⟨ret_sb rfl (by simp), ?_⟩
        (repeat (first | exact Below.refl _ _ | assumption | refine Below.setCell ?_ (by first | (simp; done) | (simp; omega) | omega) _ | refine Below.alloc ?_ (by first | (simp; done) | (simp; omega) | omega) _ | refine Below.drew ?_ | refine below_drewN ?_ _ | refine Below.trans ?_ (Below.mono (by assumption) (by first | (simp; done) | (simp; omega) | omega))))
      · have hd : (N == 0) = false := beq_eq_false_iff_ne.2 hN0
        have HX := Lib.hid hN0
        clear hN0
        go_enter Tryd.func14, Tryd.ntmps14
        go_wp2
        go_quiet (fail)
        go_wp2
        go_ret2
        refine ⟨ret_sb rfl (by simp [HX.out]), ?_⟩
        (repeat (first | exact Below.refl _ _ | assumption | refine Below.setCell ?_ (by first | (simp; done) | (simp; omega) | omega) _ | refine Below.alloc ?_ (by first | (simp; done) | (simp; omega) | omega) _ | refine Below.drew ?_ | refine below_drewN ?_ _ | refine Below.trans ?_ (Below.mono (by assumption) (by first | (simp; done) | (simp; omega) | omega))))
    · obtain ⟨c, S', rfl⟩ := List.exists_cons_of_ne_nil hS0
      clear hS0
      go_enter Tryd.func14, Tryd.ntmps14
      go_wp2
      go_quiet (fail)
      go_wp2
      go_ret2
      refine ⟨ret_sb rfl (by simp), ?_⟩
      (repeat (first | exact Below.refl _ _ | assumption | refine Below.setCell ?_ (by first | (simp; done) | (simp; omega) | omega) _ | refine Below.alloc ?_ (by first | (simp; done) | (simp; omega) | omega) _ | refine Below.drew ?_ | refine below_drewN ?_ _ | refine Below.trans ?_ (Below.mono (by assumption) (by first | (simp; done) | (simp; omega) | omega))))

set_option maxRecDepth 100000 in
set_option maxHeartbeats 2000000 in
theorem ref8_text_none (t : Tok) (w : World) (h1 : ¬ t.kind = 1) (h2 : ¬ t.kind = 2) (h3 : ¬ t.kind = 3) (h4 : ¬ t.kind = 4) (h5 : ¬ t.kind = 5) :
    Calls Tryd.prog 14 #[t.val] w fun e w' => e = .returned (.tuple #[.string ⟨(textR t).1.toArray⟩, .bool (textR t).2]) ∧ Below w.heap.size w w' := by
  have htl : textR t = ([], false) := by unfold textR textL; simp only [h1, h2, h3, h4, h5, if_false]
  rw [htl]
  obtain ⟨K, P, N, S⟩ := t
  simp only at h1 h2 h3 h4 h5
  have e1 : (K == 1) = false := beq_eq_false_iff_ne.2 h1
  have e2 : (K == 2) = false := beq_eq_false_iff_ne.2 h2
  have e3 : (K == 3) = false := beq_eq_false_iff_ne.2 h3
  have e4 : (K == 4) = false := beq_eq_false_iff_ne.2 h4
  have e5 : (K == 5) = false := beq_eq_false_iff_ne.2 h5
  unfold Tok.val
  clear htl h1 h2 h3 h4 h5
  go_enter Tryd.func14, Tryd.ntmps14
  go_wp2
  go_ret2
  refine ⟨ret_sb rfl (by simp), ?_⟩
  (repeat (first | exact Below.refl _ _ | assumption | refine Below.setCell ?_ (by first | (simp; done) | (simp; omega) | omega) _ | refine Below.alloc ?_ (by first | (simp; done) | (simp; omega) | omega) _ | refine Below.drew ?_ | refine below_drewN ?_ _ | refine Below.trans ?_ (Below.mono (by assumption) (by first | (simp; done) | (simp; omega) | omega))))

end Go.Proofs.YtmfaoglehopoiaaDoor
