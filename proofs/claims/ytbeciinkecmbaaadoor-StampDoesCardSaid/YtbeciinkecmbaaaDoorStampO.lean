/- Layer 7, the laws: live, and the walk of StampOrder. -/
import Derived.Test.YtbeciinkecmbaaaDoorStampW
set_option linter.unusedVariables false
namespace Go.Proofs.YtbeciinkecmbaaaDoor
open Go.RowKit

/-! ### The order of texts -/
theorem less_app : ∀ (p q u v : Bytes), p.length = q.length → Op.bytesLess (p ++ u) (q ++ v) = (Op.bytesLess p q || (decide (p = q) && Op.bytesLess u v))
  | [], [], u, v, _ => by simp [Op.bytesLess]
  | a :: p, b :: q, u, v, h => by
    have ih := less_app p q u v (by simpa using h)
    rw [List.cons_append, List.cons_append, Op.bytesLess, Op.bytesLess, ih]
    by_cases hab : a = b
    · subst hab; simp
    · have : (a == b) = false := by simpa using hab
      simp [this, hab]
  | [], _ :: _, _, _, h => by simp at h
  | _ :: _, [], _, _, h => by simp at h
theorem less_self : ∀ l : Bytes, Op.bytesLess l l = false
  | [] => rfl
  | a :: l => by rw [Op.bytesLess, less_self l]; simp
theorem digitsL_inj (m x y : Nat) (hx : x < 10 ^ m) (hy : y < 10 ^ m) (h : digitsL x m = digitsL y m) : x = y := by
  have a := digitsL_num m x hx
  have b := digitsL_num m y hy
  rw [h, b] at a
  omega
theorem dig_lt (a b : Nat) (ha : a < 10) (hb : b < 10) : Op.bytesLess [UInt8.ofNat (48 + a)] [UInt8.ofNat (48 + b)] = decide (a < b) := by
  have e1 := ofNat_dig a ha
  have e2 := ofNat_dig b hb
  have : (UInt8.ofNat (48 + a) < UInt8.ofNat (48 + b)) ↔ a < b := by rw [UInt8.lt_iff_toNat_lt, e1, e2]; omega
  simp only [Op.bytesLess, Bool.and_false, Bool.or_false, this]
theorem less_digits : ∀ (m x y : Nat), x < 10 ^ m → y < 10 ^ m → Op.bytesLess (digitsL x m) (digitsL y m) = decide (x < y)
  | 0, x, y, hx, hy => by
    have : x = 0 := by simpa using hx
    have : y = 0 := by simpa using hy
    subst x y; rfl
  | m + 1, x, y, hx, hy => by
    rw [Nat.pow_succ] at hx hy
    rw [digitsL, digitsL, less_app _ _ _ _ (by rw [digitsL_len, digitsL_len]), less_digits m _ _ (by omega) (by omega), dig_lt _ _ (by omega) (by omega)]
    by_cases he : x / 10 = y / 10
    · rw [he]
      simp only [decide_true, Bool.true_and, Nat.lt_irrefl, decide_false, Bool.false_or]
      rw [decide_eq_decide]; omega
    · have hn : digitsL (x / 10) m ≠ digitsL (y / 10) m := fun h => he (digitsL_inj m _ _ (by omega) (by omega) h)
      rw [decide_eq_false hn, Bool.false_and, Bool.or_false, decide_eq_decide]; omega
theorem less_mid (p q s u v : Bytes) (x y : Bool) (h : p.length = q.length) (hp : Op.bytesLess p q = x) : Op.bytesLess (p ++ (s ++ u)) (q ++ (s ++ v)) = (x || (decide (p = q) && Op.bytesLess u v)) := by
  rw [less_app p q _ _ h, hp, less_app s s u v rfl, less_self]; simp
theorem less_dText (y m d y' m' d' : Nat) (h1 : y < 10000) (h2 : m < 100) (h3 : d < 100) (h1' : y' < 10000) (h2' : m' < 100) (h3' : d' < 100) :
    Op.bytesLess (dText y m d) (dText y' m' d') = decide (y < y' ∨ y = y' ∧ (m < m' ∨ m = m' ∧ d < d')) := by
  unfold dText
  simp only [List.append_assoc]
  rw [less_mid _ _ _ _ _ _ true (by rw [digitsL_len, digitsL_len]) (less_digits 4 y y' h1 h1'), less_mid _ _ _ _ _ _ true (by rw [digitsL_len, digitsL_len]) (less_digits 2 m m' h2 h2'), less_digits 2 d d' h3 h3']
  have e1 : digitsL y 4 = digitsL y' 4 ↔ y = y' := ⟨digitsL_inj 4 y y' h1 h1', fun h => by rw [h]⟩
  have e2 : digitsL m 2 = digitsL m' 2 ↔ m = m' := ⟨digitsL_inj 2 m m' h2 h2', fun h => by rw [h]⟩
  simp only [e1, e2]
  rw [Bool.eq_iff_iff]
  simp
theorem less_iText (y m d y' m' d' : Nat) (h1 : y < 10000) (h2 : m < 100) (h3 : d < 10) (h1' : y' < 10000) (h2' : m' < 100) (h3' : d' < 10) :
    Op.bytesLess (iText y m d) (iText y' m' d') = decide (y < y' ∨ y = y' ∧ (m < m' ∨ m = m' ∧ d < d')) := by
  unfold iText
  simp only [List.append_assoc]
  rw [less_mid _ _ _ _ _ _ true (by rw [digitsL_len, digitsL_len]) (less_digits 4 y y' h1 h1'), less_mid _ _ _ _ _ _ true (by rw [digitsL_len, digitsL_len]) (less_digits 2 m m' h2 h2'), less_digits 1 d d' h3 h3']
  have e1 : digitsL y 4 = digitsL y' 4 ↔ y = y' := ⟨digitsL_inj 4 y y' h1 h1', fun h => by rw [h]⟩
  have e2 : digitsL m 2 = digitsL m' 2 ↔ m = m' := ⟨digitsL_inj 2 m m' h2 h2', fun h => by rw [h]⟩
  simp only [e1, e2]
  rw [Bool.eq_iff_iff]
  simp
theorem order_d (a b : Int) (y m d y' m' d' : Nat) (h : vld y m d) (h' : vld y' m' d') (e : num y m d = a) (e' : num y' m' d' = b) : Op.bytesLess (dText y m d) (dText y' m' d') = decide (a < b) := by
  have k := dim_bd y m
  have k' := dim_bd y' m'
  have n := num_lt y m d y' m' d' h h'
  obtain ⟨h1, h2, h3, h4, h5, h6⟩ := h
  obtain ⟨h1', h2', h3', h4', h5', h6'⟩ := h'
  rw [less_dText y m d y' m' d' (by omega) (by omega) (by omega) (by omega) (by omega) (by omega), decide_eq_decide, ← e, ← e', n]
  omega
theorem order_i (a b : Int) (y m d y' m' d' : Nat) (h0 : 0 ≤ a) (h1 : a < 3068037) (h0' : 0 ≤ b) (h1' : b < 3068037) (h : IsoIs a y m d) (h' : IsoIs b y' m' d') : Op.bytesLess (iText y m d) (iText y' m' d') = decide (a < b) := by
  have n := iso_order a b y m d y' m' d' h0 h1 h0' h1' h h'
  have k := iso_bd a y m d h0 h1 h
  have k' := iso_bd b y' m' d' h0' h1' h'
  rw [less_iText y m d y' m' d' (by omega) (by omega) (by omega) (by omega) (by omega) (by omega), decide_eq_decide, n]
  omega

/-! ### The chapter's example -/
theorem live_d (y m d : Nat) (h : vld y m d) (e : num y m d = 146156) : dText y m d = [50, 48, 48, 48, 45, 48, 50, 45, 50, 57] := by
  obtain ⟨h1, h2, h3⟩ := num_inj y m d 2000 2 29 h (by decide) (by rw [e]; decide)
  have : y = 2000 := by omega
  have : m = 2 := by omega
  have : d = 29 := by omega
  subst y m d
  decide
theorem live_i (y m d : Nat) (h : IsoIs 146156 y m d) : iText y m d = [50, 48, 48, 48, 45, 87, 48, 57, 45, 50] := by
  obtain ⟨h1, h2, h3⟩ := iso_uniq 146156 y m d 2000 9 2 h (by decide)
  have : y = 2000 := by omega
  have : m = 9 := by omega
  have : d = 2 := by omega
  subst y m d
  decide

set_option maxRecDepth 100000 in
set_option maxHeartbeats 1000000 in
theorem law7_live (w : World) (ht : Tab w) :
    Calls Tryd.prog 8 #[] w fun e w' => e = .returned (.bool true) ∧ Below w.heap.size w w' := by
  have HT := Lib.hid (fun W (hb : Below w.heap.size w W) => ht.below hb)
  clear ht
  go_enter Tryd.func8, Tryd.ntmps8
  go_wp2_with fail
  refine (stamp_Print_ok 146156 (by omega) (by omega) _ (HT.out _ (Below.refl _ _))).mono ?_
  rintro e w1 ⟨⟨y, m, d, hv, hn, rfl⟩, hb1⟩
  have hl := live_d y m d hv hn
  rw [hl]
  clear hv hn hl
  go_wp2_with fail
  refine (stamp_PrintIso_ok 146156 (by omega) (by omega) _ (HT.out _ hb1)).mono ?_
  rintro e w2 ⟨⟨y', m', d', hi, rfl⟩, hb2⟩
  have hl := live_i y' m' d' hi
  rw [hl]
  clear hi hl
  go_wp2
  go_ret
  exact ⟨rfl, hb1.trans (hb2.mono hb1.size)⟩

theorem out_of (n : Int) (h : ¬ (0 ≤ n ∧ n < 3068037)) : n < 0 ∨ 3068037 ≤ n := by omega
theorem str_lss (S T : Bytes) (b : Bool) (h : Op.bytesLess S T = b) : Op.bytesLess (ByteArray.mk S.toArray).toList (ByteArray.mk T.toArray).toList = b := by
  rw [ba_toList, ba_toList, ba_mk, ba_mk]; exact h

set_option maxRecDepth 100000 in
set_option maxHeartbeats 2000000 in
theorem walk_StampOrder (w : World) (ht : Tab w) (a : Int) (_wa : (Lit.int .i64 a).wf = true) (b : Int) (_wb : (Lit.int .i64 b).wf = true) :
    Calls Tryd.prog 3 #[.int .i64 a, .int .i64 b] w fun e w' => e = .returned (.bool true) ∧ Below w.heap.size w w' := by
  have HV := Lib.hid (law7_live w ht)
  have HT := Lib.hid (fun W (hb : Below w.heap.size w W) => ht.below hb)
  clear ht
  by_cases ha : 0 ≤ a ∧ a < 3068037
  · by_cases hb : 0 ≤ b ∧ b < 3068037
    · have HA := Lib.hid (fun W hW => stamp_Print_ok a ha.1 ha.2 W hW)
      have HB := Lib.hid (fun W hW => stamp_Print_ok b hb.1 hb.2 W hW)
      have HAI := Lib.hid (fun W hW => stamp_PrintIso_ok a ha.1 ha.2 W hW)
      have HBI := Lib.hid (fun W hW => stamp_PrintIso_ok b hb.1 hb.2 W hW)
      have HR := Lib.hid ha
      have HR' := Lib.hid hb
      clear ha hb
      go_enter Tryd.func3, Tryd.ntmps3
      go_wp2_with fail
      refine HV.out.mono ?_
      rintro e w1 ⟨rfl, hb1⟩
      go_wp2_with fail
      refine (HA.out _ (HT.out _ hb1)).mono ?_
      rintro e w2 ⟨⟨y, m, d, hv, hn, rfl⟩, hb2⟩
      have hB2 := hb1.trans (hb2.mono hb1.size)
      go_wp2_with fail
      refine (HB.out _ (HT.out _ hB2)).mono ?_
      rintro e w3 ⟨⟨y', m', d', hv', hn', rfl⟩, hb3⟩
      have hB3 := hB2.trans (hb3.mono hB2.size)
      have ho := order_d a b y m d y' m' d' hv hv' hn hn'
      have HO := Lib.hid ho
      generalize dText y m d = S at *
      generalize dText y' m' d' = T at *
      clear hv hn hv' hn' ho
      go_wp2_with fail
      refine (HAI.out _ (HT.out _ hB3)).mono ?_
      rintro e w4 ⟨⟨y, m, d, hi, rfl⟩, hb4⟩
      have hB4 := hB3.trans (hb4.mono hB3.size)
      go_wp2_with fail
      refine (HBI.out _ (HT.out _ hB4)).mono ?_
      rintro e w5 ⟨⟨y', m', d', hi', rfl⟩, hb5⟩
      have hB5 := hB4.trans (hb5.mono hB4.size)
      have ho := order_i a b y m d y' m' d' HR.out.1 HR.out.2 HR'.out.1 HR'.out.2 hi hi'
      generalize iText y m d = U at *
      generalize iText y' m' d' = V at *
      have ho1 := HO.out
      have l1 := str_lss S T _ ho1
      have l2 := str_lss U V _ ho
      clear hi hi'
      go_wp2
      go_ret
      exact ⟨ret_bool (by simp), hB5⟩
    · have HA := Lib.hid (fun W hW => stamp_Print_ok a ha.1 ha.2 W hW)
      have HB := Lib.hid (fun W => stamp_Print_no b (out_of b hb) W)
      clear ha hb
      go_enter Tryd.func3, Tryd.ntmps3
      go_wp2_with fail
      refine HV.out.mono ?_
      rintro e w1 ⟨rfl, hb1⟩
      go_wp2_with fail
      refine (HA.out _ (HT.out _ hb1)).mono ?_
      rintro e w2 ⟨⟨y, m, d, hv, hn, rfl⟩, hb2⟩
      have hB2 := hb1.trans (hb2.mono hb1.size)
      clear hv hn
      go_wp2_with fail
      refine (HB.out _).mono ?_
      rintro e w3 ⟨rfl, hb3⟩
      have hB3 := hB2.trans (hb3.mono hB2.size)
      go_wp2
      go_ret
      exact ⟨rfl, hB3⟩
  · have HA := Lib.hid (fun W => stamp_Print_no a (out_of a ha) W)
    clear ha
    by_cases hb : 0 ≤ b ∧ b < 3068037
    · have HB := Lib.hid (fun W hW => stamp_Print_ok b hb.1 hb.2 W hW)
      clear hb
      go_enter Tryd.func3, Tryd.ntmps3
      go_wp2_with fail
      refine HV.out.mono ?_
      rintro e w1 ⟨rfl, hb1⟩
      go_wp2_with fail
      refine (HA.out _).mono ?_
      rintro e w2 ⟨rfl, hb2⟩
      have hB2 := hb1.trans (hb2.mono hb1.size)
      go_wp2_with fail
      refine (HB.out _ (HT.out _ hB2)).mono ?_
      rintro e w3 ⟨⟨y, m, d, hv, hn, rfl⟩, hb3⟩
      have hB3 := hB2.trans (hb3.mono hB2.size)
      go_wp2
      go_ret
      exact ⟨rfl, hB3⟩
    · have HB := Lib.hid (fun W => stamp_Print_no b (out_of b hb) W)
      clear hb
      go_enter Tryd.func3, Tryd.ntmps3
      go_wp2_with fail
      refine HV.out.mono ?_
      rintro e w1 ⟨rfl, hb1⟩
      go_wp2_with fail
      refine (HA.out _).mono ?_
      rintro e w2 ⟨rfl, hb2⟩
      have hB2 := hb1.trans (hb2.mono hb1.size)
      go_wp2_with fail
      refine (HB.out _).mono ?_
      rintro e w3 ⟨rfl, hb3⟩
      have hB3 := hB2.trans (hb3.mono hB2.size)
      go_wp2
      go_ret
      exact ⟨rfl, hB3⟩

end Go.Proofs.YtbeciinkecmbaaaDoor
