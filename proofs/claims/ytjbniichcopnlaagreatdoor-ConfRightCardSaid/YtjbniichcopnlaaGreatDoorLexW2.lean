import Derived.Test.YtjbniichcopnlaaGreatDoorLexW1
import Derived.Test.YtjbniichcopnlaaGreatDoorPkV1
/- Layer 8 (lex): the walks of the program's sign, number. -/
set_option maxRecDepth 100000
namespace Go.Proofs.YtjbniichcopnlaaGreatDoor
open Go.RowKit

theorem zeroE3 (w : World) : (zeroValue 3).run Tryz.prog w = .ok (.int .i64 0) w := by kernel_rfl

theorem signK_int (c : UInt8) : signK c = if (c.toNat : Int) = 123 then 3 else if (c.toNat : Int) = 125 then 4 else if (c.toNat : Int) = 59 then 5 else 0 := by
  unfold signK
  simp only [← UInt8.toNat_inj]
  have e1 : (123 : UInt8).toNat = 123 := rfl
  have e2 : (125 : UInt8).toNat = 125 := rfl
  have e3 : (59 : UInt8).toNat = 59 := rfl
  rw [e1, e2, e3]
  repeat' split
  all_goals first | rfl | omega

theorem ret_ib {a b : Int} {x y : Bool} (h : a = b) (h' : x = y) : Ending.returned (.tuple #[.int .i64 a, .bool x]) = .returned (.tuple #[.int .i64 b, .bool y]) := by rw [h, h']

set_option maxHeartbeats 400000 in
theorem lex_sign (c : UInt8) (w : World)  :
    Calls Tryz.prog 102 #[.int .u8 c.toNat] w fun e w' => e = .returned (.tuple #[.int .i64 (signK c), .bool (!decide (signK c = 0))]) ∧ Below w.heap.size w w' := by
  have hmm := @run_makeMap Tryz.prog
  have h1 := run_mapUpdate_last (w := w) (es := #[]) (clock := 0) (v := .int .i64 3) Tryz.underlying159 Tryz.underlying5 (.int .u8 123) (by simp) rfl
  have h2 := run_mapUpdate_last (w := w) (es := #[⟨.int .u8 123, .int .i64 3, 0⟩]) (clock := 1) (v := .int .i64 4) Tryz.underlying159 Tryz.underlying5 (.int .u8 125) (by simp; constructor) rfl
  have h3 := run_mapUpdate_last (w := w) (es := #[⟨.int .u8 123, .int .i64 3, 0⟩, ⟨.int .u8 125, .int .i64 4, 1⟩]) (clock := 2) (v := .int .i64 5) Tryz.underlying159 Tryz.underlying5 (.int .u8 59) (by simp; constructor <;> constructor) rfl
  have h4 := run_lookup_ok (w := w.alloc (.map #[⟨.int .u8 123, .int .i64 3, 0⟩, ⟨.int .u8 125, .int .i64 4, 1⟩, ⟨.int .u8 59, .int .i64 5, 2⟩] 3)) Tryz.underlying159 Tryz.underlying5 (.int .u8 (c.toNat : Int)) (by simp; refine ⟨?_, ?_, ?_⟩ <;> constructor) (zeroE3 _) (heap_alloc_new w _)
  have hs := signK_int c
  have HS := Lib.hid hs
  clear hs
  have e : ((findE (.int .u8 (c.toNat : Int)) [⟨.int .u8 123, .int .i64 3, 0⟩, ⟨.int .u8 125, .int .i64 4, 1⟩, ⟨.int .u8 59, .int .i64 5, 2⟩] 0).map (·.2)).getD (.int .i64 0) = .int .i64 (signK c) ∧
      (findE (.int .u8 (c.toNat : Int)) [⟨.int .u8 123, .int .i64 3, 0⟩, ⟨.int .u8 125, .int .i64 4, 1⟩, ⟨.int .u8 59, .int .i64 5, 2⟩] 0).isSome = !decide (signK c = 0) := by
    rw [HS.out]
    simp only [findE, sameKey, beq_iff_eq]
    repeat' split
    all_goals simp_all
  rw [e.1, e.2] at h4
  simp at h1 h2 h3
  clear e
  go_enter Tryz.func102, Tryz.ntmps102
  go_wp2
  go_ret2
  exact ⟨rfl, (Below.refl _ _).alloc (Nat.le_refl _) _⟩

theorem numL_step (s : ByteArray) (k : Nat) (h : k < s.size) : numL (s.data.toList.take (k + 1)) = numL (s.data.toList.take k) * 10 + ((s[k].toNat : Int) - 48) := by
  rw [ba_take_snoc s k h, numL_snoc]

theorem ret_iii {a b c d e f : Int} (h : a = b) (h' : c = d) (h'' : e = f) : Ending.returned (.tuple #[.int .i64 a, .int .i64 c, .int .i64 e]) = .returned (.tuple #[.int .i64 b, .int .i64 d, .int .i64 f]) := by rw [h, h', h'']

theorem ba_head (s : ByteArray) (h : 0 < s.size) : s.data.toList.head? = some s[0] := by
  rw [List.head?_eq_getElem?, ba_get? s 0 h]

theorem head48 (s : ByteArray) (h : 0 < s.size) : s.data.toList.head? = some 48 ↔ (s[0].toNat : Int) = 48 := by
  rw [ba_head s h]
  simp only [Option.some.injEq, ← UInt8.toNat_inj]
  have : (48 : UInt8).toNat = 48 := rfl
  omega

/-- What the number's loop goes over: the bytes as numbers, what is read behind k of them, and the world with the bytes' row. -/
theorem number_data (s : ByteArray) (m : Nat) (w : World) (hm : m = runL isDigit s.data.toList) (h9 : m ≤ 9) :
    ∃ (xs N : Nat → Int) (cap : Nat) (W : World), (convert 9 64 (.string (s.extract 0 m))).run Tryz.prog w = .ok (.slice (some ⟨w.heap.size, 0, none⟩) m cap) W ∧ Below w.heap.size w W ∧
      (∀ k, k < m → W.cell? ⟨w.heap.size, k, none⟩ = some (.int .u8 (xs k)) ∧ 48 ≤ xs k ∧ xs k ≤ 57 ∧ N (k + 1) = N k * 10 + (xs k - 48)) ∧
      (∀ k, 0 ≤ N k ∧ N k ≤ 999999999) ∧ N 0 = 0 ∧ N m = numL (s.data.toList.take m) := by
  have hle : m ≤ s.size := by rw [hm, ← ba_len]; exact runL_le _ _
  have hall := runL_all isDigit s.data.toList
  rw [← hm] at hall
  obtain ⟨t, ht⟩ : ∃ t, t = s.extract 0 m := ⟨_, rfl⟩
  have htl : t.data.toList = s.data.toList.take m := by rw [ht, ba_to]
  have hts : t.size = m := by rw [← ba_len, htl, List.length_take, ba_len]; omega
  obtain ⟨cap, W, hconv, hbW, hcW⟩ := conv_bytes (P := Tryz.prog) w 9 64 5 t Tryz.underlying9 Tryz.underlying64 Tryz.underlying5
  rw [hts] at hconv
  rw [← htl] at hall
  refine ⟨fun k => ((t.data.toList.getD k 0).toNat : Int), fun k => numL (t.data.toList.take k), cap, W, ht ▸ hconv, hbW, fun k hk => ?_, fun k => numL_lt _ k hall (by rw [ba_len]; omega), by simp [numL], by dsimp only; rw [htl, List.take_take, Nat.min_self]⟩
  have hg : t.data.toList.getD k 0 = t[k]'(by omega) := by
    rw [List.getD, ba_get? t k (by omega)]; rfl
  have hd := (isDigit_iff _).1 ((List.all_eq_true.1 hall) (t[k]'(by omega)) (by rw [← ba_get t k (by omega)]; exact List.getElem_mem _))
  dsimp only
  rw [hg]
  refine ⟨hcW k (by omega), by omega, by omega, ?_⟩
  exact numL_step t k (by omega)

set_option maxHeartbeats 1000000 in
theorem lex_number (s : ByteArray) (w : World) (h0 : 0 < s.size) (hs : s.size ≤ maxLen) :
    Calls Tryz.prog 103 #[.string s] w fun e w' => e = .returned (.tuple #[.int .i64 (numberL s.data.toList).1, .int .i64 (numberL s.data.toList).2.1, .int .i64 (numberL s.data.toList).2.2]) ∧ Below w.heap.size w w' := by
  have hs' := hs
  unfold maxLen at hs'
  obtain ⟨m, hm⟩ : ∃ m, m = runL isDigit s.data.toList := ⟨_, rfl⟩
  have hle : m ≤ s.size := by rw [hm, ← ba_len]; exact runL_le _ _
  have hn : numberL s.data.toList = if m > 9 then (0, 0, 6) else if (s[0].toNat : Int) = 48 ∧ m > 1 then (0, 0, 5) else if (s.data.toList[m]?).any isInner then (0, m, 5) else (numL (s.data.toList.take m), m, 0) := by
    unfold numberL
    rw [← hm]
    simp only [head48 s h0]
  have hdat := number_data s m w hm
  have hrun := lex_run_digit s w hs
  rw [← hm] at hrun
  have HR := Lib.hid hrun
  have HN := Lib.hid hn
  clear hrun hn hm
  by_cases h9 : 9 < m
  · clear hdat
    go_enter Tryz.func103, Tryz.ntmps103
    go_wp2_with fail
    refine HR.out.mono ?_; rintro e w' ⟨rfl, rfl⟩
    go_wp2
    go_ret3
    exact ⟨by rw [HN.out, if_pos h9]; rfl, Below.refl _ _⟩
  by_cases hz : (s[0].toNat : Int) = 48 ∧ m > 1
  · clear hdat
    go_enter Tryz.func103, Tryz.ntmps103
    go_wp2_with fail
    refine HR.out.mono ?_; rintro e w' ⟨rfl, rfl⟩
    have hz1 := hz.1
    have hz2 := hz.2
    go_wp2
    go_ret3
    exact ⟨by rw [HN.out, if_neg h9, if_pos hz]; rfl, Below.refl _ _⟩
  obtain ⟨xs, N, cap, W, hconv, hbW, hx, hNb, hN0, hNm⟩ := hdat (by omega)
  have HX := Lib.hid hx
  have HB := Lib.hid hNb
  have HM := Lib.hid hNm
  have H0 := Lib.hid hN0
  have hsz := hbW.size
  clear hx hNb hNm hdat hN0
  have hz1 : (s[0].toNat : Int) = 48 → m ≤ 1 := fun h => by omega
  have hin : (s.data.toList[m]?).any isInner = if h : m < s.size then isInner s[m] else false := by
    by_cases h : m < s.size
    · rw [ba_get? s m h, dif_pos h]; rfl
    · rw [dif_neg h, List.getElem?_eq_none (by simp; omega)]; rfl
  have HI := Lib.hid hin
  clear hin
  go_enter Tryz.func103, Tryz.ntmps103
  go_wp2_with fail
  refine HR.out.mono ?_; rintro e w' ⟨rfl, rfl⟩
  go_wp2_with (first | (go_at_call 66; refine (lex_inner _ _).mono ?_; rintro e w' ⟨rfl, rfl⟩))
  all_goals first
    | (go_ret3; exact ⟨by rw [HN.out, if_neg h9, if_neg hz, HI.out]; simp [*], Below.refl _ _⟩)
    | skip
  all_goals
    go_loop [2, 37] (fun n i => ∃ k : Nat, k ≤ m ∧ i = .int .i64 k ∧ n = .int .i64 (N k)) (fun _ i => m - (intOf i).toNat)
    case atStart => exact ⟨0, Nat.zero_le _, rfl, by rw [H0.out]⟩
    case round =>
      obtain ⟨k, hk, rfl, rfl⟩ := hrel
      have hNk := HB.out k
      by_cases hlt : k < m
      · obtain ⟨hc, hx1, hx2, hNs⟩ := HX.out k hlt
        have hNk' := HB.out (k + 1)
        have HNs := Lib.hid hNs
        clear hNs
        go_wp2_with fail
        go_round
        case rel => exact ⟨k + 1, by omega, by go_num, by rw [HNs.out]⟩
        case measure => simp [intOf]; omega
      · go_wp2_with fail
        go_ret3
        obtain rfl : k = m := by omega
        exact ⟨by rw [HN.out, if_neg h9, if_neg hz, HI.out, ← HM.out]; simp [*], hbW⟩

end Go.Proofs.YtjbniichcopnlaaGreatDoor
