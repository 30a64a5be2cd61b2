import Derived.Test.YtmiejdbpogggeaaProg
import Derived.Test.YtmiejdbpogggeaaPkA
import Derived.WalkKit
import Derived.WalkSpells
import Derived.WalkLawsBesides
import Derived.Lib.Hide
import Derived.Test.YtmiejdbpogggeaaShelf
import Derived.Laws.OwnMore
import Derived.Deep.AppendLies
import Derived.Laws.Closers25
import Derived.Laws.IdiomRangeMap
section
/- Layer 8 (lex): the walks of the program's letter, digit, inner, run, sign, number. -/
namespace Go.Proofs.Ytmiejdbpogggeaa
open Go.RowKit

theorem ret_bool {a b : Bool} (h : a = b) : Ending.returned (.bool a) = .returned (.bool b) := by rw [h]
theorem val_int {k : IntKind} {a b : Int} (h : a = b) : Value.int k a = .int k b := by rw [h]
theorem ret_int {k : IntKind} {a b : Int} (h : a = b) : Ending.returned (.int k a) = .returned (.int k b) := by rw [h]

set_option maxHeartbeats 400000 in
theorem lex_letter (c : UInt8) (w : World) :
    Calls Try.prog 39 #[.int .u8 c.toNat] w fun e w' => e = .returned (.bool (isLetter c)) ∧ w = w' := by
  go_enter Try.func39, Try.ntmps39
  go_wp2
  all_goals (go_ret; exact ⟨ret_bool (by rw [Bool.eq_iff_iff, isLetter_iff]; simp; omega), rfl⟩)

set_option maxHeartbeats 400000 in
theorem lex_digit (c : UInt8) (w : World) :
    Calls Try.prog 72 #[.int .u8 c.toNat] w fun e w' => e = .returned (.bool (isDigit c)) ∧ w = w' := by
  go_enter Try.func72, Try.ntmps72
  go_wp2
  all_goals (go_ret; exact ⟨ret_bool (by rw [Bool.eq_iff_iff, isDigit_iff]; simp; omega), rfl⟩)

theorem isInner_eq (c : UInt8) : isInner c = (isLetter c || isDigit c || ((c.toNat : Int) == 45)) := by
  unfold isInner; rw [u8_eq']; rfl

set_option maxHeartbeats 400000 in
theorem lex_inner (c : UInt8) (w : World) :
    Calls Try.prog 41 #[.int .u8 c.toNat] w fun e w' => e = .returned (.bool (isInner c)) ∧ w = w' := by
  go_enter Try.func41, Try.ntmps41
  go_wp2_with (first | (go_at_call 39; refine (lex_letter _ _).mono ?_; rintro e w' ⟨rfl, rfl⟩) | (go_at_call 72; refine (lex_digit _ _).mono ?_; rintro e w' ⟨rfl, rfl⟩))
  all_goals (go_ret; exact ⟨ret_bool (by simp [isInner_eq, *]), rfl⟩)

set_option maxHeartbeats 400000 in
theorem lex_free1 (c : UInt8) (w : World) :
    Calls Try.prog 89 #[.int .u8 c.toNat] w fun e w' => e = .returned (.bool (notEol c)) ∧ w = w' := by
  go_enter Try.func89, Try.ntmps89
  go_wp2
  all_goals (go_ret; exact ⟨ret_bool (by simp [notEol, bne, u8_eq']), rfl⟩)

set_option maxHeartbeats 400000 in
theorem lex_run (s : ByteArray) (f : FuncId) (p : UInt8 → Bool) (w : World) (hs : s.size ≤ maxLen)
   (hf : ∀ a W, Sem.run Try.prog (callFunc f a) W = .ok (.enter f a) W)
   (hp : ∀ (c : UInt8) W, Calls Try.prog f #[.int .u8 c.toNat] W fun e w' => e = .returned (.bool (p c)) ∧ W = w') :
    Calls Try.prog 40 #[.string s, .func (.func f) #[] #[]] w fun e w' => e = .returned (.int .i64 (runL p s.data.toList)) ∧ w = w' := by
  unfold maxLen at hs
  have HP := Lib.hid hp
  clear hp
  go_enter Try.func40, Try.ntmps40
  go_wp2
  go_loop [5] (fun i => ∃ k : Nat, k ≤ s.size ∧ i = .int .i64 k ∧ k ≤ runL p s.data.toList) (fun i => s.size - (intOf i).toNat)
  case atStart => exact ⟨0, Nat.zero_le _, rfl, Nat.zero_le _⟩
  case round =>
    obtain ⟨k, hk, rfl, hkr⟩ := hrel
    by_cases hlt : k < s.size
    · have hst := runL_ba p s k hlt hkr
      have HS := Lib.hid hst
      clear hst
      go_wp2_with fail
      refine (HP.out _ _).mono ?_; rintro e w' ⟨rfl, rfl⟩
      go_wp2
      · go_round
        case rel => exact ⟨k + 1, by omega, by go_num, HS.out.1 ‹_›⟩
        case measure => simp [intOf]; omega
      · go_ret
        exact ⟨by rw [HS.out.2 (by simpa using ‹_›)]; rfl, rfl⟩
    · have hle := runL_le p s.data.toList
      rw [ba_len] at hle
      have hkk : runL p s.data.toList = k := by omega
      have HK := Lib.hid hkk
      clear hkk hle
      go_wp2_with fail
      go_ret
      exact ⟨by rw [HK.out]; rfl, rfl⟩

theorem callFunc_inner (a : Array Value) (W : World) : Sem.run Try.prog (callFunc 41 a) W = .ok (.enter 41 a) W := by kernel_rfl
theorem callFunc_digit (a : Array Value) (W : World) : Sem.run Try.prog (callFunc 72 a) W = .ok (.enter 72 a) W := by kernel_rfl
theorem callFunc_free1 (a : Array Value) (W : World) : Sem.run Try.prog (callFunc 89 a) W = .ok (.enter 89 a) W := by kernel_rfl

theorem lex_run_inner (s : ByteArray) (w : World) (hs : s.size ≤ maxLen) :
    Calls Try.prog 40 #[.string s, .func (.func 41) #[] #[]] w fun e w' => e = .returned (.int .i64 (runL isInner s.data.toList)) ∧ w = w' :=
  lex_run s _ _ w hs callFunc_inner lex_inner
theorem lex_run_digit (s : ByteArray) (w : World) (hs : s.size ≤ maxLen) :
    Calls Try.prog 40 #[.string s, .func (.func 72) #[] #[]] w fun e w' => e = .returned (.int .i64 (runL isDigit s.data.toList)) ∧ w = w' :=
  lex_run s _ _ w hs callFunc_digit lex_digit
theorem lex_run_eol (s : ByteArray) (w : World) (hs : s.size ≤ maxLen) :
    Calls Try.prog 40 #[.string s, .func (.func 89) #[] #[]] w fun e w' => e = .returned (.int .i64 (runL notEol s.data.toList)) ∧ w = w' :=
  lex_run s _ _ w hs callFunc_free1 lex_free1

end Go.Proofs.Ytmiejdbpogggeaa
end

section
/- Layer 8 (lex): the walks of the program's sign, number. -/
set_option maxRecDepth 100000
namespace Go.Proofs.Ytmiejdbpogggeaa
open Go.RowKit

theorem zeroE3 (w : World) : (zeroValue 3).run Try.prog w = .ok (.int .i64 0) w := by kernel_rfl

theorem signK_int (c : UInt8) : signK c = if (c.toNat : Int) = 123 then 3 else if (c.toNat : Int) = 125 then 4 else if (c.toNat : Int) = 59 then 5 else 0 := by
  unfold signK
  simp only [← UInt8.toNat_inj]
  have e1 : (123 : UInt8).toNat = 123 := rfl
  have e2 : (125 : UInt8).toNat = 125 := rfl
  have e3 : (59 : UInt8).toNat = 59 := rfl
  rw [e1, e2, e3]
  repeat' split
  all_goals first | rfl | omega

theorem ret_ib {a b : Int} {x y : Bool} (h : a = b) (h' : x = y) : Ending.returned (.tuple #[.int .i64 a, .bool x]) = .returned (.tuple #[.int .i64 b, .bool y]) := by rw [h, h']

set_option maxHeartbeats 400000 in
theorem lex_sign (c : UInt8) (w : World)  :
    Calls Try.prog 90 #[.int .u8 c.toNat] w fun e w' => e = .returned (.tuple #[.int .i64 (signK c), .bool (!decide (signK c = 0))]) ∧ Below w.heap.size w w' := by
  have hmm := @run_makeMap Try.prog
  have h1 := run_mapUpdate_last (w := w) (es := #[]) (clock := 0) (v := .int .i64 3) Try.underlying111 Try.underlying5 (.int .u8 123) (by simp) rfl
  have h2 := run_mapUpdate_last (w := w) (es := #[⟨.int .u8 123, .int .i64 3, 0⟩]) (clock := 1) (v := .int .i64 4) Try.underlying111 Try.underlying5 (.int .u8 125) (by simp; constructor) rfl
  have h3 := run_mapUpdate_last (w := w) (es := #[⟨.int .u8 123, .int .i64 3, 0⟩, ⟨.int .u8 125, .int .i64 4, 1⟩]) (clock := 2) (v := .int .i64 5) Try.underlying111 Try.underlying5 (.int .u8 59) (by simp; constructor <;> constructor) rfl
  have h4 := run_lookup_ok (w := w.alloc (.map #[⟨.int .u8 123, .int .i64 3, 0⟩, ⟨.int .u8 125, .int .i64 4, 1⟩, ⟨.int .u8 59, .int .i64 5, 2⟩] 3)) Try.underlying111 Try.underlying5 (.int .u8 (c.toNat : Int)) (by simp; refine ⟨?_, ?_, ?_⟩ <;> constructor) (zeroE3 _) (heap_alloc_new w _)
  have hs := signK_int c
  have HS := Lib.hid hs
  clear hs
  have e : ((findE (.int .u8 (c.toNat : Int)) [⟨.int .u8 123, .int .i64 3, 0⟩, ⟨.int .u8 125, .int .i64 4, 1⟩, ⟨.int .u8 59, .int .i64 5, 2⟩] 0).map (·.2)).getD (.int .i64 0) = .int .i64 (signK c) ∧
      (findE (.int .u8 (c.toNat : Int)) [⟨.int .u8 123, .int .i64 3, 0⟩, ⟨.int .u8 125, .int .i64 4, 1⟩, ⟨.int .u8 59, .int .i64 5, 2⟩] 0).isSome = !decide (signK c = 0) := by
    rw [HS.out]
    simp only [findE, sameKey, beq_iff_eq]
    repeat' split
    all_goals simp_all
  rw [e.1, e.2] at h4
  simp at h1 h2 h3
  clear e
  go_enter Try.func90, Try.ntmps90
  go_wp2
  go_ret2
  exact ⟨rfl, (Below.refl _ _).alloc (Nat.le_refl _) _⟩

theorem numL_step (s : ByteArray) (k : Nat) (h : k < s.size) : numL (s.data.toList.take (k + 1)) = numL (s.data.toList.take k) * 10 + ((s[k].toNat : Int) - 48) := by
  rw [ba_take_snoc s k h, numL_snoc]

theorem ret_iii {a b c d e f : Int} (h : a = b) (h' : c = d) (h'' : e = f) : Ending.returned (.tuple #[.int .i64 a, .int .i64 c, .int .i64 e]) = .returned (.tuple #[.int .i64 b, .int .i64 d, .int .i64 f]) := by rw [h, h', h'']

theorem ba_head (s : ByteArray) (h : 0 < s.size) : s.data.toList.head? = some s[0] := by
  rw [List.head?_eq_getElem?, ba_get? s 0 h]

theorem head48 (s : ByteArray) (h : 0 < s.size) : s.data.toList.head? = some 48 ↔ (s[0].toNat : Int) = 48 := by
  rw [ba_head s h]
  simp only [Option.some.injEq, ← UInt8.toNat_inj]
  have : (48 : UInt8).toNat = 48 := rfl
  omega

/-- What the number's loop goes over: the bytes as numbers, what is read behind k of them, and the world with the bytes' row. -/
theorem number_data (s : ByteArray) (m : Nat) (w : World) (hm : m = runL isDigit s.data.toList) (h9 : m ≤ 9) :
    ∃ (xs N : Nat → Int) (cap : Nat) (W : World), (convert 9 112 (.string (s.extract 0 m))).run Try.prog w = .ok (.slice (some ⟨w.heap.size, 0, none⟩) m cap) W ∧ Below w.heap.size w W ∧
      (∀ k, k < m → W.cell? ⟨w.heap.size, k, none⟩ = some (.int .u8 (xs k)) ∧ 48 ≤ xs k ∧ xs k ≤ 57 ∧ N (k + 1) = N k * 10 + (xs k - 48)) ∧
      (∀ k, 0 ≤ N k ∧ N k ≤ 999999999) ∧ N 0 = 0 ∧ N m = numL (s.data.toList.take m) := by
  have hle : m ≤ s.size := by rw [hm, ← ba_len]; exact runL_le _ _
  have hall := runL_all isDigit s.data.toList
  rw [← hm] at hall
  obtain ⟨t, ht⟩ : ∃ t, t = s.extract 0 m := ⟨_, rfl⟩
  have htl : t.data.toList = s.data.toList.take m := by rw [ht, ba_to]
  have hts : t.size = m := by rw [← ba_len, htl, List.length_take, ba_len]; omega
  obtain ⟨cap, W, hconv, hbW, hcW⟩ := conv_bytes (P := Try.prog) w 9 112 5 t Try.underlying9 Try.underlying112 Try.underlying5
  rw [hts] at hconv
  rw [← htl] at hall
  refine ⟨fun k => ((t.data.toList.getD k 0).toNat : Int), fun k => numL (t.data.toList.take k), cap, W, ht ▸ hconv, hbW, fun k hk => ?_, fun k => numL_lt _ k hall (by rw [ba_len]; omega), by simp [numL], by dsimp only; rw [htl, List.take_take, Nat.min_self]⟩
  have hg : t.data.toList.getD k 0 = t[k]'(by omega) := by
    rw [List.getD, ba_get? t k (by omega)]; rfl
  have hd := (isDigit_iff _).1 ((List.all_eq_true.1 hall) (t[k]'(by omega)) (by rw [← ba_get t k (by omega)]; exact List.getElem_mem _))
  dsimp only
  rw [hg]
  refine ⟨hcW k (by omega), by omega, by omega, ?_⟩
  exact numL_step t k (by omega)

set_option maxHeartbeats 1000000 in
theorem lex_number (s : ByteArray) (w : World) (h0 : 0 < s.size) (hs : s.size ≤ maxLen) :
    Calls Try.prog 91 #[.string s] w fun e w' => e = .returned (.tuple #[.int .i64 (numberL s.data.toList).1, .int .i64 (numberL s.data.toList).2.1, .int .i64 (numberL s.data.toList).2.2]) ∧ Below w.heap.size w w' := by
  have hs' := hs
  unfold maxLen at hs'
  obtain ⟨m, hm⟩ : ∃ m, m = runL isDigit s.data.toList := ⟨_, rfl⟩
  have hle : m ≤ s.size := by rw [hm, ← ba_len]; exact runL_le _ _
  have hn : numberL s.data.toList = if m > 9 then (0, 0, 6) else if (s[0].toNat : Int) = 48 ∧ m > 1 then (0, 0, 5) else if (s.data.toList[m]?).any isInner then (0, m, 5) else (numL (s.data.toList.take m), m, 0) := by
    unfold numberL
    rw [← hm]
    simp only [head48 s h0]
  have hdat := number_data s m w hm
  have hrun := lex_run_digit s w hs
  rw [← hm] at hrun
  have HR := Lib.hid hrun
  have HN := Lib.hid hn
  clear hrun hn hm
  by_cases h9 : 9 < m
  · clear hdat
    go_enter Try.func91, Try.ntmps91
    go_wp2_with fail
    refine HR.out.mono ?_; rintro e w' ⟨rfl, rfl⟩
    go_wp2
    go_ret3
    exact ⟨by rw [HN.out, if_pos h9]; rfl, Below.refl _ _⟩
  by_cases hz : (s[0].toNat : Int) = 48 ∧ m > 1
  · clear hdat
    go_enter Try.func91, Try.ntmps91
    go_wp2_with fail
    refine HR.out.mono ?_; rintro e w' ⟨rfl, rfl⟩
    have hz1 := hz.1
    have hz2 := hz.2
    go_wp2
    go_ret3
    exact ⟨by rw [HN.out, if_neg h9, if_pos hz]; rfl, Below.refl _ _⟩
  obtain ⟨xs, N, cap, W, hconv, hbW, hx, hNb, hN0, hNm⟩ := hdat (by omega)
  have HX := Lib.hid hx
  have HB := Lib.hid hNb
  have HM := Lib.hid hNm
  have H0 := Lib.hid hN0
  have hsz := hbW.size
  clear hx hNb hNm hdat hN0
  have hz1 : (s[0].toNat : Int) = 48 → m ≤ 1 := fun h => by omega
  have hin : (s.data.toList[m]?).any isInner = if h : m < s.size then isInner s[m] else false := by
    by_cases h : m < s.size
    · rw [ba_get? s m h, dif_pos h]; rfl
    · rw [dif_neg h, List.getElem?_eq_none (by simp; omega)]; rfl
  have HI := Lib.hid hin
  clear hin
  go_enter Try.func91, Try.ntmps91
  go_wp2_with fail
  refine HR.out.mono ?_; rintro e w' ⟨rfl, rfl⟩
  go_wp2_with (first | (go_at_call 41; refine (lex_inner _ _).mono ?_; rintro e w' ⟨rfl, rfl⟩))
  all_goals first
    | (go_ret3; exact ⟨by rw [HN.out, if_neg h9, if_neg hz, HI.out]; simp [*], Below.refl _ _⟩)
    | skip
  all_goals
    go_loop [2, 37] (fun n i => ∃ k : Nat, k ≤ m ∧ i = .int .i64 k ∧ n = .int .i64 (N k)) (fun _ i => m - (intOf i).toNat)
    case atStart => exact ⟨0, Nat.zero_le _, rfl, by rw [H0.out]⟩
    case round =>
      obtain ⟨k, hk, rfl, rfl⟩ := hrel
      have hNk := HB.out k
      by_cases hlt : k < m
      · obtain ⟨hc, hx1, hx2, hNs⟩ := HX.out k hlt
        have hNk' := HB.out (k + 1)
        have HNs := Lib.hid hNs
        clear hNs
        go_wp2_with fail
        go_round
        case rel => exact ⟨k + 1, by omega, by go_num, by rw [HNs.out]⟩
        case measure => simp [intOf]; omega
      · go_wp2_with fail
        go_ret3
        obtain rfl : k = m := by omega
        exact ⟨by rw [HN.out, if_neg h9, if_neg hz, HI.out, ← HM.out]; simp [*], hbW⟩

end Go.Proofs.Ytmiejdbpogggeaa
end

section
/- Layer 8 (lex): the walks of the program's token, free, Name. -/
namespace Go.Proofs.Ytmiejdbpogggeaa
open Go.RowKit

/-- A token as a value. -/
def Tok.val (t : Tok) : Value := .agg #[.int .i64 t.kind, .int .i64 t.pos, .int .i64 t.n, .string ⟨t.s.toArray⟩]

theorem tokenL_cons (s : ByteArray) (h : 0 < s.size) (cnt : Nat) : tokenL s.data.toList cnt =
    (if signK s[0] = 0 ∧ isLetter s[0] = false ∧ isDigit s[0] = false then (⟨0, 0, 0, []⟩, 0, 5)
    else if cnt = 8192 then (⟨0, 0, 0, []⟩, 0, 6)
    else if signK s[0] ≠ 0 then (⟨signK s[0], 0, 0, []⟩, 1, 0)
    else if isDigit s[0] then (⟨2, 0, (numberL s.data.toList).1, []⟩, (numberL s.data.toList).2.1, (numberL s.data.toList).2.2)
    else if runL isInner s.data.toList > 16 then (⟨0, 0, 0, []⟩, 0, 6)
    else (⟨1, 0, 0, s.data.toList.take (runL isInner s.data.toList)⟩, runL isInner s.data.toList, 0) : Tok × Nat × Int) := by
  have := ba_drop_cons s 0 h
  rw [List.drop_zero] at this
  rw [this]
  rfl

/-- The four cells of a token's own block behind a call. -/
theorem tok_keeps {W w1 : World} {o : Obj} (hb : Below (W.alloc o).heap.size (W.alloc o) w1) : ∀ i, w1.cell? ⟨W.heap.size, i, none⟩ = (W.alloc o).cell? ⟨W.heap.size, i, none⟩ :=
  fun i => hb.cell (p := ⟨W.heap.size, i, none⟩) (by simp)
theorem tok_free {W w1 : World} {o : Obj} (hb : Below (W.alloc o).heap.size (W.alloc o) w1) : ∀ i, w1.frozen? ⟨W.heap.size, i, none⟩ = (W.alloc o).frozen? ⟨W.heap.size, i, none⟩ :=
  fun i => hb.frozen (p := ⟨W.heap.size, i, none⟩) (by simp)

theorem val_name (s : ByteArray) (m : Nat) : Value.agg #[.int .i64 1, .int .i64 0, .int .i64 0, .string (s.extract 0 m)] = (Tok.mk 1 0 0 (s.data.toList.take m)).val := by
  unfold Tok.val
  rw [← ba_to, ba_mk_toList]

set_option maxRecDepth 100000 in
set_option maxHeartbeats 2000000 in
theorem lex_token (s : ByteArray) (cnt : Nat) (w : World) (h0 : 0 < s.size) (hs : s.size ≤ maxLen) :
    Calls Try.prog 79 #[.string s, .int .i64 cnt] w fun e w' => e = .returned (.tuple #[(tokenL s.data.toList cnt).1.val, .int .i64 (tokenL s.data.toList cnt).2.1, .int .i64 (tokenL s.data.toList cnt).2.2]) ∧ Below w.heap.size w w' := by
  have hs' := hs
  unfold maxLen at hs'
  have ht := tokenL_cons s h0 cnt
  by_cases hA : signK s[0] = 0 ∧ isLetter s[0] = false ∧ isDigit s[0] = false
  · rw [if_pos hA] at ht
    have HT := Lib.hid ht
    clear ht
    obtain ⟨h1, h2, h3⟩ := hA
    go_enter Try.func79, Try.ntmps79
    go_wp2_with (first | (go_at_call 90; refine (lex_sign _ _).mono ?_; rintro e w' ⟨rfl, hb⟩; have q0 := tok_keeps hb 0; have q1 := tok_keeps hb 1; have q2 := tok_keeps hb 2; have q3 := tok_keeps hb 3; have z0 := tok_free hb 0; have z1 := tok_free hb 1; have z2 := tok_free hb 2; have z3 := tok_free hb 3; simp at q0 q1 q2 q3 z0 z1 z2 z3; have hsz := hb.size; simp at hsz) | (go_at_call 39; refine (lex_letter _ _).mono ?_; rintro e w' ⟨rfl, rfl⟩) | (go_at_call 72; refine (lex_digit _ _).mono ?_; rintro e w' ⟨rfl, rfl⟩))
    refine bodyPost_ret (v := .tuple #[.agg #[.int .i64 0, .int .i64 0, .int .i64 0, .string ⟨#[]⟩], .int .i64 0, .int .i64 5]) (by simp [results, Try.results79, go_sem, *]) rfl ⟨?_, ?_⟩
    · rw [HT.out]; rfl
    · (repeat (first | exact Below.refl _ _ | assumption | refine Below.setCell ?_ (by first | (simp; done) | (simp; omega) | omega) _ | refine Below.alloc ?_ (by first | (simp; done) | (simp; omega) | omega) _ | refine Below.drew ?_ | refine below_drewN ?_ _ | refine Below.trans ?_ (Below.mono (by assumption) (by first | (simp; done) | (simp; omega) | omega))))
  rw [if_neg hA] at ht
  have HA := Lib.hid hA
  clear hA
  by_cases hB : cnt = 8192
  · rw [if_pos hB] at ht
    have HT := Lib.hid ht
    clear ht
    have hb0 : ((cnt : Int) == 8192) = true := by simp; omega
    clear hB
    by_cases hK : signK s[0] = 0 <;> cases hL : isLetter s[0] <;> cases hD : isDigit s[0]
    all_goals try (exfalso; refine HA.out ?_; refine ⟨?_, ?_, ?_⟩ <;> assumption; done)
    all_goals
      go_enter Try.func79, Try.ntmps79
      go_wp2_with (first | (go_at_call 90; refine (lex_sign _ _).mono ?_; rintro e w' ⟨rfl, hb⟩; have q0 := tok_keeps hb 0; have q1 := tok_keeps hb 1; have q2 := tok_keeps hb 2; have q3 := tok_keeps hb 3; have z0 := tok_free hb 0; have z1 := tok_free hb 1; have z2 := tok_free hb 2; have z3 := tok_free hb 3; simp at q0 q1 q2 q3 z0 z1 z2 z3; have hsz := hb.size; simp at hsz) | (go_at_call 39; refine (lex_letter _ _).mono ?_; rintro e w' ⟨rfl, rfl⟩) | (go_at_call 72; refine (lex_digit _ _).mono ?_; rintro e w' ⟨rfl, rfl⟩))
      refine bodyPost_ret (v := .tuple #[.agg #[.int .i64 0, .int .i64 0, .int .i64 0, .string ⟨#[]⟩], .int .i64 0, .int .i64 6]) (by simp [results, Try.results79, go_sem, *]) rfl ⟨?_, ?_⟩
      · rw [HT.out]; rfl
      · (repeat (first | exact Below.refl _ _ | assumption | refine Below.setCell ?_ (by first | (simp; done) | (simp; omega) | omega) _ | refine Below.alloc ?_ (by first | (simp; done) | (simp; omega) | omega) _ | refine Below.drew ?_ | refine below_drewN ?_ _ | refine Below.trans ?_ (Below.mono (by assumption) (by first | (simp; done) | (simp; omega) | omega))))
  rw [if_neg hB] at ht
  have hb0 : ((cnt : Int) == 8192) = false := by simp; omega
  clear hB
  by_cases hK : signK s[0] = 0
  · rw [if_neg (by simp [hK])] at ht
    cases hD : isDigit s[0]
    · rw [if_neg (by simp [hD])] at ht
      have hL : isLetter s[0] = true := by
        cases hL : isLetter s[0]
        · exact absurd ⟨hK, hL, hD⟩ HA.out
        · rfl
      obtain ⟨m, hm⟩ : ∃ m, m = runL isInner s.data.toList := ⟨_, rfl⟩
      have hle : m ≤ s.size := by rw [hm, ← ba_len]; exact runL_le _ _
      have hrun := fun w => lex_run_inner s w hs
      rw [← hm] at ht hrun
      have HR := Lib.hid hrun
      clear hm hrun
      have hv := val_name s m
      have HV := Lib.hid hv
      clear hv
      by_cases hlong : 16 < m
      · rw [if_pos hlong] at ht
        have HT := Lib.hid ht
        clear ht
        go_enter Try.func79, Try.ntmps79
        go_wp2_with (first | (first | (go_at_call 90; refine (lex_sign _ _).mono ?_; rintro e w' ⟨rfl, hb⟩; have q0 := tok_keeps hb 0; have q1 := tok_keeps hb 1; have q2 := tok_keeps hb 2; have q3 := tok_keeps hb 3; have z0 := tok_free hb 0; have z1 := tok_free hb 1; have z2 := tok_free hb 2; have z3 := tok_free hb 3; simp at q0 q1 q2 q3 z0 z1 z2 z3; have hsz := hb.size; simp at hsz) | (go_at_call 39; refine (lex_letter _ _).mono ?_; rintro e w' ⟨rfl, rfl⟩) | (go_at_call 72; refine (lex_digit _ _).mono ?_; rintro e w' ⟨rfl, rfl⟩)) | (go_at_call 40; refine (HR.out _).mono ?_; rintro e w' ⟨rfl, rfl⟩))
        refine bodyPost_ret (v := .tuple #[.agg #[.int .i64 0, .int .i64 0, .int .i64 0, .string ⟨#[]⟩], .int .i64 0, .int .i64 6]) (by simp [results, Try.results79, go_sem, *]) rfl ⟨?_, ?_⟩
        · rw [HT.out]; rfl
        · (repeat (first | exact Below.refl _ _ | assumption | refine Below.setCell ?_ (by first | (simp; done) | (simp; omega) | omega) _ | refine Below.alloc ?_ (by first | (simp; done) | (simp; omega) | omega) _ | refine Below.drew ?_ | refine below_drewN ?_ _ | refine Below.trans ?_ (Below.mono (by assumption) (by first | (simp; done) | (simp; omega) | omega))))
      · rw [if_neg hlong] at ht
        have HT := Lib.hid ht
        clear ht
        go_enter Try.func79, Try.ntmps79
        go_wp2_with (first | (first | (go_at_call 90; refine (lex_sign _ _).mono ?_; rintro e w' ⟨rfl, hb⟩; have q0 := tok_keeps hb 0; have q1 := tok_keeps hb 1; have q2 := tok_keeps hb 2; have q3 := tok_keeps hb 3; have z0 := tok_free hb 0; have z1 := tok_free hb 1; have z2 := tok_free hb 2; have z3 := tok_free hb 3; simp at q0 q1 q2 q3 z0 z1 z2 z3; have hsz := hb.size; simp at hsz) | (go_at_call 39; refine (lex_letter _ _).mono ?_; rintro e w' ⟨rfl, rfl⟩) | (go_at_call 72; refine (lex_digit _ _).mono ?_; rintro e w' ⟨rfl, rfl⟩)) | (go_at_call 40; refine (HR.out _).mono ?_; rintro e w' ⟨rfl, rfl⟩))
        refine bodyPost_ret (v := .tuple #[.agg #[.int .i64 1, .int .i64 0, .int .i64 0, .string (s.extract 0 m)], .int .i64 m, .int .i64 0]) (by simp [results, Try.results79, go_sem, *]) rfl ⟨?_, ?_⟩
        · rw [HT.out, HV.out]
        · (repeat (first | exact Below.refl _ _ | assumption | refine Below.setCell ?_ (by first | (simp; done) | (simp; omega) | omega) _ | refine Below.alloc ?_ (by first | (simp; done) | (simp; omega) | omega) _ | refine Below.drew ?_ | refine below_drewN ?_ _ | refine Below.trans ?_ (Below.mono (by assumption) (by first | (simp; done) | (simp; omega) | omega))))
    · rw [if_pos hD] at ht
      have HT := Lib.hid ht
      clear ht
      cases hL : isLetter s[0]
      all_goals
        go_enter Try.func79, Try.ntmps79
        go_wp2_with (first | (go_at_call 90; refine (lex_sign _ _).mono ?_; rintro e w' ⟨rfl, hb⟩; have q0 := tok_keeps hb 0; have q1 := tok_keeps hb 1; have q2 := tok_keeps hb 2; have q3 := tok_keeps hb 3; have z0 := tok_free hb 0; have z1 := tok_free hb 1; have z2 := tok_free hb 2; have z3 := tok_free hb 3; simp at q0 q1 q2 q3 z0 z1 z2 z3; have hsz := hb.size; simp at hsz) | (go_at_call 39; refine (lex_letter _ _).mono ?_; rintro e w' ⟨rfl, rfl⟩) | (go_at_call 72; refine (lex_digit _ _).mono ?_; rintro e w' ⟨rfl, rfl⟩))
        refine (lex_number _ _ h0 hs).mono ?_
        rintro e w2 ⟨rfl, hb2⟩
        obtain ⟨hc2, hf2⟩ := bcell hb2
        have hsz2 := hb2.size
        have hl2 : w.heap.size < w'.heap.size := by omega
        have q20 := (hc2 _ 0 hl2).trans q0
        have q21 := (hc2 _ 1 hl2).trans q1
        have q22 := (hc2 _ 2 hl2).trans q2
        have q23 := (hc2 _ 3 hl2).trans q3
        have z20 := (hf2 _ 0 hl2).trans z0
        have z21 := (hf2 _ 1 hl2).trans z1
        have z22 := (hf2 _ 2 hl2).trans z2
        have z23 := (hf2 _ 3 hl2).trans z3
        clear hc2 hf2
        go_wp2
        refine bodyPost_ret (v := .tuple #[.agg #[.int .i64 2, .int .i64 0, .int .i64 (numberL s.data.toList).1, .string ⟨#[]⟩], .int .i64 (numberL s.data.toList).2.1, .int .i64 (numberL s.data.toList).2.2]) (by simp [results, Try.results79, go_sem, *]) rfl ⟨?_, ?_⟩
        · rw [HT.out]; rfl
        · (repeat (first | exact Below.refl _ _ | assumption | refine Below.setCell ?_ (by first | (simp; done) | (simp; omega) | omega) _ | refine Below.alloc ?_ (by first | (simp; done) | (simp; omega) | omega) _ | refine Below.drew ?_ | refine below_drewN ?_ _ | refine Below.trans ?_ (Below.mono (by assumption) (by first | (simp; done) | (simp; omega) | omega))))
  · rw [if_pos hK] at ht
    have HT := Lib.hid ht
    clear ht
    cases hL : isLetter s[0] <;> cases hD : isDigit s[0]
    all_goals
      go_enter Try.func79, Try.ntmps79
      go_wp2_with (first | (go_at_call 90; refine (lex_sign _ _).mono ?_; rintro e w' ⟨rfl, hb⟩; have q0 := tok_keeps hb 0; have q1 := tok_keeps hb 1; have q2 := tok_keeps hb 2; have q3 := tok_keeps hb 3; have z0 := tok_free hb 0; have z1 := tok_free hb 1; have z2 := tok_free hb 2; have z3 := tok_free hb 3; simp at q0 q1 q2 q3 z0 z1 z2 z3; have hsz := hb.size; simp at hsz) | (go_at_call 39; refine (lex_letter _ _).mono ?_; rintro e w' ⟨rfl, rfl⟩) | (go_at_call 72; refine (lex_digit _ _).mono ?_; rintro e w' ⟨rfl, rfl⟩))
      refine bodyPost_ret (v := .tuple #[.agg #[.int .i64 (signK s[0]), .int .i64 0, .int .i64 0, .string ⟨#[]⟩], .int .i64 1, .int .i64 0]) (by simp [results, Try.results79, go_sem, *]) rfl ⟨?_, ?_⟩
      · rw [HT.out]; rfl
      · (repeat (first | exact Below.refl _ _ | assumption | refine Below.setCell ?_ (by first | (simp; done) | (simp; omega) | omega) _ | refine Below.alloc ?_ (by first | (simp; done) | (simp; omega) | omega) _ | refine Below.drew ?_ | refine below_drewN ?_ _ | refine Below.trans ?_ (Below.mono (by assumption) (by first | (simp; done) | (simp; omega) | omega))))

end Go.Proofs.Ytmiejdbpogggeaa
end

section
/- Layer 8 (lex): the walks of the program's free, Name. -/
namespace Go.Proofs.Ytmiejdbpogggeaa
open Go.RowKit

theorem blank4 (c : UInt8) : (0 ≤ Lib.indexByte [32, 9, 10, 35] c) ↔ (isBlank c || c == 35) = true := by
  simp only [Lib.indexByte, isBlank]
  by_cases h1 : c = 32
  · subst h1; simp
  by_cases h2 : c = 9
  · subst h2; simp
  by_cases h3 : c = 10
  · subst h3; simp
  by_cases h4 : c = 35
  · subst h4; simp
  have e1 : ((32 : UInt8) == c) = false := by simpa using fun h => h1 h.symm
  have e2 : ((9 : UInt8) == c) = false := by simpa using fun h => h2 h.symm
  have e3 : ((10 : UInt8) == c) = false := by simpa using fun h => h3 h.symm
  have e4 : ((35 : UInt8) == c) = false := by simpa using fun h => h4 h.symm
  simp [e1, e2, e3, e4, h1, h2, h3, h4]

theorem idx_free (c : UInt8) (w : World) (b : Bool) (h : (isBlank c || c == 35) = b) :
    Calls Try.prog 88 #[.string ⟨#[32, 9, 10, 35]⟩, .int .u8 c.toNat] w fun e w' => ∃ n : Int, (if b then 0 ≤ n else n < 0) ∧ e = .returned (.int .i64 n) ∧ w = w' := by
  refine (Try.strings_IndexByte _ _ w).mono ?_
  rintro e w' ⟨rfl, rfl⟩
  refine ⟨_, ?_, rfl, rfl⟩
  have e1 : ((c.toNat : Int).toNat.toUInt8) = c := by simp
  rw [e1]
  have h2 := blank4 c
  rw [h] at h2
  show if b then 0 ≤ Lib.indexByte [32, 9, 10, 35] c else Lib.indexByte [32, 9, 10, 35] c < 0
  cases b
  · simp only [Bool.false_eq_true, iff_false] at h2
    simp; omega
  · simpa using h2

theorem freeM_step (s : ByteArray) (k : Nat) (h : k < s.size) : freeM false (s.data.toList.drop k) = if isBlank s[k] then 1 + freeM false (s.data.toList.drop (k + 1)) else if s[k] = 35 then runL notEol (s.data.toList.drop k) + freeM false (s.data.toList.drop (k + runL notEol (s.data.toList.drop k))) else 0 := by
  have e := ba_drop_cons s k h
  by_cases h35 : s[k] = 35
  · have e' := e
    rw [h35] at e'
    rw [if_neg (by rw [h35]; decide), if_pos h35, ← List.drop_drop, e']
    exact freeM_hash _
  · rw [if_neg h35, e]
    show (if isBlank s[k] then _ else if s[k] = 35 then _ else 0) = _
    rw [if_neg h35]

theorem run_pos (s : ByteArray) (k : Nat) (h : k < s.size) (h35 : s[k] = 35) : 0 < runL notEol (s.data.toList.drop k) := by
  rw [ba_drop_cons s k h, h35]
  exact runL_head _ _ _ rfl

set_option maxRecDepth 100000 in
set_option maxHeartbeats 1000000 in
theorem lex_free (s : ByteArray) (w : World) (hs : s.size ≤ maxLen) :
    Calls Try.prog 78 #[.string s] w fun e w' => e = .returned (.int .i64 (freeM false s.data.toList)) ∧ w = w' := by
  have hs' := hs
  unfold maxLen at hs'
  go_enter Try.func78, Try.ntmps78
  go_wp2
  go_loop [3] (fun i => ∃ k : Nat, k ≤ s.size ∧ i = .int .i64 k ∧ freeM false s.data.toList = k + freeM false (s.data.toList.drop k)) (fun i => s.size - (intOf i).toNat)
  case atStart => exact ⟨0, Nat.zero_le _, rfl, by simp⟩
  case round =>
    obtain ⟨k, hk, rfl, hkr⟩ := hrel
    by_cases hlt : k < s.size
    · have hst := freeM_step s k hlt
      by_cases hb : isBlank s[k] = true
      · rw [if_pos hb] at hst
        have hn : ¬ (s[k].toNat : Int) = 35 := fun h => by
          have h2 : s[k] = 35 := by rw [← UInt8.toNat_inj]; have : (35 : UInt8).toNat = 35 := rfl; omega
          rw [h2] at hb; cases hb
        rw [hst] at hkr
        have HK := Lib.hid hkr
        have hi := fun w => idx_free s[k] w true (by rw [hb]; rfl)
        have HI := Lib.hid hi
        clear hkr hst hb hi
        go_wp2_with fail
        refine (HI.out _).mono ?_
        rintro e w' ⟨n, hn0, rfl, rfl⟩
        simp at hn0
        go_wp2
        go_round
        case rel => exact ⟨k + 1, by omega, by go_num, by rw [HK.out]; omega⟩
        case measure => simp [intOf]; omega
      · rw [if_neg hb] at hst
        by_cases h35 : s[k] = 35
        · rw [if_pos h35] at hst
          rw [hst] at hkr
          have hrp := run_pos s k hlt h35
          have hrl := runL_le notEol (s.data.toList.drop k)
          rw [List.length_drop, ba_len] at hrl
          have hi : ∀ w, Calls Try.prog 88 #[.string ⟨#[32, 9, 10, 35]⟩, .int .u8 35] w fun e w' => ∃ n : Int, (if true then 0 ≤ n else n < 0) ∧ e = .returned (.int .i64 n) ∧ w = w' := fun w => idx_free 35 w true rfl
          have hn : (s[k].toNat : Int) = 35 := by rw [h35]; rfl
          have hrun := fun w => lex_run_eol (s.extract k s.size) w (by simp; omega)
          rw [ba_from] at hrun
          generalize runL notEol (s.data.toList.drop k) = r at *
          have HK := Lib.hid hkr
          have HI := Lib.hid hi
          have HR := Lib.hid hrun
          clear hkr hst hb hi hrun h35
          go_wp2_with fail
          refine (HI.out _).mono ?_
          rintro e w' ⟨n, hn0, rfl, rfl⟩
          simp at hn0
          go_wp2_with fail
          refine (HR.out _).mono ?_
          rintro e w' ⟨rfl, rfl⟩
          go_wp2
          go_round
          case rel => exact ⟨k + r, by omega, by go_num, by rw [HK.out]; omega⟩
          case measure => simp [intOf]; omega
        · rw [if_neg h35] at hst
          rw [hst] at hkr
          have hi := fun w => idx_free s[k] w false (by simp [h35]; simpa using hb)
          have HK := Lib.hid hkr
          have HI := Lib.hid hi
          clear hkr hst hb hi
          go_wp2_with fail
          refine (HI.out _).mono ?_
          rintro e w' ⟨n, hn0, rfl, rfl⟩
          simp at hn0
          go_wp2
          go_ret
          exact ⟨by rw [HK.out]; rfl, rfl⟩
    · have hd := ba_drop_nil s k (by omega)
      rw [hd] at hkr
      have HK := Lib.hid hkr
      clear hkr hd
      go_wp2_with fail
      go_ret
      exact ⟨by rw [HK.out]; rfl, rfl⟩

theorem runL_full (p : UInt8 → Bool) : ∀ l : Bytes, l.all p = true → runL p l = l.length
  | [], _ => rfl
  | c :: r, h => by
    simp only [List.all_cons, Bool.and_eq_true] at h
    rw [runL_cons, if_pos h.1, runL_full p r h.2]; rfl

/-- A name. -/
theorem nameL_eq (s : ByteArray) : nameL s.data.toList = if h : 0 < s.size then decide (s.size ≤ 16) && isLetter s[0] && decide (runL isInner s.data.toList = s.size) else false := by
  by_cases h : 0 < s.size
  · have e := ba_drop_cons s 0 h
    rw [List.drop_zero] at e
    rw [dif_pos h]
    have hl := ba_len s
    have hr := runL_le isInner s.data.toList
    have hiff : s.data.toList.all isInner = decide (runL isInner s.data.toList = s.size) := by
      rw [Bool.eq_iff_iff, decide_eq_true_eq]
      constructor
      · intro ha
        rw [runL_full _ _ ha, hl]
      · intro hr
        have := runL_all isInner s.data.toList
        rwa [hr, ← hl, List.take_length] at this
    rw [← hiff, ← hl]
    rw [e]
    rfl
  · rw [dif_neg h]
    have : s.data.toList = [] := by
      apply List.eq_nil_of_length_eq_zero; rw [ba_len]; omega
    rw [this]; rfl

theorem toList_nil (s : ByteArray) : s.toList = [] ↔ s.size = 0 := by
  rw [ba_toList, ← ba_len, List.length_eq_zero_iff]

set_option maxRecDepth 100000 in
set_option maxHeartbeats 1000000 in
theorem lex_Name (s : ByteArray) (w : World) (hs : s.size ≤ maxLen) :
    Calls Try.prog 17 #[.string s] w fun e w' => e = .returned (.bool (nameL s.data.toList)) ∧ w = w' := by
  have hs' := hs
  unfold maxLen at hs'
  have hn := nameL_eq s
  have HN := Lib.hid hn
  clear hn
  by_cases h0 : 0 < s.size
  · have hne : ¬ s.toList = [] := fun h => by have := (toList_nil s).1 h; omega
    have hem : s.toList.isEmpty = false := by rw [List.isEmpty_eq_false_iff]; exact hne
    go_enter Try.func17, Try.ntmps17
    go_wp2_with (first | (go_at_call 39; refine (lex_letter _ _).mono ?_; rintro e w' ⟨rfl, rfl⟩) | (go_at_call 40; refine (lex_run_inner _ _ hs).mono ?_; rintro e w' ⟨rfl, rfl⟩))
    all_goals (go_ret; exact ⟨ret_bool (by rw [HN.out, dif_pos h0]; simp [*]; try first | omega | (rw [Bool.eq_iff_iff]; simp; omega)), rfl⟩)
  · have hne : s.toList = [] := (toList_nil s).2 (by omega)
    have hem : s.toList.isEmpty = true := by rw [List.isEmpty_iff]; exact hne
    go_enter Try.func17, Try.ntmps17
    go_wp2_with (first | (go_at_call 39; refine (lex_letter _ _).mono ?_; rintro e w' ⟨rfl, rfl⟩) | (go_at_call 40; refine (lex_run_inner _ _ hs).mono ?_; rintro e w' ⟨rfl, rfl⟩))
    all_goals (go_ret; exact ⟨ret_bool (by rw [HN.out, dif_neg h0]), rfl⟩)

end Go.Proofs.Ytmiejdbpogggeaa
end

section
/- Layer 8 (lex): the walk of the program's Cut. -/
namespace Go.Proofs.Ytmiejdbpogggeaa
open Go.RowKit

/-- A token's cells. -/
def Tok.cells (t : Tok) : List Value := [.int .i64 t.kind, .int .i64 t.pos, .int .i64 t.n, .string ⟨t.s.toArray⟩]
theorem info_tok : (Try.prog.info? 87).map (fun i => (i.zero, i.size, i.bytes)) = some (some (.agg #[.int .i64 0, .int .i64 0, .int .i64 0, .string ⟨#[]⟩]), 4, 40) := by kernel_rfl

theorem cells_length (l : List Tok) : (l.flatMap Tok.cells).length = l.length * 4 := by
  induction l with
  | nil => rfl
  | cons t l ih => simp only [List.flatMap_cons, List.length_append, ih, List.length_cons, Tok.cells, List.length_nil]; omega

/-- The slice value v reads, in a row from 'base' on, as the tokens l. -/
def OwnToks (w : World) (base : Nat) (v : Value) (l : List Tok) : Prop := w.ownsRow base 87 4 v l.length (l.flatMap Tok.cells)

/-- What Cut leaves. -/
def CutPost (w : World) (r : CutRes) (e : Ending) (w' : World) : Prop :=
  ∃ v, e = .returned (.tuple #[v, .int .i64 r.pos, .int .i64 r.err]) ∧ OwnToks w' w.heap.size v r.toks ∧ Below w.heap.size w w'

/-- What holds ahead of each round: what is known of what was cut so far. -/
def CutI (s : ByteArray) (w : World) (k : Nat) (v : Value) (acc : List Tok) (wr : World) : Prop :=
  k ≤ s.size ∧ acc.length ≤ k ∧ OwnToks wr w.heap.size v acc ∧ Below w.heap.size w wr ∧ freeM false (s.data.toList.drop k) = 0 ∧
    cutM false 0 0 0 s.data.toList = (cutM false 0 k acc.length (s.data.toList.drop k)).pre acc

theorem lex_token' (s : ByteArray) (cnt : Nat) (w : World) (h0 : 0 < s.size) (hs : s.size ≤ maxLen) (K N E : Int) (L : Nat) (S : Bytes) (ht : tokenL s.data.toList cnt = (⟨K, 0, N, S⟩, L, E)) :
    Calls Try.prog 79 #[.string s, .int .i64 cnt] w fun e w' => e = .returned (.tuple #[.agg #[.int .i64 K, .int .i64 0, .int .i64 N, .string ⟨S.toArray⟩], .int .i64 L, .int .i64 E]) ∧ Below w.heap.size w w' := by
  have := lex_token s cnt w h0 hs
  rw [ht] at this
  exact this

set_option maxRecDepth 100000 in
set_option maxHeartbeats 2000000 in
theorem lex_Cut (s : ByteArray) (w : World) (hs : s.size ≤ maxLen) :
    Calls Try.prog 55 #[.string s] w (CutPost w (cutL s.data.toList)) := by
  have hs' := hs
  unfold maxLen at hs'
  have hcut : cutL s.data.toList = if s.size > 65536 then ⟨[], 0, 6⟩ else cutM false 0 0 0 s.data.toList := by unfold cutL; rw [ba_len]
  have HC := Lib.hid hcut
  clear hcut
  by_cases hbig : s.size > 65536
  · go_enter Try.func55, Try.ntmps55
    go_wp2
    go_ret3
    refine ⟨.slice none 0 0, ?_, ?_, ?_⟩
    · rw [HC.out, if_pos hbig]; rfl
    · rw [HC.out, if_pos hbig]; exact World.ownsRow_nil _ _ _ _
    · exact Below.refl _ _
  · obtain ⟨i0, hi, hz0, hz1, hz2⟩ := info_parts info_tok
    have hfl := freeM_le false s.data.toList
    rw [ba_len] at hfl
    have hff := freeM_free false s.data.toList
    have hfc := cutM_free false 0 0 s.data.toList
    rw [Nat.zero_add] at hfc
    have hfree := lex_free s w hs
    generalize freeM false s.data.toList = f0 at *
    have HF := Lib.hid hff
    have HF2 := Lib.hid hfc
    have HF3 := Lib.hid hfree
    clear hff hfc hfree
    go_enter Try.func55, Try.ntmps55
    go_wp2_with fail
    refine HF3.out.mono ?_
    rintro e w' ⟨rfl, rfl⟩
    go_wp2_with fail
    go_loopw [5, 6] (fun v i wr => ∃ (k : Nat) (acc : List Tok), i = .int .i64 k ∧ CutI s w k v acc wr) (fun _ i _ => s.size - (intOf i).toNat)
    case atStart => exact ⟨f0, [], rfl, hfl, Nat.zero_le _, World.ownsRow_nil _ _ _ _, Below.refl _ _, HF.out, by rw [HF2.out, cutM_pre_nil]; rfl⟩
    case round =>
      obtain ⟨k, acc, rfl, hk, hak, hown, hB, hfr, hcm⟩ := hrel
      obtain ⟨A, c, rfl, hnc⟩ := own_form hown
      have hbs := hB.size
      by_cases hlt : k < s.size
      · have hne : s.data.toList.drop k ≠ [] := by rw [ba_drop_cons s k hlt]; simp
        have hst := cutM_tok k acc.length _ hne hfr
        obtain ⟨hlen, hL1, hP⟩ := tokenL_len _ acc.length hne
        rw [List.length_drop, ba_len] at hlen
        have htok := fun K N E L S => lex_token' (s.extract k s.size) acc.length wr (by simp; omega) (by simp; omega) K N E L S
        rw [ba_from] at htok
        obtain ⟨⟨⟨K, p, N, S⟩, L, E⟩, hT⟩ : ∃ T, T = tokenL (s.data.toList.drop k) acc.length := ⟨_, rfl⟩
        rw [← hT] at hst hlen hL1 hP
        simp only at hP hst hlen hL1
        subst hP
        have htok' := htok K N E L S hT.symm
        have HTOK := Lib.hid htok'
        clear htok htok' hT hne hfr
        by_cases hE : E = 0
        · rw [if_neg (by simp [hE])] at hst
          have hL := hL1 hE
          subst hE
          rw [hst, CutRes.pre_cons] at hcm
          have HM := Lib.hid hcm
          have hfr2 := fun w => lex_free (s.extract (k + L) s.size) w (by simp; omega)
          rw [ba_from] at hfr2
          have hfl2 := freeM_le false (s.data.toList.drop (k + L))
          rw [List.length_drop, ba_len] at hfl2
          have hf0 := freeM_free false (s.data.toList.drop (k + L))
          have hfc2 := cutM_free false (k + L) (acc.length + 1) (s.data.toList.drop (k + L))
          rw [List.drop_drop] at hf0 hfc2
          generalize freeM false (s.data.toList.drop (k + L)) = f1 at *
          have HFR := Lib.hid hfr2
          have HF0 := Lib.hid hf0
          have HFC := Lib.hid hfc2
          clear hcm hst hL1 hfr2 hf0 hfc2
          go_wp2_with fail
          refine HTOK.out.mono ?_
          rintro e w2 ⟨rfl, hb2⟩
          have hown2 := own_below (show wr.ownsRow _ _ _ _ _ _ from hown) hb2
          have hsz2 := hb2.size
          go_wp2_with (first | (at_builtin; refine wpList_append_own _ rfl _ _ 77 rfl w.heap.size 87 i0 _ 4 40 Try.underlying77 hi hz0 hz1 hz2 rfl (by decide) _ _ _ rfl ((hown2.alloc _).alloc _) ⟨w2.heap.size + 1, 0, none⟩ 1 1 [.int .i64 K, .int .i64 k, .int .i64 N, .string ⟨S.toArray⟩] rfl rfl (cells_new _ [.int .i64 K, .int .i64 k, .int .i64 N, .string ⟨S.toArray⟩] _ _ (by simp)) (fun x hx => by simp at hx; rcases hx with rfl | rfl | rfl | rfl <;> rfl) (by unfold maxLen; omega) (by omega) (by simp; omega) ?_; intro v' w3 hown3 hgrow3 _))
          refine (HFR.out _).mono ?_
          rintro e w4 ⟨rfl, rfl⟩
          have hB3 : Below w.heap.size w w3 := by
            refine below_own ?_ hgrow3 (by simp; omega) ((hown2.alloc _).alloc _) (Nat.le_refl _)
            exact ((hB.trans (hb2.mono hbs)).alloc (by omega) _).alloc (by simp; omega) _
          have hown4 : OwnToks w3 w.heap.size v' (acc ++ [⟨K, k, N, S⟩]) := by
            unfold OwnToks
            rw [List.length_append, List.flatMap_append]
            exact hown3
          clear hgrow3 hown3 hown2 hown
          go_wp2
          go_roundw
          case rel =>
            refine ⟨k + L + f1, acc ++ [⟨K, k, N, S⟩], by go_num, by omega, by rw [List.length_append]; simp; omega, hown4, hB3, HF0.out, ?_⟩
            rw [HM.out, List.drop_drop, HFC.out, List.length_append]
            rfl
          case measure => simp [intOf]; omega
        · rw [if_pos (by simpa using hE)] at hst
          rw [hst] at hcm
          have hE0 : (E == 0) = false := by simpa using hE
          have HM := Lib.hid hcm
          clear hcm hst hL1
          go_wp2_with fail
          refine HTOK.out.mono ?_
          rintro e w2 ⟨rfl, hb2⟩
          go_wp2_with fail
          go_ret3
          refine ⟨.slice none 0 0, ?_, ?_, ?_⟩
          · rw [HC.out, if_neg hbig, HM.out]; simp [CutRes.pre, hE]
          · rw [HC.out, if_neg hbig, HM.out]; simp [CutRes.pre, hE]; exact World.ownsRow_nil _ _ _ _
          · have hsz2 := hb2.size
            exact (hB.trans (hb2.mono hbs)).alloc (by omega) _
      · have hkk : k = s.size := by omega
        rw [ba_drop_nil s k (by omega), cutM_nil] at hcm
        have HM := Lib.hid hcm
        clear hcm hfr hkk
        go_wp2_with fail
        go_ret3
        refine ⟨.slice A acc.length c, ?_, ?_, hB⟩
        · rw [HC.out, if_neg hbig, HM.out]; rfl
        · rw [HC.out, if_neg hbig, HM.out]; simpa [CutRes.pre] using hown

end Go.Proofs.Ytmiejdbpogggeaa
end

section
/- Slices that read as tokens. -/
namespace Go.Proofs.Ytmiejdbpogggeaa
open Go.RowKit

/-- The slice v reads as the tokens l, below block B. -/
def ReadToks (w : World) (B : Nat) (v : Value) (l : List Tok) : Prop := ∃ A c, v = .slice A l.length c ∧ Reads w B 4 A l.length (l.flatMap Tok.cells)

theorem ReadToks.of_own {w : World} {base : Nat} {v : Value} {l : List Tok} (h : OwnToks w base v l) : ReadToks w w.heap.size v l := by
  obtain ⟨A, c, rfl, _⟩ := own_form h
  exact ⟨A, c, rfl, Reads.of_own h⟩
theorem ReadToks.below {w w' : World} {B : Nat} {v : Value} {l : List Tok} (h : ReadToks w B v l) (hb : Below B w w') : ReadToks w' B v l := by
  obtain ⟨A, c, rfl, hr⟩ := h
  exact ⟨A, c, rfl, hr.below hb⟩
theorem ReadToks.more {w : World} {B B' : Nat} {v : Value} {l : List Tok} (h : ReadToks w B v l) (hB : B ≤ B') : ReadToks w B' v l := by
  obtain ⟨A, c, rfl, hr⟩ := h
  exact ⟨A, c, rfl, hr.more hB⟩

theorem flat_get (l : List Tok) (i : Nat) (t : Tok) (h : l[i]? = some t) : ∀ j, j < 4 → (l.flatMap Tok.cells)[i * 4 + j]? = t.cells[j]? := by
  induction l generalizing i with
  | nil => simp at h
  | cons a l ih =>
    intro j hj
    rw [List.flatMap_cons]
    cases i with
    | zero =>
      simp only [List.getElem?_cons_zero, Option.some.injEq] at h
      subst h
      rw [List.getElem?_append_left (by simp [Tok.cells]; omega)]
      simp
    | succ i =>
      rw [List.getElem?_append_right (by simp [Tok.cells]; omega)]
      have : (i + 1) * 4 + j - a.cells.length = i * 4 + j := by simp [Tok.cells]; omega
      rw [this]
      exact ih i (by simpa using h) j hj

/-- The four cells of token i. -/
theorem tok_cells {w : World} {B : Nat} {A : Option Addr} {l : List Tok} (h : Reads w B 4 A l.length (l.flatMap Tok.cells)) (i : Nat) (t : Tok) (hi : l[i]? = some t) :
    ∃ ad, A = some ad ∧ ad.block < B ∧ w.cell? (ad.add (i * 4)) = some (.int .i64 t.kind) ∧ w.cell? ⟨(ad.add (i * 4)).block, (ad.add (i * 4)).off + 1, none⟩ = some (.int .i64 t.pos) ∧
      w.cell? ⟨(ad.add (i * 4)).block, (ad.add (i * 4)).off + 2, none⟩ = some (.int .i64 t.n) ∧ w.cell? ⟨(ad.add (i * 4)).block, (ad.add (i * 4)).off + 3, none⟩ = some (.string ⟨t.s.toArray⟩) := by
  have hlt : i < l.length := (List.getElem?_eq_some_iff.1 hi).1
  obtain ⟨ad, rfl, hb, hc⟩ := h.2 (by omega)
  have hg := flat_get l i t hi
  have hs : ∀ j, j ≠ 0 → ad.add (i * 4 + j) = ⟨(ad.add (i * 4)).block, (ad.add (i * 4)).off + j, none⟩ := fun j hj => by
    rw [← add_of_add]; unfold Addr.add; rw [if_neg hj]
  exact ⟨ad, rfl, hb, hc _ _ (hg 0 (by omega)), hs 1 (by omega) ▸ hc _ _ (hg 1 (by omega)), hs 2 (by omega) ▸ hc _ _ (hg 2 (by omega)), hs 3 (by omega) ▸ hc _ _ (hg 3 (by omega))⟩

end Go.Proofs.Ytmiejdbpogggeaa
end

section
/- Layer 9 (tree): items in memory. -/
namespace Go.Proofs.Ytmiejdbpogggeaa
open Go.RowKit

def WordL.cells (w : WordL) : List Value := [.bool w.num, .int .i64 w.n, .string ⟨w.s.toArray⟩, .int .i64 w.pos]
theorem wcells_length (l : List WordL) : (l.flatMap WordL.cells).length = l.length * 4 := by
  induction l with
  | nil => rfl
  | cons t l ih => simp only [List.flatMap_cons, List.length_append, ih, List.length_cons, WordL.cells, List.length_nil]; omega

/-- The slice with the address A, of n elements of so many cells each, reads as the cells xs, in blocks of M. -/
def ReadsM (w : World) (M : Nat → Prop) (size : Nat) (A : Option Addr) (n : Nat) (xs : List Value) : Prop :=
  xs.length = n * size ∧ (0 < n → ∃ ad, A = some ad ∧ M ad.block ∧ ∀ j u, xs[j]? = some u → w.cell? (ad.add j) = some u)

theorem ReadsM.keep {w w' : World} {M M' : Nat → Prop} {size : Nat} {A : Option Addr} {n : Nat} {xs : List Value} (h : ReadsM w M size A n xs)
    (hm : ∀ b, M b → M' b) (hk : ∀ p : Addr, M p.block → w'.cell? p = w.cell? p) : ReadsM w' M' size A n xs :=
  ⟨h.1, fun hn => by
    obtain ⟨ad, e, hb, hc⟩ := h.2 hn
    exact ⟨ad, e, hm _ hb, fun j u hu => (hk _ (by rw [block_of_add]; exact hb)).trans (hc j u hu)⟩⟩
theorem ReadsM.reads {w : World} {B size : Nat} {A : Option Addr} {n : Nat} {xs : List Value} (h : ReadsM w (· < B) size A n xs) : Reads w B size A n xs := h
theorem ReadsM.nil (w : World) (M : Nat → Prop) (size : Nat) (A : Option Addr) : ReadsM w M size A 0 [] := ⟨by simp, fun h => absurd h (by omega)⟩

/-- A nil slice has no room. -/
def NilOk (A : Option Addr) (c : Nat) : Prop := A = none → c = 0

mutual
/-- The five cells read as the item, all it leads to in blocks of M. -/
def NodeOk (w : World) (M : Nat → Prop) : NodeL → List Value → Prop
  | .mk nm p ws b ks, cs => ∃ Aw cw Ak ck kcs, cs = [.string ⟨nm.toArray⟩, .int .i64 p, .slice Aw ws.length cw, .bool b, .slice Ak ks.length ck] ∧
      NilOk Aw cw ∧ NilOk Ak ck ∧ ReadsM w M 4 Aw ws.length (ws.flatMap WordL.cells) ∧ ReadsM w M 5 Ak ks.length kcs ∧ NodesOk w M ks kcs
/-- The cells read as items. -/
def NodesOk (w : World) (M : Nat → Prop) : List NodeL → List Value → Prop
  | [], cs => cs = []
  | n :: r, cs => ∃ a b, cs = a ++ b ∧ NodeOk w M n a ∧ NodesOk w M r b
end

theorem NodeOk.len {w : World} {M : Nat → Prop} {n : NodeL} {cs : List Value} (h : NodeOk w M n cs) : cs.length = 5 := by
  cases n with
  | mk nm p ws b ks =>
    simp only [NodeOk] at h
    obtain ⟨_, _, _, _, _, rfl, _⟩ := h
    rfl

theorem NodesOk.len {w : World} {M : Nat → Prop} : ∀ {l : List NodeL} {cs : List Value}, NodesOk w M l cs → cs.length = l.length * 5
  | [], cs, h => by simp only [NodesOk] at h; subst h; rfl
  | n :: r, cs, h => by
    simp only [NodesOk] at h
    obtain ⟨a, b, rfl, h1, h2⟩ := h
    have e1 := NodeOk.len h1
    have e2 := NodesOk.len h2
    rw [List.length_append, e1, e2, List.length_cons]; omega

mutual
theorem NodeOk.keep {w w' : World} {M M' : Nat → Prop} (hm : ∀ b, M b → M' b) (hk : ∀ p : Addr, M p.block → w'.cell? p = w.cell? p) : ∀ (n : NodeL) (cs : List Value), NodeOk w M n cs → NodeOk w' M' n cs
  | .mk nm p ws b ks, cs, h => by
    simp only [NodeOk] at h ⊢
    obtain ⟨Aw, cw, Ak, ck, kcs, h1, h2, h3, h4, h5, h6⟩ := h
    exact ⟨Aw, cw, Ak, ck, kcs, h1, h2, h3, h4.keep hm hk, h5.keep hm hk, NodesOk.keep hm hk ks kcs h6⟩
theorem NodesOk.keep {w w' : World} {M M' : Nat → Prop} (hm : ∀ b, M b → M' b) (hk : ∀ p : Addr, M p.block → w'.cell? p = w.cell? p) : ∀ (l : List NodeL) (cs : List Value), NodesOk w M l cs → NodesOk w' M' l cs
  | [], cs, h => by simpa only [NodesOk] using h
  | n :: r, cs, h => by
    simp only [NodesOk] at h ⊢
    obtain ⟨a, b, h1, h2, h3⟩ := h
    exact ⟨a, b, h1, NodeOk.keep hm hk n a h2, NodesOk.keep hm hk r b h3⟩
end

theorem NodesOk.append {w : World} {M : Nat → Prop} : ∀ {l m : List NodeL} {cs ds : List Value}, NodesOk w M l cs → NodesOk w M m ds → NodesOk w M (l ++ m) (cs ++ ds)
  | [], m, cs, ds, h, h' => by simp only [NodesOk] at h; subst h; exact h'
  | n :: r, m, cs, ds, h, h' => by
    simp only [NodesOk] at h
    obtain ⟨a, b, rfl, h2, h3⟩ := h
    simp only [List.cons_append, NodesOk]
    exact ⟨a, b ++ ds, by rw [List.append_assoc], h2, NodesOk.append h3 h'⟩
theorem NodesOk.one {w : World} {M : Nat → Prop} {n : NodeL} {cs : List Value} (h : NodeOk w M n cs) : NodesOk w M [n] cs := by
  simp only [NodesOk]
  exact ⟨cs, [], by simp, h, rfl⟩

/-- The cells of item i. -/
theorem NodesOk.at {w : World} {M : Nat → Prop} : ∀ {l : List NodeL} {cs : List Value}, NodesOk w M l cs → ∀ (i : Nat) (n : NodeL), l[i]? = some n →
    ∃ a, NodeOk w M n a ∧ ∀ j, j < 5 → cs[i * 5 + j]? = a[j]?
  | [], _, _, i, n, hi => by simp at hi
  | x :: r, cs, h, i, n, hi => by
    simp only [NodesOk] at h
    obtain ⟨a, b, rfl, h2, h3⟩ := h
    have hl := h2.len
    cases i with
    | zero =>
      simp only [List.getElem?_cons_zero, Option.some.injEq] at hi
      subst hi
      exact ⟨a, h2, fun j hj => by rw [Nat.zero_mul, Nat.zero_add, List.getElem?_append_left (by omega)]⟩
    | succ i =>
      obtain ⟨c, h4, h5⟩ := NodesOk.at h3 i n (by simpa using hi)
      refine ⟨c, h4, fun j hj => ?_⟩
      rw [List.getElem?_append_right (by rw [hl]; omega), hl, ← h5 j hj]
      congr 1
      omega

/-- The cells that the walk reads of item i of a slice. -/
theorem node_cells {w : World} {M : Nat → Prop} {A : Option Addr} {l : List NodeL} {cs : List Value} (h : ReadsM w M 5 A l.length cs) (hn : NodesOk w M l cs) (i : Nat) (n : NodeL) (hi : l[i]? = some n) :
    ∃ ad Aw cw Ak ck kcs, A = some ad ∧ M ad.block ∧ w.cell? (ad.add (i * 5)) = some (.string ⟨n.name.toArray⟩) ∧ w.cell? ⟨(ad.add (i * 5)).block, (ad.add (i * 5)).off + 1, none⟩ = some (.int .i64 n.pos) ∧
      w.cell? ⟨(ad.add (i * 5)).block, (ad.add (i * 5)).off + 2, none⟩ = some (.slice Aw n.words.length cw) ∧ w.cell? ⟨(ad.add (i * 5)).block, (ad.add (i * 5)).off + 3, none⟩ = some (.bool n.block) ∧
      w.cell? ⟨(ad.add (i * 5)).block, (ad.add (i * 5)).off + 4, none⟩ = some (.slice Ak n.kids.length ck) ∧
      NilOk Aw cw ∧ NilOk Ak ck ∧ ReadsM w M 4 Aw n.words.length (n.words.flatMap WordL.cells) ∧ ReadsM w M 5 Ak n.kids.length kcs ∧ NodesOk w M n.kids kcs := by
  have hlt : i < l.length := (List.getElem?_eq_some_iff.1 hi).1
  obtain ⟨ad, rfl, hb, hc⟩ := h.2 (by omega)
  obtain ⟨a, ha, hg⟩ := hn.at i n hi
  obtain ⟨nm, p, ws, b, ks⟩ := n
  simp only [NodeOk] at ha
  obtain ⟨Aw, cw, Ak, ck, kcs, rfl, h2, h3, h4, h5, h6⟩ := ha
  have hs : ∀ j, j ≠ 0 → ad.add (i * 5 + j) = ⟨(ad.add (i * 5)).block, (ad.add (i * 5)).off + j, none⟩ := fun j hj => by
    rw [← add_of_add]; unfold Addr.add; rw [if_neg hj]
  exact ⟨ad, Aw, cw, Ak, ck, kcs, rfl, hb, hc _ _ (hg 0 (by omega)), hs 1 (by omega) ▸ hc _ _ (hg 1 (by omega)), hs 2 (by omega) ▸ hc _ _ (hg 2 (by omega)),
    hs 3 (by omega) ▸ hc _ _ (hg 3 (by omega)), hs 4 (by omega) ▸ hc _ _ (hg 4 (by omega)), h2, h3, h4, h5, h6⟩

theorem wflat_get (l : List WordL) (i : Nat) (t : WordL) (h : l[i]? = some t) : ∀ j, j < 4 → (l.flatMap WordL.cells)[i * 4 + j]? = t.cells[j]? := by
  induction l generalizing i with
  | nil => simp at h
  | cons a l ih =>
    intro j hj
    rw [List.flatMap_cons]
    cases i with
    | zero =>
      simp only [List.getElem?_cons_zero, Option.some.injEq] at h
      subst h
      rw [List.getElem?_append_left (by simp [WordL.cells]; omega)]
      simp
    | succ i =>
      rw [List.getElem?_append_right (by simp [WordL.cells]; omega)]
      have : (i + 1) * 4 + j - a.cells.length = i * 4 + j := by simp [WordL.cells]; omega
      rw [this]
      exact ih i (by simpa using h) j hj

/-- The four cells of word i. -/
theorem word_cells {w : World} {M : Nat → Prop} {A : Option Addr} {l : List WordL} (h : ReadsM w M 4 A l.length (l.flatMap WordL.cells)) (i : Nat) (t : WordL) (hi : l[i]? = some t) :
    ∃ ad, A = some ad ∧ M ad.block ∧ w.cell? (ad.add (i * 4)) = some (.bool t.num) ∧ w.cell? ⟨(ad.add (i * 4)).block, (ad.add (i * 4)).off + 1, none⟩ = some (.int .i64 t.n) ∧
      w.cell? ⟨(ad.add (i * 4)).block, (ad.add (i * 4)).off + 2, none⟩ = some (.string ⟨t.s.toArray⟩) ∧ w.cell? ⟨(ad.add (i * 4)).block, (ad.add (i * 4)).off + 3, none⟩ = some (.int .i64 t.pos) := by
  have hlt : i < l.length := (List.getElem?_eq_some_iff.1 hi).1
  obtain ⟨ad, rfl, hb, hc⟩ := h.2 (by omega)
  have hg := wflat_get l i t hi
  have hs : ∀ j, j ≠ 0 → ad.add (i * 4 + j) = ⟨(ad.add (i * 4)).block, (ad.add (i * 4)).off + j, none⟩ := fun j hj => by
    rw [← add_of_add]; unfold Addr.add; rw [if_neg hj]
  exact ⟨ad, rfl, hb, hc _ _ (hg 0 (by omega)), hs 1 (by omega) ▸ hc _ _ (hg 1 (by omega)), hs 2 (by omega) ▸ hc _ _ (hg 2 (by omega)), hs 3 (by omega) ▸ hc _ _ (hg 3 (by omega))⟩

end Go.Proofs.Ytmiejdbpogggeaa
end

section
/- Worlds that differ in some cells, and in one row, of what was there. Over any program. -/
namespace Go.Proofs.Ytmiejdbpogggeaa
open Go.RowKit

/-- Of what lay in w, only the cells of C, and the row's block, differ in w'. -/
structure Step (w w' : World) (C : List (Nat × Nat)) (row : Option Nat) : Prop where
  os : w'.os = w.os
  tape : w'.tape = w.tape
  output : w'.output = w.output
  size : w.heap.size ≤ w'.heap.size
  block : ∀ k, k < w.heap.size → (∀ j, (k, j) ∉ C) → some k ≠ row → w'.heap[k]? = w.heap[k]?
  cell : ∀ k, k < w.heap.size → some k ≠ row → ∀ j, (k, j) ∉ C → w'.cell? ⟨k, j, none⟩ = w.cell? ⟨k, j, none⟩
  froz : ∀ k, k < w.heap.size → some k ≠ row → ∀ j, w'.frozen? ⟨k, j, none⟩ = w.frozen? ⟨k, j, none⟩
  shape : ∀ k, k < w.heap.size → some k ≠ row → ∀ cs t f, w.heap[k]? = some (.cells cs t f) → ∃ cs', w'.heap[k]? = some (.cells cs' t f)

section
variable {w w' w2 : World} {C : List (Nat × Nat)} {row : Option Nat}

theorem Step.refl (w : World) (C : List (Nat × Nat)) (row : Option Nat) : Step w w C row :=
  ⟨rfl, rfl, rfl, Nat.le_refl _, fun _ _ _ _ => rfl, fun _ _ _ _ _ => rfl, fun _ _ _ _ => rfl, fun _ _ _ cs _ _ h => ⟨cs, h⟩⟩
theorem Step.drew (h : Step w w' C row) : Step w w'.drew C row := ⟨h.os, h.tape, h.output, h.size, h.block, h.cell, h.froz, h.shape⟩
theorem Step.alloc (h : Step w w' C row) (o : Obj) : Step w (w'.alloc o) C row :=
  ⟨h.os, h.tape, h.output, by have := h.size; simp; omega,
    fun k hk hC hr => by
      have := h.size
      rw [show (w'.alloc o).heap[k]? = w'.heap[k]? from Go.heap_alloc_old w' o (by omega)]
      exact h.block k hk hC hr,
    fun k hk hr j hj => by
      have := h.size
      rw [World.cell?_alloc_lt w' o ⟨k, j, none⟩ (by show k < _; omega)]
      exact h.cell k hk hr j hj,
    fun k hk hr j => by
      have := h.size
      rw [World.frozen?_alloc_old w' o ⟨k, j, none⟩ (by show k ≠ _; omega)]
      exact h.froz k hk hr j,
    fun k hk hr cs t f hh => by
      have := h.size
      obtain ⟨cs', h'⟩ := h.shape k hk hr cs t f hh
      exact ⟨cs', (show (w'.alloc o).heap[k]? = w'.heap[k]? from Go.heap_alloc_old w' o (by omega)).trans h'⟩⟩
theorem Step.setCell (h : Step w w' C row) {b o : Nat} (hb : w.heap.size ≤ b ∨ (b, o) ∈ C ∨ some b = row) (u : Value) : Step w (w'.setCell ⟨b, o, none⟩ u) C row :=
  ⟨h.os, h.tape, h.output, by simpa using h.size,
    fun k hk hC hr => by
      rw [Go.heap_setCell_other w' ⟨b, o, none⟩ k u (by
        show k ≠ b
        intro e; subst e
        rcases hb with hb | hb | hb
        · omega
        · exact hC _ hb
        · exact hr hb)]
      exact h.block k hk hC hr,
    fun k hk hr j hj => by
      rw [World.cell?_setCell_other w' ⟨b, o, none⟩ ⟨k, j, none⟩ u (by
        intro e
        simp only [Addr.mk.injEq, and_true] at e
        obtain ⟨rfl, rfl⟩ := e
        rcases hb with hb | hb | hb
        · omega
        · exact hj hb
        · exact hr hb)]
      exact h.cell k hk hr j hj,
    fun k hk hr j => by
      rw [World.frozen?_setCell]
      exact h.froz k hk hr j,
    fun k hk hr cs t f hh => by
      obtain ⟨cs', h'⟩ := h.shape k hk hr cs t f hh
      by_cases hkb : k = b
      · subst hkb
        exact ⟨cs'.setIfInBounds o u, by simp [World.setCell, Array.getElem?_modify, h']⟩
      · exact ⟨cs', (Go.heap_setCell_other w' ⟨b, o, none⟩ k u hkb).trans h'⟩⟩
theorem Step.grown (h : Step w w' C row) {row' : Option Nat} (hg : w'.grownBy w2 row') (hr' : ∀ k, row' = some k → some k = row ∨ w.heap.size ≤ k) : Step w w2 C row := by
  have hs := h.size
  have hn : ∀ k, k < w.heap.size → some k ≠ row → some k ≠ row' := fun k hk hr e => by
    rcases hr' k e.symm with h1 | h1
    · exact hr h1
    · omega
  refine ⟨hg.os.trans h.os, hg.tape.trans h.tape, hg.output.trans h.output, Nat.le_trans h.size hg.size, fun k hk hC hr => ?_, fun k hk hr j hj => ?_, fun k hk hr j => ?_, fun k hk hr cs t f hh => ?_⟩
  · exact (hg.block k (by omega) (hn k hk hr)).trans (h.block k hk hC hr)
  · exact (hg.cell_far ⟨k, j, none⟩ (by show k < _; omega) (hn k hk hr)).trans (h.cell k hk hr j hj)
  · exact (hg.frozen_far ⟨k, j, none⟩ (by show k < _; omega) (hn k hk hr)).trans (h.froz k hk hr j)
  · obtain ⟨cs', h'⟩ := h.shape k hk hr cs t f hh
    exact ⟨cs', (hg.block k (by omega) (hn k hk hr)).trans h'⟩
theorem Step.below (h : Step w w' C row) (hb : Below w'.heap.size w' w2) : Step w w2 C row := by
  have hs := h.size
  refine ⟨hb.os.trans h.os, hb.tape.trans h.tape, hb.output.trans h.output, Nat.le_trans h.size hb.size, fun k hk hC hr => ?_, fun k hk hr j hj => ?_, fun k hk hr j => ?_, fun k hk hr cs t f hh => ?_⟩
  · exact (hb.block k (by omega)).trans (h.block k hk hC hr)
  · exact (hb.cell (p := ⟨k, j, none⟩) (by show k < _; omega)).trans (h.cell k hk hr j hj)
  · exact (hb.frozen (p := ⟨k, j, none⟩) (by show k < _; omega)).trans (h.froz k hk hr j)
  · obtain ⟨cs', h'⟩ := h.shape k hk hr cs t f hh
    exact ⟨cs', (hb.block k (by omega)).trans h'⟩
theorem Step.own (h : Step w w' C row) {base : Nat} {e : TypeId} {size n : Nat} {v : Value} {xs : List Value} (ho : w.ownsRow base e size v n xs) (hC : ∀ k, v.ownBlock = some k → ∀ j, (k, j) ∉ C) (hr : v.ownBlock = none ∨ v.ownBlock ≠ row) :
    w'.ownsRow base e size v n xs := by
  refine ⟨ho.1, ?_⟩
  rcases ho.2 with h2 | ⟨g, cap, cur, hv, hg, hh, r⟩
  · exact Or.inl h2
  · subst hv
    refine Or.inr ⟨g, cap, cur, rfl, hg, ?_, r⟩
    have hlt : g < w.heap.size := by
      rcases Nat.lt_or_ge g w.heap.size with hlt | hge
      · exact hlt
      · rw [Array.getElem?_eq_none hge] at hh; cases hh
    rw [h.block g hlt (hC g rfl) (by rcases hr with h0 | h0; · cases h0
                                     · exact h0)]
    exact hh
end

end Go.Proofs.Ytmiejdbpogggeaa
end

section
/- A map from texts to places, laid by the call itself in the order of the texts; a block of the heap laid anew. -/
set_option linter.unusedVariables false
set_option linter.unusedSimpArgs false
namespace Go.Proofs.Ytmiejdbpogggeaa
open Go.RowKit

theorem toList_mk (a : Bytes) : (ByteArray.mk a.toArray).toList = a := by
  rw [ByteArray.toList_eq]
theorem ba_injM (a s : Bytes) : (ByteArray.mk a.toArray = ByteArray.mk s.toArray) ↔ a = s := by
  constructor
  · intro h
    injection h with h
    simpa using h
  · intro h; rw [h]
theorem sameKey_str (a b : Bytes) : sameKey (.string ⟨a.toArray⟩) (.string ⟨b.toArray⟩) = decide (a = b) := by
  show (ByteArray.mk a.toArray == ByteArray.mk b.toArray) = decide (a = b)
  rw [beq_toListBytes, toList_mk, toList_mk]
  by_cases h : a = b <;> simp [h]

/-- Block b laid anew. -/
def setB (w : World) (b : Nat) (o : Obj) : World := { w with heap := w.heap.setIfInBounds b o }
theorem setB_size (w : World) (b : Nat) (o : Obj) : (setB w b o).heap.size = w.heap.size := by simp [setB]
theorem setB_new (w : World) (b : Nat) (o : Obj) (h : b < w.heap.size) : (setB w b o).heap[b]? = some o := by simp [setB, h]
theorem setB_other (w : World) (b k : Nat) (o : Obj) (h : k ≠ b) : (setB w b o).heap[k]? = w.heap[k]? := by
  show (w.heap.setIfInBounds b o)[k]? = _
  rw [Array.getElem?_setIfInBounds]
  simp [Ne.symm h]
theorem setB_cell (w : World) (b : Nat) (o : Obj) (p : Addr) (h : p.block ≠ b) : (setB w b o).cell? p = w.cell? p := by
  unfold World.cell?
  rw [setB_other w b p.block o h]
theorem setB_frozen (w : World) (b : Nat) (o : Obj) (p : Addr) (h : p.block ≠ b) : (setB w b o).frozen? p = w.frozen? p := by
  unfold World.frozen?
  rw [setB_other w b p.block o h]
theorem Below.setB {B : Nat} {w w' : World} (h : Below B w w') {b : Nat} (hb : B ≤ b) (o : Obj) : Below B w (setB w' b o) :=
  ⟨h.os, h.tape, h.output, by rw [setB_size]; exact h.size, fun k hk => by rw [setB_other w' b k o (by omega)]; exact h.block k hk⟩
attribute [irreducible] setB

/-- The entries: each text's place. -/
def atL : List Bytes → Nat → List MapEntry
  | [], _ => []
  | s :: r, i => ⟨.string ⟨s.toArray⟩, .int .i64 i, i⟩ :: atL r (i + 1)
def atMap (l : List Bytes) : Array MapEntry := (atL l 0).toArray
def atV (l : List Bytes) (s : Bytes) : Int := if l.contains s then (l.idxOf s : Int) else 0
theorem atL_snoc : ∀ (l : List Bytes) (s : Bytes) (i : Nat), atL (l ++ [s]) i = atL l i ++ [⟨.string ⟨s.toArray⟩, .int .i64 (i + l.length : Nat), i + l.length⟩]
  | [], s, i => by simp [atL]
  | a :: r, s, i => by
    simp only [List.cons_append, atL, List.length_cons]
    rw [atL_snoc r s (i + 1), show i + 1 + r.length = i + (r.length + 1) by omega]
theorem atL_keys : ∀ (l : List Bytes) (i : Nat), ∀ e ∈ atL l i, KeyOk .string e.key
  | [], _, e, he => by simp [atL] at he
  | a :: r, i, e, he => by
    simp only [atL, List.mem_cons] at he
    rcases he with rfl | he
    · exact KeyOk.str _
    · exact atL_keys r (i + 1) e he
theorem atL_find : ∀ (l : List Bytes) (s : Bytes) (i j : Nat), ((findE (.string ⟨s.toArray⟩) (atL l i) j).map (·.2)).getD (.int .i64 0) = .int .i64 (if l.contains s then ((i + l.idxOf s : Nat) : Int) else 0) ∧ (findE (.string ⟨s.toArray⟩) (atL l i) j).isSome = l.contains s
  | [], s, i, j => by simp [atL, findE]
  | a :: r, s, i, j => by
    have ih := atL_find r s (i + 1) (j + 1)
    simp only [atL, findE, sameKey_str, decide_eq_true_eq, List.contains_cons, List.idxOf_cons]
    by_cases h : s = a
    · subst h; simp
    · have h1 : (s == a) = false := beq_false_of_ne h
      have h2 : (a == s) = false := beq_false_of_ne (Ne.symm h)
      rw [if_neg h, h1, h2, Bool.false_or]
      refine ⟨ih.1.trans ?_, ih.2⟩
      by_cases hc : r.contains s = true
      · rw [if_pos hc, if_pos hc]; simp; omega
      · rw [if_neg hc, if_neg hc]
section
variable {P : Program} {T K E : TypeId}
theorem run_at_look (hT : P.underlying T = some (.map K E)) (hK : P.underlying K = some .string) (hz : ∀ w, (zeroValue E).run P w = .ok (.int .i64 0) w) (W : World) (g c : Nat) (l : List Bytes) (s : Bytes) (hb : W.heap[g]? = some (.map (atMap l) c)) :
    (Instr.lookup T (.map (some g)) (.string ⟨s.toArray⟩) true).run P W = .ok (.tuple #[.int .i64 (atV l s), .bool (l.contains s)]) W := by
  have h := run_lookup_ok (k := .string ⟨s.toArray⟩) hT hK (KeyOk.str _) (fun e he => atL_keys l 0 e (by simpa [atMap] using he)) (hz W) hb
  have hf := atL_find l s 0 0
  refine h.trans ?_
  have e : (atMap l).toList = atL l 0 := by simp [atMap]
  rw [e, hf.1, hf.2, Nat.zero_add]
  rfl
theorem run_at_put (hT : P.underlying T = some (.map K E)) (hK : P.underlying K = some .string) (W : World) (g : Nat) (l : List Bytes) (s : Bytes) (hb : W.heap[g]? = some (.map (atMap l) l.length)) (hn : l.contains s = false) :
    (Instr.mapUpdate T (.map (some g)) (.string ⟨s.toArray⟩) (.int .i64 (l.length : Nat))).run P W = .ok () (setB W g (.map (atMap (l ++ [s])) (l ++ [s]).length)) := by
  have hf := (atL_find l s 0 0).2
  rw [hn] at hf
  have e : (atMap l).toList = atL l 0 := by simp [atMap]
  have h := run_mapUpdate_new (k := .string ⟨s.toArray⟩) (v := .int .i64 (l.length : Nat)) hT hK (KeyOk.str _) (fun x he => atL_keys l 0 x (by rw [← e]; exact he)) (by rw [e]; cases hh : findE (.string ⟨s.toArray⟩) (atL l 0) 0 with
    | none => rfl
    | some _ => rw [hh] at hf; cases hf) hb
  refine h.trans ?_
  unfold setB
  congr 3
  have e2 := atL_snoc l s 0
  rw [Nat.zero_add] at e2
  simp only [atMap, e2, List.length_append, List.length_cons, List.length_nil]
  congr 1
  simp
end

end Go.Proofs.Ytmiejdbpogggeaa
end

section
/- 'next' and 'entry' of an iterator over a map that lies as it lay when the loop began, wherever the iterator's block lies. Over any program. -/
set_option linter.unusedVariables false
set_option linter.unusedSimpArgs false
namespace Go.Proofs.Ytmiejdbpogggeaa
open Go.RowKit
section
variable {P : Program}

theorem run_next_at (w : World) (ty : TypeId) (bm r since c0 : Nat) (seen : Array Nat) (es : Array MapEntry) (clock : Nat) (hb : w.heap[bm]? = some (.map es clock)) (hr : w.heap[r]? = some (.mapIter (some bm) since seen c0))
    (hold : ∀ x ∈ es.toList, x.born < since) (hsc : since ≤ c0) :
    ((leftOf es seen).size = 0 ∧ (Instr.next (.pointer (some ⟨r, 0, none⟩)) false ty).run P w = .ok (.tuple #[.bool false]) w) ∨
    ∃ e ∈ (leftOf es seen).toList, ∃ w1 : World, (w1 = w ∨ w1 = w.drew) ∧ (Instr.next (.pointer (some ⟨r, 0, none⟩)) false ty).run P w = .ok (.tuple #[.bool true, e.key, e.val]) (setB w1 r (.mapIter (some bm) since (seen.push e.born) clock)) := by
  simp only [Instr.next, getObj, Sem.run_bind, Sem.run, hr, hb, Result.andThen, next_test_false seen es since c0 hold hsc, Bool.false_eq_true, if_false]
  unfold leftOf
  have hmem : ∀ x ∈ (Array.filter (fun e => !seen.contains e.born) es).toList, x.born < since := fun x hx => hold x (by simp at hx ⊢; exact hx.1)
  generalize Array.filter (fun e => !seen.contains e.born) es = L at hmem ⊢
  have e1 : L.filter (fun x => decide (x.born < since)) = L := Array.filter_eq_self.2 (fun x hx => by simpa using hmem x (by simpa using hx))
  have e2 : L.filter (fun x => decide (x.born ≥ since)) = #[] := by
    rw [Array.filter_eq_empty_iff]
    intro x hx
    have := hmem x (by simpa using hx)
    simp
    omega
  simp only [e1, e2, Array.append_empty]
  by_cases h0 : L.size = 0
  · left
    have : L = #[] := Array.eq_empty_of_size_eq_zero h0
    subst this
    refine ⟨rfl, ?_⟩
    simp [choose, Sem.run, Question.forced]
  · right
    have hne : L.isEmpty = false := by simp [Array.isEmpty, h0]
    simp only [hne, Bool.false_eq_true, if_false, Array.empty_append, Array.size_map]
    have hch : ∃ (j : Nat) (w1 : World), j < L.size ∧ (w1 = w ∨ w1 = w.drew) ∧ (choose (Question.mapNext L.size)).run P w = .ok j w1 := by
      by_cases hf : L.size ≤ 1
      · exact ⟨0, w, by omega, .inl rfl, by simp [choose, Sem.run, Question.forced, hf]⟩
      · exact ⟨_, w.drew, Nat.mod_lt _ (by omega), .inr rfl, by
          simp only [choose, Sem.run, Question.forced, decide_eq_true_eq, hf, if_false, Question.cut]
          rfl⟩
    obtain ⟨j, w1, hj, hal, hrun⟩ := hch
    refine ⟨L[j], by simp, w1, hal, ?_⟩
    have hr1 : w1.heap[r]? = some (.mapIter (some bm) since seen c0) := by rcases hal with rfl | rfl <;> exact hr
    have hset : ∀ (o' : Obj), (setObj r o').run P w1 = .ok () (setB w1 r o') := fun o' => by
      unfold setB
      simp only [setObj, Sem.run, hr1]
    simp only [hrun, Array.getElem?_map, Array.getElem?_eq_getElem hj, Option.map_some, Sem.run_bind, hset, Result.andThen]
    rfl

theorem run_entry_at (w : World) (bm r since : Nat) (seen : Array Nat) (es : Array MapEntry) (clock : Nat) (e : MapEntry) (hb : w.heap[bm]? = some (.map es clock)) (hr : w.heap[r]? = some (.mapIter (some bm) since (seen.push e.born) clock))
    (he : e ∈ es.toList) (hn : (es.toList.map (·.born)).Nodup) :
    (Instr.entry (.pointer (some ⟨r, 0, none⟩))).run P w = .ok (.tuple #[e.key, e.val]) w := by
  have hf : es.find? (·.born == e.born) = some e := by rw [← Array.find?_toList]; exact find_born e es.toList hn he
  simp only [Instr.entry, getObj, Sem.run_bind, Sem.run, hr, hb, Result.andThen, Array.back?_push, bne_self_eq_false, Bool.false_eq_true, if_false, hf]
  rfl
end
end Go.Proofs.Ytmiejdbpogggeaa
end
