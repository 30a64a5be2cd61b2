import Derived.Test.YtjbniichcopnlaaGreatDoorLexW2
/- Layer 8 (lex): the walks of the program's token, free, Name. -/
namespace Go.Proofs.YtjbniichcopnlaaGreatDoor
open Go.RowKit

/-- A token as a value. -/
def Tok.val (t : Tok) : Value := .agg #[.int .i64 t.kind, .int .i64 t.pos, .int .i64 t.n, .string ⟨t.s.toArray⟩]

theorem tokenL_cons (s : ByteArray) (h : 0 < s.size) (cnt : Nat) : tokenL s.data.toList cnt =
    (if signK s[0] = 0 ∧ isLetter s[0] = false ∧ isDigit s[0] = false then (⟨0, 0, 0, []⟩, 0, 5)
    else if cnt = 8192 then (⟨0, 0, 0, []⟩, 0, 6)
    else if signK s[0] ≠ 0 then (⟨signK s[0], 0, 0, []⟩, 1, 0)
    else if isDigit s[0] then (⟨2, 0, (numberL s.data.toList).1, []⟩, (numberL s.data.toList).2.1, (numberL s.data.toList).2.2)
    else if runL isInner s.data.toList > 16 then (⟨0, 0, 0, []⟩, 0, 6)
    else (⟨1, 0, 0, s.data.toList.take (runL isInner s.data.toList)⟩, runL isInner s.data.toList, 0) : Tok × Nat × Int) := by
  have := ba_drop_cons s 0 h
  rw [List.drop_zero] at this
  rw [this]
  rfl

/-- The four cells of a token's own block behind a call. -/
theorem tok_keeps {W w1 : World} {o : Obj} (hb : Below (W.alloc o).heap.size (W.alloc o) w1) : ∀ i, w1.cell? ⟨W.heap.size, i, none⟩ = (W.alloc o).cell? ⟨W.heap.size, i, none⟩ :=
  fun i => hb.cell (p := ⟨W.heap.size, i, none⟩) (by simp)
theorem tok_free {W w1 : World} {o : Obj} (hb : Below (W.alloc o).heap.size (W.alloc o) w1) : ∀ i, w1.frozen? ⟨W.heap.size, i, none⟩ = (W.alloc o).frozen? ⟨W.heap.size, i, none⟩ :=
  fun i => hb.frozen (p := ⟨W.heap.size, i, none⟩) (by simp)

theorem val_name (s : ByteArray) (m : Nat) : Value.agg #[.int .i64 1, .int .i64 0, .int .i64 0, .string (s.extract 0 m)] = (Tok.mk 1 0 0 (s.data.toList.take m)).val := by
  unfold Tok.val
  rw [← ba_to, ba_mk_toList]

set_option maxRecDepth 100000 in
set_option maxHeartbeats 2000000 in
theorem lex_token (s : ByteArray) (cnt : Nat) (w : World) (h0 : 0 < s.size) (hs : s.size ≤ maxLen) :
    Calls Tryz.prog 69 #[.string s, .int .i64 cnt] w fun e w' => e = .returned (.tuple #[(tokenL s.data.toList cnt).1.val, .int .i64 (tokenL s.data.toList cnt).2.1, .int .i64 (tokenL s.data.toList cnt).2.2]) ∧ Below w.heap.size w w' := by
  have hs' := hs
  unfold maxLen at hs'
  have ht := tokenL_cons s h0 cnt
  by_cases hA : signK s[0] = 0 ∧ isLetter s[0] = false ∧ isDigit s[0] = false
  · rw [if_pos hA] at ht
    have HT := Lib.hid ht
    clear ht
    obtain ⟨h1, h2, h3⟩ := hA
    go_enter Tryz.func69, Tryz.ntmps69
    go_wp2_with (first | (go_at_call 102; refine (lex_sign _ _).mono ?_; rintro e w' ⟨rfl, hb⟩; have q0 := tok_keeps hb 0; have q1 := tok_keeps hb 1; have q2 := tok_keeps hb 2; have q3 := tok_keeps hb 3; have z0 := tok_free hb 0; have z1 := tok_free hb 1; have z2 := tok_free hb 2; have z3 := tok_free hb 3; simp at q0 q1 q2 q3 z0 z1 z2 z3; have hsz := hb.size; simp at hsz) | (go_at_call 64; refine (lex_letter _ _).mono ?_; rintro e w' ⟨rfl, rfl⟩) | (go_at_call 96; refine (lex_digit _ _).mono ?_; rintro e w' ⟨rfl, rfl⟩))
    refine bodyPost_ret (v := .tuple #[.agg #[.int .i64 0, .int .i64 0, .int .i64 0, .string ⟨#[]⟩], .int .i64 0, .int .i64 5]) (by simp [results, Tryz.results69, go_sem, *]) rfl ⟨?_, ?_⟩
    · rw [HT.out]; rfl
    · (repeat (first | exact Below.refl _ _ | assumption | refine Below.setCell ?_ (by first | (simp; done) | (simp; omega) | omega) _ | refine Below.alloc ?_ (by first | (simp; done) | (simp; omega) | omega) _ | refine Below.drew ?_ | refine below_drewN ?_ _ | refine Below.trans ?_ (Below.mono (by assumption) (by first | (simp; done) | (simp; omega) | omega))))
  rw [if_neg hA] at ht
  have HA := Lib.hid hA
  clear hA
  by_cases hB : cnt = 8192
  · rw [if_pos hB] at ht
    have HT := Lib.hid ht
    clear ht
    have hb0 : ((cnt : Int) == 8192) = true := by simp; omega
    clear hB
    by_cases hK : signK s[0] = 0 <;> cases hL : isLetter s[0] <;> cases hD : isDigit s[0]
    all_goals try (exfalso; refine HA.out ?_; refine ⟨?_, ?_, ?_⟩ <;> assumption; done)
    all_goals
      go_enter Tryz.func69, Tryz.ntmps69
      go_wp2_with (first | (go_at_call 102; refine (lex_sign _ _).mono ?_; rintro e w' ⟨rfl, hb⟩; have q0 := tok_keeps hb 0; have q1 := tok_keeps hb 1; have q2 := tok_keeps hb 2; have q3 := tok_keeps hb 3; have z0 := tok_free hb 0; have z1 := tok_free hb 1; have z2 := tok_free hb 2; have z3 := tok_free hb 3; simp at q0 q1 q2 q3 z0 z1 z2 z3; have hsz := hb.size; simp at hsz) | (go_at_call 64; refine (lex_letter _ _).mono ?_; rintro e w' ⟨rfl, rfl⟩) | (go_at_call 96; refine (lex_digit _ _).mono ?_; rintro e w' ⟨rfl, rfl⟩))
      refine bodyPost_ret (v := .tuple #[.agg #[.int .i64 0, .int .i64 0, .int .i64 0, .string ⟨#[]⟩], .int .i64 0, .int .i64 6]) (by simp [results, Tryz.results69, go_sem, *]) rfl ⟨?_, ?_⟩
      · rw [HT.out]; rfl
      · (repeat (first | exact Below.refl _ _ | assumption | refine Below.setCell ?_ (by first | (simp; done) | (simp; omega) | omega) _ | refine Below.alloc ?_ (by first | (simp; done) | (simp; omega) | omega) _ | refine Below.drew ?_ | refine below_drewN ?_ _ | refine Below.trans ?_ (Below.mono (by assumption) (by first | (simp; done) | (simp; omega) | omega))))
  rw [if_neg hB] at ht
  have hb0 : ((cnt : Int) == 8192) = false := by simp; omega
  clear hB
  by_cases hK : signK s[0] = 0
  · rw [if_neg (by simp [hK])] at ht
    cases hD : isDigit s[0]
    · rw [if_neg (by simp [hD])] at ht
      have hL : isLetter s[0] = true := by
        cases hL : isLetter s[0]
        · exact absurd ⟨hK, hL, hD⟩ HA.out
        · rfl
      obtain ⟨m, hm⟩ : ∃ m, m = runL isInner s.data.toList := ⟨_, rfl⟩
      have hle : m ≤ s.size := by rw [hm, ← ba_len]; exact runL_le _ _
      have hrun := fun w => lex_run_inner s w hs
      rw [← hm] at ht hrun
      have HR := Lib.hid hrun
      clear hm hrun
      have hv := val_name s m
      have HV := Lib.hid hv
      clear hv
      by_cases hlong : 16 < m
      · rw [if_pos hlong] at ht
        have HT := Lib.hid ht
        clear ht
        go_enter Tryz.func69, Tryz.ntmps69
        go_wp2_with (first | (first | (go_at_call 102; refine (lex_sign _ _).mono ?_; rintro e w' ⟨rfl, hb⟩; have q0 := tok_keeps hb 0; have q1 := tok_keeps hb 1; have q2 := tok_keeps hb 2; have q3 := tok_keeps hb 3; have z0 := tok_free hb 0; have z1 := tok_free hb 1; have z2 := tok_free hb 2; have z3 := tok_free hb 3; simp at q0 q1 q2 q3 z0 z1 z2 z3; have hsz := hb.size; simp at hsz) | (go_at_call 64; refine (lex_letter _ _).mono ?_; rintro e w' ⟨rfl, rfl⟩) | (go_at_call 96; refine (lex_digit _ _).mono ?_; rintro e w' ⟨rfl, rfl⟩)) | (go_at_call 65; refine (HR.out _).mono ?_; rintro e w' ⟨rfl, rfl⟩))
        refine bodyPost_ret (v := .tuple #[.agg #[.int .i64 0, .int .i64 0, .int .i64 0, .string ⟨#[]⟩], .int .i64 0, .int .i64 6]) (by simp [results, Tryz.results69, go_sem, *]) rfl ⟨?_, ?_⟩
        · rw [HT.out]; rfl
        · (repeat (first | exact Below.refl _ _ | assumption | refine Below.setCell ?_ (by first | (simp; done) | (simp; omega) | omega) _ | refine Below.alloc ?_ (by first | (simp; done) | (simp; omega) | omega) _ | refine Below.drew ?_ | refine below_drewN ?_ _ | refine Below.trans ?_ (Below.mono (by assumption) (by first | (simp; done) | (simp; omega) | omega))))
      · rw [if_neg hlong] at ht
        have HT := Lib.hid ht
        clear ht
        go_enter Tryz.func69, Tryz.ntmps69
        go_wp2_with (first | (first | (go_at_call 102; refine (lex_sign _ _).mono ?_; rintro e w' ⟨rfl, hb⟩; have q0 := tok_keeps hb 0; have q1 := tok_keeps hb 1; have q2 := tok_keeps hb 2; have q3 := tok_keeps hb 3; have z0 := tok_free hb 0; have z1 := tok_free hb 1; have z2 := tok_free hb 2; have z3 := tok_free hb 3; simp at q0 q1 q2 q3 z0 z1 z2 z3; have hsz := hb.size; simp at hsz) | (go_at_call 64; refine (lex_letter _ _).mono ?_; rintro e w' ⟨rfl, rfl⟩) | (go_at_call 96; refine (lex_digit _ _).mono ?_; rintro e w' ⟨rfl, rfl⟩)) | (go_at_call 65; refine (HR.out _).mono ?_; rintro e w' ⟨rfl, rfl⟩))
        refine bodyPost_ret (v := .tuple #[.agg #[.int .i64 1, .int .i64 0, .int .i64 0, .string (s.extract 0 m)], .int .i64 m, .int .i64 0]) (by simp [results, Tryz.results69, go_sem, *]) rfl ⟨?_, ?_⟩
        · rw [HT.out, HV.out]
        · (repeat (first | exact Below.refl _ _ | assumption | refine Below.setCell ?_ (by first | (simp; done) | (simp; omega) | omega) _ | refine Below.alloc ?_ (by first | (simp; done) | (simp; omega) | omega) _ | refine Below.drew ?_ | refine below_drewN ?_ _ | refine Below.trans ?_ (Below.mono (by assumption) (by first | (simp; done) | (simp; omega) | omega))))
    · rw [if_pos hD] at ht
      have HT := Lib.hid ht
      clear ht
      cases hL : isLetter s[0]
      all_goals
        go_enter Tryz.func69, Tryz.ntmps69
        go_wp2_with (first | (go_at_call 102; refine (lex_sign _ _).mono ?_; rintro e w' ⟨rfl, hb⟩; have q0 := tok_keeps hb 0; have q1 := tok_keeps hb 1; have q2 := tok_keeps hb 2; have q3 := tok_keeps hb 3; have z0 := tok_free hb 0; have z1 := tok_free hb 1; have z2 := tok_free hb 2; have z3 := tok_free hb 3; simp at q0 q1 q2 q3 z0 z1 z2 z3; have hsz := hb.size; simp at hsz) | (go_at_call 64; refine (lex_letter _ _).mono ?_; rintro e w' ⟨rfl, rfl⟩) | (go_at_call 96; refine (lex_digit _ _).mono ?_; rintro e w' ⟨rfl, rfl⟩))
        refine (lex_number _ _ h0 hs).mono ?_
        rintro e w2 ⟨rfl, hb2⟩
        obtain ⟨hc2, hf2⟩ := bcell hb2
        have hsz2 := hb2.size
        have hl2 : w.heap.size < w'.heap.size := by omega
        have q20 := (hc2 _ 0 hl2).trans q0
        have q21 := (hc2 _ 1 hl2).trans q1
        have q22 := (hc2 _ 2 hl2).trans q2
        have q23 := (hc2 _ 3 hl2).trans q3
        have z20 := (hf2 _ 0 hl2).trans z0
        have z21 := (hf2 _ 1 hl2).trans z1
        have z22 := (hf2 _ 2 hl2).trans z2
        have z23 := (hf2 _ 3 hl2).trans z3
        clear hc2 hf2
        go_wp2
        refine bodyPost_ret (v := .tuple #[.agg #[.int .i64 2, .int .i64 0, .int .i64 (numberL s.data.toList).1, .string ⟨#[]⟩], .int .i64 (numberL s.data.toList).2.1, .int .i64 (numberL s.data.toList).2.2]) (by simp [results, Tryz.results69, go_sem, *]) rfl ⟨?_, ?_⟩
        · rw [HT.out]; rfl
        · (repeat (first | exact Below.refl _ _ | assumption | refine Below.setCell ?_ (by first | (simp; done) | (simp; omega) | omega) _ | refine Below.alloc ?_ (by first | (simp; done) | (simp; omega) | omega) _ | refine Below.drew ?_ | refine below_drewN ?_ _ | refine Below.trans ?_ (Below.mono (by assumption) (by first | (simp; done) | (simp; omega) | omega))))
  · rw [if_pos hK] at ht
    have HT := Lib.hid ht
    clear ht
    cases hL : isLetter s[0] <;> cases hD : isDigit s[0]
    all_goals
      go_enter Tryz.func69, Tryz.ntmps69
      go_wp2_with (first | (go_at_call 102; refine (lex_sign _ _).mono ?_; rintro e w' ⟨rfl, hb⟩; have q0 := tok_keeps hb 0; have q1 := tok_keeps hb 1; have q2 := tok_keeps hb 2; have q3 := tok_keeps hb 3; have z0 := tok_free hb 0; have z1 := tok_free hb 1; have z2 := tok_free hb 2; have z3 := tok_free hb 3; simp at q0 q1 q2 q3 z0 z1 z2 z3; have hsz := hb.size; simp at hsz) | (go_at_call 64; refine (lex_letter _ _).mono ?_; rintro e w' ⟨rfl, rfl⟩) | (go_at_call 96; refine (lex_digit _ _).mono ?_; rintro e w' ⟨rfl, rfl⟩))
      refine bodyPost_ret (v := .tuple #[.agg #[.int .i64 (signK s[0]), .int .i64 0, .int .i64 0, .string ⟨#[]⟩], .int .i64 1, .int .i64 0]) (by simp [results, Tryz.results69, go_sem, *]) rfl ⟨?_, ?_⟩
      · rw [HT.out]; rfl
      · (repeat (first | exact Below.refl _ _ | assumption | refine Below.setCell ?_ (by first | (simp; done) | (simp; omega) | omega) _ | refine Below.alloc ?_ (by first | (simp; done) | (simp; omega) | omega) _ | refine Below.drew ?_ | refine below_drewN ?_ _ | refine Below.trans ?_ (Below.mono (by assumption) (by first | (simp; done) | (simp; omega) | omega))))

end Go.Proofs.YtjbniichcopnlaaGreatDoor
