/- Layer 8, the reference: the walk of Join. -/
import Derived.Test.YtmfaoglehopoiaaDoorRef8U
namespace Go.Proofs.YtmfaoglehopoiaaDoor
open Go.RowKit

theorem textR_ok (t : Tok) (h : (textL t).2 = true) : (textR t).1 = (textL t).1 := by
  unfold textR
  by_cases h2 : t.kind = 2
  · rw [if_pos h2]
    unfold textL at h ⊢
    rw [if_neg (by omega), if_pos h2] at h ⊢
    have : 0 ≤ t.n := by simp at h; exact h.1
    show Lib.itoa _ = Lib.itoa _
    rw [show max t.n 0 = t.n by omega]
  · rw [if_neg h2]
theorem textR_snd (t : Tok) : (textR t).2 = (textL t).2 := by
  unfold textR
  split <;> rfl

theorem joinTail_app (sep : Bytes) (a b : List Bytes) : Lib.joinTail sep (a ++ b) = Lib.joinTail sep a ++ Lib.joinTail sep b := by
  simp [Lib.joinTail]
theorem join_snoc (sep : Bytes) (a : List Bytes) (x : Bytes) : Lib.join (a ++ [x]) sep = if a = [] then x else Lib.join a sep ++ sep ++ x := by
  cases a with
  | nil => simp [Lib.join_one]
  | cons y r =>
    rw [if_neg (by simp), List.cons_append, Lib.join_cons, Lib.join_cons, joinTail_app]
    simp [Lib.joinTail]
theorem join_app_len (sep : Bytes) (a b : List Bytes) : (Lib.join a sep).length ≤ (Lib.join (a ++ b) sep).length := by
  cases a with
  | nil => simp [Lib.join_nil]
  | cons y r =>
    rw [List.cons_append, Lib.join_cons, Lib.join_cons, joinTail_app]
    simp

theorem textsL_step (l : List Tok) (k : Nat) (t : Tok) (h : l[k]? = some t) : Lib.join ((textsL l).take (k + 1)) [32] = (if k = 0 then (textL t).1 else Lib.join ((textsL l).take k) [32] ++ [32] ++ (textL t).1) ∧
    (Lib.join ((textsL l).take (k + 1)) [32]).length ≤ (Lib.join (textsL l) [32]).length := by
  obtain ⟨h1, rfl⟩ := List.getElem?_eq_some_iff.1 h
  have h2 : k < (textsL l).length := by simpa [textsL] using h1
  constructor
  · rw [List.take_succ_eq_append_getElem h2, join_snoc]
    have : (textsL l)[k] = (textL l[k]).1 := by simp [textsL]
    rw [this]
    by_cases hk : k = 0
    · subst hk; simp
    · rw [if_neg hk, if_neg]
      intro h0
      have := congrArg List.length h0
      rw [List.length_take, List.length_nil] at this
      omega
  · have := join_app_len [32] ((textsL l).take (k + 1)) ((textsL l).drop (k + 1))
    rwa [List.take_append_drop] at this

set_option maxRecDepth 100000 in
set_option maxHeartbeats 2000000 in
theorem ref8_Join (A : Option Addr) (c : Nat) (l : List Tok) (w : World) (h : Reads w w.heap.size 4 A l.length (l.flatMap Tok.cells))
    (hl : l.length ≤ maxLen) (hs : ∀ t ∈ l, t.s.length ≤ maxLen ∧ -9223372036854775808 ≤ t.n ∧ t.n ≤ 9223372036854775807) :
    Calls Tryd.prog 8 #[.slice A l.length c] w fun e w' => e = .returned (.tuple #[.string ⟨(joinL l).1.toArray⟩, .int .i64 (joinL l).2]) ∧ Below w.heap.size w w' := by
  unfold maxLen at hl
  by_cases h8 : 8192 < l.length
  · have hj : joinL l = ([], 1) := by unfold joinL; rw [if_pos h8]
    have hc : decide ((l.length : Int) > 8192) = true := decide_eq_true (by omega)
    rw [hj]
    clear hs
    go_enter Tryd.func8, Tryd.ntmps8
    go_wp2
    go_ret2
    exact ⟨rfl, Below.refl _ _⟩
  have HT := Lib.hid (fun (k : Nat) (t : Tok) (hk : l[k]? = some t) W => ref8_text t W (hs t (List.mem_of_getElem? hk)).1 (hs t (List.mem_of_getElem? hk)).2.2)
  clear hs
  have hc : decide ((l.length : Int) > 8192) = false := decide_eq_false (by omega)
  have H8 := Lib.hid h8
  have hjl : joinL l = if l.all (fun t => (textL t).2) then (if 65536 < (Lib.join (textsL l) [32]).length then ([], 6) else (Lib.join (textsL l) [32], 0)) else ([], 1) := by
    unfold joinL; rw [if_neg h8]
  have HL := Lib.hid hjl
  clear h8 hjl
  go_enter Tryd.func8, Tryd.ntmps8
  go_wp2
  go_loopw [4, 14] (fun s i wr => ∃ (k : Nat) (S : Bytes), k ≤ l.length ∧ i = .int .i64 k ∧ s = .string ⟨S.toArray⟩ ∧ S = Lib.join ((textsL l).take k) [32] ∧ Below w.heap.size w wr ∧ S.length ≤ 17 * k ∧
    l.all (fun t => (textL t).2) = (l.drop k).all (fun t => (textL t).2)) (fun _ i _ => l.length - (intOf i).toNat)
  case atStart => exact ⟨0, [], Nat.zero_le _, rfl, rfl, rfl, Below.refl _ _, by simp, rfl⟩
  case round =>
    obtain ⟨k, S, hk, rfl, rfl, hS, hB, hSl, hall⟩ := hrel
    have hbs := hB.size
    have HA := Lib.hid hall
    have HS := Lib.hid hS
    clear hall hS
    by_cases hlt : k < l.length
    · obtain ⟨a, ha⟩ : ∃ a, l[k]? = some a := ⟨_, List.getElem?_eq_getElem hlt⟩
      obtain ⟨ad, hA1, hb1, p0, p1, p2, p3⟩ := tok_cells (h.below hB) k a ha
      subst hA1
      have HQ := Lib.hid (all_step l k a ha)
      have HU := Lib.hid (textsL_step l k a ha)
      have HAA := Lib.hid ha
      clear ha
      have hbl : (ad.add (k * 4)).block < wr.heap.size := by rw [block_of_add]; omega
      cases hab : (textL a).2
      · have H1 := Lib.hid (by rw [HL.out, HA.out, HQ.out, hab]; rfl : joinL l = ([], 1))
        have HB := Lib.hid ((textR_snd a).trans hab)
        clear hab
        go_wp2_with fail
        refine (HT.out k a HAA.out _).mono ?_
        rintro e w1 ⟨rfl, hb1⟩
        rw [HB.out]
        go_wp2
        go_ret2
        refine ⟨ret_se (by rw [H1.out]) (by rw [H1.out]), ?_⟩
        exact (hB.alloc hbs _).trans (hb1.mono (by simp; omega))
      · have HB := Lib.hid ((textR_snd a).trans hab)
        have HR := Lib.hid (textR_ok a hab)
        have HC := Lib.hid hab
        clear hab
        go_wp2_with fail
        refine (HT.out k a HAA.out _).mono ?_
        rintro e w1 ⟨rfl, hb1⟩
        rw [HB.out, HR.out]
        have hul := HU.out
        have hU := text_len a HC.out
        have h8 := H8.out
        have hW : Below w.heap.size w w1 := (hB.alloc hbs _).trans (hb1.mono (by simp; omega))
        generalize (textL a).1 = U at *
        by_cases hk0 : k = 0
        · have hd0 : decide (0 < (k : Int)) = false := decide_eq_false (by omega)
          have hS0 : S = [] := by rw [HS.out, hk0]; rfl
          rw [if_pos hk0] at hul
          have HV := Lib.hid hul.1
          have hsz : ¬ (9223372036854775807 < (S.length : Int) + (U.length : Int)) := by rw [hS0]; simp; omega
          clear hul
          go_wp2
          refine ⟨⟨k + 1, S ++ U, by omega, by go_num, by rw [ByteArray.mk_append_mk]; simp [hS0], by rw [HV.out, hS0]; rfl, hW, by rw [hS0]; simp; omega, by rw [HA.out, HQ.out, HC.out, Bool.true_and]⟩, by simp [intOf]; omega⟩
        · have hd0 : decide (0 < (k : Int)) = true := decide_eq_true (by omega)
          rw [if_neg hk0] at hul
          have HV := Lib.hid hul.1
          have hsz : ¬ (9223372036854775807 < (S.length : Int) + 1 + (U.length : Int)) := by omega
          have hsz1 : ¬ (9223372036854775807 < (S.length : Int) + 1) := by omega
          have hk1 : 0 < k := by omega
          clear hul hd0 hB h
          have HU6 := Lib.hid hU
          clear h8 hU
          have HK := Lib.hid hk0
          have HSL := Lib.hid hSl
          clear hk0 hSl hk
          go_wp2_with fail
          refine ⟨⟨k + 1, S ++ [32] ++ U, by omega, by go_num, by simp [ByteArray.mk_append_mk], by rw [HV.out, ← HS.out], hW, by have := HSL.out; have := HU6.out; simp; omega, by rw [HA.out, HQ.out, HC.out, Bool.true_and]⟩, by simp [intOf]; omega⟩
    · have hkl : k = l.length := by omega
      have hjlx := HL.out
      have hT : l.all (fun t => (textL t).2) = true := by rw [HA.out, List.drop_eq_nil_of_le (by omega)]; rfl
      have hSJ : S = Lib.join (textsL l) [32] := by rw [HS.out, List.take_of_length_le (by simp [textsL]; omega)]
      rw [hT, if_pos rfl, ← hSJ] at hjlx
      clear hkl hT hSJ
      by_cases h6 : 65536 < S.length
      · have H1 := Lib.hid (by rw [hjlx, if_pos h6] : joinL l = ([], 6))
        have hc6 : decide ((S.length : Int) > 65536) = true := decide_eq_true (by omega)
        clear hjlx h6
        go_wp2
        go_ret2
        exact ⟨ret_se (by rw [H1.out]) (by rw [H1.out]), hB⟩
      · have H1 := Lib.hid (by rw [hjlx, if_neg h6] : joinL l = (S, 0))
        have hc6 : decide ((S.length : Int) > 65536) = false := decide_eq_false (by omega)
        clear hjlx h6
        go_wp2
        go_ret2
        exact ⟨ret_se (by rw [H1.out]) (by rw [H1.out]), hB⟩

end Go.Proofs.YtmfaoglehopoiaaDoor
