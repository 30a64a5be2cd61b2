/- Layer 7, the reference: the walks of like, number, Parse, ParseIso. -/
import Derived.Test.YtbeciinkecmbaaaDoorRef7W
import Derived.Deep.RegionHeld3
set_option linter.unusedVariables false
namespace Go.Proofs.YtbeciinkecmbaaaDoor
open Go.RowKit

/-- A text as the reference's pattern: a digit for each '0', else the same byte. -/
def like0 : Bytes → Bytes → Bool
  | [], [] => true
  | f :: fs, c :: cs => (if f = 48 then isDigit c else decide (c = f)) && like0 fs cs
  | _, _ => false
theorem like0_D (s : Bytes) : like0 [48, 48, 48, 48, 45, 48, 48, 45, 48, 48] s = likeF formD s := by
  unfold formD
  match s with
  | [] => rfl
  | [_] | [_, _] | [_, _, _] | [_, _, _, _] | [_, _, _, _, _] | [_, _, _, _, _, _] | [_, _, _, _, _, _, _] | [_, _, _, _, _, _, _, _] | [_, _, _, _, _, _, _, _, _] => simp [like0, likeF]
  | [a, b, c, d, e, f, g, i, j, k] => simp [like0, likeF]
  | a :: b :: c :: d :: e :: f :: g :: i :: j :: k :: l :: r => simp [like0, likeF]
theorem like0_I (s : Bytes) : like0 [48, 48, 48, 48, 45, 87, 48, 48, 45, 48] s = likeF formI s := by
  unfold formI
  match s with
  | [] => rfl
  | [_] | [_, _] | [_, _, _] | [_, _, _, _] | [_, _, _, _, _] | [_, _, _, _, _, _] | [_, _, _, _, _, _, _] | [_, _, _, _, _, _, _, _] | [_, _, _, _, _, _, _, _, _] => simp [like0, likeF]
  | [a, b, c, d, e, f, g, i, j, k] => simp [like0, likeF]
  | a :: b :: c :: d :: e :: f :: g :: i :: j :: k :: l :: r => simp [like0, likeF]
theorem like0_len : ∀ (f s : Bytes), like0 f s = true → s.length = f.length
  | [], [], _ => rfl
  | f :: fs, c :: cs, h => by
    simp only [like0, Bool.and_eq_true] at h
    simp [like0_len fs cs h.2]
  | [], _ :: _, h => by simp [like0] at h
  | _ :: _, [], h => by simp [like0] at h
theorem like0_step (f s : ByteArray) (k : Nat) (hf : k < f.size) (hs : k < s.size) : like0 (f.data.toList.drop k) (s.data.toList.drop k) = ((if f[k] = 48 then isDigit s[k] else decide (s[k] = f[k])) && like0 (f.data.toList.drop (k + 1)) (s.data.toList.drop (k + 1))) := by
  rw [ba_drop_cons f k hf, ba_drop_cons s k hs]
  rfl

set_option maxRecDepth 100000 in
set_option maxHeartbeats 1000000 in
theorem ref7_like (s f : ByteArray) (w : World) (hs : s.size ≤ maxLen) (hf : f.size ≤ 16) :
    Calls Tryd.prog 27 #[.string s, .string f] w fun e w' => e = .returned (.bool (like0 f.data.toList s.data.toList)) ∧ Below w.heap.size w w' := by
  unfold maxLen at hs
  by_cases hlen : s.size = f.size
  · have hne : ((s.size : Int) != (f.size : Int)) = false := bne_f (by omega)
    have HL := Lib.hid hlen
    have hfs : f.size ≤ s.size := by omega
    have hsf : s.size ≤ f.size := by omega
    clear hlen
    go_enter Tryd.func27, Tryd.ntmps27
    go_wp2_with fail
    go_loopw [13] (fun i wr => ∃ k : Nat, k ≤ s.size ∧ i = .int .i64 k ∧ Below w.heap.size w wr ∧ like0 f.data.toList s.data.toList = like0 (f.data.toList.drop k) (s.data.toList.drop k)) (fun i _ => s.size - (intOf i).toNat)
    case atStart => exact ⟨0, Nat.zero_le _, rfl, Below.refl _ _, rfl⟩
    case round =>
      obtain ⟨k, hk, rfl, hB, hgo⟩ := hrel
      by_cases hlt : k < s.size
      · have hltf : k < f.size := by omega
        have hst := like0_step f s k hltf hlt
        rw [hst] at hgo
        clear hst
        have hc255 : (s[k].toNat : Int) ≤ 255 := by have := s[k].toNat_lt; omega
        have HB := Lib.hid hB
        clear hB
        by_cases h48 : f[k] = 48
        · have hfe : ((f[k].toNat : Int) == 48) = true := by rw [h48]; rfl
          rw [if_pos h48] at hgo
          clear h48
          cases hd : isDigit s[k]
          · rw [hd, Bool.false_and] at hgo
            have HG := Lib.hid hgo
            have hr : ¬ (48 ≤ s[k].toNat ∧ s[k].toNat ≤ 57) := fun h => by have := (isDigit_iff s[k]).2 h; rw [hd] at this; cases this
            clear hgo hd
            by_cases h1 : 48 ≤ (s[k].toNat : Int)
            · have h2 : ¬ (s[k].toNat : Int) ≤ 57 := by omega
              clear hr
              go_wp2_with fail
              all_goals
                first | go_quiet (fail) | skip
                go_wp2
                go_ret
                exact ⟨ret_bool (by rw [HG.out]), by first | exact HB.out | exact HB.out.drew | exact below_drewN HB.out _⟩
            · clear hr
              go_wp2_with fail
              all_goals
                first | go_quiet (fail) | skip
                go_wp2
                go_ret
                exact ⟨ret_bool (by rw [HG.out]), by first | exact HB.out | exact HB.out.drew | exact below_drewN HB.out _⟩
          · rw [hd, Bool.true_and] at hgo
            have HG := Lib.hid hgo
            have hr := (isDigit_iff s[k]).1 hd
            have h1 : 48 ≤ (s[k].toNat : Int) := by omega
            have h2 : (s[k].toNat : Int) ≤ 57 := by omega
            clear hgo hd hr
            go_wp2
            exact ⟨⟨k + 1, by omega, by go_num, HB.out, HG.out⟩, by simp [intOf]; omega⟩
        · have hfe : ((f[k].toNat : Int) == 48) = false := beq_f (fun h => h48 (UInt8.toNat_inj.1 (by have : (48 : UInt8).toNat = 48 := rfl; omega)))
          rw [if_neg h48] at hgo
          clear h48
          by_cases hcf : s[k] = f[k]
          · rw [decide_eq_true hcf, Bool.true_and] at hgo
            have HG := Lib.hid hgo
            have hsc : ((s[k].toNat : Int) != (f[k].toNat : Int)) = false := bne_f (by rw [hcf])
            clear hgo hcf
            go_wp2_with fail
            first | go_quiet (fail) | fail
            go_wp2
            exact ⟨⟨k + 1, by omega, by go_num, by first | exact HB.out | exact HB.out.drew | exact below_drewN HB.out _, HG.out⟩, by simp [intOf]; omega⟩
          · rw [decide_eq_false hcf, Bool.false_and] at hgo
            have HG := Lib.hid hgo
            have hsc : ((s[k].toNat : Int) != (f[k].toNat : Int)) = true := bne_t (fun h => hcf (UInt8.toNat_inj.1 (by omega)))
            clear hgo hcf
            go_wp2_with fail
            first | go_quiet (fail) | fail
            go_wp2
            go_ret
            exact ⟨ret_bool (by rw [HG.out]), by first | exact HB.out | exact HB.out.drew | exact below_drewN HB.out _⟩
      · have hend : like0 (f.data.toList.drop k) (s.data.toList.drop k) = true := by
          rw [List.drop_eq_nil_of_le (by rw [ba_len]; omega), List.drop_eq_nil_of_le (by rw [ba_len]; omega)]; rfl
        rw [hend] at hgo
        have HG := Lib.hid hgo
        clear hgo hend
        go_wp2
        go_ret
        exact ⟨ret_bool (by rw [HG.out]), hB⟩
  · have hne : ((s.size : Int) != (f.size : Int)) = true := bne_t (by omega)
    have HN := Lib.hid (show like0 f.data.toList s.data.toList = false by
      cases h : like0 f.data.toList s.data.toList
      · rfl
      · have := like0_len _ _ h
        rw [ba_len, ba_len] at this
        exact absurd this hlen)
    clear hlen
    go_enter Tryd.func27, Tryd.ntmps27
    go_wp2
    go_ret
    exact ⟨ret_bool (by rw [HN.out]), Below.refl _ _⟩


theorem ref7_number (s : ByteArray) (w : World) (hs : s.size ≤ 9) (hd : s.data.toList.all isDigit = true) :
    Calls Tryd.prog 29 #[.string s] w fun e w' => e = .returned (.int .i64 (numL s.data.toList)) ∧ w = w' := by
  have hb := fun k => numL_bound (s.data.toList.take k) (by rw [List.all_eq_true] at hd ⊢; exact fun x hx => hd x (List.mem_of_mem_take hx))
  have HD := Lib.hid hd
  have HB := Lib.hid hb
  clear hd hb
  go_enter Tryd.func29, Tryd.ntmps29
  go_wp2_with fail
  go_loopw [3, 7] (fun a i wr => ∃ k : Nat, k ≤ s.size ∧ a = .int .i64 (numL (s.data.toList.take k)) ∧ i = .int .i64 k ∧ wr = w) (fun _ i _ => s.size - (intOf i).toNat)
  case atStart => exact ⟨0, Nat.zero_le _, rfl, rfl, rfl⟩
  case round =>
    obtain ⟨k, hk, rfl, rfl, rfl⟩ := hrel
    by_cases hlt : k < s.size
    · have hst : numL (s.data.toList.take (k + 1)) = numL (s.data.toList.take k) * 10 + ((s[k].toNat : Int) - 48) := by rw [ba_take_snoc s k hlt, numL_snoc]
      have HST := Lib.hid hst
      have hdk := (isDigit_iff s[k]).1 (by
        have := List.all_eq_true.1 HD.out _ (List.getElem_mem (show k < s.data.toList.length by rw [ba_len]; exact hlt))
        rw [ba_get s k hlt] at this; exact this)
      have h1 : 48 ≤ (s[k].toNat : Int) := by omega
      have h2 : (s[k].toNat : Int) ≤ 57 := by omega
      have h3 := (HB.out k).1
      have h4 : numL (s.data.toList.take k) < 10 ^ 9 := by
        have h5 := (HB.out k).2
        have h6 : (10 : Int) ^ (s.data.toList.take k).length ≤ 10 ^ 9 := by
          have : (10 : Nat) ^ (s.data.toList.take k).length ≤ 10 ^ 9 := Nat.pow_le_pow_right (by omega) (by rw [List.length_take, ba_len]; omega)
          exact_mod_cast this
        omega
      have h4' : numL (s.data.toList.take k) ≤ 1000000000 := by omega
      clear hst hdk h4
      generalize numL (s.data.toList.take k) = N at *
      go_wp2_with fail
      exact ⟨⟨k + 1, by omega, val_int (by rw [HST.out]; omega), by go_num, by first | trivial | rfl⟩, by simp [intOf]; omega⟩
    · have hks : k = s.size := by omega
      have HE := Lib.hid (show numL (s.data.toList.take k) = numL s.data.toList by rw [hks, ← ba_len, List.take_length])
      go_wp2
      go_ret
      exact ⟨ret_int (by rw [HE.out]), rfl⟩

theorem ref5_Day (y m d : Int) (w : World) :
    Calls Tryd.prog 28 #[.agg #[.int .i64 y, .int .i64 m, .int .i64 d]] w fun e w' => e = .returned (.tuple #[.int .i64 (dayN y m d).1, .int .i64 (dayN y m d).2]) ∧ Below w.heap.size w w' := by
  unfold dayN
  by_cases h : vld y m d
  · rw [if_pos h]; exact ref5_Day_ok y m d h w
  · rw [if_neg h]; exact ref5_Day_no y m d h w

theorem sub_num (s : ByteArray) (a b : Nat) (h : s.size = 10) (hb : b ≤ 10) (hab : a ≤ b) (hc : b - a ≤ 9) (hd : ((s.data.toList.take b).drop a).all isDigit = true) (w : World) :
    Calls Tryd.prog 29 #[.string (s.extract a b)] w fun e w' => e = .returned (.int .i64 (numL ((s.data.toList.take b).drop a))) ∧ w = w' := by
  have := ref7_number (s.extract a b) w (by rw [ByteArray.size_extract]; omega) (by rw [ba_extract]; exact hd)
  rw [ba_extract] at this
  exact this

set_option maxRecDepth 100000 in
set_option maxHeartbeats 1000000 in
theorem ref7_Parse (s : ByteArray) (w : World) (hs : s.size ≤ maxLen) :
    Calls Tryd.prog 13 #[.string s] w fun e w' => e = .returned (.tuple #[.int .i64 (parseD s.data.toList).1, .int .i64 (parseD s.data.toList).2]) ∧ Below w.heap.size w w' := by
  have HL := Lib.hid (fun W => ref7_like s ⟨#[48, 48, 48, 48, 45, 48, 48, 45, 48, 48]⟩ W hs (by decide))
  have hlk := like0_D s.data.toList
  cases hl : likeF formD s.data.toList
  · have HP := Lib.hid (show parseD s.data.toList = (0, 5) by unfold parseD; rw [hl]; rfl)
    rw [hl] at hlk
    have HK := Lib.hid hlk
    clear hlk hl
    go_enter Tryd.func13, Tryd.ntmps13
    go_wp2_with fail
    refine (HL.out _).mono ?_
    rintro e w1 ⟨rfl, hb1⟩
    rw [show like0 (ByteArray.mk #[48, 48, 48, 48, 45, 48, 48, 45, 48, 48]).data.toList s.data.toList = false from HK.out]
    go_wp2
    go_ret2
    exact ⟨ret_ii (by rw [HP.out]) (by rw [HP.out]), hb1⟩
  · have hp : parseD s.data.toList = dayN (numL (s.data.toList.take 4)) (numL ((s.data.toList.drop 5).take 2)) (numL (s.data.toList.drop 8)) := by unfold parseD; rw [hl]; rfl
    rw [hl] at hlk
    have hsz := likeF_len _ _ hl
    rw [ba_len] at hsz
    replace hsz : s.size = 10 := hsz
    have hall : ((s.data.toList.take 4).drop 0).all isDigit = true ∧ ((s.data.toList.take 7).drop 5).all isDigit = true ∧ ((s.data.toList.take 10).drop 8).all isDigit = true ∧ (s.data.toList.take 4).drop 0 = s.data.toList.take 4 ∧ (s.data.toList.take 7).drop 5 = (s.data.toList.drop 5).take 2 ∧ (s.data.toList.take 10).drop 8 = s.data.toList.drop 8 := by
      obtain ⟨a, b, c, d, e, f, g, i, j, k, hq⟩ := list10 s.data.toList (by rw [ba_len]; exact hsz)
      rw [hq] at hl ⊢
      simp [likeF, formD] at hl
      simp [hl]
    obtain ⟨a1, a2, a3, e1, e2, e3⟩ := hall
    have N1 := Lib.hid (fun W => sub_num s 0 4 hsz (by omega) (by omega) (by omega) a1 W)
    have N2 := Lib.hid (fun W => sub_num s 5 7 hsz (by omega) (by omega) (by omega) a2 W)
    have N3 := Lib.hid (fun W => sub_num s 8 10 hsz (by omega) (by omega) (by omega) a3 W)
    rw [e1] at N1
    rw [e2] at N2
    rw [e3] at N3
    clear e1 e2 e3 a1 a2 a3
    generalize numL (s.data.toList.take 4) = Y at *
    generalize numL ((s.data.toList.drop 5).take 2) = M at *
    generalize numL (s.data.toList.drop 8) = D at *
    have HP := Lib.hid hp
    have HK := Lib.hid hlk
    have HC := Lib.hid (fun W => ref5_Day Y M D W)
    clear hlk hl hp
    go_enter Tryd.func13, Tryd.ntmps13
    go_wp2_with fail
    refine (HL.out _).mono ?_
    rintro e w1 ⟨rfl, hb1⟩
    rw [show like0 (ByteArray.mk #[48, 48, 48, 48, 45, 48, 48, 45, 48, 48]).data.toList s.data.toList = true from HK.out]
    go_wp2_with fail
    go_region_held3 (fun W => Below w.heap.size w W) (first | assumption | exact Below.drew (by assumption) | exact Below.trans (by assumption) (hbc.mono (by first | exact Below.size (by assumption) | exact hb1.size)))
      (first
        | (go_at_call 29; ((with_reducible refine Calls.mono (N1.out _) ?_); rintro e w2 ⟨rfl, rfl⟩))
        | (go_at_call 29; ((with_reducible refine Calls.mono (N2.out _) ?_); rintro e w2 ⟨rfl, rfl⟩))
        | (go_at_call 29; ((with_reducible refine Calls.mono (N3.out _) ?_); rintro e w2 ⟨rfl, rfl⟩))
        | (go_at_call 28; ((with_reducible refine Calls.mono (HC.out _) ?_); rintro e w2 ⟨rfl, hbc⟩)))
    all_goals
      go_wp2
      go_ret2
      exact ⟨ret_ii (by rw [HP.out]) (by rw [HP.out]), by first | assumption | (go_split_ands; assumption)⟩

set_option maxRecDepth 100000 in
set_option maxHeartbeats 1000000 in
theorem ref7_ParseIso (s : ByteArray) (w : World) (hs : s.size ≤ maxLen) :
    Calls Tryd.prog 16 #[.string s] w fun e w' => e = .returned (.tuple #[.int .i64 (parseI s.data.toList).1, .int .i64 (parseI s.data.toList).2]) ∧ Below w.heap.size w w' := by
  have HL := Lib.hid (fun W => ref7_like s ⟨#[48, 48, 48, 48, 45, 87, 48, 48, 45, 48]⟩ W hs (by decide))
  have hlk := like0_I s.data.toList
  cases hl : likeF formI s.data.toList
  · have HP := Lib.hid (show parseI s.data.toList = (0, 5) by unfold parseI; rw [hl]; rfl)
    rw [hl] at hlk
    have HK := Lib.hid hlk
    clear hlk hl
    go_enter Tryd.func16, Tryd.ntmps16
    go_wp2_with fail
    refine (HL.out _).mono ?_
    rintro e w1 ⟨rfl, hb1⟩
    rw [show like0 (ByteArray.mk #[48, 48, 48, 48, 45, 87, 48, 48, 45, 48]).data.toList s.data.toList = false from HK.out]
    go_wp2
    go_ret2
    exact ⟨ret_ii (by rw [HP.out]) (by rw [HP.out]), hb1⟩
  · have hp : parseI s.data.toList = isoN (numL (s.data.toList.take 4)) (numL ((s.data.toList.drop 6).take 2)) (numL (s.data.toList.drop 9)) := by unfold parseI; rw [hl]; rfl
    rw [hl] at hlk
    have hsz := likeF_len _ _ hl
    rw [ba_len] at hsz
    replace hsz : s.size = 10 := hsz
    have hall : ((s.data.toList.take 4).drop 0).all isDigit = true ∧ ((s.data.toList.take 8).drop 6).all isDigit = true ∧ ((s.data.toList.take 10).drop 9).all isDigit = true ∧ (s.data.toList.take 4).drop 0 = s.data.toList.take 4 ∧ (s.data.toList.take 8).drop 6 = (s.data.toList.drop 6).take 2 ∧ (s.data.toList.take 10).drop 9 = s.data.toList.drop 9 := by
      obtain ⟨a, b, c, d, e, f, g, i, j, k, hq⟩ := list10 s.data.toList (by rw [ba_len]; exact hsz)
      rw [hq] at hl ⊢
      simp [likeF, formI] at hl
      simp [hl]
    obtain ⟨a1, a2, a3, e1, e2, e3⟩ := hall
    have N1 := Lib.hid (fun W => sub_num s 0 4 hsz (by omega) (by omega) (by omega) a1 W)
    have N2 := Lib.hid (fun W => sub_num s 6 8 hsz (by omega) (by omega) (by omega) a2 W)
    have N3 := Lib.hid (fun W => sub_num s 9 10 hsz (by omega) (by omega) (by omega) a3 W)
    rw [e1] at N1
    rw [e2] at N2
    rw [e3] at N3
    clear e1 e2 e3 a1 a2 a3
    generalize numL (s.data.toList.take 4) = Y at *
    generalize numL ((s.data.toList.drop 6).take 2) = M at *
    generalize numL (s.data.toList.drop 9) = D at *
    have HP := Lib.hid hp
    have HK := Lib.hid hlk
    have HC := Lib.hid (fun W => ref6_Day Y M D W)
    clear hlk hl hp
    go_enter Tryd.func16, Tryd.ntmps16
    go_wp2_with fail
    refine (HL.out _).mono ?_
    rintro e w1 ⟨rfl, hb1⟩
    rw [show like0 (ByteArray.mk #[48, 48, 48, 48, 45, 87, 48, 48, 45, 48]).data.toList s.data.toList = true from HK.out]
    go_wp2_with fail
    go_region_held3 (fun W => Below w.heap.size w W) (first | assumption | exact Below.drew (by assumption) | exact Below.trans (by assumption) (hbc.mono (by first | exact Below.size (by assumption) | exact hb1.size)))
      (first
        | (go_at_call 29; ((with_reducible refine Calls.mono (N1.out _) ?_); rintro e w2 ⟨rfl, rfl⟩))
        | (go_at_call 29; ((with_reducible refine Calls.mono (N2.out _) ?_); rintro e w2 ⟨rfl, rfl⟩))
        | (go_at_call 29; ((with_reducible refine Calls.mono (N3.out _) ?_); rintro e w2 ⟨rfl, rfl⟩))
        | (go_at_call 31; ((with_reducible refine Calls.mono (HC.out _) ?_); rintro e w2 ⟨rfl, hbc⟩)))
    all_goals
      go_wp2
      go_ret2
      exact ⟨ret_ii (by rw [HP.out]) (by rw [HP.out]), by first | assumption | (go_split_ands; assumption)⟩

end Go.Proofs.YtbeciinkecmbaaaDoor
