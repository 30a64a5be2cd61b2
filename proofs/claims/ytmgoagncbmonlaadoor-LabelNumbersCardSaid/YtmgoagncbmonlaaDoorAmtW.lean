/- Layer 18 (label): the walks of Amount, Small. -/
import Derived.Test.YtmgoagncbmonlaaDoorWholeW
set_option linter.unusedVariables false
namespace Go.Proofs.YtmgoagncbmonlaaDoor
open Go.RowKit

theorem amt_split (l : Bytes) : Lib.hasPrefix l [45] = isNeg l ∧ Lib.trimPrefix l [45] = bodyL l := by
  have h : Lib.hasPrefix l [45] = isNeg l := by
    unfold Lib.hasPrefix isNeg
    cases l with
    | nil => rfl
    | cons c r => by_cases h : c = 45
                  · subst h; simp [List.isPrefixOf]
                  · have h' : ¬ (45 : UInt8) = c := fun e => h e.symm
                    simp [List.isPrefixOf, h, h']
  refine ⟨h, ?_⟩
  unfold Lib.trimPrefix bodyL
  rw [h]; rfl
/-- What Amount does by the parts of the text. -/
theorem amt_cases (s D : ByteArray) (hD : D.data.toList = bodyL s.data.toList) : (D.size = 0 ∧ amountL s.data.toList = (0, 5)) ∨ (0 < D.size ∧
    ((D.data.toList.head? = some 48 ∧ (s.toList == [48]) = false ∧ amountL s.data.toList = (0, 5)) ∨ (D.data.toList.head? = some 48 ∧ (s.toList == [48]) = true ∧ amountL s.data.toList = digsR (isNeg s.data.toList) D.data.toList) ∨
     (D.data.toList.head? ≠ some 48 ∧ amountL s.data.toList = digsR (isNeg s.data.toList) D.data.toList))) := by
  rw [ba_toList]
  unfold amountL
  rw [← hD]
  by_cases h0 : D.data.toList = []
  · exact .inl ⟨by rw [← ba_len, h0]; rfl, if_pos (.inl h0)⟩
  · have hp : 0 < D.size := by rw [← ba_len]; exact List.length_pos_iff.2 h0
    refine .inr ⟨hp, ?_⟩
    by_cases h1 : D.data.toList.head? = some 48
    · by_cases h2 : s.data.toList = [48]
      · exact .inr (.inl ⟨h1, by rw [h2]; rfl, if_neg (fun a => by rcases a with a | a
                                                                   · exact h0 a
                                                                   · exact a.2 h2)⟩)
      · exact .inl ⟨h1, by simpa using h2, if_pos (.inr ⟨h1, h2⟩)⟩
    · exact .inr (.inr ⟨h1, if_neg (fun a => by rcases a with a | a
                                                · exact h0 a
                                                · exact h1 a.1)⟩)

/-- The loop over the digits, from behind the first look at them. -/
def AmtGoal (s D : ByteArray) (w : World) : Prop := Calls Tryd.prog 5 #[.string s] w fun e w' => e = .returned (.tuple #[.int .i64 (digsR (isNeg s.data.toList) D.data.toList).1, .int .i64 (digsR (isNeg s.data.toList) D.data.toList).2]) ∧ Below w.heap.size w w'

set_option maxRecDepth 100000 in
set_option maxHeartbeats 2000000 in
theorem amt_loop (s D : ByteArray) (neg : Bool) (w : World) (hs : D.size ≤ maxLen) (hDp : 0 < D.size) (hneg : isNeg s.data.toList = neg)
    (HC : ∀ W, Calls Tryd.prog 11 #[.string s, .string ⟨#[45]⟩] W fun e w' => e = .returned (.tuple #[.string D, .bool neg]) ∧ w' = W)
    (hcase : ((D[0].toNat : Int) == 48) = false ∨ (((D[0].toNat : Int) == 48) = true ∧ (s.toList == [48]) = true)) :
    Calls Tryd.prog 5 #[.string s] w fun e w' => e = .returned (.tuple #[.int .i64 (digsR neg D.data.toList).1, .int .i64 (digsR neg D.data.toList).2]) ∧ Below w.heap.size w w' := by
  unfold maxLen at hs
  obtain ⟨cap, W, hconv, hbW, hcW⟩ := conv_bytes (P := Tryd.prog) w 9 37 5 D Tryd.underlying9 Tryd.underlying37 Tryd.underlying5
  obtain ⟨x, U, ok, hx, hU0, hok0, hyes, hno, hend⟩ := amt_data neg D
  have HX := Lib.hid (fun k h => (hx k h).2)
  have HCL := Lib.hid (show ∀ k, k < D.size → W.cell? ⟨w.heap.size, k, none⟩ = some (.int .u8 (x k)) from fun k h => by rw [(hx k h).1]; exact hcW k h)
  have HY := Lib.hid hyes
  have HN := Lib.hid hno
  have HE := Lib.hid hend
  have HBW := Lib.hid hbW
  have HK0 := Lib.hid hok0
  have HCP := Lib.hid HC
  have HMU := Lib.hid (fun (a : Int) (ha : fit a) (W : World) => whole_Mul a 10 ha (by unfold fit; omega) W)
  have HAD := Lib.hid (fun (a b : Int) (ha : fit a) (hb : fit b) (W : World) => whole_Add a b ha hb W)
  have HSU := Lib.hid (fun (a b : Int) (ha : fit a) (hb : fit b) (W : World) => whole_Sub a b ha hb W)
  have hne : (D.toList == []) = false := by rw [ba_toList]; simp; intro e; rw [← ba_len, e] at hDp; simp at hDp
  have hs0 : (0 : Int) < D.size := by omega
  generalize digsR neg D.data.toList = R at *
  clear hcW hx hyes hno hend hbW hok0 HC
  rcases hcase with hc | ⟨hc, hc2⟩
  all_goals
    go_enter Tryd.func5, Tryd.ntmps5
    go_wp2_with fail
    refine (HCP.out _).mono ?_
    rintro e w1 ⟨rfl, rfl⟩
    go_wp2_with fail
    clear hconv hc hne hneg
    try clear hc2
    go_loopw [6, 7, 29] (fun n o i wr => ∃ (k : Nat) (nv ov : Int), k ≤ D.size ∧ n = .int .i64 nv ∧ o = .int .i64 ov ∧ i = .int .i64 k ∧ wr = W ∧ ok k ∧ ((ov = 0 ∧ nv = U k ∧ fit (U k)) ∨ (ov = 2 ∧ ¬ fit (U k)))) (fun _ _ i _ => D.size - (intOf i).toNat)
    case atStart => exact ⟨0, 0, 0, Nat.zero_le _, rfl, rfl, rfl, rfl, HK0.out, .inl ⟨rfl, hU0.symm, by rw [hU0]; unfold fit; omega⟩⟩
    case round =>
      obtain ⟨k, nv, ov, hk, rfl, rfl, rfl, hwr, hok, hst⟩ := hrel
      subst hwr
      have HOK := Lib.hid hok
      clear hok
      by_cases hlt : k < D.size
      · have hcl := HCL.out k hlt
        obtain ⟨hx0, hx1⟩ := HX.out k hlt
        have hltI : (k : Int) < D.size := by omega
        have hkI : (0 : Int) ≤ k := by omega
        have HLT := Lib.hid hlt
        have w1f : IntKind.i64.wrap ((k : Int) + 1) = (k : Int) + 1 := by rw [IntKind.wrap_i64]; omega
        have HST := Lib.hid hst
        clear hlt hk hst
        by_cases h1 : x k < 48
        · have HR := Lib.hid (HN.out k HLT.out (by omega))
          go_wp2_with fail
          go_ret2
          exact ⟨ret_ii (by rw [HR.out]) (by rw [HR.out]), HBW.out⟩
        · by_cases h2 : 57 < x k
          · have HR := Lib.hid (HN.out k HLT.out (by omega))
            go_wp2_with fail
            go_ret2
            exact ⟨ret_ii (by rw [HR.out]) (by rw [HR.out]), HBW.out⟩
          · have h48 : 48 ≤ x k := by omega
            have h57 : x k ≤ 57 := by omega
            have hy := HY.out k HLT.out HOK.out h48 h57
            have HYY := Lib.hid hy
            clear hy
            rcases HST.out with ⟨rfl, rfl, hf⟩ | ⟨rfl, hf⟩
            · have HF := Lib.hid hf
              clear hf
              by_cases hf1 : fit (U k * 10)
              · have HM := HMU.out (U k) HF.out
                simp only [if_pos hf1] at HM
                have HM1 := Lib.hid HM
                have HF1 := Lib.hid hf1
                clear HM hf1
                cases neg
                · have HA := HAD.out (U k * 10) (x k - 48) HF1.out (by unfold fit; omega)
                  have hU1 : U (k + 1) = U k * 10 + (x k - 48) := HYY.out.2.1
                  rw [← hU1] at HA
                  have HU1 := Lib.hid hU1
                  clear hU1
                  by_cases hf2 : fit (U (k + 1))
                  · simp only [if_pos hf2] at HA
                    have HA1 := Lib.hid HA
                    have HF2 := Lib.hid hf2
                    clear HA hf2
                    go_wp2_with fail
                    refine (HM1.out _).mono ?_
                    rintro e w2 ⟨rfl, rfl⟩
                    go_wp2_with fail
                    refine (HA1.out _).mono ?_
                    rintro e w2 ⟨rfl, rfl⟩
                    go_wp2_with fail
                    exact ⟨⟨k + 1, _, _, by have := HLT.out; omega, rfl, rfl, by go_num, by first | trivial | rfl, HYY.out.1, .inl ⟨rfl, rfl, HF2.out⟩⟩, by have := HLT.out; simp [intOf]; omega⟩
                  · simp only [if_neg hf2] at HA
                    have HA1 := Lib.hid HA
                    have HF2 := Lib.hid hf2
                    clear HA hf2
                    go_wp2_with fail
                    refine (HM1.out _).mono ?_
                    rintro e w2 ⟨rfl, rfl⟩
                    go_wp2_with fail
                    refine (HA1.out _).mono ?_
                    rintro e w2 ⟨rfl, rfl⟩
                    go_wp2_with fail
                    exact ⟨⟨k + 1, _, _, by have := HLT.out; omega, rfl, rfl, by go_num, by first | trivial | rfl, HYY.out.1, .inr ⟨rfl, HF2.out⟩⟩, by have := HLT.out; simp [intOf]; omega⟩
                · have HA := HSU.out (U k * 10) (x k - 48) HF1.out (by unfold fit; omega)
                  have hU1 : U (k + 1) = U k * 10 - (x k - 48) := by rw [HYY.out.2.1]; show U k * 10 + -(x k - 48) = _; omega
                  rw [← hU1] at HA
                  have HU1 := Lib.hid hU1
                  clear hU1
                  by_cases hf2 : fit (U (k + 1))
                  · simp only [if_pos hf2] at HA
                    have HA1 := Lib.hid HA
                    have HF2 := Lib.hid hf2
                    clear HA hf2
                    go_wp2_with fail
                    refine (HM1.out _).mono ?_
                    rintro e w2 ⟨rfl, rfl⟩
                    go_wp2_with fail
                    refine (HA1.out _).mono ?_
                    rintro e w2 ⟨rfl, rfl⟩
                    go_wp2_with fail
                    exact ⟨⟨k + 1, _, _, by have := HLT.out; omega, rfl, rfl, by go_num, by first | trivial | rfl, HYY.out.1, .inl ⟨rfl, rfl, HF2.out⟩⟩, by have := HLT.out; simp [intOf]; omega⟩
                  · simp only [if_neg hf2] at HA
                    have HA1 := Lib.hid HA
                    have HF2 := Lib.hid hf2
                    clear HA hf2
                    go_wp2_with fail
                    refine (HM1.out _).mono ?_
                    rintro e w2 ⟨rfl, rfl⟩
                    go_wp2_with fail
                    refine (HA1.out _).mono ?_
                    rintro e w2 ⟨rfl, rfl⟩
                    go_wp2_with fail
                    exact ⟨⟨k + 1, _, _, by have := HLT.out; omega, rfl, rfl, by go_num, by first | trivial | rfl, HYY.out.1, .inr ⟨rfl, HF2.out⟩⟩, by have := HLT.out; simp [intOf]; omega⟩
              · have HM := HMU.out (U k) HF.out
                simp only [if_neg hf1] at HM
                have HM1 := Lib.hid HM
                have HF1 := Lib.hid hf1
                clear HM hf1
                go_wp2_with fail
                refine (HM1.out _).mono ?_
                rintro e w2 ⟨rfl, rfl⟩
                go_wp2_with fail
                exact ⟨⟨k + 1, _, _, by have := HLT.out; omega, rfl, rfl, by go_num, by first | trivial | rfl, HYY.out.1, .inr ⟨rfl, HYY.out.2.2.2 HF1.out⟩⟩, by have := HLT.out; simp [intOf]; omega⟩
            · have HF := Lib.hid hf
              clear hf
              go_wp2_with fail
              exact ⟨⟨k + 1, _, _, by have := HLT.out; omega, rfl, rfl, by go_num, by first | trivial | rfl, HYY.out.1, .inr ⟨rfl, HYY.out.2.2.1 HF.out⟩⟩, by have := HLT.out; simp [intOf]; omega⟩
      · have hks : k = D.size := by omega
        have hltI : ¬ (k : Int) < D.size := by omega
        rcases hst with ⟨rfl, rfl, hf⟩ | ⟨rfl, hf⟩
        · have HR := Lib.hid (show R = (U k, 0) by rw [HE.out (by rw [← hks]; exact HOK.out), ← hks, if_pos hf])
          clear hks hlt hk hf
          go_wp2_with fail
          go_ret2
          exact ⟨ret_ii (by rw [HR.out]) (by rw [HR.out]), HBW.out⟩
        · have HR := Lib.hid (show R = (0, 2) by rw [HE.out (by rw [← hks]; exact HOK.out), ← hks, if_neg hf])
          clear hks hlt hk hf
          go_wp2_with fail
          go_ret2
          exact ⟨ret_ii (by rw [HR.out]) (by rw [HR.out]), HBW.out⟩

theorem label_Amount (s : ByteArray) (w : World) (hs : s.size ≤ maxLen) :
    Calls Tryd.prog 5 #[.string s] w fun e w' => e = .returned (.tuple #[.int .i64 (amountL s.data.toList).1, .int .i64 (amountL s.data.toList).2]) ∧ Below w.heap.size w w' := by
  obtain ⟨p1, p2⟩ := amt_split s.data.toList
  have HC := fun W => Tryd.strings_CutPrefix s ⟨#[45]⟩ W
  rw [show (ByteArray.mk #[45]).data.toList = [45] from rfl, p1, p2] at HC
  obtain ⟨D, hDe⟩ : ∃ D : ByteArray, D = ⟨(bodyL s.data.toList).toArray⟩ := ⟨_, rfl⟩
  rw [← hDe] at HC
  have hD : D.data.toList = bodyL s.data.toList := by rw [hDe]
  have hDs : D.size ≤ maxLen := by
    rw [← ba_len, hD]
    unfold bodyL
    split
    · rw [List.length_drop, ba_len]; omega
    · rw [ba_len]; exact hs
  have hh : ∀ h : 0 < D.size, D.data.toList.head? = some D[0] := fun h => by
    have := ba_drop_cons D 0 h
    rw [List.drop_zero] at this
    rw [this]; rfl
  obtain ⟨neg, hneg⟩ : ∃ neg, isNeg s.data.toList = neg := ⟨_, rfl⟩
  have hC := amt_cases s D hD
  rw [hneg] at hC HC
  rcases hC with ⟨h0, hA⟩ | ⟨hp, hC⟩
  · rw [hA]
    have hDn : D = ⟨#[]⟩ := ba_ext (by have : D.data.toList = [] := List.eq_nil_of_length_eq_zero (by rw [ba_len]; exact h0)
                                       rw [this])
    rw [hDn] at HC
    have HCP := Lib.hid HC
    clear HC hA hDn hD hDe hDs hh h0 p1 p2 hneg
    go_enter Tryd.func5, Tryd.ntmps5
    go_wp2_with fail
    refine (HCP.out _).mono ?_
    rintro e w1 ⟨rfl, rfl⟩
    go_wp2_with fail
    go_ret2
    exact ⟨rfl, Below.refl _ _⟩
  · have hx := hh hp
    rcases hC with ⟨h1, h2, hA⟩ | ⟨h1, h2, hA⟩ | ⟨h1, hA⟩
    · rw [hA]
      have hd : ((D[0].toNat : Int) == 48) = true := by rw [hx] at h1; simp at h1; rw [h1]; rfl
      have hne : (D.toList == []) = false := by rw [ba_toList]; simp; intro e; rw [← ba_len, e] at hp; simp at hp
      have hs0 : (0 : Int) < D.size := by omega
      have HCP := Lib.hid HC
      clear HC hA hD hDe hDs hh p1 p2 hneg hx h1
      go_enter Tryd.func5, Tryd.ntmps5
      go_wp2_with fail
      refine (HCP.out _).mono ?_
      rintro e w1 ⟨rfl, rfl⟩
      go_wp2_with fail
      go_ret2
      exact ⟨rfl, Below.refl _ _⟩
    · rw [hA]
      exact amt_loop s D neg w hDs hp hneg HC (.inr ⟨by rw [hx] at h1; simp at h1; rw [h1]; rfl, h2⟩)
    · rw [hA]
      refine amt_loop s D neg w hDs hp hneg HC (.inl ?_)
      rw [hx] at h1
      exact beq_f (fun e => h1 (by rw [show D[0] = 48 from UInt8.toNat_inj.1 (by show D[0].toNat = 48; omega)]))

theorem label_Small (s : ByteArray) (w : World) (hs : s.size ≤ maxLen) :
    Calls Tryd.prog 7 #[.string s] w fun e w' => e = .returned (.tuple #[.int .i64 (smallL s.data.toList).1, .int .i64 (smallL s.data.toList).2]) ∧ Below w.heap.size w w' := by
  have H := Lib.hid (fun W => label_Amount s W hs)
  unfold smallL
  generalize amountL s.data.toList = R at *
  obtain ⟨n, e⟩ := R
  dsimp only at H ⊢
  by_cases he : e = 0
  · subst he
    simp only [ne_eq, not_true_eq_false, if_false]
    by_cases h1 : n < -999999999
    · rw [if_pos (.inl h1)]
      go_enter Tryd.func7, Tryd.ntmps7
      go_wp2_with fail
      refine (H.out _).mono ?_
      rintro e w1 ⟨rfl, hb1⟩
      go_wp2_with fail
      go_ret2
      exact ⟨rfl, hb1⟩
    · by_cases h2 : 999999999 < n
      · rw [if_pos (.inr h2)]
        go_enter Tryd.func7, Tryd.ntmps7
        go_wp2_with fail
        refine (H.out _).mono ?_
        rintro e w1 ⟨rfl, hb1⟩
        go_wp2_with fail
        go_ret2
        exact ⟨rfl, hb1⟩
      · rw [if_neg (by omega)]
        go_enter Tryd.func7, Tryd.ntmps7
        go_wp2_with fail
        refine (H.out _).mono ?_
        rintro e w1 ⟨rfl, hb1⟩
        go_wp2_with fail
        go_ret2
        exact ⟨rfl, hb1⟩
  · rw [if_pos he]
    have hne : (e != 0) = true := bne_t he
    go_enter Tryd.func7, Tryd.ntmps7
    go_wp2_with fail
    refine (H.out _).mono ?_
    rintro e w1 ⟨rfl, hb1⟩
    go_wp2_with fail
    go_ret2
    exact ⟨rfl, hb1⟩

end Go.Proofs.YtmgoagncbmonlaaDoor
