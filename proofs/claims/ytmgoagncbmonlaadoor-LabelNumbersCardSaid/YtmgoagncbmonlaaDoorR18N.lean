/- Layer 18 (label), the reference: the walks of Amount, Small. -/
import Derived.Test.YtmgoagncbmonlaaDoorWideM
import Derived.Test.YtmgoagncbmonlaaDoorWideA
import Derived.Test.YtmgoagncbmonlaaDoorAmtP
import Derived.Deep.DeepCutAuto
set_option linter.unusedVariables false
set_option linter.unusedSimpArgs false
set_option maxRecDepth 100000
namespace Go.Proofs.YtmgoagncbmonlaaDoor
open Go.RowKit

theorem ret_jj {k j : IntKind} {a b c d : Int} (h : a = b) (h' : c = d) : Ending.returned (.tuple #[.int k a, .int j c]) = .returned (.tuple #[.int k b, .int j d]) := by rw [h, h']

def negR (s : Bytes) : Bool := decide (1 < s.length) && decide (s.head? = some 45)
def bodyR (s : Bytes) : Bytes := if negR s then s.drop 1 else s
theorem amt_ref (s : Bytes) : amountL s = if (bodyR s).length = 0 then (0, 5) else if (bodyR s).head? = some 48 ∧ (1 < (bodyR s).length ∨ negR s = true) then (0, 5) else digsR (negR s) (bodyR s) := by
  cases s with
  | nil => rfl
  | cons c r =>
    cases r with
    | nil =>
      have hn : negR [c] = false := rfl
      have hb : bodyR [c] = [c] := rfl
      rw [hn, hb]
      by_cases h45 : c = 45
      · subst h45; rfl
      · have hi : isNeg [c] = false := by unfold isNeg; simp [h45]
        unfold amountL bodyL
        rw [hi]
        by_cases h48 : c = 48
        · subst h48; rfl
        · simp [h48]
    | cons d r =>
      by_cases h45 : c = 45
      · subst h45
        have hn : negR (45 :: d :: r) = true := by unfold negR; simp
        have hb : bodyR (45 :: d :: r) = d :: r := by unfold bodyR; rw [hn]; rfl
        have hi : isNeg (45 :: d :: r) = true := rfl
        rw [hn, hb]
        unfold amountL bodyL
        rw [hi]
        simp
      · have hn : negR (c :: d :: r) = false := by unfold negR; simp [h45]
        have hb : bodyR (c :: d :: r) = c :: d :: r := by unfold bodyR; rw [hn]; rfl
        have hi : isNeg (c :: d :: r) = false := by unfold isNeg; simp [h45]
        rw [hn, hb]
        unfold amountL bodyL
        rw [hi]
        simp

theorem negR_true (s : ByteArray) (h1 : 1 < s.size) (h2 : ((s[0]'(by omega)).toNat : Int) = 45) : negR s.data.toList = true := by
  have hd := ba_drop_cons s 0 (by omega)
  rw [List.drop_zero] at hd
  have e : s[0]'(by omega) = (45 : UInt8) := UInt8.toNat_inj.1 (by show _ = 45; omega)
  unfold negR
  rw [ba_len, decide_eq_true h1, hd]
  simp [e]
theorem negR_false (s : ByteArray) (h : s.size ≤ 1 ∨ ∃ h : 0 < s.size, ((s[0]'h).toNat : Int) ≠ 45) : negR s.data.toList = false := by
  unfold negR
  rcases h with h | ⟨h, h2⟩
  · rw [ba_len, decide_eq_false (by omega)]; rfl
  · have hd := ba_drop_cons s 0 h
    rw [List.drop_zero] at hd
    have e : ¬ s[0]'h = (45 : UInt8) := fun e => h2 (by rw [e]; rfl)
    rw [hd]
    simp [e]
theorem amt_head (D : ByteArray) (h : 0 < D.size) : D.data.toList.head? = some (D[0]'h) := by
  have hd := ba_drop_cons D 0 h
  rw [List.drop_zero] at hd
  rw [hd]; rfl
theorem wide_put {w : World} {g : Nat} {a c : Int} (h : WideBlk w g a c) (x y : Int) : WideBlk ((w.setCell ⟨g, 0, none⟩ (.int .i64 x)).setCell ⟨g, 1, none⟩ (.int .u64 y)) g x y := by
  have := Joins.block_setCell (Joins.block_setCell h (i := 0) (.int .i64 x)) (i := 1) (.int .u64 y)
  simp only [List.setIfInBounds_toArray, List.set_cons_zero, List.set_cons_succ] at this
  exact this
def big67 (v : Int) : Prop := -200000000000000000000 < v ∧ v < 200000000000000000000
theorem big_step {u d : Int} (hf : fit u) (h1 : -9 ≤ d) (h2 : d ≤ 9) : big67 (u * 10 + d) := by unfold fit at hf; unfold big67; omega

set_option maxHeartbeats 8000000 in
theorem ref18_Amount (s : ByteArray) (hs : s.size ≤ 300) (w : World) :
    Calls Tryd.prog 6 #[.string s] w fun e w' => e = .returned (.tuple #[.int .i64 (amountL s.data.toList).1, .int .i64 (amountL s.data.toList).2]) ∧ Below w.heap.size w w' := by
  obtain ⟨neg, hneg⟩ : ∃ b, negR s.data.toList = b := ⟨_, rfl⟩
  obtain ⟨D, hD⟩ : ∃ D : ByteArray, D = ⟨(bodyR s.data.toList).toArray⟩ := ⟨_, rfl⟩
  have hDl : D.data.toList = bodyR s.data.toList := by rw [hD]
  have hDs : D.size ≤ 300 := by
    rw [← ba_len, hDl]
    unfold bodyR
    split
    · rw [List.length_drop, ba_len]; omega
    · rw [ba_len]; exact hs
  have hA := amt_ref s.data.toList
  rw [← hDl, hneg] at hA
  generalize hR : amountL s.data.toList = R at *
  have HN := Lib.hid hneg
  have HD := Lib.hid hDl
  have HA := Lib.hid hA
  have HDS := Lib.hid hDs
  clear hneg hD hDl hA hR hDs
  go_enter Tryd.func6, Tryd.ntmps6
  go_upto_region 1 with fail
  go_cut [4] (fun s4 wx => s4 = .bool neg ∧ wx = w)
  case first =>
    by_cases h1 : 1 < s.size
    · have l1 : (1 : Int) < s.size := by omega
      have l0 : (0 : Int) < s.size := by omega
      by_cases h2 : ((s[0]'(by omega)).toNat : Int) = 45
      · have h2b : (((s[0]'(by omega)).toNat : Int) == 45) = true := by rw [h2]; rfl
        have HE := Lib.hid ((negR_true s h1 h2).symm.trans HN.out)
        go_wp2_with fail
        go_meet
        exact ⟨congrArg Value.bool HE.out, rfl⟩
      · have h2b : (((s[0]'(by omega)).toNat : Int) == 45) = false := beq_false_of_ne h2
        have HE := Lib.hid ((negR_false s (.inr ⟨by omega, h2⟩)).symm.trans HN.out)
        go_wp2_with fail
        go_meet
        exact ⟨congrArg Value.bool HE.out, rfl⟩
    · have l1 : ¬ (1 : Int) < s.size := by omega
      have HE := Lib.hid ((negR_false s (.inl (by omega))).symm.trans HN.out)
      go_wp2_with fail
      go_meet
      exact ⟨congrArg Value.bool HE.out, rfl⟩
  case rest =>
    obtain ⟨rfl, hwc⟩ := hcut
    subst hwc
    go_upto_if 24 with fail
    go_cut [5] (fun s5 wx => s5 = .string D ∧ wx = wc)
    case first =>
      cases neg
      · have HE := Lib.hid (show s = D from ba_ext (by rw [HD.out]; unfold bodyR; rw [HN.out]; rfl))
        go_wp2_with fail
        go_meet
        exact ⟨congrArg Value.string HE.out, rfl⟩
      · have l1 : (1 : Int) ≤ s.size := by
          have := HN.out
          unfold negR at this
          rw [ba_len] at this
          simp at this
          omega
        have HE := Lib.hid (show s.extract 1 s.size = D from ba_ext (by rw [HD.out, ba_from]; unfold bodyR; rw [HN.out]; rfl))
        go_wp2_with fail
        go_meet
        exact ⟨congrArg Value.string HE.out, rfl⟩
    case rest =>
    obtain ⟨rfl, hwc⟩ := hcut
    subst hwc
    clear HD HN hs
    obtain ⟨bq, hbq⟩ : ∃ b, decide (D.size = 0 ∨ (D.data.toList.head? = some 48 ∧ (1 < D.size ∨ neg = true))) = b := ⟨_, rfl⟩
    have hA : R = if bq = true then (0, 5) else digsR neg D.data.toList := by
      rw [HA.out, ba_len, ← hbq]
      by_cases h0 : D.size = 0
      · simp [h0]
      · by_cases h1 : D.data.toList.head? = some 48 ∧ (1 < D.size ∨ neg = true)
        · rw [if_neg h0, if_pos h1, if_pos (decide_eq_true (.inr h1))]
        · rw [if_neg h0, if_neg h1, if_neg (by simp only [decide_eq_true_eq]; exact fun e => e.elim h0 h1)]
    have HA2 := Lib.hid hA
    have HBQ := Lib.hid hbq
    clear HA hA hbq
    go_upto_region 5 with fail
    go_cut [42] (fun s42 wx => s42 = .bool bq ∧ wx = wc)
    case first =>
      have hbq := HBQ.out
      by_cases h0 : D.size = 0
      · have HE := Lib.hid (show true = bq by rw [← hbq]; exact (decide_eq_true (.inl h0)).symm)
        have l0 : ((D.size : Int) == 0) = true := by rw [h0]; rfl
        clear hbq h0
        go_wp2_with fail
        go_meet
        exact ⟨congrArg Value.bool HE.out, rfl⟩
      have hsz : 0 < D.size := by omega
      rw [amt_head D hsz] at hbq
      have l0 : ((D.size : Int) == 0) = false := beq_false_of_ne (by omega)
      have lz : (0 : Int) < D.size := by omega
      by_cases h48 : ((D[0]'hsz).toNat : Int) = 48
      · have e48 : D[0]'hsz = (48 : UInt8) := UInt8.toNat_inj.1 (by show _ = 48; omega)
        have l48 : (((D[0]'hsz).toNat : Int) == 48) = true := by rw [h48]; rfl
        rw [e48] at hbq
        by_cases hl1 : 1 < D.size
        · have HE := Lib.hid (show true = bq by rw [← hbq]; exact (decide_eq_true (.inr ⟨rfl, .inl hl1⟩)).symm)
          have l1 : (1 : Int) < D.size := by omega
          clear hbq h0 h48 e48 hl1
          go_wp2_with fail
          go_meet
          exact ⟨congrArg Value.bool HE.out, rfl⟩
        · have l1 : ¬ (1 : Int) < D.size := by omega
          have HE := Lib.hid (show neg = bq by rw [← hbq]; cases neg <;> simp [h0, hl1])
          clear hbq h0 h48 e48 hl1
          go_wp2_with fail
          go_meet
          exact ⟨congrArg Value.bool HE.out, rfl⟩
      · have l48 : (((D[0]'hsz).toNat : Int) == 48) = false := beq_false_of_ne h48
        have HE := Lib.hid (show false = bq by
          rw [← hbq]
          refine (decide_eq_false ?_).symm
          intro e
          rcases e with e | e
          · exact h0 e
          · exact h48 (by rw [Option.some.inj e.1]; rfl))
        clear hbq h0 h48
        go_wp2_with fail
        go_meet
        exact ⟨congrArg Value.bool HE.out, rfl⟩
    case rest =>
    obtain ⟨rfl, hwc⟩ := hcut
    subst hwc
    clear HBQ
    cases bq
    case true =>
      have HR := Lib.hid (HA2.out.trans (if_pos rfl))
      clear HA2
      go_wp2_with fail
      go_ret2
      exact ⟨ret_jj (by rw [HR.out]) (by rw [HR.out]), Below.refl _ _⟩
    have hR : R = digsR neg D.data.toList := HA2.out.trans (if_neg (by decide))
    obtain ⟨x, U, ok, hx, hU0, hok0, hyes, hno, hend⟩ := amt_data neg D
    rw [← hR] at hno hend
    have HXD := Lib.hid hx
    have HY := Lib.hid hyes
    have HNO := Lib.hid hno
    have HE := Lib.hid hend
    have H00 := Lib.hid (And.intro hU0 hok0)
    have HFT := Lib.hid (fun v hv W => r02_Fit v (show -170141183460469231731687303715884105728 < v by have h : big67 v := hv; unfold big67 at h; omega) (show v < 170141183460469231731687303715884105728 by have h : big67 v := hv; unfold big67 at h; omega) W)
    clear hR HA2 hx hU0 hok0 hyes hno hend
    have HB := Lib.hid (below_al wc wideZ)
    have HZ := Lib.hid (wideZ_one wc)
    unfold wideZ at HB HZ
    go_wp2_with fail
    generalize World.alloc wc _ = W at *
    obtain ⟨g, hg⟩ : ∃ g, g = wc.heap.size := ⟨_, rfl⟩
    rw [← hg] at HZ ⊢
    have HG := Lib.hid hg
    clear hg
    go_loopw [7, 46] (fun ov i wr => ∃ (k : Nat) (v : Int) (o : Bool), k ≤ D.size ∧ ov = .bool o ∧ i = .int .i64 k ∧ Below wc.heap.size wc wr ∧ WideBlk wr g (wHi v) (wLo v) ∧ big67 v ∧ ok k ∧ ((o = false ∧ v = U k) ∨ (o = true ∧ ¬ fit v ∧ ¬ fit (U k)))) (fun _ i _ => D.size - (intOf i).toNat)
    case atStart => exact ⟨0, 0, false, Nat.zero_le _, rfl, rfl, HB.out, HZ.out, by unfold big67; omega, H00.out.2, .inl ⟨rfl, H00.out.1.symm⟩⟩
    case round =>
      obtain ⟨k, v, o, hk, rfl, rfl, hb, hz, hbig, hok, hst⟩ := hrel
      have r0 := Joins.cell_of_block hz 0
      have r1 := Joins.cell_of_block hz 1
      have hlt := (Array.getElem?_eq_some_iff.1 hz).1
      have hft := fun W => HFT.out v hbig W
      unfold wV at hft
      have HF := Lib.hid hft
      have HI := Lib.hid (And.intro hb (And.intro hz (And.intro hbig (And.intro hok hst))))
      clear hb hz hbig hok hst hft
      by_cases hlk : k < D.size
      · have lk : (k : Int) < D.size := by omega
        have lk0 : (0 : Int) ≤ k := by omega
        have w1f : IntKind.i64.wrap ((k : Int) + 1) = (k : Int) + 1 := by rw [IntKind.wrap_i64]; have := HDS.out; omega
        obtain ⟨hx1, hx2, hx3⟩ := HXD.out k hlk
        by_cases h1 : ((D[k]'hlk).toNat : Int) < 48
        · have HR := Lib.hid (HNO.out k hlk (by omega))
          clear hx1 hx2 hx3
          go_wp2_with fail
          go_ret2
          exact ⟨ret_jj (by rw [HR.out]) (by rw [HR.out]), HI.out.1⟩
        · by_cases h2 : 57 < ((D[k]'hlk).toNat : Int)
          · have HR := Lib.hid (HNO.out k hlk (by omega))
            clear hx1 hx2 hx3
            go_wp2_with fail
            go_ret2
            exact ⟨ret_jj (by rw [HR.out]) (by rw [HR.out]), HI.out.1⟩
          · have hy := HY.out k hlk HI.out.2.2.2.1 (by omega) (by omega)
            have HYY := Lib.hid hy
            clear hy
            obtain ⟨xx, hxx⟩ : ∃ z : Int, ((D[k]'hlk).toNat : Int) = z := ⟨_, rfl⟩
            have hd1 : 0 ≤ xx - 48 ∧ xx - 48 ≤ 9 := by omega
            have hU : U (k + 1) = U k * 10 + sgI neg (xx - 48) := by rw [HYY.out.2.1, hx1, hxx]
            rw [hxx] at h1 h2
            have HXX := Lib.hid hxx
            by_cases hf : fit v
            · obtain ⟨rfl, rfl⟩ : o = false ∧ v = U k := by
                rcases HI.out.2.2.2.2 with e | e
                · exact e
                · exact absurd hf e.2.1
              have hF := HF.out
              simp only [if_pos hf] at hF
              have hMU := fun W => r02_Mul (U k) 10 hf (by unfold fit; omega) W
              obtain ⟨ad, had⟩ : ∃ ad, sgI neg (xx - 48) = ad := ⟨_, rfl⟩
              have had2 : -9 ≤ ad ∧ ad ≤ 9 := by rw [← had]; unfold sgI; split <;> omega
              rw [had] at hU
              have hOF := fun W => r02_Of ad (by unfold fit; omega) W
              have hAD := fun W => r02_Add (U k * 10) ad (by unfold fit at hf; omega) (by omega) W
              rw [← hU] at hAD
              have hbg : big67 (U (k + 1)) := by rw [hU]; exact big_step hf had2.1 had2.2
              have HBG := Lib.hid hbg
              obtain ⟨d, hd⟩ : ∃ d : Int, d = xx - 48 := ⟨_, rfl⟩
              have k1 : IntKind.u8.wrap (xx - 48) = d := by rw [IntKind.wrap_u8]; omega
              have k2 : IntKind.i64.wrap d = d := by rw [IntKind.wrap_i64]; omega
              have k3 : neg = true → IntKind.i64.wrap (-d) = ad := fun e => by rw [← had, e, IntKind.wrap_i64]; show _ = -(xx - 48); omega
              have k4 : neg = false → d = ad := fun e => by rw [← had, e]; exact hd
              unfold wV at hMU hOF hAD
              have HFF := Lib.hid hF
              have HMU := Lib.hid hMU
              have HOF := Lib.hid hOF
              have HAD := Lib.hid hAD
              have hDk : ∀ h : k < D.size, (((D[k]'h).toNat : Nat) : Int) = xx := fun _ => HXX.out
              clear hF hMU hOF hAD hbg hx1 hx2 hx3 had had2 hU hf HF hxx hd1
              clear hd
              cases neg
              · have k5 := k4 rfl
                subst k5
                clear k3 k4
                go_wp2_with fail
                refine (HFF.out _).mono ?_
                rintro e w1 ⟨rfl, hb1⟩
                (have HI1 := Lib.hid (And.intro (HI.out.1.trans (hb1.mono HI.out.1.size)) (HI.out.2.1.keep hb1)); clear hb1; go_wp2_with fail; refine (HMU.out _).mono ?_; rintro e w2 ⟨rfl, hb2⟩; have HI2 := Lib.hid (And.intro (HI1.out.1.trans (hb2.mono HI1.out.1.size)) (HI1.out.2.keep hb2)); clear hb2; go_wp2_with fail; refine (HOF.out _).mono ?_; rintro e w3 ⟨rfl, hb3⟩; have HI3 := Lib.hid (And.intro (HI2.out.1.trans (hb3.mono HI2.out.1.size)) (HI2.out.2.keep hb3)); clear hb3; go_wp2_with fail; refine (HAD.out _).mono ?_; rintro e w4 ⟨rfl, hb4⟩; have HI4 := Lib.hid (And.intro (HI3.out.1.trans (hb4.mono HI3.out.1.size)) (HI3.out.2.keep hb4)); have q0 := Joins.unfrozen_of_block HI4.out.2 0; have q1 := Joins.unfrozen_of_block HI4.out.2 1; have s0 := Joins.cell_of_block HI4.out.2 0; have s1 := Joins.cell_of_block HI4.out.2 1; clear hb4; go_wp2_with fail; exact ⟨⟨k + 1, U (k + 1), false, by omega, rfl, by go_num, wide_below HI4.out.1 (by have := HG.out; omega) _ _, wide_put HI4.out.2 _ _, HBG.out, HYY.out.1, .inl ⟨rfl, rfl⟩⟩, by simp [intOf]; omega⟩)
              · have k5 := k3 rfl
                clear k3 k4
                go_wp2_with fail
                refine (HFF.out _).mono ?_
                rintro e w1 ⟨rfl, hb1⟩
                (have HI1 := Lib.hid (And.intro (HI.out.1.trans (hb1.mono HI.out.1.size)) (HI.out.2.1.keep hb1)); clear hb1; go_wp2_with fail; refine (HMU.out _).mono ?_; rintro e w2 ⟨rfl, hb2⟩; have HI2 := Lib.hid (And.intro (HI1.out.1.trans (hb2.mono HI1.out.1.size)) (HI1.out.2.keep hb2)); clear hb2; go_wp2_with fail; refine (HOF.out _).mono ?_; rintro e w3 ⟨rfl, hb3⟩; have HI3 := Lib.hid (And.intro (HI2.out.1.trans (hb3.mono HI2.out.1.size)) (HI2.out.2.keep hb3)); clear hb3; go_wp2_with fail; refine (HAD.out _).mono ?_; rintro e w4 ⟨rfl, hb4⟩; have HI4 := Lib.hid (And.intro (HI3.out.1.trans (hb4.mono HI3.out.1.size)) (HI3.out.2.keep hb4)); have q0 := Joins.unfrozen_of_block HI4.out.2 0; have q1 := Joins.unfrozen_of_block HI4.out.2 1; have s0 := Joins.cell_of_block HI4.out.2 0; have s1 := Joins.cell_of_block HI4.out.2 1; clear hb4; go_wp2_with fail; exact ⟨⟨k + 1, U (k + 1), false, by omega, rfl, by go_num, wide_below HI4.out.1 (by have := HG.out; omega) _ _, wide_put HI4.out.2 _ _, HBG.out, HYY.out.1, .inl ⟨rfl, rfl⟩⟩, by simp [intOf]; omega⟩)
            · have hF := HF.out
              simp only [if_neg hf] at hF
              have hnf : ¬ fit (U (k + 1)) := by
                refine HYY.out.2.2.1 ?_
                rcases HI.out.2.2.2.2 with e | e
                · rw [← e.2]; exact hf
                · exact e.2.2
              have HNF := Lib.hid (And.intro hf hnf)
              have HFF := Lib.hid hF
              have hDk : ∀ h : k < D.size, (((D[k]'h).toNat : Nat) : Int) = xx := fun _ => HXX.out
              clear hF hx1 hx2 hx3 hU hf hnf HF hxx hd1
              go_wp2_with fail
              refine (HFF.out _).mono ?_
              rintro e w1 ⟨rfl, hb1⟩
              have HI1 := Lib.hid (And.intro (HI.out.1.trans (hb1.mono HI.out.1.size)) (HI.out.2.1.keep hb1))
              clear hb1
              go_wp2_with fail
              exact ⟨⟨k + 1, v, true, by omega, rfl, by go_num, HI1.out.1, HI1.out.2, HI.out.2.2.1, HYY.out.1, .inr ⟨rfl, HNF.out.1, HNF.out.2⟩⟩, by simp [intOf]; omega⟩
      · have hks : k = D.size := by omega
        have lk : ¬ (k : Int) < D.size := by omega
        have hend := HE.out (by rw [← hks]; exact HI.out.2.2.2.1)
        rw [← hks] at hend
        by_cases hf : fit v
        · obtain ⟨rfl, rfl⟩ : o = false ∧ v = U k := by
            rcases HI.out.2.2.2.2 with e | e
            · exact e
            · exact absurd hf e.2.1
          have hF := HF.out
          simp only [if_pos hf] at hF
          rw [if_pos hf] at hend
          have HR := Lib.hid hend
          have HFF := Lib.hid hF
          clear hF hend hf HF hks
          go_wp2_with fail
          refine (HFF.out _).mono ?_
          rintro e w1 ⟨rfl, hb1⟩
          have HB1 := Lib.hid (HI.out.1.trans (hb1.mono HI.out.1.size))
          clear hb1
          go_wp2_with fail
          go_ret2
          exact ⟨ret_jj (by rw [HR.out]) (by rw [HR.out]), HB1.out⟩
        · have hF := HF.out
          simp only [if_neg hf] at hF
          have hnf : ¬ fit (U k) := by
            rcases HI.out.2.2.2.2 with e | e
            · rw [← e.2]; exact hf
            · exact e.2.2
          rw [if_neg hnf] at hend
          have HR := Lib.hid hend
          have HFF := Lib.hid hF
          clear hF hend hf hnf HF hks
          cases o <;> (
            go_wp2_with fail
            refine (HFF.out _).mono ?_
            rintro e w1 ⟨rfl, hb1⟩
            have HB1 := Lib.hid (HI.out.1.trans (hb1.mono HI.out.1.size))
            clear hb1
            go_wp2_with fail
            go_ret2
            exact ⟨ret_jj (by rw [HR.out]) (by rw [HR.out]), HB1.out⟩)

theorem ref18_Small (s : ByteArray) (hs : s.size ≤ 300) (w : World) :
    Calls Tryd.prog 8 #[.string s] w fun e w' => e = .returned (.tuple #[.int .i64 (smallL s.data.toList).1, .int .i64 (smallL s.data.toList).2]) ∧ Below w.heap.size w w' := by
  have H := Lib.hid (fun W => ref18_Amount s hs W)
  unfold smallL
  generalize amountL s.data.toList = R at *
  obtain ⟨n, e⟩ := R
  dsimp only at H ⊢
  by_cases he : e = 0
  · subst he
    simp only [ne_eq, not_true_eq_false, if_false]
    by_cases h1 : n < -999999999
    · rw [if_pos (.inl h1)]
      go_enter Tryd.func8, Tryd.ntmps8
      go_wp2_with fail
      refine (H.out _).mono ?_
      rintro e w1 ⟨rfl, hb1⟩
      go_wp2_with fail
      go_ret2
      exact ⟨rfl, hb1⟩
    · by_cases h2 : 999999999 < n
      · rw [if_pos (.inr h2)]
        go_enter Tryd.func8, Tryd.ntmps8
        go_wp2_with fail
        refine (H.out _).mono ?_
        rintro e w1 ⟨rfl, hb1⟩
        go_wp2_with fail
        go_ret2
        exact ⟨rfl, hb1⟩
      · rw [if_neg (by omega)]
        go_enter Tryd.func8, Tryd.ntmps8
        go_wp2_with fail
        refine (H.out _).mono ?_
        rintro e w1 ⟨rfl, hb1⟩
        go_wp2_with fail
        go_ret2
        exact ⟨rfl, hb1⟩
  · rw [if_pos he]
    have hne : (e != 0) = true := by simpa using he
    go_enter Tryd.func8, Tryd.ntmps8
    go_wp2_with fail
    refine (H.out _).mono ?_
    rintro e w1 ⟨rfl, hb1⟩
    go_wp2_with fail
    go_ret2
    exact ⟨rfl, hb1⟩

end Go.Proofs.YtmgoagncbmonlaaDoor
