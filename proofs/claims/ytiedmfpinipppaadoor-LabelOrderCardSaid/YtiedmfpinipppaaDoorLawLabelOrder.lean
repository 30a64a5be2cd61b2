/- The law LabelOrder: its walk. -/
import Derived.Test.YtiedmfpinipppaaDoorLawLabelBack
set_option linter.unusedVariables false
namespace Go.Proofs.YtiedmfpinipppaaDoor
open Go.RowKit

/-- What lay ahead, and both arguments' blocks, in a later world. -/
def St2 (w : World) (U V : Obj) (W : World) : Prop := Below w.heap.size w W ∧ W.heap[w.heap.size]? = some U ∧ W.heap[w.heap.size + 1]? = some V
theorem st2_next {w W w2 : World} {U V : Obj} (h : St2 w U V W) (hb : Below W.heap.size W w2) : St2 w U V w2 :=
  ⟨h.1.trans (hb.mono h.1.size), by rw [hb.block _ (Array.getElem?_eq_some_iff.1 h.2.1).1]; exact h.2.1, by rw [hb.block _ (Array.getElem?_eq_some_iff.1 h.2.2).1]; exact h.2.2⟩
/-- Print, of whatever unit: its text or none, and why. -/
theorem print_any (l y i : Int) : (∃ k Y I : Nat, k < 5 ∧ l = (k : Int) + 1 ∧ y = Y ∧ i = I ∧ Y ≤ 9997 ∧ 1 ≤ I ∧ (I : Int) ≤ mst k ∧ ∀ W, Tab W → Calls Tryd.prog 10 #[.agg #[.int .i64 l, .int .i64 y, .int .i64 i]] W fun e w' => e = .returned (.tuple #[.string ⟨(uText k Y I).toArray⟩, .int .i64 0]) ∧ Below W.heap.size W w') ∨
    ∀ W, Calls Tryd.prog 10 #[.agg #[.int .i64 l, .int .i64 y, .int .i64 i]] W fun e w' => e = .returned (.tuple #[.string ⟨#[]⟩, .int .i64 1]) ∧ Below W.heap.size W w' := by
  by_cases hw : Writ l y i
  · obtain ⟨k, Y, I, hk, rfl, rfl, rfl, h1, h2, h3, h4⟩ := writ_parts hw
    exact .inl ⟨k, Y, I, hk, rfl, rfl, rfl, h2, h3, h4, fun W hW => label_Print_yes k Y I hk h1 h2 h3 h4 W hW⟩
  · exact .inr fun W => label_Print_no l y i hw W

set_option maxRecDepth 100000 in
set_option maxHeartbeats 4000000 in
theorem walk_LabelOrder (w : World) (ht : Tab w) (l y i l' y' i' : Int) :
    Calls Tryd.prog 4 #[.agg #[.int .i64 l, .int .i64 y, .int .i64 i], .agg #[.int .i64 l', .int .i64 y', .int .i64 i']] w fun e w' => e = .returned (.bool true) ∧ Below w.heap.size w w' := by
  have HT := Lib.hid (fun W (hb : Below w.heap.size w W) => ht.below hb)
  have HV := Lib.hid (fun W hW => law18_live W hW)
  have heq := run_eqlUnit
  have hS0 : St2 w (.cells #[.int .i64 l, .int .i64 y, .int .i64 i] 23) (.cells #[.int .i64 l', .int .i64 y', .int .i64 i'] 23) ((w.alloc (.cells #[.int .i64 l, .int .i64 y, .int .i64 i] 23)).alloc (.cells #[.int .i64 l', .int .i64 y', .int .i64 i'] 23)) := by
    refine ⟨by (repeat (first | exact Below.refl _ _ | assumption | refine Below.setCell ?_ (by first | (simp; done) | (simp; omega) | omega) _ | refine Below.alloc ?_ (by first | (simp; done) | (simp; omega) | omega) _ | refine Below.drew ?_ | refine below_drewN ?_ _ | refine Below.trans ?_ (Below.mono (by assumption) (by first | (simp; done) | (simp; omega) | omega)))), ?_, ?_⟩
    · rw [heap_alloc_old _ _ (by simp)]; exact heap_alloc_new w _
    · have := heap_alloc_new (w.alloc (.cells #[.int .i64 l, .int .i64 y, .int .i64 i] 23)) (.cells #[.int .i64 l', .int .i64 y', .int .i64 i'] 23)
      rw [show (w.alloc (.cells #[.int .i64 l, .int .i64 y, .int .i64 i] 23)).heap.size = w.heap.size + 1 by simp] at this
      exact this
  have HS0 := Lib.hid hS0
  clear ht hS0
  rcases print_any l y i with ⟨k, Y, I, hk, rfl, rfl, rfl, h1, h2, h3, ha⟩ | ha
  · have HA := Lib.hid ha
    clear ha
    rcases print_any l' y' i' with ⟨k', Y', I', hk', rfl, rfl, rfl, h1', h2', h3', hc⟩ | hc
    · have HC := Lib.hid hc
      clear hc
      by_cases hkk : k = k'
      · subst hkk
        have hless := less_uText k Y I Y' I' hk h1 h1' h2 h2' h3 h3'
        have hinj := uText_inj k Y I Y' I' hk h1 h1' h2 h2' h3 h3'
        have hse : (ByteArray.mk (uText k Y I).toArray).toList = uText k Y I ∧ (ByteArray.mk (uText k Y' I').toArray).toList = uText k Y' I' := ⟨by rw [ba_toList], by rw [ba_toList]⟩
        have HINJ := Lib.hid hinj
        clear hinj hk h1 h2 h3 h1' h2' h3'
        generalize uText k Y I = S at *
        generalize uText k Y' I' = T at *
        go_enter Tryd.func4, Tryd.ntmps4
        go_wp2_with fail
        refine (HV.out _ (HT.out _ HS0.out.1)).mono ?_
        rintro e w1 ⟨rfl, hb1⟩
        have hs1 := st2_next HS0.out hb1
        have q0 := Joins.cell_of_block hs1.2.1 0
        have q1 := Joins.cell_of_block hs1.2.1 1
        have q2 := Joins.cell_of_block hs1.2.1 2
        have HS1 := Lib.hid hs1
        clear hb1 hs1
        go_wp2_with fail
        refine (HA.out _ (HT.out _ HS1.out.1)).mono ?_
        rintro e w2 ⟨rfl, hb2⟩
        have hs2 := st2_next HS1.out hb2
        have p0 := Joins.cell_of_block hs2.2.2 0
        have p1 := Joins.cell_of_block hs2.2.2 1
        have p2 := Joins.cell_of_block hs2.2.2 2
        have HS2 := Lib.hid hs2
        clear hb2 hs2 q0 q1 q2
        go_wp2_with fail
        refine (HC.out _ (HT.out _ HS2.out.1)).mono ?_
        rintro e w3 ⟨rfl, hb3⟩
        have hs3 := st2_next HS2.out hb3
        have q0 := Joins.cell_of_block hs3.2.1 0
        have q1 := Joins.cell_of_block hs3.2.1 1
        have q2 := Joins.cell_of_block hs3.2.1 2
        have p0 := Joins.cell_of_block hs3.2.2 0
        have p1 := Joins.cell_of_block hs3.2.2 1
        have p2 := Joins.cell_of_block hs3.2.2 2
        have hB := Lib.hid hs3.1
        clear hb3 hs3
        have h3c : (Y < Y') ∨ (Y = Y' ∧ I < I') ∨ (Y = Y' ∧ I = I') ∨ (Y = Y' ∧ I' < I) ∨ (Y' < Y) := by omega
        clear hse
        rcases h3c with h | ⟨h, h2⟩ | ⟨h, h2⟩ | ⟨h, h2⟩ | h
        · have hl : Op.bytesLess S T = true := by rw [hless]; simp; omega
          have hst : (S == T) = false := by rw [Bool.eq_iff_iff, beq_iff_eq, HINJ.out]; simp; omega
          clear hless
          have a1 : (Y : Int) < Y' := by omega
          have a2 : ¬ (Y : Int) = Y' := by omega
          have a3 : ((Y : Int) == Y') = false := beq_f a2
          go_wp2
          all_goals
            go_ret
            refine ⟨ret_bool ?_, hB.out⟩
            first | rfl | (simp [hst, hl]; done) | (simp [hst, hl]; omega)
        · have hl : Op.bytesLess S T = true := by rw [hless]; simp; omega
          have hst : (S == T) = false := by rw [Bool.eq_iff_iff, beq_iff_eq, HINJ.out]; simp; omega
          clear hless
          have a1 : ¬ (Y : Int) < Y' := by omega
          have a3 : ((Y : Int) == Y') = true := beq_t (by omega)
          have a4 : (I : Int) < I' := by omega
          have a5 : ¬ (I : Int) = I' := by omega
          go_wp2
          all_goals
            go_ret
            refine ⟨ret_bool ?_, hB.out⟩
            first | rfl | (simp [hst, hl]; done) | (simp [hst, hl]; omega)
        · have hl : Op.bytesLess S T = false := by rw [hless]; simp; omega
          have hst : (S == T) = true := by rw [Bool.eq_iff_iff, beq_iff_eq, HINJ.out]; simp; omega
          clear hless
          have a1 : ¬ (Y : Int) < Y' := by omega
          have a2 : (Y : Int) = Y' := by omega
          have a3 : ((Y : Int) == Y') = true := beq_t (by omega)
          have a4 : ¬ (I : Int) < I' := by omega
          have a5 : (I : Int) = I' := by omega
          go_wp2
          all_goals
            go_ret
            refine ⟨ret_bool ?_, hB.out⟩
            first | rfl | (simp [hst, hl]; done) | (simp [hst, hl]; omega)
        · have hl : Op.bytesLess S T = false := by rw [hless]; simp; omega
          have hst : (S == T) = false := by rw [Bool.eq_iff_iff, beq_iff_eq, HINJ.out]; simp; omega
          clear hless
          have a1 : ¬ (Y : Int) < Y' := by omega
          have a3 : ((Y : Int) == Y') = true := beq_t (by omega)
          have a4 : ¬ (I : Int) < I' := by omega
          have a5 : ¬ (I : Int) = I' := by omega
          go_wp2
          all_goals
            go_ret
            refine ⟨ret_bool ?_, hB.out⟩
            first | rfl | (simp [hst, hl]; done) | (simp [hst, hl]; omega)
        · have hl : Op.bytesLess S T = false := by rw [hless]; simp; omega
          have hst : (S == T) = false := by rw [Bool.eq_iff_iff, beq_iff_eq, HINJ.out]; simp; omega
          clear hless
          have a1 : ¬ (Y : Int) < Y' := by omega
          have a2 : ¬ (Y : Int) = Y' := by omega
          have a3 : ((Y : Int) == Y') = false := beq_f a2
          go_wp2
          all_goals
            go_ret
            refine ⟨ret_bool ?_, hB.out⟩
            first | rfl | (simp [hst, hl]; done) | (simp [hst, hl]; omega)
      · have hne : (((k : Int) + 1) != ((k' : Int) + 1)) = true := bne_t (by omega)
        clear hk h1 h2 h3 hk' h1' h2' h3'
        generalize uText k Y I = S at *
        generalize uText k' Y' I' = T at *
        go_enter Tryd.func4, Tryd.ntmps4
        go_wp2_with fail
        refine (HV.out _ (HT.out _ HS0.out.1)).mono ?_
        rintro e w1 ⟨rfl, hb1⟩
        have hs1 := st2_next HS0.out hb1
        have q0 := Joins.cell_of_block hs1.2.1 0
        have q1 := Joins.cell_of_block hs1.2.1 1
        have q2 := Joins.cell_of_block hs1.2.1 2
        have HS1 := Lib.hid hs1
        clear hb1 hs1
        go_wp2_with fail
        refine (HA.out _ (HT.out _ HS1.out.1)).mono ?_
        rintro e w2 ⟨rfl, hb2⟩
        have hs2 := st2_next HS1.out hb2
        have p0 := Joins.cell_of_block hs2.2.2 0
        have p1 := Joins.cell_of_block hs2.2.2 1
        have p2 := Joins.cell_of_block hs2.2.2 2
        have HS2 := Lib.hid hs2
        clear hb2 hs2 q0 q1 q2
        go_wp2_with fail
        refine (HC.out _ (HT.out _ HS2.out.1)).mono ?_
        rintro e w3 ⟨rfl, hb3⟩
        have hs3 := st2_next HS2.out hb3
        have q0 := Joins.cell_of_block hs3.2.1 0
        have q1 := Joins.cell_of_block hs3.2.1 1
        have q2 := Joins.cell_of_block hs3.2.1 2
        have p0 := Joins.cell_of_block hs3.2.2 0
        have p1 := Joins.cell_of_block hs3.2.2 1
        have p2 := Joins.cell_of_block hs3.2.2 2
        have hB := Lib.hid hs3.1
        clear hb3 hs3
        go_wp2
        go_ret
        exact ⟨rfl, hB.out⟩
    · have HC := Lib.hid hc
      clear hc hk h1 h2 h3
      generalize uText k Y I = S at *
      go_enter Tryd.func4, Tryd.ntmps4
      go_wp2_with fail
      refine (HV.out _ (HT.out _ HS0.out.1)).mono ?_
      rintro e w1 ⟨rfl, hb1⟩
      have hs1 := st2_next HS0.out hb1
      have q0 := Joins.cell_of_block hs1.2.1 0
      have q1 := Joins.cell_of_block hs1.2.1 1
      have q2 := Joins.cell_of_block hs1.2.1 2
      have HS1 := Lib.hid hs1
      clear hb1 hs1
      go_wp2_with fail
      refine (HA.out _ (HT.out _ HS1.out.1)).mono ?_
      rintro e w2 ⟨rfl, hb2⟩
      have hs2 := st2_next HS1.out hb2
      have p0 := Joins.cell_of_block hs2.2.2 0
      have p1 := Joins.cell_of_block hs2.2.2 1
      have p2 := Joins.cell_of_block hs2.2.2 2
      have HS2 := Lib.hid hs2
      clear hb2 hs2 q0 q1 q2
      go_wp2_with fail
      refine (HC.out _).mono ?_
      rintro e w3 ⟨rfl, hb3⟩
      have hs3 := st2_next HS2.out hb3
      have q0 := Joins.cell_of_block hs3.2.1 0
      have q1 := Joins.cell_of_block hs3.2.1 1
      have q2 := Joins.cell_of_block hs3.2.1 2
      have p0 := Joins.cell_of_block hs3.2.2 0
      have p1 := Joins.cell_of_block hs3.2.2 1
      have p2 := Joins.cell_of_block hs3.2.2 2
      have hB := Lib.hid hs3.1
      clear hb3 hs3
      go_wp2
      go_ret
      exact ⟨rfl, hB.out⟩
  · have HA := Lib.hid ha
    clear ha
    rcases print_any l' y' i' with ⟨k', Y', I', hk', rfl, rfl, rfl, h1', h2', h3', hc⟩ | hc
    · have HC := Lib.hid hc
      clear hc hk' h1' h2' h3'
      generalize uText k' Y' I' = T at *
      go_enter Tryd.func4, Tryd.ntmps4
      go_wp2_with fail
      refine (HV.out _ (HT.out _ HS0.out.1)).mono ?_
      rintro e w1 ⟨rfl, hb1⟩
      have hs1 := st2_next HS0.out hb1
      have q0 := Joins.cell_of_block hs1.2.1 0
      have q1 := Joins.cell_of_block hs1.2.1 1
      have q2 := Joins.cell_of_block hs1.2.1 2
      have HS1 := Lib.hid hs1
      clear hb1 hs1
      go_wp2_with fail
      refine (HA.out _).mono ?_
      rintro e w2 ⟨rfl, hb2⟩
      have hs2 := st2_next HS1.out hb2
      have p0 := Joins.cell_of_block hs2.2.2 0
      have p1 := Joins.cell_of_block hs2.2.2 1
      have p2 := Joins.cell_of_block hs2.2.2 2
      have HS2 := Lib.hid hs2
      clear hb2 hs2 q0 q1 q2
      go_wp2_with fail
      refine (HC.out _ (HT.out _ HS2.out.1)).mono ?_
      rintro e w3 ⟨rfl, hb3⟩
      have hs3 := st2_next HS2.out hb3
      have q0 := Joins.cell_of_block hs3.2.1 0
      have q1 := Joins.cell_of_block hs3.2.1 1
      have q2 := Joins.cell_of_block hs3.2.1 2
      have p0 := Joins.cell_of_block hs3.2.2 0
      have p1 := Joins.cell_of_block hs3.2.2 1
      have p2 := Joins.cell_of_block hs3.2.2 2
      have hB := Lib.hid hs3.1
      clear hb3 hs3
      go_wp2
      go_ret
      exact ⟨rfl, hB.out⟩
    · have HC := Lib.hid hc
      clear hc
      go_enter Tryd.func4, Tryd.ntmps4
      go_wp2_with fail
      refine (HV.out _ (HT.out _ HS0.out.1)).mono ?_
      rintro e w1 ⟨rfl, hb1⟩
      have hs1 := st2_next HS0.out hb1
      have q0 := Joins.cell_of_block hs1.2.1 0
      have q1 := Joins.cell_of_block hs1.2.1 1
      have q2 := Joins.cell_of_block hs1.2.1 2
      have HS1 := Lib.hid hs1
      clear hb1 hs1
      go_wp2_with fail
      refine (HA.out _).mono ?_
      rintro e w2 ⟨rfl, hb2⟩
      have hs2 := st2_next HS1.out hb2
      have p0 := Joins.cell_of_block hs2.2.2 0
      have p1 := Joins.cell_of_block hs2.2.2 1
      have p2 := Joins.cell_of_block hs2.2.2 2
      have HS2 := Lib.hid hs2
      clear hb2 hs2 q0 q1 q2
      go_wp2_with fail
      refine (HC.out _).mono ?_
      rintro e w3 ⟨rfl, hb3⟩
      have hs3 := st2_next HS2.out hb3
      have q0 := Joins.cell_of_block hs3.2.1 0
      have q1 := Joins.cell_of_block hs3.2.1 1
      have q2 := Joins.cell_of_block hs3.2.1 2
      have p0 := Joins.cell_of_block hs3.2.2 0
      have p1 := Joins.cell_of_block hs3.2.2 1
      have p2 := Joins.cell_of_block hs3.2.2 2
      have hB := Lib.hid hs3.1
      clear hb3 hs3
      go_wp2
      go_ret
      exact ⟨rfl, hB.out⟩

end Go.Proofs.YtiedmfpinipppaaDoor
