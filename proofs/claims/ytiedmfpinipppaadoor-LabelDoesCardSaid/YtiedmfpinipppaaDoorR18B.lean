/- Layer 18, the reference: the walk of Parse. -/
import Derived.Test.YtiedmfpinipppaaDoorR18A
import Derived.Test.YtiedmfpinipppaaDoorLabParse
set_option linter.unusedVariables false
namespace Go.Proofs.YtiedmfpinipppaaDoor
open Go.RowKit

theorem mt_uniq (k j : Nat) (hk : k < 5) (hj : j < 5) (s : Bytes) (h : mt k s = true) (h' : mt j s = true) : k = j := by
  unfold mt at h h'
  rw [Bool.and_eq_true, decide_eq_true_eq, decide_eq_true_eq] at h h'
  obtain ⟨l1, s1⟩ := h
  obtain ⟨l2, s2⟩ := h'
  rcases k_cases k hk with rfl | rfl | rfl | rfl | rfl <;> rcases k_cases j hj with rfl | rfl | rfl | rfl | rfl <;> first
    | rfl
    | (exfalso; exact absurd (s1.symm.trans s2) (by decide))
    | (exfalso; simp [sgn, dgt] at l1 l2; omega)
theorem parseFrom_none (k : Nat) (hk : k < 5) (s : Bytes) (h : mt k s = true) : ∀ m j : Nat, j + m = 5 → k < j → parseFrom s j m = (0, 0, 0, 5)
  | 0, j, _, _ => rfl
  | m + 1, j, hj, hkj => by
    rw [parseFrom, if_neg (fun e => by have := mt_uniq k j hk (by omega) s h e; omega)]
    exact parseFrom_none k hk s h m (j + 1) (by omega) (by omega)

/-- What a level's text is read as, by what Number tells. -/
theorem parseK_num (k : Nat) (s : Bytes) (hk : k < 5) (hm : mt k s = true) : parseK k s = if (numR (s.take 4)).2 = true ∧ (k = 0 ∨ (numR (s.drop (4 + (sgn k).length))).2 = true) then
    (if 1601 ≤ (numR (s.take 4)).1 ∧ (numR (s.take 4)).1 ≤ 9997 ∧ 1 ≤ (if k = 0 then 1 else (numR (s.drop (4 + (sgn k).length))).1) ∧ (if k = 0 then 1 else (numR (s.drop (4 + (sgn k).length))).1) ≤ mst k
      then ((k : Int) + 1, (numR (s.take 4)).1, (if k = 0 then 1 else (numR (s.drop (4 + (sgn k).length))).1), 0) else (0, 0, 0, 13)) else (0, 0, 0, 5) := by
  unfold mt at hm
  rw [Bool.and_eq_true, decide_eq_true_eq, decide_eq_true_eq] at hm
  have l4 : 0 < (s.take 4).length := by rw [List.length_take]; omega
  have ld : (s.drop (4 + (sgn k).length)).length = dgt k := by rw [List.length_drop]; omega
  have y2 : ∀ l : Bytes, l.all isDigit = true → (numR l).1 = numL l ∧ (numR l).2 = decide (0 < l.length) := fun l h => by unfold numR; rw [if_pos h]; exact ⟨rfl, rfl⟩
  have n2 : ∀ l : Bytes, ¬ l.all isDigit = true → (numR l).2 = false := fun l h => by unfold numR; rw [if_neg h]
  by_cases h1 : (s.take 4).all isDigit = true
  · obtain ⟨e1, e2⟩ := y2 _ h1
    rw [decide_eq_true l4] at e2
    by_cases hk0 : k = 0
    · subst hk0
      have hnil : s.drop (4 + (sgn 0).length) = [] := List.eq_nil_of_length_eq_zero ld
      have h2 : (s.drop (4 + (sgn 0).length)).all isDigit = true := by rw [hnil]; rfl
      unfold parseK
      rw [if_pos ⟨h1, h2⟩, e1]
      exact (if_pos (c := _ ∧ _) ⟨e2, .inl rfl⟩).symm
    · have hd0 : 0 < dgt k := by rcases k_cases k hk with rfl | rfl | rfl | rfl | rfl <;> first | omega | decide
      by_cases h2 : (s.drop (4 + (sgn k).length)).all isDigit = true
      · obtain ⟨e3, e4⟩ := y2 _ h2
        rw [decide_eq_true (by rw [ld]; exact hd0)] at e4
        unfold parseK
        rw [if_pos ⟨h1, h2⟩, e1, e3]
        exact (if_pos (c := _ ∧ _) ⟨e2, .inr e4⟩).symm
      · have e4 := n2 _ h2
        unfold parseK
        rw [if_neg (fun a => h2 a.2), if_neg (fun a => by rcases a.2 with b | b; · exact hk0 b
                                                          · rw [e4] at b; cases b)]
  · have e2 := n2 _ h1
    unfold parseK
    rw [if_neg (fun a => h1 a.1), if_neg (fun a => by rw [e2] at a; cases a.1)]

/-- Each round's memory: the result's block. -/
def RpSt (w : World) (wr : World) : Prop := Below w.heap.size w wr ∧ wr.heap[w.heap.size]? = some (.cells #[.int .i64 0, .int .i64 0, .int .i64 0] 23 (0, 0))
theorem RpSt.next {w wr w2 : World} (h : RpSt w wr) (hb : Below wr.heap.size wr w2) : RpSt w w2 := by
  have h1 := (Array.getElem?_eq_some_iff.1 h.2).1
  exact ⟨h.1.trans (hb.mono h.1.size), by rw [hb.block _ h1]; exact h.2⟩

set_option maxRecDepth 100000 in
set_option maxHeartbeats 40000000 in
theorem ref18_Parse (s : ByteArray) (w : World) (hs : s.size ≤ maxLen) :
    Calls Tryd.prog 13 #[.string s] w fun e w' => e = .returned (.tuple #[.agg #[.int .i64 (parseU s.data.toList).1, .int .i64 (parseU s.data.toList).2.1, .int .i64 (parseU s.data.toList).2.2.1], .int .i64 (parseU s.data.toList).2.2.2]) ∧ Below w.heap.size w w' := by
  unfold maxLen at hs
  go_enter Tryd.func13, Tryd.ntmps13
  go_wp2_with fail
  go_loopw [4] (fun a wr => ∃ k : Nat, k ≤ 5 ∧ a = .int .i64 ((k : Int) + 1) ∧ RpSt w wr ∧ parseU s.data.toList = parseFrom s.data.toList k (5 - k)) (fun a _ => 6 - (intOf a).toNat)
  case atStart => exact ⟨0, by omega, rfl, ⟨by (repeat (first | exact Below.refl _ _ | assumption | refine Below.setCell ?_ (by first | (simp; done) | (simp; omega) | omega) _ | refine Below.alloc ?_ (by first | (simp; done) | (simp; omega) | omega) _ | refine Below.drew ?_ | refine below_drewN ?_ _ | refine Below.trans ?_ (Below.mono (by assumption) (by first | (simp; done) | (simp; omega) | omega)))), heap_alloc_new w _⟩, rfl⟩
  case round =>
    obtain ⟨k, hk, rfl, hst, hp⟩ := hrel
    have hstep := fun (w2 : World) (hb : Below wr.heap.size wr w2) => hst.next hb
    by_cases hk5 : k < 5
    · rw [parseFrom_step _ k hk5] at hp
      have hl5 : (k : Int) + 1 ≤ 5 := by omega
      have hl0 : (0 : Int) ≤ k := by omega
      have HP := Lib.hid hp
      have HNX := Lib.hid hstep
      have HS := Lib.hid (ref18_sign k hk5)
      have HD := Lib.hid (ref18_digits k hk5)
      have hsz2 : (sgn k).length ≤ 2 := by rcases k_cases k hk5 with rfl | rfl | rfl | rfl | rfl <;> decide
      have hdg2 : (dgt k : Int) ≤ 2 := by rcases k_cases k hk5 with rfl | rfl | rfl | rfl | rfl <;> decide
      have hsg2 : ((sgn k).length : Int) ≤ 2 := by omega
      have w1f : IntKind.i64.wrap (4 + ((sgn k).length : Int) + (dgt k : Int)) = 4 + ((sgn k).length : Int) + (dgt k : Int) := by rw [IntKind.wrap_i64]; omega
      have w2f : IntKind.i64.wrap (4 + ((sgn k).length : Int)) = 4 + ((sgn k).length : Int) := by rw [IntKind.wrap_i64]; omega
      have ht4 : (4 + ((sgn k).length : Int)).toNat = 4 + (sgn k).length := by omega
      clear hst hp hstep
      go_wp2_with fail
      refine (HS.out _).mono ?_
      rintro e w1 ⟨rfl, hb1⟩
      have HB1 := Lib.hid hb1
      by_cases hlen : s.size = 4 + (sgn k).length + dgt k
      · have hne : ((s.size : Int) != 4 + ((sgn k).length : Int) + (dgt k : Int)) = false := bne_f (by omega)
        have b1 : (4 : Int) + ((sgn k).length : Int) ≤ s.size := by omega
        have b2 : 4 + (sgn k).length ≤ s.size := by omega
        have b3 : (4 : Int) ≤ 4 + ((sgn k).length : Int) := by omega
        have hle4 : (4 : Int) ≤ s.size := by omega
        have z1 : (s.extract 0 4).size ≤ 9 := by rw [ByteArray.size_extract]; omega
        have z2 : (s.extract (4 + (sgn k).length) s.size).size ≤ 9 := by rw [ByteArray.size_extract]; have := hdg2; omega
        have HL := Lib.hid hlen
        have hsl : (s.extract 4 (4 + (sgn k).length)).toList = (s.data.toList.drop 4).take (sgn k).length := by
          rw [ba_toList, ba_extract, List.drop_take]; congr 1; omega
        by_cases hsg : (s.data.toList.drop 4).take (sgn k).length = sgn k
        · have hE : ((s.extract 4 (4 + (sgn k).length)).toList == sgn k) = true := by rw [hsl, hsg]; simp
          have hm : mt k s.data.toList = true := by unfold mt; rw [ba_len, decide_eq_true hlen, decide_eq_true hsg]; rfl
          have HM := Lib.hid hm
          have HPN := Lib.hid (parseFrom_none k hk5 s.data.toList hm (5 - (k + 1)) (k + 1) (by omega) (by omega))
          have HPK := Lib.hid (parseK_num k s.data.toList hk5 hm)
          have HC1 := Lib.hid (fun W => ref18_Number (s.extract 0 4) W z1)
          have HC2 := Lib.hid (fun W => ref18_Number (s.extract (4 + (sgn k).length) s.size) W z2)
          rw [ba_to] at HC1
          rw [ba_from] at HC2
          clear hlen hsl hsg z1 z2 hm hb1
          go_wp2_with fail
          go_region_with (first
            | (go_at_call 28; refine (HD.out _).mono ?_; rintro e w2 ⟨rfl, hb2⟩)
            | (go_at_call 27; refine (HS.out _).mono ?_; rintro e w3 ⟨rfl, hb3⟩))
          all_goals
            have hb3' : Below wr.heap.size wr w3 := by
              first
              | exact below_step (below_step HB1.out HB1.out.size hb2) (Nat.le_trans HB1.out.size hb2.size) hb3
              | exact below_step (Below.drew (below_step HB1.out HB1.out.size hb2)) (by first | exact (Nat.le_trans HB1.out.size hb2.size) | omega) hb3
              | exact below_step (below_step (Below.drew HB1.out) HB1.out.size hb2) (Nat.le_trans HB1.out.size hb2.size) hb3
            have HB3 := Lib.hid hb3'
            clear hb2 hb3 hb3' HB1
            go_wp2_with fail
            refine (HC1.out _).mono ?_
            rintro e w4 ⟨rfl, rfl⟩
            generalize numR (s.data.toList.take 4) = A at *
            go_wp2_with fail
            refine (HC2.out _).mono ?_
            rintro e w5 ⟨rfl, rfl⟩
            generalize numR (s.data.toList.drop (4 + (sgn k).length)) = B at *
            obtain ⟨y, ya⟩ := A
            obtain ⟨n, na⟩ := B
            dsimp only at HPK ⊢
            by_cases hk0 : k = 0
            · have hd0 : ((k : Int) + 1 == 1) = true := by rw [hk0]; rfl
              cases ya
              · have HE := Lib.hid (show parseU s.data.toList = parseFrom s.data.toList (k + 1) (5 - (k + 1)) by rw [HP.out, HM.out, if_pos rfl, HPK.out, if_neg (fun a => by cases a.1), HPN.out])
                clear HPK
                go_wp2_with fail
                exact ⟨⟨k + 1, by omega, by go_num, HNX.out _ HB3.out, HE.out⟩, by simp [intOf]; omega⟩
              · have hpk := HPK.out
                rw [if_pos ⟨rfl, .inl hk0⟩] at hpk
                simp only [if_pos hk0] at hpk
                clear HPK
                have hk1 : (k : Int) + 1 = 1 := by rw [hk0]; rfl
                have HM1 := Lib.hid (fun W => ref18_may k hk5 y 1 W)
                rw [hk1] at HM1
                go_wp2_with fail
                with_reducible refine Calls.mono (HM1.out _) ?_
                rintro e w6 ⟨rfl, hb6⟩
                obtain ⟨_, u0, u1, u2, _⟩ := blk3 hb6 (heap_alloc_new w3 _)
                have hb7 : Below wr.heap.size wr w6 := below_step ((HB3.out).alloc HB3.out.size _) (by have := HB3.out.size; simp; omega) hb6
                have hpa := HNX.out w6 hb7
                have HP5 := Lib.hid hpa
                have r0 := Joins.cell_of_block hpa.2 0
                have r1 := Joins.cell_of_block hpa.2 1
                have r2 := Joins.cell_of_block hpa.2 2
                have rz0 := Joins.unfrozen_of_block hpa.2 0
                have rz1 := Joins.unfrozen_of_block hpa.2 1
                have rz2 := Joins.unfrozen_of_block hpa.2 2
                clear hb6 hb7 hpa
                by_cases hq : 1601 ≤ y ∧ y ≤ 9997 ∧ 1 ≤ (1 : Int) ∧ (1 : Int) ≤ mst k
                · rw [decide_eq_true hq]
                  have HE := Lib.hid (show parseU s.data.toList = (1, y, 1, 0) by rw [HP.out, HM.out, if_pos rfl, hpk, if_pos hq, hk1])
                  clear hq hpk
                  go_wp2_with fail
                  refine bodyPost_ret (v := .tuple #[.agg #[.int .i64 1, .int .i64 y, .int .i64 1], .int .i64 0]) (by simp [results, Tryd.results13, go_sem, *]) rfl ⟨by rw [HE.out], ?_⟩
                  exact ((HP5.out.1.setCell (by simp) _).setCell (by simp) _).setCell (by simp) _
                · rw [decide_eq_false hq]
                  have HE := Lib.hid (show parseU s.data.toList = (0, 0, 0, 13) by rw [HP.out, HM.out, if_pos rfl, hpk, if_neg hq])
                  clear hq hpk
                  go_wp2_with fail
                  refine bodyPost_ret (v := .tuple #[.agg #[.int .i64 0, .int .i64 0, .int .i64 0], .int .i64 13]) (by simp [results, Tryd.results13, go_sem, *]) rfl ⟨by rw [HE.out], ?_⟩
                  exact ((HP5.out.1.setCell (by simp) _).setCell (by simp) _).setCell (by simp) _
            · have hd0 : ((k : Int) + 1 == 1) = false := beq_f (by omega)
              cases ya
              · have HE := Lib.hid (show parseU s.data.toList = parseFrom s.data.toList (k + 1) (5 - (k + 1)) by rw [HP.out, HM.out, if_pos rfl, HPK.out, if_neg (fun a => by cases a.1), HPN.out])
                clear HPK
                go_wp2_with fail
                exact ⟨⟨k + 1, by omega, by go_num, HNX.out _ HB3.out, HE.out⟩, by simp [intOf]; omega⟩
              cases na
              · have HE := Lib.hid (show parseU s.data.toList = parseFrom s.data.toList (k + 1) (5 - (k + 1)) by rw [HP.out, HM.out, if_pos rfl, HPK.out, if_neg (fun a => by rcases a.2 with b | b <;> first | exact hk0 b | cases b), HPN.out])
                clear HPK
                go_wp2_with fail
                exact ⟨⟨k + 1, by omega, by go_num, HNX.out _ HB3.out, HE.out⟩, by simp [intOf]; omega⟩
              · have hpk := HPK.out
                rw [if_pos ⟨rfl, .inr rfl⟩] at hpk
                simp only [if_neg hk0] at hpk
                clear HPK
                have HM1 := Lib.hid (fun W => ref18_may k hk5 y n W)
                go_wp2_with fail
                with_reducible refine Calls.mono (HM1.out _) ?_
                rintro e w6 ⟨rfl, hb6⟩
                obtain ⟨_, u0, u1, u2, _⟩ := blk3 hb6 (heap_alloc_new w3 _)
                have hb7 : Below wr.heap.size wr w6 := below_step ((HB3.out).alloc HB3.out.size _) (by have := HB3.out.size; simp; omega) hb6
                have hpa := HNX.out w6 hb7
                have HP5 := Lib.hid hpa
                have r0 := Joins.cell_of_block hpa.2 0
                have r1 := Joins.cell_of_block hpa.2 1
                have r2 := Joins.cell_of_block hpa.2 2
                have rz0 := Joins.unfrozen_of_block hpa.2 0
                have rz1 := Joins.unfrozen_of_block hpa.2 1
                have rz2 := Joins.unfrozen_of_block hpa.2 2
                clear hb6 hb7 hpa
                by_cases hq : 1601 ≤ y ∧ y ≤ 9997 ∧ 1 ≤ (n : Int) ∧ (n : Int) ≤ mst k
                · rw [decide_eq_true hq]
                  have HE := Lib.hid (show parseU s.data.toList = ((k : Int) + 1, y, n, 0) by rw [HP.out, HM.out, if_pos rfl, hpk, if_pos hq])
                  clear hq hpk
                  go_wp2_with fail
                  refine bodyPost_ret (v := .tuple #[.agg #[.int .i64 ((k : Int) + 1), .int .i64 y, .int .i64 n], .int .i64 0]) (by simp [results, Tryd.results13, go_sem, *]) rfl ⟨by rw [HE.out], ?_⟩
                  exact ((HP5.out.1.setCell (by simp) _).setCell (by simp) _).setCell (by simp) _
                · rw [decide_eq_false hq]
                  have HE := Lib.hid (show parseU s.data.toList = (0, 0, 0, 13) by rw [HP.out, HM.out, if_pos rfl, hpk, if_neg hq])
                  clear hq hpk
                  go_wp2_with fail
                  refine bodyPost_ret (v := .tuple #[.agg #[.int .i64 0, .int .i64 0, .int .i64 0], .int .i64 13]) (by simp [results, Tryd.results13, go_sem, *]) rfl ⟨by rw [HE.out], ?_⟩
                  exact ((HP5.out.1.setCell (by simp) _).setCell (by simp) _).setCell (by simp) _
        · have hE : ((s.extract 4 (4 + (sgn k).length)).toList == sgn k) = false := by rw [hsl]; simpa using hsg
          have HM := Lib.hid (show mt k s.data.toList = false by unfold mt; rw [decide_eq_false hsg]; simp)
          clear hlen hsl hsg z1 z2 hb1
          go_wp2_with fail
          go_region_with (first
            | (go_at_call 28; refine (HD.out _).mono ?_; rintro e w2 ⟨rfl, hb2⟩)
            | (go_at_call 27; refine (HS.out _).mono ?_; rintro e w3 ⟨rfl, hb3⟩))
          all_goals
            have hb3' : Below wr.heap.size wr w3 := by
              first
              | exact below_step (below_step HB1.out HB1.out.size hb2) (Nat.le_trans HB1.out.size hb2.size) hb3
              | exact below_step (Below.drew (below_step HB1.out HB1.out.size hb2)) (by first | exact (Nat.le_trans HB1.out.size hb2.size) | omega) hb3
              | exact below_step (below_step (Below.drew HB1.out) HB1.out.size hb2) (Nat.le_trans HB1.out.size hb2.size) hb3
            have HB3 := Lib.hid hb3'
            clear hb2 hb3 hb3' HB1
            go_wp2_with fail
            exact ⟨⟨k + 1, by omega, by go_num, HNX.out _ HB3.out, by rw [HP.out, HM.out]; rfl⟩, by simp [intOf]; omega⟩
      · have hne : ((s.size : Int) != 4 + ((sgn k).length : Int) + (dgt k : Int)) = true := bne_t (by omega)
        have HM := Lib.hid (show mt k s.data.toList = false by unfold mt; rw [ba_len, decide_eq_false hlen]; rfl)
        clear hlen hb1
        go_wp2_with fail
        first | go_region_with (go_at_call 28; refine (HD.out _).mono ?_; rintro e w2 ⟨rfl, hb2⟩) | fail
        all_goals
          have hb2' : Below wr.heap.size wr w2 := by
            first
            | exact below_step HB1.out HB1.out.size hb2
            | exact below_step (Below.drew HB1.out) HB1.out.size hb2
            | exact Below.drew (below_step HB1.out HB1.out.size hb2)
          have HB2 := Lib.hid hb2'
          clear hb2 hb2' HB1
          go_wp2_with fail
          exact ⟨⟨k + 1, by omega, by go_num, HNX.out _ (by first | exact HB2.out | exact Below.drew HB2.out), by rw [HP.out, HM.out]; rfl⟩, by simp [intOf]; omega⟩
    · have hk' : k = 5 := by omega
      subst hk'
      have HP := Lib.hid (show parseU s.data.toList = (0, 0, 0, 5) from hp)
      have r0 := Joins.cell_of_block hst.2 0
      have r1 := Joins.cell_of_block hst.2 1
      have r2 := Joins.cell_of_block hst.2 2
      have rz0 := Joins.unfrozen_of_block hst.2 0
      have rz1 := Joins.unfrozen_of_block hst.2 1
      have rz2 := Joins.unfrozen_of_block hst.2 2
      have HB := Lib.hid hst.1
      clear hst hp hstep
      go_wp2_with fail
      refine bodyPost_ret (v := .tuple #[.agg #[.int .i64 0, .int .i64 0, .int .i64 0], .int .i64 5]) (by simp [results, Tryd.results13, go_sem, *]) rfl ⟨by rw [HP.out], ?_⟩
      exact ((HB.out.setCell (by simp) _).setCell (by simp) _).setCell (by simp) _

end Go.Proofs.YtiedmfpinipppaaDoor
