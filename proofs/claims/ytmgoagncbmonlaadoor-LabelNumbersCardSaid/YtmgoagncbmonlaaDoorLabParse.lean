/- Layer 18 (label): the walk of Parse. -/
import Derived.Test.YtmgoagncbmonlaaDoorLabC
import Derived.BigQuiet
set_option linter.unusedVariables false
namespace Go.Proofs.YtmgoagncbmonlaaDoor
open Go.RowKit

/-- Each round's memory: the result's block, and the forms. -/
def PaSt (w : World) (g : Nat) (wr : World) : Prop := Below w.heap.size w wr ∧ wr.heap[w.heap.size]? = some (.cells #[.int .i64 0, .int .i64 0, .int .i64 0] 32 (0, 0)) ∧ wr.heap[g]? = some (.cells formCells 49 (0, 0))
theorem PaSt.next {w wr w2 : World} {g : Nat} (h : PaSt w g wr) (hb : Below wr.heap.size wr w2) : PaSt w g w2 := by
  have h1 := (Array.getElem?_eq_some_iff.1 h.2.1).1
  have h2 := (Array.getElem?_eq_some_iff.1 h.2.2).1
  exact ⟨h.1.trans (hb.mono h.1.size), by rw [hb.block _ h1]; exact h.2.1, by rw [hb.block _ h2]; exact h.2.2⟩

/-- What a level's text is read as, by what count tells. -/
theorem parseK_cnt (k : Nat) (s : Bytes) : parseK k s = if (cntR (s.take 4)).2 = true ∧ (cntR (s.drop (4 + (sgn k).length))).2 = true then
    (if 1601 ≤ (cntR (s.take 4)).1 ∧ (cntR (s.take 4)).1 ≤ 9997 ∧ 1 ≤ (if k = 0 then 1 else (cntR (s.drop (4 + (sgn k).length))).1) ∧ (if k = 0 then 1 else (cntR (s.drop (4 + (sgn k).length))).1) ≤ mst k
      then ((k : Int) + 1, (cntR (s.take 4)).1, (if k = 0 then 1 else (cntR (s.drop (4 + (sgn k).length))).1), 0) else (0, 0, 0, 13)) else (0, 0, 0, 5) := by
  unfold parseK
  cases h1 : (s.take 4).all isDigit
  · rw [cntR_no h1]; simp
  · cases h2 : (s.drop (4 + (sgn k).length)).all isDigit
    · rw [cntR_no h2]; simp
    · rw [cntR_yes h1, cntR_yes h2]

set_option maxRecDepth 100000 in
set_option maxHeartbeats 4000000 in
theorem label_Parse (s : ByteArray) (w : World) (hs : s.size ≤ maxLen) :
    Calls Tryd.prog 10 #[.string s] w fun e w' => e = .returned (.tuple #[.agg #[.int .i64 (parseU s.data.toList).1, .int .i64 (parseU s.data.toList).2.1, .int .i64 (parseU s.data.toList).2.2.1], .int .i64 (parseU s.data.toList).2.2.2]) ∧ Below w.heap.size w w' := by
  unfold maxLen at hs
  have HF := Lib.hid label_forms
  go_enter Tryd.func10, Tryd.ntmps10
  go_wp2_with fail
  refine (HF.out _).mono ?_
  rintro e w1 ⟨rfl, hblk, hb1⟩
  have hst : PaSt w (w.heap.size + 1) w1 := ⟨below_step (by (repeat (first | exact Below.refl _ _ | assumption | refine Below.setCell ?_ (by first | (simp; done) | (simp; omega) | omega) _ | refine Below.alloc ?_ (by first | (simp; done) | (simp; omega) | omega) _ | refine Below.drew ?_ | refine below_drewN ?_ _ | refine Below.trans ?_ (Below.mono (by assumption) (by first | (simp; done) | (simp; omega) | omega))))) (by simp) hb1, by rw [hb1.block _ (by simp)]; exact heap_alloc_new w _, by simpa using hblk⟩
  have HST := Lib.hid hst
  clear hst hblk hb1
  go_wp2_with fail
  go_loopw [14] (fun a wr => ∃ k : Nat, k ≤ 5 ∧ a = .int .i64 k ∧ PaSt w (w.heap.size + 1) wr ∧ parseU s.data.toList = parseFrom s.data.toList k (5 - k)) (fun a _ => 5 - (intOf a).toNat)
  case atStart => exact ⟨0, by omega, rfl, HST.out, rfl⟩
  case round =>
    obtain ⟨k, hk, rfl, hst, hp⟩ := hrel
    have hstep := fun (w2 : World) (hb : Below wr.heap.size wr w2) => hst.next hb
    by_cases hk5 : k < 5
    · rw [parseFrom_step _ k hk5] at hp
      obtain ⟨g0, g1, g2⟩ := form_at hst.2.2 k hk5
      have hlt := (Array.getElem?_eq_some_iff.1 hst.2.2).1
      have hl5 : (k : Int) < 5 := by omega
      have hl0 : (0 : Int) ≤ k := by omega
      have HS := Lib.hid hst
      have HP := Lib.hid hp
      have HNX := Lib.hid hstep
      have hsz2 : (sgn k).length ≤ 2 := by rcases k_cases k hk5 with rfl | rfl | rfl | rfl | rfl <;> decide
      have hdg2 : (dgt k : Int) ≤ 2 := by rcases k_cases k hk5 with rfl | rfl | rfl | rfl | rfl <;> decide
      have hsg2 : ((sgn k).length : Int) ≤ 2 := by omega
      have w1f : IntKind.i64.wrap (4 + ((sgn k).length : Int) + (dgt k : Int)) = 4 + ((sgn k).length : Int) + (dgt k : Int) := by rw [IntKind.wrap_i64]; omega
      have w2f : IntKind.i64.wrap (4 + ((sgn k).length : Int)) = 4 + ((sgn k).length : Int) := by rw [IntKind.wrap_i64]; omega
      clear hst hp hstep
      by_cases hlen : s.size = 4 + (sgn k).length + dgt k
      · have hne : ((s.size : Int) != 4 + ((sgn k).length : Int) + (dgt k : Int)) = false := bne_f (by omega)
        have b1 : (4 : Int) + ((sgn k).length : Int) ≤ s.size := by omega
        have b2 : 4 + (sgn k).length ≤ s.size := by omega
        have b3 : (4 : Int) ≤ 4 + ((sgn k).length : Int) := by omega
        have hle4 : (4 : Int) ≤ s.size := by omega
        have z1 : (s.extract 0 4).size ≤ 9 := by rw [ByteArray.size_extract]; omega
        have z2 : (s.extract (4 + (sgn k).length) s.size).size ≤ 9 := by rw [ByteArray.size_extract]; have := hdg2; omega
        have HZ1 := Lib.hid z1
        have HZ2 := Lib.hid z2
        have HL := Lib.hid hlen
        have hsl : (s.extract 4 (4 + (sgn k).length)).toList = (s.data.toList.drop 4).take (sgn k).length := by
          rw [ba_toList, ba_extract, List.drop_take]; congr 1; omega
        by_cases hsg : (s.data.toList.drop 4).take (sgn k).length = sgn k
        · have hE : ((s.extract 4 (4 + (sgn k).length)).toList == sgn k) = true := by rw [hsl, hsg]; simp
          have HM := Lib.hid (show mt k s.data.toList = true by unfold mt; rw [ba_len, decide_eq_true hlen, decide_eq_true hsg]; rfl)
          have HPK := Lib.hid (parseK_cnt k s.data.toList)
          have HC1 := Lib.hid (fun W => label_count (s.extract 0 4) W z1)
          have HC2 := Lib.hid (fun W => label_count (s.extract (4 + (sgn k).length) s.size) W z2)
          rw [ba_to] at HC1
          rw [ba_from] at HC2
          clear hlen hsl hsg z1 z2
          go_wp2_with fail
          go_quiet (fail)
          go_wp2_with fail
          refine (HC1.out _).mono ?_
          rintro e w2 ⟨rfl, hb2⟩
          obtain ⟨hf2, f0, f1, f2, fz0, fz1, fz2⟩ := blk3 hb2 (heap_alloc_new wr (.cells #[.string ⟨(sgn k).toArray⟩, .int .i64 (dgt k), .int .i64 (mst k)] 49))
          have hb2' : Below wr.heap.size wr w2 := below_step (show Below wr.heap.size wr _ from below_drewN ((Below.refl _ _).alloc (Nat.le_refl _) _) _) (by simp [World.drewN]) hb2
          have HB2 := Lib.hid hb2'
          have HF2 := Lib.hid hf2
          generalize cntR (s.data.toList.take 4) = A at *
          clear hb2 hb2' hf2 fz0 fz1 fz2
          go_wp2_with fail
          refine (HC2.out _).mono ?_
          rintro e w3 ⟨rfl, hb3⟩
          obtain ⟨hf3, f0, f1, f2, fz0, fz1, fz2⟩ := blk3 hb3 HF2.out
          have hb3' : Below wr.heap.size wr w3 := below_step HB2.out HB2.out.size hb3
          have HB3 := Lib.hid hb3'
          have HF3 := Lib.hid hf3
          have hpa := HNX.out w3 hb3'
          have HPA := Lib.hid hpa
          obtain ⟨r0, r1, r2, rz⟩ := (show w3.cell? ⟨w.heap.size, 0, none⟩ = some (.int .i64 0) ∧ w3.cell? ⟨w.heap.size, 1, none⟩ = some (.int .i64 0) ∧ w3.cell? ⟨w.heap.size, 2, none⟩ = some (.int .i64 0) ∧ ∀ i, w3.frozen? ⟨w.heap.size, i, none⟩ = false from ⟨Joins.cell_of_block hpa.2.1 0, Joins.cell_of_block hpa.2.1 1, Joins.cell_of_block hpa.2.1 2, Joins.unfrozen_of_block hpa.2.1⟩)
          have rz0 := rz 0
          have rz1 := rz 1
          have rz2 := rz 2
          generalize cntR (s.data.toList.drop (4 + (sgn k).length)) = B at *
          obtain ⟨y, ya⟩ := A
          obtain ⟨n, na⟩ := B
          clear hb3 hb3' hf3 fz0 fz1 fz2 hpa rz
          dsimp only at HPK ⊢
          cases ya
          · have HE := Lib.hid (show parseU s.data.toList = (0, 0, 0, 5) by rw [HP.out, HM.out, if_pos rfl, HPK.out, if_neg (by simp)])
            go_wp2_with fail
            refine bodyPost_ret (v := .tuple #[.agg #[.int .i64 0, .int .i64 0, .int .i64 0], .int .i64 5]) (by simp [results, Tryd.results10, go_sem, *]) rfl ⟨by rw [HE.out], ?_⟩
            exact ((HPA.out.1.setCell (by simp) _).setCell (by simp) _).setCell (by simp) _
          cases na
          · have HE := Lib.hid (show parseU s.data.toList = (0, 0, 0, 5) by rw [HP.out, HM.out, if_pos rfl, HPK.out, if_neg (by simp)])
            go_wp2_with fail
            refine bodyPost_ret (v := .tuple #[.agg #[.int .i64 0, .int .i64 0, .int .i64 0], .int .i64 5]) (by simp [results, Tryd.results10, go_sem, *]) rfl ⟨by rw [HE.out], ?_⟩
            exact ((HPA.out.1.setCell (by simp) _).setCell (by simp) _).setCell (by simp) _
          · by_cases hk0 : k = 0
            · subst hk0
              have hd0 : ((dgt 0 : Int) == 0) = true := rfl
              have hz0 : (dgt 0 : Int) = 0 := rfl
              have HW := Lib.hid (fun W => show Calls Tryd.prog 19 #[.agg #[.int .i64 1, .int .i64 y, .int .i64 1]] W fun e w' => e = .returned (.bool (decide (1601 ≤ y ∧ y ≤ 9997 ∧ 1 ≤ (1 : Int) ∧ (1 : Int) ≤ mst 0))) ∧ Below W.heap.size W w' from label_written 0 (by omega) y 1 W)
              have hpk := HPK.out
              simp only [and_self, if_true] at hpk
              go_wp2_with fail
              refine (HW.out _).mono ?_
              rintro e w4 ⟨rfl, hb4⟩
              obtain ⟨_, u0, u1, u2, _⟩ := blk3 hb4 (heap_alloc_new w3 _)
              have hb5 : Below wr.heap.size wr w4 := below_step ((HB3.out).alloc HB3.out.size _) (by have := HB3.out.size; simp; omega) hb4
              have hpa := HNX.out w4 hb5
              have HP5 := Lib.hid hpa
              have r0 := Joins.cell_of_block hpa.2.1 0
              have r1 := Joins.cell_of_block hpa.2.1 1
              have r2 := Joins.cell_of_block hpa.2.1 2
              have rz0 := Joins.unfrozen_of_block hpa.2.1 0
              have rz1 := Joins.unfrozen_of_block hpa.2.1 1
              have rz2 := Joins.unfrozen_of_block hpa.2.1 2
              clear hb4 hb5 hpa
              by_cases hq : 1601 ≤ y ∧ y ≤ 9997 ∧ 1 ≤ (1 : Int) ∧ (1 : Int) ≤ mst 0
              · rw [decide_eq_true hq]
                have HE := Lib.hid (show parseU s.data.toList = (1, y, 1, 0) by rw [HP.out, HM.out, if_pos rfl, hpk, if_pos hq]; rfl)
                clear hq hpk
                go_wp2_with fail
                refine bodyPost_ret (v := .tuple #[.agg #[.int .i64 (1), .int .i64 y, .int .i64 1], .int .i64 0]) (by simp [results, Tryd.results10, go_sem, *]) rfl ⟨by rw [HE.out], ?_⟩
                exact ((HP5.out.1.setCell (by simp) _).setCell (by simp) _).setCell (by simp) _
              · rw [decide_eq_false hq]
                have HE := Lib.hid (show parseU s.data.toList = (0, 0, 0, 13) by rw [HP.out, HM.out, if_pos rfl, hpk, if_neg hq])
                clear hq hpk
                go_wp2_with fail
                refine bodyPost_ret (v := .tuple #[.agg #[.int .i64 0, .int .i64 0, .int .i64 0], .int .i64 13]) (by simp [results, Tryd.results10, go_sem, *]) rfl ⟨by rw [HE.out], ?_⟩
                exact ((HP5.out.1.setCell (by simp) _).setCell (by simp) _).setCell (by simp) _
            · have hd0 : ((dgt k : Int) == 0) = false := beq_f (by rcases k_cases k hk5 with rfl | rfl | rfl | rfl | rfl <;> simp [dgt] at *)
              have HW := Lib.hid (fun W => label_written k (by omega) y n W)
              have hpk := HPK.out
              simp only [and_self, if_true, if_neg hk0] at hpk
              go_wp2_with fail
              refine (HW.out _).mono ?_
              rintro e w4 ⟨rfl, hb4⟩
              obtain ⟨_, u0, u1, u2, _⟩ := blk3 hb4 (heap_alloc_new w3 _)
              have hb5 : Below wr.heap.size wr w4 := below_step ((HB3.out).alloc HB3.out.size _) (by have := HB3.out.size; simp; omega) hb4
              have hpa := HNX.out w4 hb5
              have HP5 := Lib.hid hpa
              have r0 := Joins.cell_of_block hpa.2.1 0
              have r1 := Joins.cell_of_block hpa.2.1 1
              have r2 := Joins.cell_of_block hpa.2.1 2
              have rz0 := Joins.unfrozen_of_block hpa.2.1 0
              have rz1 := Joins.unfrozen_of_block hpa.2.1 1
              have rz2 := Joins.unfrozen_of_block hpa.2.1 2
              clear hb4 hb5 hpa
              by_cases hq : 1601 ≤ y ∧ y ≤ 9997 ∧ 1 ≤ (n : Int) ∧ (n : Int) ≤ mst k
              · rw [decide_eq_true hq]
                have HE := Lib.hid (show parseU s.data.toList = ((k : Int) + 1, y, n, 0) by rw [HP.out, HM.out, if_pos rfl, hpk, if_pos hq])
                clear hq hpk
                go_wp2_with fail
                refine bodyPost_ret (v := .tuple #[.agg #[.int .i64 ((k : Int) + 1), .int .i64 y, .int .i64 n], .int .i64 0]) (by simp [results, Tryd.results10, go_sem, *]) rfl ⟨by rw [HE.out], ?_⟩
                exact ((HP5.out.1.setCell (by simp) _).setCell (by simp) _).setCell (by simp) _
              · rw [decide_eq_false hq]
                have HE := Lib.hid (show parseU s.data.toList = (0, 0, 0, 13) by rw [HP.out, HM.out, if_pos rfl, hpk, if_neg hq])
                clear hq hpk
                go_wp2_with fail
                refine bodyPost_ret (v := .tuple #[.agg #[.int .i64 0, .int .i64 0, .int .i64 0], .int .i64 13]) (by simp [results, Tryd.results10, go_sem, *]) rfl ⟨by rw [HE.out], ?_⟩
                exact ((HP5.out.1.setCell (by simp) _).setCell (by simp) _).setCell (by simp) _
        · have hE : ((s.extract 4 (4 + (sgn k).length)).toList == sgn k) = false := by rw [hsl]; simpa using hsg
          have HM := Lib.hid (show mt k s.data.toList = false by unfold mt; rw [decide_eq_false hsg]; simp)
          clear hlen hsl hsg z1 z2
          go_wp2_with fail
          go_quiet (fail)
          go_wp2
          refine ⟨⟨k + 1, by omega, by go_num, HNX.out _ (below_drewN ((Below.refl _ _).alloc (Nat.le_refl _) _) _), by rw [HP.out, HM.out]; rfl⟩, by simp [intOf]; omega⟩
      · have hne : ((s.size : Int) != 4 + ((sgn k).length : Int) + (dgt k : Int)) = true := bne_t (by omega)
        have HM := Lib.hid (show mt k s.data.toList = false by unfold mt; rw [ba_len, decide_eq_false hlen]; rfl)
        clear hlen
        go_wp2_with fail
        go_quiet (fail)
        go_wp2
        refine ⟨⟨k + 1, by omega, by go_num, HNX.out _ (below_drewN ((Below.refl _ _).alloc (Nat.le_refl _) _) _), by rw [HP.out, HM.out]; rfl⟩, by simp [intOf]; omega⟩
    · have hk' : k = 5 := by omega
      subst hk'
      have HP := Lib.hid (show parseU s.data.toList = (0, 0, 0, 5) from hp)
      have r0 := Joins.cell_of_block hst.2.1 0
      have r1 := Joins.cell_of_block hst.2.1 1
      have r2 := Joins.cell_of_block hst.2.1 2
      have rz0 := Joins.unfrozen_of_block hst.2.1 0
      have rz1 := Joins.unfrozen_of_block hst.2.1 1
      have rz2 := Joins.unfrozen_of_block hst.2.1 2
      have HB := Lib.hid hst.1
      clear hst hp hstep
      go_wp2_with fail
      refine bodyPost_ret (v := .tuple #[.agg #[.int .i64 0, .int .i64 0, .int .i64 0], .int .i64 5]) (by simp [results, Tryd.results10, go_sem, *]) rfl ⟨by rw [HP.out], ?_⟩
      exact ((HB.out.setCell (by simp) _).setCell (by simp) _).setCell (by simp) _

end Go.Proofs.YtmgoagncbmonlaaDoor
