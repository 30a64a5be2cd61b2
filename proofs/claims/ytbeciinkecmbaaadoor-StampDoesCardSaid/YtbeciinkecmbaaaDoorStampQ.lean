/- Layer 7 (stamp): the walks of Parse, ParseIso. -/
import Derived.Test.YtbeciinkecmbaaaDoorStampN
set_option linter.unusedVariables false
namespace Go.Proofs.YtbeciinkecmbaaaDoor
open Go.RowKit

theorem civil_Day (y m d : Int) (w : World) :
    Calls Tryd.prog 18 #[.agg #[.int .i64 y, .int .i64 m, .int .i64 d]] w fun e w' => e = .returned (.tuple #[.int .i64 (dayN y m d).1, .int .i64 (dayN y m d).2]) ∧ Below w.heap.size w w' := by
  unfold dayN
  by_cases h : vld y m d
  · rw [if_pos h]; exact civil_Day_ok y m d h w
  · rw [if_neg h]; exact civil_Day_no y m d h w

theorem form_ok (f : ByteArray) (h : f.data.toList.all (fun c => decide (c.toNat < 128)) = true) : ∀ k (h : k < f.size), f[k].toNat < 128 := by
  intro k hk
  have := List.all_eq_true.1 h _ (List.getElem_mem (show k < f.data.toList.length by rw [ba_len]; exact hk))
  rw [ba_get f k hk] at this
  simpa using this

set_option maxRecDepth 100000 in
theorem stamp_Parse (s : ByteArray) (w : World) (hs : s.size ≤ maxLen) :
    Calls Tryd.prog 11 #[.string s] w fun e w' => e = .returned (.tuple #[.int .i64 (parseD s.data.toList).1, .int .i64 (parseD s.data.toList).2]) ∧ Below w.heap.size w w' := by
  have HN := Lib.hid (fun W => stamp_numbers s ⟨#[35, 35, 35, 35, 45, 35, 35, 45, 35, 35]⟩ W hs (by decide) (form_ok _ (by decide)))
  have hnd := nums_D s.data.toList
  cases hl : likeF formD s.data.toList
  · have HP := Lib.hid (show parseD s.data.toList = (0, 5) by unfold parseD; rw [hl]; rfl)
    rw [hl, if_neg (by simp)] at hnd
    have HD := Lib.hid hnd
    clear hnd hl
    go_enter Tryd.func11, Tryd.ntmps11
    go_wp2_with fail
    refine (HN.out _).mono ?_
    rintro e w1 ⟨he, hb1⟩
    have hd : numsGo [35, 35, 35, 35, 45, 35, 35, 45, 35, 35] s.data.toList [] false = none := HD.out
    rw [hd] at he
    subst he
    go_wp2
    go_ret2
    exact ⟨ret_ii (by rw [HP.out]) (by rw [HP.out]), hb1⟩
  · have hp : parseD s.data.toList = dayN (numL (s.data.toList.take 4)) (numL ((s.data.toList.drop 5).take 2)) (numL (s.data.toList.drop 8)) := by unfold parseD; rw [hl]; rfl
    rw [hl, if_pos rfl] at hnd
    generalize numL (s.data.toList.take 4) = Y at *
    generalize numL ((s.data.toList.drop 5).take 2) = M at *
    generalize numL (s.data.toList.drop 8) = D at *
    have HP := Lib.hid hp
    have HD := Lib.hid hnd
    clear hnd hl hp
    have HC := Lib.hid (fun W => civil_Day Y M D W)
    go_enter Tryd.func11, Tryd.ntmps11
    go_wp2_with fail
    refine (HN.out _).mono ?_
    rintro e w1 ⟨he, hb1⟩
    have hd : numsGo [35, 35, 35, 35, 45, 35, 35, 45, 35, 35] s.data.toList [] false = some [Y, M, D] := HD.out
    rw [hd] at he
    obtain ⟨v, rfl, hown⟩ := he
    obtain ⟨g, c, rfl, hg, hgl⟩ := own_head hown (by simp)
    have q0 : w1.cell? ⟨g, 0, none⟩ = some (.int .i64 Y) := by rw [hown.cellAt 0 (by simp)]; rfl
    have q1 : w1.cell? ⟨g, 1, none⟩ = some (.int .i64 M) := by rw [hown.cellAt 1 (by simp)]; rfl
    have q2 : w1.cell? ⟨g, 2, none⟩ = some (.int .i64 D) := by rw [hown.cellAt 2 (by simp)]; rfl
    have hs1 := hb1.size
    have hbW := hb1
    have hzW := hgl
    clear hown hb1 hgl
    go_wp2_with fail
    go_region_held3 (fun W => W.cell? ⟨g, 0, none⟩ = some (.int .i64 Y) ∧ W.cell? ⟨g, 1, none⟩ = some (.int .i64 M) ∧ W.cell? ⟨g, 2, none⟩ = some (.int .i64 D) ∧ Below w.heap.size w W ∧ g < W.heap.size) (first | exact ⟨q0, q1, q2, Below.drew hbW, hzW⟩ | (go_split_ands; refine ⟨?_, ?_, ?_, ?_, ?_⟩ <;> first | assumption | (refine Eq.trans (hbc.cell (by assumption)) ?_; assumption) | exact Below.trans (by assumption) (hbc.mono (by omega)) | (have := hbc.size; omega))) (first | (go_at_call 18; ((with_reducible refine Calls.mono (HC.out _) ?_); rintro e w2 ⟨rfl, hbc⟩)))
    all_goals
      go_wp2
      go_ret2
      go_split_ands
      exact ⟨ret_ii (by rw [HP.out]) (by rw [HP.out]), by assumption⟩

set_option maxRecDepth 100000 in
theorem stamp_ParseIso (s : ByteArray) (w : World) (hs : s.size ≤ maxLen) :
    Calls Tryd.prog 15 #[.string s] w fun e w' => e = .returned (.tuple #[.int .i64 (parseI s.data.toList).1, .int .i64 (parseI s.data.toList).2]) ∧ Below w.heap.size w w' := by
  have HN := Lib.hid (fun W => stamp_numbers s ⟨#[35, 35, 35, 35, 45, 87, 35, 35, 45, 35]⟩ W hs (by decide) (form_ok _ (by decide)))
  have hnd := nums_I s.data.toList
  cases hl : likeF formI s.data.toList
  · have HP := Lib.hid (show parseI s.data.toList = (0, 5) by unfold parseI; rw [hl]; rfl)
    rw [hl, if_neg (by simp)] at hnd
    have HD := Lib.hid hnd
    clear hnd hl
    go_enter Tryd.func15, Tryd.ntmps15
    go_wp2_with fail
    refine (HN.out _).mono ?_
    rintro e w1 ⟨he, hb1⟩
    have hd : numsGo [35, 35, 35, 35, 45, 87, 35, 35, 45, 35] s.data.toList [] false = none := HD.out
    rw [hd] at he
    subst he
    go_wp2
    go_ret2
    exact ⟨ret_ii (by rw [HP.out]) (by rw [HP.out]), hb1⟩
  · have hp : parseI s.data.toList = isoN (numL (s.data.toList.take 4)) (numL ((s.data.toList.drop 6).take 2)) (numL (s.data.toList.drop 9)) := by unfold parseI; rw [hl]; rfl
    rw [hl, if_pos rfl] at hnd
    generalize numL (s.data.toList.take 4) = Y at *
    generalize numL ((s.data.toList.drop 6).take 2) = M at *
    generalize numL (s.data.toList.drop 9) = D at *
    have HP := Lib.hid hp
    have HD := Lib.hid hnd
    clear hnd hl hp
    have HC := Lib.hid (fun W => week_Day Y M D W)
    go_enter Tryd.func15, Tryd.ntmps15
    go_wp2_with fail
    refine (HN.out _).mono ?_
    rintro e w1 ⟨he, hb1⟩
    have hd : numsGo [35, 35, 35, 35, 45, 87, 35, 35, 45, 35] s.data.toList [] false = some [Y, M, D] := HD.out
    rw [hd] at he
    obtain ⟨v, rfl, hown⟩ := he
    obtain ⟨g, c, rfl, hg, hgl⟩ := own_head hown (by simp)
    have q0 : w1.cell? ⟨g, 0, none⟩ = some (.int .i64 Y) := by rw [hown.cellAt 0 (by simp)]; rfl
    have q1 : w1.cell? ⟨g, 1, none⟩ = some (.int .i64 M) := by rw [hown.cellAt 1 (by simp)]; rfl
    have q2 : w1.cell? ⟨g, 2, none⟩ = some (.int .i64 D) := by rw [hown.cellAt 2 (by simp)]; rfl
    have hs1 := hb1.size
    have hbW := hb1
    have hzW := hgl
    clear hown hb1 hgl
    go_wp2_with fail
    go_region_held3 (fun W => W.cell? ⟨g, 0, none⟩ = some (.int .i64 Y) ∧ W.cell? ⟨g, 1, none⟩ = some (.int .i64 M) ∧ W.cell? ⟨g, 2, none⟩ = some (.int .i64 D) ∧ Below w.heap.size w W ∧ g < W.heap.size) (first | exact ⟨q0, q1, q2, Below.drew hbW, hzW⟩ | (go_split_ands; refine ⟨?_, ?_, ?_, ?_, ?_⟩ <;> first | assumption | (refine Eq.trans (hbc.cell (by assumption)) ?_; assumption) | exact Below.trans (by assumption) (hbc.mono (by omega)) | (have := hbc.size; omega))) (first | (go_at_call 19; ((with_reducible refine Calls.mono (HC.out _) ?_); rintro e w2 ⟨rfl, hbc⟩)))
    all_goals
      go_wp2
      go_ret2
      go_split_ands
      exact ⟨ret_ii (by rw [HP.out]) (by rw [HP.out]), by assumption⟩

end Go.Proofs.YtbeciinkecmbaaaDoor
