import Derived.Test.YtjbniichcopnlaaGreatDoorPkV27
/- Layer 11 (field): the walk of compare. -/
set_option linter.unusedVariables false
set_option linter.unusedSimpArgs false
set_option maxRecDepth 100000
namespace Go.Proofs.YtjbniichcopnlaaGreatDoor
open Go.RowKit

set_option maxHeartbeats 8000000 in
theorem key_compare : KeyAt 80 (keyK b_compare) (fun _ => True) := by
  intro c ws A cw w B cb _ hne hlen hB hc hr
  obtain ⟨t, r, rfl⟩ : ∃ t r, ws = t :: r := by
    cases ws with
    | nil => exact absurd rfl hne
    | cons t r => exact ⟨t, r, rfl⟩
  obtain ⟨ad, rfl, hadb, e0, e1, e2, e3⟩ := word0 hr
  have hk : keyK b_compare c (t :: r) = ({ c with policy := placeW pols t }, decide (0 < placeW pols t) && decide ((t :: r).length = 1)) := rfl
  rw [hk]
  have hdb : ad.block ≠ cb := by omega
  have hlt := hc.lt
  have HC := Lib.hid hc
  clear hk hr hc hne
  have hL0 : (0 : Int) < (t :: r).length := by simp
  generalize hL : (t :: r).length = L at *
  clear hL
  have hL1 : ((L : Int) == 1) = decide (L = 1) := by
    by_cases h : L = 1
    · subst h; rfl
    · rw [decide_eq_false h]; exact beq_false_of_ne (by omega)
  generalize decide (L = 1) = b1 at *
  have hrng : 0 ≤ placeW pols t ∧ placeW pols t ≤ 4 := by
    have := posL_nonneg pols t.s
    unfold placeW
    split
    · omega
    · have e : pols.length = 4 := rfl
      omega
  have HP := Lib.hid (fun g W h => field_named pols t g 4 W (by decide) h)
  generalize placeW pols t = z at *
  obtain ⟨tn, n, s, pos⟩ := t
  dsimp only at *
  have hz0 : 0 < z ∨ z = 0 := by omega
  have hdl : ad.block < w.heap.size := by omega
  cases b1 <;> rcases hz0 with hz0 | hz0 <;> (
    first | (have hd : decide (0 < z) = true := decide_eq_true hz0) | (subst hz0; have hd : decide ((0 : Int) < 0) = false := by decide)
    go_enter Tryz.func80, Tryz.ntmps80
    go_wp2_with fail
    go_region_with (first | (go_at_call 32; refine (field_policies _).mono ?_; rintro e w1 ⟨rfl, hg1, hb1⟩; have s0 := (hb1.cell (p := ad) hdl).trans e0; have s1 := (hb1.cell (p := ⟨ad.block, ad.off + 1, none⟩) hdl).trans e1; have s2 := (hb1.cell (p := ⟨ad.block, ad.off + 2, none⟩) hdl).trans e2; have s3 := (hb1.cell (p := ⟨ad.block, ad.off + 3, none⟩) hdl).trans e3) | (go_at_call 74; refine (HP.out _ _ (by assumption)).mono ?_; rintro e w2 ⟨rfl, hb2⟩; have hc2 := (hb2.block cb (Nat.lt_of_lt_of_le hlt hb1.size)).trans ((hb1.block cb hlt).trans HC.out); have c13 := Joins.cell_of_block hc2 13; have f13 := Joins.unfrozen_of_block hc2 13))
    all_goals (
      have hbb : Below w.heap.size w w2 := Below.trans (show Below w.heap.size w w1 from ⟨hb1.os, hb1.tape, hb1.output, hb1.size, hb1.block⟩) (hb2.mono hb1.size)
      have hfin : ∀ u : Int, CalBlk (w2.setCell ⟨cb, 13, none⟩ (.int .i64 u)) cb { c with policy := u } := fun u => by
        have := Joins.block_setCell hc2 (i := 13) (.int .i64 u)
        simpa [CalBlk] using this
      have HF := Lib.hid hfin
      have HS := Lib.hid (step_below (cb := cb) hbb)
      clear hb1 hb2 hbb hc2 hfin hg1
      go_wp2_with fail
      go_ret
      refine ⟨?_, HF.out _, (HS.out.put 13 _)⟩
      first | rfl | (rw [hd]; rfl) | simp))

end Go.Proofs.YtjbniichcopnlaaGreatDoor
