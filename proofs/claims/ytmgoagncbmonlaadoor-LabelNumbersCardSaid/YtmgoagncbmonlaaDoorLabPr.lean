/- Layer 18 (label): the walk of Print. -/
import Derived.Test.YtmgoagncbmonlaaDoorLabW2
import Derived.Deep.DeepCutAuto
set_option linter.unusedVariables false
namespace Go.Proofs.YtmgoagncbmonlaaDoor
open Go.RowKit
attribute [local go_sem ↓] Go.wp_at_zero Go.wp_at_succ

/-- The memory behind the look at the level's form. -/
def PrSt (w : World) (k y i : Nat) (g : Nat) (W : World) : Prop :=
  W.cell? ⟨g, 0, none⟩ = some (.string ⟨(sgn k).toArray⟩) ∧ W.cell? ⟨g, 1, none⟩ = some (.int .i64 (dgt k)) ∧ W.cell? ⟨w.heap.size, 1, none⟩ = some (.int .i64 y) ∧ W.cell? ⟨w.heap.size, 2, none⟩ = some (.int .i64 i) ∧
    Below w.heap.size w W ∧ g < W.heap.size ∧ w.heap.size < g

theorem armB {w w1 w2 : World} {l y i : Value} (q0 : w1.cell? ⟨w.heap.size, 0, none⟩ = some l) (q1 : w1.cell? ⟨w.heap.size, 1, none⟩ = some y) (q2 : w1.cell? ⟨w.heap.size, 2, none⟩ = some i) (hz1 : w.heap.size < w1.heap.size)
    (hblk : w2.heap[((w1.alloc (.cells #[.string ⟨#[]⟩, .int .i64 0, .int .i64 0] 49)).drew).heap.size]? = some (.cells formCells 49 (0, 0))) (hbc : Below ((w1.alloc (.cells #[.string ⟨#[]⟩, .int .i64 0, .int .i64 0] 49)).drew).heap.size ((w1.alloc (.cells #[.string ⟨#[]⟩, .int .i64 0, .int .i64 0] 49)).drew) w2) :
    w2.heap[w1.heap.size + 1]? = some (.cells formCells 49 (0, 0)) ∧ w1.heap.size + 1 < w2.heap.size ∧ w.heap.size < w2.heap.size ∧ w2.cell? ⟨w.heap.size, 0, none⟩ = some l ∧ w2.cell? ⟨w.heap.size, 1, none⟩ = some y ∧ w2.cell? ⟨w.heap.size, 2, none⟩ = some i ∧
      w2.cell? ⟨w1.heap.size, 0, none⟩ = some (.string ⟨#[]⟩) ∧ w2.cell? ⟨w1.heap.size, 1, none⟩ = some (.int .i64 0) ∧ w2.cell? ⟨w1.heap.size, 2, none⟩ = some (.int .i64 0) ∧
      w2.frozen? ⟨w1.heap.size, 0, none⟩ = false ∧ w2.frozen? ⟨w1.heap.size, 1, none⟩ = false ∧ w2.frozen? ⟨w1.heap.size, 2, none⟩ = false ∧ w1.heap.size < w2.heap.size := by
  have hs : ((w1.alloc (.cells #[.string ⟨#[]⟩, .int .i64 0, .int .i64 0] 49)).drew).heap.size = w1.heap.size + 1 := by simp [World.drew]
  rw [hs] at hblk
  have hlt := (Array.getElem?_eq_some_iff.1 hblk).1
  have hnew : w2.heap[w1.heap.size]? = some (.cells #[.string ⟨#[]⟩, .int .i64 0, .int .i64 0] 49) := by
    rw [hbc.block _ (by rw [hs]; omega)]
    exact heap_alloc_new w1 _
  have hcell : ∀ j, w2.cell? ⟨w.heap.size, j, none⟩ = w1.cell? ⟨w.heap.size, j, none⟩ := fun j => by
    refine World.cell?_of_block ?_
    show w2.heap[w.heap.size]? = w1.heap[w.heap.size]?
    rw [hbc.block _ (by rw [hs]; omega)]
    exact heap_alloc_old w1 _ hz1
  exact ⟨hblk, hlt, by omega, by rw [hcell]; exact q0, by rw [hcell]; exact q1, by rw [hcell]; exact q2, Joins.cell_of_block hnew 0, Joins.cell_of_block hnew 1, Joins.cell_of_block hnew 2, Joins.unfrozen_of_block hnew 0, Joins.unfrozen_of_block hnew 1, Joins.unfrozen_of_block hnew 2, by omega⟩

set_option maxRecDepth 100000 in
set_option maxHeartbeats 2000000 in
theorem label_Print_yes (k y i : Nat) (hk : k < 5) (h1 : 1601 ≤ y) (h2 : y ≤ 9997) (h3 : 1 ≤ i) (h4 : (i : Int) ≤ mst k) (w : World) (ht : Tab w) :
    Calls Tryd.prog 9 #[.agg #[.int .i64 ((k : Int) + 1), .int .i64 y, .int .i64 i]] w fun e w' => e = .returned (.tuple #[.string ⟨(uText k y i).toArray⟩, .int .i64 0]) ∧ Below w.heap.size w w' := by
  have HT := Lib.hid (fun W (hb : Below w.heap.size w W) => ht.below hb)
  have HW := Lib.hid (fun W => label_written_yes k hk y i (by omega) (by omega) (by omega) h4 W)
  have HF := Lib.hid label_forms
  have HY := Lib.hid (fun W hW => itoa_year y h1 h2 W hW)
  have h60 : i ≤ 60 := by rcases k_cases k hk with rfl | rfl | rfl | rfl | rfl <;> simp [mst] at h4 <;> omega
  have HI := Lib.hid (fun W hW => itoa_small i h60 W hW)
  have l4 : IntKind.i64.wrap (k : Int) = k := by rw [IntKind.wrap_i64]; omega
  have l6 : IntKind.i64.wrap ((k : Int) + 1 - 1) = k := by rw [IntKind.wrap_i64]; omega
  have l3 : (k : Int) < 5 := by omega
  have l5 : (0 : Int) ≤ k := by omega
  clear ht
  go_enter Tryd.func9, Tryd.ntmps9
  go_wp2_with fail
  refine (HW.out _).mono ?_
  rintro e w1 ⟨rfl, hb1⟩
  obtain ⟨hx, q0, q1, q2, f0, f1, f2⟩ := blk3 hb1 (heap_alloc_new w (.cells #[.int .i64 ((k : Int) + 1), .int .i64 y, .int .i64 i] 32))
  have hX : Below w.heap.size w w1 := below_step (by (repeat (first | exact Below.refl _ _ | assumption | refine Below.setCell ?_ (by first | (simp; done) | (simp; omega) | omega) _ | refine Below.alloc ?_ (by first | (simp; done) | (simp; omega) | omega) _ | refine Below.drew ?_ | refine below_drewN ?_ _ | refine Below.trans ?_ (Below.mono (by assumption) (by first | (simp; done) | (simp; omega) | omega))))) (by simp) hb1
  have hz1 : w.heap.size < w1.heap.size := by have := hb1.size; simp at this; omega
  clear hx f0 f1 f2 hb1
  go_wp2_with fail
  go_cut [4] from 10 to 15 (fun s4 wx => ∃ g, s4 = .pointer (some ⟨g, 0, none⟩) ∧ PrSt w k y i g wx)
  case first =>
    go_region_with? (first
      | (go_at_call 20; refine (HF.out _).mono ?_; rintro e w2 ⟨rfl, hblk, hbc⟩; obtain ⟨g0, g1, g2⟩ := form_at (g := w1.heap.size) hblk k hk; have p0 := (hbc.cell (p := ⟨w.heap.size, 0, none⟩) hz1).trans q0; have p1 := (hbc.cell (p := ⟨w.heap.size, 1, none⟩) hz1).trans q1; have p2 := (hbc.cell (p := ⟨w.heap.size, 2, none⟩) hz1).trans q2; have hz2 : w1.heap.size < w2.heap.size := (Array.getElem?_eq_some_iff.1 hblk).1; have hz3 : w.heap.size < w2.heap.size := by omega)
      | (go_at_call 20; refine (HF.out _).mono ?_; rintro e w2 ⟨rfl, hblk, hbc⟩; obtain ⟨hb2, hz2, hz3, p0, p1, p2, e0, e1, e2, j0, j1, j2, hz4⟩ := armB q0 q1 q2 hz1 hblk hbc; obtain ⟨g0, g1, g2⟩ := form_at hb2 k hk))
    all_goals
      go_wp2_with fail
      go_meet
      refine ⟨_, rfl, ?_, ?_, ?_, ?_, ?_, ?_, ?_⟩
      all_goals first
        | (go_simp; done)
        | omega
        | (simp; omega)
        | exact Below.alloc (below_step hX (Nat.le_of_lt hz1) hbc) (Nat.le_of_lt hz3) _
        | exact Below.drew (Below.alloc (below_step hX (Nat.le_of_lt hz1) hbc) (Nat.le_of_lt hz3) _)
        | exact Below.alloc (below_step (Below.drew hX) (Nat.le_of_lt hz1) hbc) (Nat.le_of_lt hz3) _
        | exact Below.drew (Below.alloc (below_step (Below.drew hX) (Nat.le_of_lt hz1) hbc) (Nat.le_of_lt hz3) _)
        | exact ((Below.setCell (Below.setCell (Below.setCell (below_step (Below.drew (Below.alloc hX (Nat.le_of_lt hz1) _)) (by show w.heap.size ≤ (w1.alloc _).heap.size; simp; omega) hbc) (by simp; omega) _) (by simp; omega) _) (by simp; omega) _))
  case rest =>
    obtain ⟨g, rfl, c0, c1, c2, c3, hB, hgl, hwg⟩ := hcut
    have hzw : w.heap.size < wc.heap.size := by omega
    have lY := digitsL_len 4 y
    have lS : (sgn k).length ≤ 2 := by rcases k_cases k hk with rfl | rfl | rfl | rfl | rfl <;> decide
    have s1 : ¬ (9223372036854775807 < 4 + (sgn k).length) := by omega
    have s2 : ¬ (9223372036854775807 < 4 + ((sgn k).length : Int)) := by omega
    clear q0 q1 q2 hX hz1 HW HF
    go_wp2_with fail
    go_region_held3 (fun W => W.cell? ⟨g, 0, none⟩ = some (.string ⟨(sgn k).toArray⟩) ∧ W.cell? ⟨g, 1, none⟩ = some (.int .i64 (dgt k)) ∧ W.cell? ⟨w.heap.size, 1, none⟩ = some (.int .i64 y) ∧ W.cell? ⟨w.heap.size, 2, none⟩ = some (.int .i64 i) ∧ Below w.heap.size w W ∧ g < W.heap.size ∧ w.heap.size < W.heap.size)
      (first | exact ⟨c0, c1, c2, c3, Below.drew hB, hgl, hzw⟩ | exact ⟨c0, c1, c2, c3, hB, hgl, hzw⟩ | (go_split_ands; refine ⟨?_, ?_, ?_, ?_, ?_, ?_, ?_⟩ <;> first | assumption | (refine Eq.trans (hbc.cell (by assumption)) ?_; assumption) | exact Below.trans (by assumption) (hbc.mono (by omega)) | (have := hbc.size; omega)))
      (first | (go_at_call 21; ((with_reducible refine Calls.mono (HY.out _ (HT.out _ (by first | assumption | (go_split_ands; assumption)))) ?_); rintro e w3 ⟨rfl, hbc⟩)))
    rename_i hH
    obtain ⟨d0, d1, d2, d3, hB3, hg3, hw3⟩ := hH
    clear hbc c0 c1 c2 c3 hB hgl hzw s1 s2
    have HBB := Lib.hid hB3
    by_cases hk0 : k = 0
    · subst hk0
      have hi1 : i = 1 := by simp [mst] at h4; omega
      have HE := Lib.hid (show uText 0 y i = digitsL y 4 ++ sgn 0 by subst hi1; simp [uText, dgt, digitsL])
      have hd0 : ((dgt 0 : Int) == 0) = true := rfl
      have hz0 : (dgt 0 : Int) = 0 := rfl
      rw [hz0] at d1
      clear hd0 hz0 h4 hi1
      go_wp2_with fail
      go_ret2
      exact ⟨ret_se (by rw [HE.out]; simp [ByteArray.mk_append_mk]) rfl, HBB.out⟩
    · obtain ⟨hnd, hrep⟩ := rep_dig k i hk (by omega) h3 h4
      have hdk : ((dgt k : Int) == 0) = false := beq_f (by rcases k_cases k hk with rfl | rfl | rfl | rfl | rfl <;> simp [dgt] at * )
      have hd2 : dgt k ≤ 2 := by rcases k_cases k hk with rfl | rfl | rfl | rfl | rfl <;> decide
      have hsub : ((dgt k : Int) - (Lib.nDigits i : Int)) = ((dgt k - Lib.nDigits i : Nat) : Int) := by omega
      have HR := Lib.hid (fun W => show Calls Tryd.prog 22 #[.string ⟨#[48]⟩, .int .i64 ((dgt k : Int) - (Lib.nDigits i : Int))] W fun e w' => e = .returned (.string ⟨(Lib.repeatL [48] (dgt k - Lib.nDigits i)).toArray⟩) ∧ Below W.heap.size W w' by
        rw [hsub]
        exact Tryd.strings_Repeat ⟨#[48]⟩ (dgt k - Lib.nDigits i) W (by omega) (by show 1 * _ ≤ _; omega))
      have HX := Lib.hid (show uText k y i = digitsL y 4 ++ sgn k ++ (Lib.repeatL [48] (dgt k - Lib.nDigits i) ++ digitsL i (Lib.nDigits i)) by rw [hrep]; rfl)
      have lN := digitsL_len (Lib.nDigits i) i
      have lR : (Lib.repeatL [48] (dgt k - Lib.nDigits i)).length ≤ 2 := by
        have := congrArg List.length hrep
        rw [List.length_append, digitsL_len, digitsL_len] at this
        omega
      have hn60 : Lib.nDigits i ≤ 2 := by omega
      generalize Lib.repeatL [48] (dgt k - Lib.nDigits i) = R at *
      generalize Lib.nDigits i = n at *
      have HK := Lib.hid hk0
      clear hk0 hrep hsub h4
      go_wp2_with fail
      refine (HI.out _ (HT.out _ hB3)).mono ?_
      rintro e w4 ⟨rfl, hb4⟩
      have e1 := (hb4.cell (p := ⟨g, 1, none⟩) hg3).trans d1
      have hB4 := hB3.trans (hb4.mono hB3.size)
      have HB4 := Lib.hid hB4
      clear d0 d1 d2 d3 hb4 hB3 hB4
      go_wp2_with fail
      refine (HR.out _).mono ?_
      rintro e w5 ⟨rfl, hb5⟩
      have hB5 := HB4.out.trans (hb5.mono HB4.out.size)
      have s3 : ¬ (9223372036854775807 < 4 + ((sgn k).length : Int) + (R.length : Int)) := by omega
      have s4 : ¬ (9223372036854775807 < 4 + ((sgn k).length : Int) + (R.length : Int) + (n : Int)) := by omega
      go_wp2
      go_ret2
      exact ⟨ret_se (by rw [HX.out]; simp [ByteArray.mk_append_mk]) rfl, hB5⟩

end Go.Proofs.YtmgoagncbmonlaaDoor
