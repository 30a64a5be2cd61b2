/- The law LabelDoes: its walk. -/
import Derived.Test.YtiedmfpinipppaaDoorR18B
import Derived.Test.YtiedmfpinipppaaDoorR18C
import Derived.Test.YtiedmfpinipppaaDoorLabL
set_option linter.unusedVariables false
namespace Go.Proofs.YtiedmfpinipppaaDoor
open Go.RowKit

/-- What lay ahead, and the argument's block, in a later world. -/
def StD (w : World) (U : Obj) (W : World) : Prop := Below w.heap.size w W ∧ W.heap[w.heap.size]? = some U
theorem std_next {w W w2 : World} {U : Obj} (h : StD w U W) (hb : Below W.heap.size W w2) : StD w U w2 :=
  ⟨h.1.trans (hb.mono h.1.size), by rw [hb.block _ (Array.getElem?_eq_some_iff.1 h.2).1]; exact h.2⟩
theorem print18_both (l y i : Int) : ∃ (T : ByteArray) (c : Int), (∀ w, Tab w → Calls Tryd.prog 10 #[.agg #[.int .i64 l, .int .i64 y, .int .i64 i]] w fun e w' => e = .returned (.tuple #[.string T, .int .i64 c]) ∧ Below w.heap.size w w') ∧
    (∀ w, Calls Tryd.prog 12 #[.agg #[.int .i64 l, .int .i64 y, .int .i64 i]] w fun e w' => e = .returned (.tuple #[.string T, .int .i64 c]) ∧ Below w.heap.size w w') := by
  by_cases hw : Writ l y i
  · obtain ⟨k, Y, I, hk, rfl, rfl, rfl, h1, h2, h3, h4⟩ := writ_parts hw
    exact ⟨_, _, fun w ht => label_Print_yes k Y I hk h1 h2 h3 h4 w ht, fun w => ref18_Print_yes k Y I hk h1 h2 h3 h4 w⟩
  · exact ⟨_, _, fun w _ => label_Print_no l y i hw w, fun w => ref18_Print_no l y i hw w⟩

set_option maxRecDepth 100000 in
set_option maxHeartbeats 4000000 in
theorem walk_LabelDoes (w : World) (ht : Tab w) (l y i : Int) (s : ByteArray) (hsz : s.size ≤ maxLen) :
    Calls Tryd.prog 5 #[.agg #[.int .i64 l, .int .i64 y, .int .i64 i], .string s] w fun e w' => e = .returned (.bool true) ∧ Below w.heap.size w w' := by
  have HT := Lib.hid (fun W (hb : Below w.heap.size w W) => ht.below hb)
  have HV := Lib.hid (fun W hW => law18_live W hW)
  have heq := run_eqlUnit
  obtain ⟨T, c, h1, h2⟩ := print18_both l y i
  have H1 := Lib.hid h1
  have H2 := Lib.hid h2
  have H3 := Lib.hid (fun W => label_Parse s W hsz)
  have H4 := Lib.hid (fun W => ref18_Parse s W hsz)
  have H5 := Lib.hid (fun W => label_Level s W)
  have H6 := Lib.hid (fun W => ref18_Level s W)
  generalize parseU s.data.toList = R at *
  obtain ⟨a, b, d, g⟩ := R
  dsimp only at H3 H4
  generalize lvA (lvI s) = n at *
  generalize lvB (lvI s) = m at *
  have hS0 : StD w (.cells #[.int .i64 l, .int .i64 y, .int .i64 i] 23) (w.alloc (.cells #[.int .i64 l, .int .i64 y, .int .i64 i] 23)) := ⟨by (repeat (first | exact Below.refl _ _ | assumption | refine Below.setCell ?_ (by first | (simp; done) | (simp; omega) | omega) _ | refine Below.alloc ?_ (by first | (simp; done) | (simp; omega) | omega) _ | refine Below.drew ?_ | refine below_drewN ?_ _ | refine Below.trans ?_ (Below.mono (by assumption) (by first | (simp; done) | (simp; omega) | omega)))), heap_alloc_new w _⟩
  have HS0 := Lib.hid hS0
  clear ht hsz hS0 h1 h2
  go_enter Tryd.func5, Tryd.ntmps5
  go_wp2_with fail
  refine (HV.out _ (HT.out _ HS0.out.1)).mono ?_
  rintro e w1 ⟨rfl, hb1⟩
  have hs1 := std_next HS0.out hb1
  have q0 := Joins.cell_of_block hs1.2 0
  have q1 := Joins.cell_of_block hs1.2 1
  have q2 := Joins.cell_of_block hs1.2 2
  have HS1 := Lib.hid hs1
  clear hb1 hs1
  go_wp2_with fail
  refine (H1.out _ (HT.out _ HS1.out.1)).mono ?_
  rintro e w2 ⟨rfl, hb2⟩
  have hs2 := std_next HS1.out hb2
  have q0 := Joins.cell_of_block hs2.2 0
  have q1 := Joins.cell_of_block hs2.2 1
  have q2 := Joins.cell_of_block hs2.2 2
  have HS2 := Lib.hid hs2
  clear hb2 hs2
  go_wp2_with fail
  refine (H2.out _).mono ?_
  rintro e w3 ⟨rfl, hb3⟩
  have hB3 := Lib.hid (std_next HS2.out hb3).1
  clear hb3 q0 q1 q2
  go_wp2_with fail
  refine (H3.out _).mono ?_
  rintro e w4 ⟨rfl, hb4⟩
  have hB4 := hB3.out.trans (hb4.mono hB3.out.size)
  have hbk4 := heap_alloc_new w4 (.cells #[.int .i64 a, .int .i64 b, .int .i64 d] 23)
  have hB4' := hB4.alloc hB4.size (.cells #[.int .i64 a, .int .i64 b, .int .i64 d] 23)
  have HB4 := Lib.hid hB4'
  have HK4 := Lib.hid hbk4
  clear hb4 hB4 hbk4 hB4'
  go_wp2_with fail
  refine (H4.out _).mono ?_
  rintro e w5 ⟨rfl, hb5⟩
  have hlt4 : w4.heap.size < (w4.alloc (.cells #[.int .i64 a, .int .i64 b, .int .i64 d] 23)).heap.size := by simp
  have hk5 : w5.heap[w4.heap.size]? = _ := (hb5.block _ hlt4).trans HK4.out
  have hB5 := HB4.out.trans (hb5.mono HB4.out.size)
  have hB5' := hB5.alloc hB5.size (.cells #[.int .i64 a, .int .i64 b, .int .i64 d] 23)
  have hlt5 := (Array.getElem?_eq_some_iff.1 hk5).1
  have hk5' : (w5.alloc (.cells #[.int .i64 a, .int .i64 b, .int .i64 d] 23)).heap[w4.heap.size]? = _ := (heap_alloc_old w5 _ hlt5).trans hk5
  have hn5 := heap_alloc_new w5 (.cells #[.int .i64 a, .int .i64 b, .int .i64 d] 23)
  have hsz5 : (w5.alloc (.cells #[.int .i64 a, .int .i64 b, .int .i64 d] 23)).heap.size = w5.heap.size + 1 := by simp
  have HB5 := Lib.hid hB5'
  have HK5 := Lib.hid hk5'
  have HN5 := Lib.hid hn5
  have HZ5 := Lib.hid hsz5
  have HL5 := Lib.hid hlt5
  clear hb5 hB5 hB5' hk5 hk5' hn5 hlt4 hlt5 hsz5 HB4 HK4
  go_wp2_with fail
  refine (H5.out _).mono ?_
  rintro e w6 ⟨rfl, hb6⟩
  have hB6 := HB5.out.trans (hb6.mono HB5.out.size)
  have hk6 : w6.heap[w4.heap.size]? = _ := (hb6.block _ (by rw [HZ5.out]; have := HL5.out; omega)).trans HK5.out
  have hn6 : w6.heap[w5.heap.size]? = _ := (hb6.block _ (by rw [HZ5.out]; omega)).trans HN5.out
  have HB6 := Lib.hid hB6
  have HK6 := Lib.hid hk6
  have HN6 := Lib.hid hn6
  clear hb6 hB6 hk6 hn6
  go_wp2_with fail
  refine (H6.out _).mono ?_
  rintro e w7 ⟨rfl, hb7⟩
  have hB7 := HB6.out.trans (hb7.mono HB6.out.size)
  have hk7 : w7.heap[w4.heap.size]? = _ := (hb7.block _ (Array.getElem?_eq_some_iff.1 HK6.out).1).trans HK6.out
  have hn7 : w7.heap[w5.heap.size]? = _ := (hb7.block _ (Array.getElem?_eq_some_iff.1 HN6.out).1).trans HN6.out
  have a0 := Joins.cell_of_block hk7 0
  have a1 := Joins.cell_of_block hk7 1
  have a2 := Joins.cell_of_block hk7 2
  have c0 := Joins.cell_of_block hn7 0
  have c1 := Joins.cell_of_block hn7 1
  have c2 := Joins.cell_of_block hn7 2
  clear hb7 hk7 hn7
  go_wp2
  go_ret
  exact ⟨by first | rfl | exact ret_bool (by simp), hB7⟩

end Go.Proofs.YtiedmfpinipppaaDoor
