import Derived.Test.YtmiejdbpogggeaaFieldNd
/- Layer 11 (field): Node of a calendar that may not be; Node whole. -/
set_option linter.unusedVariables false
set_option linter.unusedSimpArgs false
set_option maxRecDepth 100000
namespace Go.Proofs.Ytmiejdbpogggeaa
open Go.RowKit

set_option maxHeartbeats 4000000 in
theorem field_Node_no (c : CalL) (hok : okC c = false) (hl : c.name.length ≤ maxLen) (w : World) : Calls Try.prog 18 #[calV c] w fun e w' =>
    e = .returned (.tuple #[.agg #[.string ⟨#[]⟩, .int .i64 0, .slice none 0 0, .bool false, .slice none 0 0], .int .i64 1]) ∧ Below w.heap.size w w' := by
  have HCH := Lib.hid (fun W => field_Check c hl W)
  have hec : errC c = 1 := by unfold errC; rw [hok]; rfl
  rw [hec] at HCH
  clear hec hok hl
  obtain ⟨nm, kind, day, month, shift, shape, p0, p1, p2, cycle, extra, first, last, policy⟩ := c
  dsimp only [calV] at HCH
  dsimp only [calV]
  go_enter Try.func18, Try.ntmps18
  go_wp2_with fail
  refine (HCH.out _).mono ?_
  rintro e w1 ⟨rfl, hb1⟩
  have h2 : NodeBlk w1 (w.heap.size + 1) [] 0 (.slice none 0 0) false (.slice none 0 0) := by
    refine NodeBlk.keep (w := (w.alloc (.cells #[.string ⟨nm.toArray⟩, .int .i64 kind, .int .i64 day, .int .i64 month, .int .i64 shift, .int .i64 shape, .int .i64 p0, .int .i64 p1, .int .i64 p2, .int .i64 cycle, .int .i64 extra, .int .i64 first, .int .i64 last, .int .i64 policy] 30)).alloc (.cells #[.string ⟨#[]⟩, .int .i64 0, .slice none 0 0, .bool false, .slice none 0 0] 25)) ?_ hb1
    have := heap_alloc_new (w.alloc (.cells #[.string ⟨nm.toArray⟩, .int .i64 kind, .int .i64 day, .int .i64 month, .int .i64 shift, .int .i64 shape, .int .i64 p0, .int .i64 p1, .int .i64 p2, .int .i64 cycle, .int .i64 extra, .int .i64 first, .int .i64 last, .int .i64 policy] 30)) (.cells #[.string ⟨#[]⟩, .int .i64 0, .slice none 0 0, .bool false, .slice none 0 0] 25)
    simpa [NodeBlk] using this
  have hbw : Below w.heap.size w w1 := by
    refine Below.trans (b := (w.alloc (.cells #[.string ⟨nm.toArray⟩, .int .i64 kind, .int .i64 day, .int .i64 month, .int .i64 shift, .int .i64 shape, .int .i64 p0, .int .i64 p1, .int .i64 p2, .int .i64 cycle, .int .i64 extra, .int .i64 first, .int .i64 last, .int .i64 policy] 30)).alloc (.cells #[.string ⟨#[]⟩, .int .i64 0, .slice none 0 0, .bool false, .slice none 0 0] 25)) ?_ (hb1.mono (by simp; omega))
    (repeat (first | exact Below.refl _ _ | assumption | refine Below.setCell ?_ (by first | (simp; done) | (simp; omega) | omega) _ | refine Below.alloc ?_ (by first | (simp; done) | (simp; omega) | omega) _ | refine Below.drew ?_ | refine below_drewN ?_ _ | refine Below.trans ?_ (Below.mono (by assumption) (by first | (simp; done) | (simp; omega) | omega))))
  have q0 := Joins.unfrozen_of_block h2 0
  have q1 := Joins.unfrozen_of_block h2 1
  have q2 := Joins.unfrozen_of_block h2 2
  have q3 := Joins.unfrozen_of_block h2 3
  have q4 := Joins.unfrozen_of_block h2 4
  have p0' := Joins.cell_of_block h2 0
  have p1' := Joins.cell_of_block h2 1
  have p2' := Joins.cell_of_block h2 2
  have p3' := Joins.cell_of_block h2 3
  have p4' := Joins.cell_of_block h2 4
  have HB := Lib.hid hbw
  clear hb1 h2 hbw
  go_wp2_with fail
  refine bodyPost_ret (v := .tuple #[.agg #[.string ⟨#[]⟩, .int .i64 0, .slice none 0 0, .bool false, .slice none 0 0], .int .i64 1]) (by simp [results, Try.results18, go_sem, *]) rfl ⟨rfl, ?_⟩
  have e : w.heap.size ≤ w.heap.size + 1 := by omega
  exact ((((HB.out.setCell e _).setCell e _).setCell e _).setCell e _).setCell e _

end Go.Proofs.Ytmiejdbpogggeaa
