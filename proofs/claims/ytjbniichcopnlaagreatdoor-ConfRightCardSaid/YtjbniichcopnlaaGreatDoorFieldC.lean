import Derived.Test.YtjbniichcopnlaaGreatDoorPkV13
/- Layer 11 (field): the walk of weeks. -/
set_option linter.unusedVariables false
set_option linter.unusedSimpArgs false
set_option maxRecDepth 100000
namespace Go.Proofs.YtjbniichcopnlaaGreatDoor
open Go.RowKit

theorem field_patterns (w : World) : Calls Tryz.prog 98 #[] w fun e w' => e = .returned (.slice (some ⟨w.heap.size, 0, none⟩) 3 3) ∧ PatBlk w' w.heap.size ∧ Below w.heap.size w w' := by
  go_enter Tryz.func98, Tryz.ntmps98
  go_wp2_with fail
  go_ret
  refine ⟨rfl, ⟨_, heap_alloc_new w _⟩, ?_⟩
  (repeat (first | exact Below.refl _ _ | assumption | refine Below.setCell ?_ (by first | (simp; done) | (simp; omega) | omega) _ | refine Below.alloc ?_ (by first | (simp; done) | (simp; omega) | omega) _ | refine Below.drew ?_ | refine below_drewN ?_ _ | refine Below.trans ?_ (Below.mono (by assumption) (by first | (simp; done) | (simp; omega) | omega))))
theorem place_pat (a b c : Int) (g : Nat) (w : World) (hg : PatBlk w g) :
    Calls Tryz.prog 97 #[.slice (some ⟨g, 0, none⟩) 3 3, .agg #[.int .i64 a, .int .i64 b, .int .i64 c]] w fun e w' => e = .returned (.int .i64 (patFrom 0 a b c + 1)) ∧ Below w.heap.size w w' := by
  have hb0 : Below w.heap.size w (w.alloc (.cells #[.int .i64 a, .int .i64 b, .int .i64 c] 35)) := (Below.refl _ _).alloc (Nat.le_refl _) _
  have HB0 := Lib.hid hb0
  have HI := Lib.hid (idx_pat a b c g _ (hg.keep hb0))
  obtain ⟨h1, h2⟩ := patFrom_rng a b c
  have wf : IntKind.i64.wrap (patFrom 0 a b c + 1) = patFrom 0 a b c + 1 := by rw [IntKind.wrap_i64]; omega
  generalize patFrom 0 a b c = z at *
  clear hg hb0
  go_enter Tryz.func97, Tryz.ntmps97
  go_wp2_with fail
  refine HI.out.mono ?_
  rintro e w1 ⟨rfl, hb1⟩
  have HB1 := Lib.hid (HB0.out.trans (hb1.mono HB0.out.size))
  clear hb1
  go_wp2_with fail
  go_ret
  exact ⟨rfl, HB1.out⟩

theorem quiet_left {P : Program} {f : FuncId} {args : Array Value} {w : World} {n : Nat} {v : Value}
    (h : Calls P f args (w.drewN n) fun e w' => e = .returned v ∧ w.drewN n = w') : Calls P f args (w.drewN n) fun e w'' => e = .returned v ∧ ∃ m, w'' = w.drewN m :=
  h.mono fun _ _ ⟨he, hm⟩ => ⟨he, n, hm.symm⟩
theorem quiet_add_left {P : Program} {f : FuncId} {args : Array Value} {w : World} {a n : Nat} {v : Value}
    (h : Calls P f args (w.drewN (a + n)) fun e w' => e = .returned v ∧ w.drewN (a + n) = w') :
    Calls P f args ((w.drewN a).drewN n) fun e w'' => e = .returned v ∧ ∃ m, w'' = (w.drewN a).drewN m := by
  rw [World.drewN_drewN]
  exact h.mono fun _ _ ⟨he, hm⟩ => ⟨he, n, by rw [World.drewN_drewN]; exact hm.symm⟩

/-- The block of a calendar. -/
def CalBlk (w : World) (g : Nat) (c : CalL) : Prop := w.heap[g]? = some (.cells #[.string ⟨c.name.toArray⟩, .int .i64 c.kind, .int .i64 c.day, .int .i64 c.month, .int .i64 c.shift, .int .i64 c.shape, .int .i64 c.p0, .int .i64 c.p1, .int .i64 c.p2, .int .i64 c.cycle, .int .i64 c.extra, .int .i64 c.first, .int .i64 c.last, .int .i64 c.policy] 37 (0, 0))
theorem CalBlk.keep {w w' : World} {g : Nat} {c : CalL} (h : CalBlk w g c) (hb : Below w.heap.size w w') : CalBlk w' g c := (hb.block g (Array.getElem?_eq_some_iff.1 h).1).trans h
theorem CalBlk.lt {w : World} {g : Nat} {c : CalL} (h : CalBlk w g c) : g < w.heap.size := (Array.getElem?_eq_some_iff.1 h).1

end Go.Proofs.YtjbniichcopnlaaGreatDoor
