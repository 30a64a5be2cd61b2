/- Layer 11 (field): the walk of weeks (shape 3). Then: Layer 11 (field): weeks. -/
import Derived.Test.YtjbniichcopnlaaPkR5
set_option linter.unusedVariables false
set_option linter.unusedSimpArgs false
set_option maxRecDepth 100000
namespace Go.Proofs.Ytjbniichcopnlaa
section
open Go.RowKit
open Go.Joins renaming cell_of_block → zb, unfrozen_of_block → zu
open Go.Lib renaming hid → zh
set_option maxHeartbeats 16000000 in
theorem weeks_3 (kind day month shift p0 p1 p2 cycle extra first last policy : Int) (nm : Bytes) (w : World)  :
    Calls Try.prog 85 #[.agg #[.string ⟨nm.toArray⟩, .int .i64 kind, .int .i64 day, .int .i64 month, .int .i64 shift, .int .i64 3, .int .i64 p0, .int .i64 p1, .int .i64 p2, .int .i64 cycle, .int .i64 extra, .int .i64 first, .int .i64 last, .int .i64 policy]] w fun e w' => e = .returned (.bool ((decide (p0 = 0) && decide (p1 = 0) && decide (p2 = 0)) && cycOk cycle && tween extra 1 (manyC 3 cycle))) ∧ Below w.heap.size w w':=by
  have HB0:=zh (show Below w.heap.size w (w.alloc (.cells #[.string ⟨nm.toArray⟩, .int .i64 kind, .int .i64 day, .int .i64 month, .int .i64 shift, .int .i64 3, .int .i64 p0, .int .i64 p1, .int .i64 p2, .int .i64 cycle, .int .i64 extra, .int .i64 first, .int .i64 last, .int .i64 policy] 31)) from (Below.refl _ _).alloc (Nat.le_refl _) _)
  have HX0:=zh (heap_alloc_new w (.cells #[.string ⟨nm.toArray⟩, .int .i64 kind, .int .i64 day, .int .i64 month, .int .i64 shift, .int .i64 3, .int .i64 p0, .int .i64 p1, .int .i64 p2, .int .i64 cycle, .int .i64 extra, .int .i64 first, .int .i64 last, .int .i64 policy] 31))
  have hz:=fun W => run_eqPat W p0 p1 p2 0 0 0
  have HM:=zh (fun W => field_many 3 cycle W)
  have HT:=zh (fun W => field_between extra 1 (manyC 3 cycle) W)
  generalize manyC 3 cycle = m at *
  generalize tween extra 1 m = tw at *
  generalize hcy : decide (cycle = 0) = cz at *
  have hcz : (cycle == 0) = cz:=hcy
  clear hcy
  obtain ⟨pz,hpz⟩ : ∃ b,(decide (p0 = 0) && decide (p1 = 0) && decide (p2 = 0)) = b:=⟨_,rfl⟩
  simp only [hpz] at hz
  try rw [hpz]
  clear hpz
  unfold cycOk
  obtain ⟨b1,hb1⟩ : ∃ b,decide (cycle = 1) = b:=⟨_,rfl⟩
  obtain ⟨b2,hb2⟩ : ∃ b,decide (cycle = 2) = b:=⟨_,rfl⟩
  obtain ⟨b4,hb4⟩ : ∃ b,decide (cycle = 4) = b:=⟨_,rfl⟩
  rw [hb1,hb2,hb4]
  have q1 : (cycle == 1) = b1:=hb1
  have q2 : (cycle == 2) = b2:=hb2
  have q4 : (cycle == 4) = b4:=hb4
  clear hb1 hb2 hb4
  have hy : ∀ y,(b1 || b2 || b4) = y → Calls Try.prog 85 #[.agg #[.string ⟨nm.toArray⟩, .int .i64 kind, .int .i64 day, .int .i64 month, .int .i64 shift, .int .i64 3, .int .i64 p0, .int .i64 p1, .int .i64 p2, .int .i64 cycle, .int .i64 extra, .int .i64 first, .int .i64 last, .int .i64 policy]] w fun e w' => e = .returned (.bool (pz && y && tw)) ∧ Below w.heap.size w w' := by
    intro y hy
    cases b1
    · cases b2
      · cases b4 <;> (
          subst hy
          cases pz <;> (
            go_enter Try.func85,Try.ntmps85
            go_wp2_with fail
            go_quiet (fail)
            generalize hWg : World.drewN _ _ = W
            have hbW : Below w.heap.size w W:=by rw [← hWg];exact below_drewN HB0.out _
            have hWh : _ = W.heap:=congrArg World.heap hWg
            have hxW:=HX0.out
            rw [show (w.alloc (.cells #[.string ⟨nm.toArray⟩, .int .i64 kind, .int .i64 day, .int .i64 month, .int .i64 shift, .int .i64 3, .int .i64 p0, .int .i64 p1, .int .i64 p2, .int .i64 cycle, .int .i64 extra, .int .i64 first, .int .i64 last, .int .i64 policy] 31)).heap = W.heap from hWh] at hxW
            have hgl : w.heap.size < W.heap.size:=(Array.getElem?_eq_some_iff.1 hxW).1
            clear hWg hWh
            have y5:=zb hxW 5
            have y6:=zb hxW 6
            have y7:=zb hxW 7
            have y8:=zb hxW 8
            have y9:=zb hxW 9
            have y10:=zb hxW 10
            have HXW:=zh hxW
            have HBW:=zh hbW
            clear hxW hbW
            have HBX:=HBW
            go_wp2_with fail
            go_quiet (first | (go_at_call 93;exact quiet_add_left (HM.out _)) | (go_at_call 93;exact quiet_left (HM.out _)) | (go_at_call 48;exact quiet_add_left (HT.out _)) | (go_at_call 48;exact quiet_left (HT.out _)))
            go_wp2_with fail
            go_ret
            exact ⟨rfl,below_drewN HBX.out _⟩))
      · subst hy
        cases pz <;> (
          go_enter Try.func85,Try.ntmps85
          go_wp2_with fail
          go_quiet (fail)
          generalize hWg : World.drewN _ _ = W
          have hbW : Below w.heap.size w W:=by rw [← hWg];exact below_drewN HB0.out _
          have hWh : _ = W.heap:=congrArg World.heap hWg
          have hxW:=HX0.out
          rw [show (w.alloc (.cells #[.string ⟨nm.toArray⟩, .int .i64 kind, .int .i64 day, .int .i64 month, .int .i64 shift, .int .i64 3, .int .i64 p0, .int .i64 p1, .int .i64 p2, .int .i64 cycle, .int .i64 extra, .int .i64 first, .int .i64 last, .int .i64 policy] 31)).heap = W.heap from hWh] at hxW
          have hgl : w.heap.size < W.heap.size:=(Array.getElem?_eq_some_iff.1 hxW).1
          clear hWg hWh
          have y5:=zb hxW 5
          have y6:=zb hxW 6
          have y7:=zb hxW 7
          have y8:=zb hxW 8
          have y9:=zb hxW 9
          have y10:=zb hxW 10
          have HXW:=zh hxW
          have HBW:=zh hbW
          clear hxW hbW
          have HBX:=HBW
          go_wp2_with fail
          go_quiet (first | (go_at_call 93;exact quiet_add_left (HM.out _)) | (go_at_call 93;exact quiet_left (HM.out _)) | (go_at_call 48;exact quiet_add_left (HT.out _)) | (go_at_call 48;exact quiet_left (HT.out _)))
          go_wp2_with fail
          go_ret
          exact ⟨rfl,below_drewN HBX.out _⟩)
    · subst hy
      cases pz <;> (
        go_enter Try.func85,Try.ntmps85
        go_wp2_with fail
        go_quiet (fail)
        generalize hWg : World.drewN _ _ = W
        have hbW : Below w.heap.size w W:=by rw [← hWg];exact below_drewN HB0.out _
        have hWh : _ = W.heap:=congrArg World.heap hWg
        have hxW:=HX0.out
        rw [show (w.alloc (.cells #[.string ⟨nm.toArray⟩, .int .i64 kind, .int .i64 day, .int .i64 month, .int .i64 shift, .int .i64 3, .int .i64 p0, .int .i64 p1, .int .i64 p2, .int .i64 cycle, .int .i64 extra, .int .i64 first, .int .i64 last, .int .i64 policy] 31)).heap = W.heap from hWh] at hxW
        have hgl : w.heap.size < W.heap.size:=(Array.getElem?_eq_some_iff.1 hxW).1
        clear hWg hWh
        have y5:=zb hxW 5
        have y6:=zb hxW 6
        have y7:=zb hxW 7
        have y8:=zb hxW 8
        have y9:=zb hxW 9
        have y10:=zb hxW 10
        have HXW:=zh hxW
        have HBW:=zh hbW
        clear hxW hbW
        have HBX:=HBW
        go_wp2_with fail
        go_quiet (first | (go_at_call 93;exact quiet_add_left (HM.out _)) | (go_at_call 93;exact quiet_left (HM.out _)) | (go_at_call 48;exact quiet_add_left (HT.out _)) | (go_at_call 48;exact quiet_left (HT.out _)))
        go_wp2_with fail
        go_ret
        exact ⟨rfl,below_drewN HBX.out _⟩)
  exact hy _ rfl
end
section
open Go.RowKit
theorem field_weeks (c : CalL) (w : World) : Calls Try.prog 85 #[calV c] w fun e w' => e = .returned (.bool (weeksC c)) ∧ Below w.heap.size w w' := by
  obtain ⟨nm,kind,day,month,shift,shape,p0,p1,p2,cycle,extra,first,last,policy⟩:=c
  unfold weeksC patZ
  dsimp only [calV]
  by_cases h1 : shape = 1
  · subst h1
    rw [if_pos rfl]
    exact weeks_1 kind day month shift p0 p1 p2 cycle extra first last policy nm w
  rw [if_neg h1]
  by_cases h2 : shape = 2
  · subst h2
    rw [if_pos rfl]
    exact weeks_2 kind day month shift p0 p1 p2 cycle extra first last policy nm w
  rw [if_neg h2]
  by_cases h3 : shape = 3
  · subst h3
    rw [if_pos rfl]
    exact weeks_3 kind day month shift p0 p1 p2 cycle extra first last policy nm w
  rw [if_neg h3]
  exact weeks_0 kind day month shift shape p0 p1 p2 cycle extra first last policy nm w (beq_false_of_ne h1) (beq_false_of_ne h2) (beq_false_of_ne h3)
end
end Go.Proofs.Ytjbniichcopnlaa
