/- Layer 9 (tree): the reference's Exact, of two readings of the same items. -/
import Derived.Test.YtmblooibnmahnaaTreeG4
import Derived.Test.YtmblooibnmahnaaTreeT
import Derived.StillTailTactics
set_option linter.unusedVariables false
set_option linter.unusedSimpArgs false
namespace Go.Proofs.Ytmblooibnmahnaa
open Go.RowKit
attribute [local go_sem ↓] Go.wp_at_zero Go.wp_at_succ

def ExactTo (N : Nat) : Prop := ∀ (l : List NodeL) (A A' : Option Addr) (c c' : Nat) (w : World) (B : Nat), cntL l < N → cntL l ≤ 100000 → B ≤ w.heap.size → ROk w B A l → ROk w B A' l →
    Calls Try.prog 13 #[.slice A l.length c, .slice A' l.length c'] w fun e w' => e = .returned (.bool true) ∧ Below w.heap.size w w'

set_option maxRecDepth 100000 in
set_option maxHeartbeats 8000000 in
theorem ref9_exact_step (N : Nat) (ih : ExactTo N) : ExactTo (N + 1) := by
  intro l A A' c c' w B hN hsm hB h1 h2
  have hl := cntL_len l
  have HS := Lib.hid (ref9_Same l l A A' c c' w B hsm hB h1 h2)
  rw [sameNs_refl] at HS
  have H1 := Lib.hid h1
  have H2 := Lib.hid h2
  have HIH := Lib.hid ih
  clear h1 h2 ih
  go_enter Try.func13, Try.ntmps13
  go_wp2_with fail
  refine HS.out.mono ?_
  rintro e w0 ⟨rfl, hb0⟩
  have HB0 := Lib.hid hb0
  have hz0 := hb0.size
  clear hb0
  go_wp2_with fail
  go_loopw [15] (fun i wr => ∃ k : Nat, k ≤ l.length ∧ i = .int .i64 k ∧ Below w.heap.size w wr) (fun i _ => l.length - (intOf i).toNat)
  case atStart => exact ⟨0, Nat.zero_le _, rfl, HB0.out⟩
  case round =>
    obtain ⟨k, hk, rfl, hb⟩ := hrel
    have hbs := hb.size
    by_cases hlt : k < l.length
    · obtain ⟨x, hx⟩ : ∃ x, l[k]? = some x := ⟨_, List.getElem?_eq_getElem hlt⟩
      obtain ⟨ad, Aw, cw, Ak, ck, rfl, had, d0, d1, d2, d3, d4, hw, hkk⟩ := (H1.out.below (hb.mono hB)).at k x hx
      obtain ⟨ae, Aw', cw', Ak', ck', rfl, hae, e0, e1, e2, e3, e4, hw', hkk'⟩ := (H2.out.below (hb.mono hB)).at k x hx
      have hc1 := cntL_take_mem l k x hx
      have hc2 := cntN_eq x
      obtain ⟨o, ho⟩ : ∃ o : Obj, o = (.cells #[.string ⟨x.name.toArray⟩, .int .i64 x.pos, .slice Aw x.words.length cw, .bool x.block, .slice Ak x.kids.length ck] 41) := ⟨_, rfl⟩
      have hab : Below wr.heap.size wr (wr.alloc o) := (Below.refl _ _).alloc (Nat.le_refl _) _
      have HKK := Lib.hid (hkk.below (hab.mono (by omega)))
      have HKK' := Lib.hid (hkk'.below (hab.mono (by omega)))
      have HRW := Lib.hid (hw.keep (w' := wr.alloc o) (fun _ h => h) (fun p hp => hab.cell (by omega)))
      have HRW' := Lib.hid (hw'.keep (w' := wr.alloc o) (fun _ h => h) (fun p hp => hab.cell (by omega)))
      have HX := Lib.hid hx
      have HB := Lib.hid (hb.trans (hab.mono hbs))
      have lk : (k : Int) < l.length := by omega
      have lk0 : (0 : Int) ≤ k := by omega
      have w1f : IntKind.i64.wrap ((k : Int) + 1) = (k : Int) + 1 := by rw [IntKind.wrap_i64]; omega
      have hlad : ad.block < wr.heap.size := by omega
      have hlae : ae.block < wr.heap.size := by omega
      have hne1 : ad.block ≠ wr.heap.size := by omega
      have hne2 : ae.block ≠ wr.heap.size := by omega
      have g1 := (World.cell?_alloc_lt wr o ⟨(ae.add (k * 5)).block, (ae.add (k * 5)).off + 1, none⟩ (by show (ae.add (k * 5)).block < _; rw [block_of_add]; exact hlae)).trans e1
      have g2 := (World.cell?_alloc_lt wr o ⟨(ae.add (k * 5)).block, (ae.add (k * 5)).off + 2, none⟩ (by show (ae.add (k * 5)).block < _; rw [block_of_add]; exact hlae)).trans e2
      have g4 := (World.cell?_alloc_lt wr o ⟨(ae.add (k * 5)).block, (ae.add (k * 5)).off + 4, none⟩ (by show (ae.add (k * 5)).block < _; rw [block_of_add]; exact hlae)).trans e4
      have hbo : (wr.alloc o).heap[wr.heap.size]? = some o := heap_alloc_new wr o
      have hsz : (wr.alloc o).heap.size = wr.heap.size + 1 := by simp
      subst ho
      have HBO := Lib.hid hbo
      clear hb hw hw' hkk hkk' hab hbo hx e0 e1 e2 e3 e4
      go_wp2_with fail
      generalize wr.alloc _ = wa at *
      have x1 := Joins.cell_of_block HBO.out 1
      have x2 := Joins.cell_of_block HBO.out 2
      have x4 := Joins.cell_of_block HBO.out 4
      have hc := HIH.out x.kids Ak Ak' ck ck' wa.drew B (by omega) (by omega) (by show B ≤ wa.heap.size; omega) (HKK.out.below (Below.refl B wa).drew) (HKK'.out.below (Below.refl B wa).drew)
      have HC := Lib.hid hc
      clear hc
      go_still_tail 16, (by kernel_rfl)
      change wpList _ _ _ _ _ wa.drew
      go_wp2_with fail
      refine HC.out.mono ?_
      rintro e w3 ⟨rfl, hb3⟩
      have hz3 : wa.heap.size ≤ w3.heap.size := hb3.size
      have hbo3 : w3.heap[wr.heap.size]? = _ := (hb3.block _ (by show wr.heap.size < wa.heap.size; omega)).trans HBO.out
      have y2 := Joins.cell_of_block hbo3 2
      have HBO3 := Lib.hid hbo3
      have HB3 := Lib.hid (show Below w.heap.size w w3 from (HB.out.drew).trans (hb3.mono (by show w.heap.size ≤ wa.heap.size; omega)))
      have HRA := Lib.hid (HRW.out.keep (w' := w3) (fun _ h => h) (fun p hp => hb3.cell (by show p.block < wa.heap.size; omega)))
      have HRA' := Lib.hid (HRW'.out.keep (w' := w3) (fun _ h => h) (fun p hp => hb3.cell (by show p.block < wa.heap.size; omega)))
      have hwl20 : (x.words.length : Int) ≤ 100000 := by omega
      have e2 : w3.cell? ⟨(ae.add (k * 5)).block, (ae.add (k * 5)).off + 2, none⟩ = _ := (hb3.cell (by show (ae.add (k * 5)).block < wa.heap.size; rw [block_of_add]; omega)).trans g2
      have HE2 := Lib.hid e2
      have hww3 : w.heap.size ≤ w3.heap.size := by omega
      clear hb3 hbo3 e2 d0 d1 d2 d3 d4 g1 g2 g4 x1 x2 x4 HB HRW HRW' HKK HKK' HC
      obtain ⟨wo, hwo⟩ : ∃ wo, wo = wr := ⟨_, rfl⟩
      subst hwo
      go_wp2_with fail
      go_loopw [42] (fun i wr => ∃ j : Nat, j ≤ x.words.length ∧ i = .int .i64 j ∧ Below w3.heap.size w3 wr) (fun i _ => x.words.length - (intOf i).toNat)
      case atStart => exact ⟨0, Nat.zero_le _, rfl, Below.refl _ _⟩
      case round =>
        obtain ⟨j, hj, rfl, hb4⟩ := hrel
        have hbs4 := hb4.size
        by_cases hjt : j < x.words.length
        · obtain ⟨u, hu⟩ : ∃ u, x.words[j]? = some u := ⟨_, List.getElem?_eq_getElem hjt⟩
          have hk' : ∀ p : Addr, p.block < B → wr.cell? p = w3.cell? p := fun p hp => hb4.cell (by omega)
          obtain ⟨bd, rfl, hbd, p0, p1, p2, p3⟩ := word_cells (HRA.out.keep (fun _ h => h) hk') j u hu
          obtain ⟨be, rfl, hbe, q0, q1, q2, q3⟩ := word_cells (HRA'.out.keep (fun _ h => h) hk') j u hu
          obtain ⟨o, ho⟩ : ∃ o : Obj, o = (.cells #[.bool u.num, .int .i64 u.n, .string ⟨u.s.toArray⟩, .int .i64 u.pos] 43) := ⟨_, rfl⟩
          have hael : (ae.add (k * 5)).block < w3.heap.size := by rw [block_of_add]; omega
          have g2 := (World.cell?_alloc_lt wr o ⟨(ae.add (k * 5)).block, (ae.add (k * 5)).off + 2, none⟩ (by show (ae.add (k * 5)).block < _; omega)).trans ((hb4.cell (p := ⟨(ae.add (k * 5)).block, (ae.add (k * 5)).off + 2, none⟩) hael).trans HE2.out)
          have g3 := (World.cell?_alloc_lt wr o ⟨(be.add (j * 4)).block, (be.add (j * 4)).off + 3, none⟩ (by show (be.add (j * 4)).block < _; rw [block_of_add]; omega)).trans q3
          have hob : (wr.alloc o).heap[wr.heap.size]? = some o := heap_alloc_new wr o
          subst ho
          have x3 := Joins.cell_of_block hob 3
          have HB4 := Lib.hid (HB3.out.trans (Below.mono (hb4.alloc hbs4 (.cells #[.bool u.num, .int .i64 u.n, .string ⟨u.s.toArray⟩, .int .i64 u.pos] 43)) hww3))
          have HB5 := Lib.hid (hb4.alloc hbs4 (.cells #[.bool u.num, .int .i64 u.n, .string ⟨u.s.toArray⟩, .int .i64 u.pos] 43))
          have lj : (j : Int) < x.words.length := by omega
          have lj0 : (0 : Int) ≤ j := by omega
          have lk9 : (k : Int) < l.length := by omega
          have w3f : IntKind.i64.wrap ((j : Int) + 1) = (j : Int) + 1 := by rw [IntKind.wrap_i64]; omega
          clear hk' hb4 hob q0 q1 q2 q3
          go_wp2_with fail
          go_quiet (fail)
          go_wp2_with fail
          exact ⟨⟨j + 1, by omega, by go_num, below_drewN HB5.out _⟩, by simp [intOf]; omega⟩
        · have lj : ¬ (j : Int) < x.words.length := by omega
          have HB4 := Lib.hid (HB3.out.trans (hb4.mono hww3))
          clear hb4
          go_wp2_with fail
          exact ⟨⟨k + 1, by omega, by go_num, HB4.out⟩, by simp [intOf]; omega⟩
    · have lk : ¬ (k : Int) < l.length := by omega
      go_wp2_with fail
      go_ret
      exact ⟨rfl, hb⟩

theorem ref9_exactTo : ∀ N, ExactTo N
  | 0 => fun l A A' c c' w B h => by omega
  | N + 1 => ref9_exact_step N (ref9_exactTo N)

end Go.Proofs.Ytmblooibnmahnaa
