import Derived.Test.YtmiejdbpogggeaaTreeG3
import Derived.BigQuiet
import Derived.Deep.QuietTactic
/- Layer 9 (tree): the reference's Deep, and Same. -/
set_option linter.unusedVariables false
set_option linter.unusedSimpArgs false
namespace Go.Proofs.Ytmiejdbpogggeaa
open Go.RowKit

theorem word_eq_iff (a b : WordL) : a = b ↔ a.num = b.num ∧ a.n = b.n ∧ a.s = b.s ∧ a.pos = b.pos := by
  cases a; cases b; simp
set_option maxRecDepth 100000 in
theorem run_equalWord (W : World) (a b : WordL) : (Op.equalIn 10000 40 (.agg #[.bool a.num, .int .i64 a.n, .string ⟨a.s.toArray⟩, .int .i64 a.pos]) (.agg #[.bool b.num, .int .i64 b.n, .string ⟨b.s.toArray⟩, .int .i64 b.pos])).run Try.prog W = .ok (decide (a = b)) W := by
  rw [run_equalIn_agg W 9999 40 _ _ (by kernel_rfl) (by kernel_rfl)]
  simp only [word_eq_iff]
  by_cases h1 : a.num = b.num <;> by_cases h2 : a.n = b.n <;> by_cases h3 : a.s = b.s <;> by_cases h4 : a.pos = b.pos <;>
    (simp [go_sem, Op.eqFields, h1, h2, h3, h4]; done)
theorem run_neqWord (W : World) (a b : WordL) : (binOp .neq 40 (.agg #[.bool a.num, .int .i64 a.n, .string ⟨a.s.toArray⟩, .int .i64 a.pos]) (.agg #[.bool b.num, .int .i64 b.n, .string ⟨b.s.toArray⟩, .int .i64 b.pos])).run Try.prog W = .ok (.bool (!decide (a = b))) W := by
  rw [run_neq_struct, run_equalWord]; rfl
theorem sameW_eq (a b : WordL) : sameW a b = decide (WordL.mk a.num a.n a.s b.pos = b) := by
  unfold sameW
  cases h : decide (WordL.mk a.num a.n a.s b.pos = b)
  · have := of_decide_eq_false h
    rw [word_eq_iff] at this
    simp only [and_true] at this
    cases h1 : (a.num == b.num)
    · simp
    · by_cases h2 : a.n = b.n
      · by_cases h3 : a.s = b.s
        · exact absurd ⟨by simpa using h1, h2, h3⟩ this
        · simp [h3]
      · simp [h2]
  · have := of_decide_eq_true h
    rw [word_eq_iff] at this
    simp only at this
    simp [this.1, this.2.1, this.2.2.1]

def RSameTo (N : Nat) : Prop := ∀ (l m : List NodeL) (A A' : Option Addr) (c c' : Nat) (w : World) (B : Nat), cntL l < N → cntL l ≤ 100000 → B ≤ w.heap.size → ROk w B A l → ROk w B A' m →
    Calls Try.prog 19 #[.slice A l.length c, .slice A' m.length c'] w fun e w' => e = .returned (.bool (sameNs l m)) ∧ Below w.heap.size w w'

set_option maxRecDepth 100000 in
set_option maxHeartbeats 4000000 in
theorem ref9_same_step (N : Nat) (ih : RSameTo N) : RSameTo (N + 1) := by
  intro l m A A' c c' w B hN hsm hB h1 h2
  have hl := cntL_len l
  by_cases hlen : l.length = m.length
  · have hne : ((l.length : Int) != (m.length : Int)) = false := by rw [bne_eq_false_iff_eq]; omega
    have H1 := Lib.hid h1
    have H2 := Lib.hid h2
    have HL := Lib.hid hlen
    have HIH := Lib.hid ih
    clear h1 h2 hlen ih
    go_enter Try.func19, Try.ntmps19
    go_wp2_with fail
    go_loopw [17] (fun i wr => ∃ k : Nat, k ≤ l.length ∧ i = .int .i64 k ∧ Below w.heap.size w wr ∧ sameNs l m = sameNs (l.drop k) (m.drop k)) (fun i _ => l.length - (intOf i).toNat)
    case atStart => exact ⟨0, Nat.zero_le _, rfl, Below.refl _ _, by simp⟩
    case round =>
      obtain ⟨k, hk, rfl, hb, hs⟩ := hrel
      have hbs := hb.size
      by_cases hlt : k < l.length
      · have hlt' : k < m.length := by have := HL.out; omega
        obtain ⟨x, hx⟩ : ∃ x, l[k]? = some x := ⟨_, List.getElem?_eq_getElem hlt⟩
        obtain ⟨y, hy⟩ : ∃ y, m[k]? = some y := ⟨_, List.getElem?_eq_getElem hlt'⟩
        obtain ⟨ad, Aw, cw, Ak, ck, rfl, had, d0, d1, d2, d3, d4, hw, hkk⟩ := (H1.out.below (hb.mono hB)).at k x hx
        obtain ⟨ae, Aw', cw', Ak', ck', rfl, hae, e0, e1, e2, e3, e4, hw', hkk'⟩ := (H2.out.below (hb.mono hB)).at k y hy
        rw [sameNs_step l m k x y hx hy, sameN_eq] at hs
        have hc1 := cntL_take_mem l k x hx
        have hc2 := cntN_eq x
        have HKK := Lib.hid hkk
        have HKK' := Lib.hid hkk'
        have HRW := Lib.hid hw
        have HRW' := Lib.hid hw'
        have HBo := Lib.hid (fun (o o' : Obj) => hb.trans ((((Below.refl wr.heap.size wr).alloc (Nat.le_refl _) o).alloc (by simp) o').mono hbs))
        have lk : (k : Int) < l.length := by omega
        have lk2 : (k : Int) < m.length := by omega
        have lk0 : (0 : Int) ≤ k := by omega
        have w1f : IntKind.i64.wrap ((k : Int) + 1) = (k : Int) + 1 := by rw [IntKind.wrap_i64]; omega
        have hlae : ae.block < wr.heap.size := by omega
        have hlad : ad.block < wr.heap.size := by omega
        have hne1 : ad.block ≠ wr.heap.size := by omega
        have hne2 : ae.block ≠ wr.heap.size := by omega
        clear hb hw hw' hkk hkk'
        obtain ⟨o, ho⟩ : ∃ o : Obj, o = (.cells #[.string ⟨x.name.toArray⟩, .int .i64 x.pos, .slice Aw x.words.length cw, .bool x.block, .slice Ak x.kids.length ck] 25) := ⟨_, rfl⟩
        by_cases hnm : x.name = y.name
        case neg =>
          have HR := Lib.hid (show sameNs l m = false by rw [hs]; simp [hnm])
          have hnm' : (x.name == y.name) = false := by simpa using hnm
          have HB' := Lib.hid (HBo.out o (.cells #[.string ⟨y.name.toArray⟩, .int .i64 y.pos, .slice Aw' y.words.length cw', .bool y.block, .slice Ak' y.kids.length ck'] 25))
          have g0 := (World.cell?_alloc_lt wr o (ae.add (k * 5)) (by rw [block_of_add]; exact hlae)).trans e0
          have g1 := (World.cell?_alloc_lt wr o ⟨(ae.add (k * 5)).block, (ae.add (k * 5)).off + 1, none⟩ (by show (ae.add (k * 5)).block < _; rw [block_of_add]; exact hlae)).trans e1
          have g2 := (World.cell?_alloc_lt wr o ⟨(ae.add (k * 5)).block, (ae.add (k * 5)).off + 2, none⟩ (by show (ae.add (k * 5)).block < _; rw [block_of_add]; exact hlae)).trans e2
          have g3 := (World.cell?_alloc_lt wr o ⟨(ae.add (k * 5)).block, (ae.add (k * 5)).off + 3, none⟩ (by show (ae.add (k * 5)).block < _; rw [block_of_add]; exact hlae)).trans e3
          have g4 := (World.cell?_alloc_lt wr o ⟨(ae.add (k * 5)).block, (ae.add (k * 5)).off + 4, none⟩ (by show (ae.add (k * 5)).block < _; rw [block_of_add]; exact hlae)).trans e4
          subst ho
          clear hnm hs
          go_wp2_with fail
          go_ret
          exact ⟨by rw [HR.out]; rfl, HB'.out⟩
        by_cases hbl : x.block = y.block
        case neg =>
          have HR := Lib.hid (show sameNs l m = false by rw [hs]; simp [hbl])
          have hbl' : (x.block == y.block) = false := by simpa using hbl
          rw [← hnm] at e0
          clear hnm
          have HB' := Lib.hid (HBo.out o (.cells #[.string ⟨x.name.toArray⟩, .int .i64 y.pos, .slice Aw' y.words.length cw', .bool y.block, .slice Ak' y.kids.length ck'] 25))
          have g0 := (World.cell?_alloc_lt wr o (ae.add (k * 5)) (by rw [block_of_add]; exact hlae)).trans e0
          have g1 := (World.cell?_alloc_lt wr o ⟨(ae.add (k * 5)).block, (ae.add (k * 5)).off + 1, none⟩ (by show (ae.add (k * 5)).block < _; rw [block_of_add]; exact hlae)).trans e1
          have g2 := (World.cell?_alloc_lt wr o ⟨(ae.add (k * 5)).block, (ae.add (k * 5)).off + 2, none⟩ (by show (ae.add (k * 5)).block < _; rw [block_of_add]; exact hlae)).trans e2
          have g3 := (World.cell?_alloc_lt wr o ⟨(ae.add (k * 5)).block, (ae.add (k * 5)).off + 3, none⟩ (by show (ae.add (k * 5)).block < _; rw [block_of_add]; exact hlae)).trans e3
          have g4 := (World.cell?_alloc_lt wr o ⟨(ae.add (k * 5)).block, (ae.add (k * 5)).off + 4, none⟩ (by show (ae.add (k * 5)).block < _; rw [block_of_add]; exact hlae)).trans e4
          subst ho
          clear hbl hs
          go_wp2_with fail
          go_ret
          exact ⟨by rw [HR.out]; rfl, HB'.out⟩
        by_cases hwl : x.words.length = y.words.length
        case neg =>
          have HR := Lib.hid (show sameNs l m = false by rw [hs, sameWs_len _ _ hwl]; simp)
          have hwl' : ((x.words.length : Int) != y.words.length) = true := by rw [bne_iff_ne]; omega
          rw [← hnm] at e0
          rw [← hbl] at e3
          clear hnm hbl
          have HB' := Lib.hid (HBo.out o (.cells #[.string ⟨x.name.toArray⟩, .int .i64 y.pos, .slice Aw' y.words.length cw', .bool x.block, .slice Ak' y.kids.length ck'] 25))
          have g0 := (World.cell?_alloc_lt wr o (ae.add (k * 5)) (by rw [block_of_add]; exact hlae)).trans e0
          have g1 := (World.cell?_alloc_lt wr o ⟨(ae.add (k * 5)).block, (ae.add (k * 5)).off + 1, none⟩ (by show (ae.add (k * 5)).block < _; rw [block_of_add]; exact hlae)).trans e1
          have g2 := (World.cell?_alloc_lt wr o ⟨(ae.add (k * 5)).block, (ae.add (k * 5)).off + 2, none⟩ (by show (ae.add (k * 5)).block < _; rw [block_of_add]; exact hlae)).trans e2
          have g3 := (World.cell?_alloc_lt wr o ⟨(ae.add (k * 5)).block, (ae.add (k * 5)).off + 3, none⟩ (by show (ae.add (k * 5)).block < _; rw [block_of_add]; exact hlae)).trans e3
          have g4 := (World.cell?_alloc_lt wr o ⟨(ae.add (k * 5)).block, (ae.add (k * 5)).off + 4, none⟩ (by show (ae.add (k * 5)).block < _; rw [block_of_add]; exact hlae)).trans e4
          subst ho
          clear hwl hs
          go_wp2_with fail
          go_ret
          exact ⟨by rw [HR.out]; rfl, HB'.out⟩
        have hnm2 : decide (x.name = y.name) = true := decide_eq_true hnm
        have hbl2 : (x.block == y.block) = true := by simpa using hbl
        rw [hnm2, hbl2, Bool.and_true, Bool.and_true] at hs
        rw [← hnm] at e0
        rw [← hbl] at e3
        rw [← hwl] at e2
        rw [← hwl] at HRW'
        have HWL := Lib.hid hwl
        clear hnm hbl hnm2 hbl2 hwl
        obtain ⟨o', ho'⟩ : ∃ o' : Obj, o' = (.cells #[.string ⟨x.name.toArray⟩, .int .i64 y.pos, .slice Aw' x.words.length cw', .bool x.block, .slice Ak' y.kids.length ck'] 25) := ⟨_, rfl⟩
        obtain ⟨wa, hwa⟩ : ∃ wa, wa = (wr.alloc o).alloc o' := ⟨_, rfl⟩
        have hBW : Below wr.heap.size wr wa := by rw [hwa]; exact ((Below.refl _ _).alloc (Nat.le_refl _) _).alloc (by simp) _
        have hb2 : wa.heap[wr.heap.size + 1]? = some o' := by
          have := heap_alloc_new (wr.alloc o) o'
          rw [hwa]
          simpa using this
        have hb1 : wa.heap[wr.heap.size]? = some o := by
          rw [hwa, show ((wr.alloc o).alloc o').heap[wr.heap.size]? = (wr.alloc o).heap[wr.heap.size]? from Go.heap_alloc_old (wr.alloc o) o' (by simp)]
          exact heap_alloc_new wr o
        have hsz : wa.heap.size = wr.heap.size + 2 := by rw [hwa]; simp
        have HKA := Lib.hid (HKK.out.below (hBW.mono (by omega)))
        have HKA' := Lib.hid (HKK'.out.below (hBW.mono (by omega)))
        have HI := Lib.hid (HIH.out x.kids y.kids Ak Ak' ck ck' wa B (by omega) (by omega) (by omega) HKA.out HKA'.out)
        have HRA := Lib.hid (HRW.out.keep (w' := wa) (fun _ h => h) (fun p hp => hBW.cell (by omega)))
        have HRA' := Lib.hid (HRW'.out.keep (w' := wa) (fun _ h => h) (fun p hp => hBW.cell (by omega)))
        have HB := Lib.hid (show Below w.heap.size w wa by rw [hwa]; exact HBo.out o o')
        have HB1 := Lib.hid hb1
        have HB2 := Lib.hid hb2
        have HWA := Lib.hid hwa
        rw [hwa] at HI
        have g0 := (World.cell?_alloc_lt wr o (ae.add (k * 5)) (by rw [block_of_add]; exact hlae)).trans e0
        have g1 := (World.cell?_alloc_lt wr o ⟨(ae.add (k * 5)).block, (ae.add (k * 5)).off + 1, none⟩ (by show (ae.add (k * 5)).block < _; rw [block_of_add]; exact hlae)).trans e1
        have g2 := (World.cell?_alloc_lt wr o ⟨(ae.add (k * 5)).block, (ae.add (k * 5)).off + 2, none⟩ (by show (ae.add (k * 5)).block < _; rw [block_of_add]; exact hlae)).trans e2
        have g3 := (World.cell?_alloc_lt wr o ⟨(ae.add (k * 5)).block, (ae.add (k * 5)).off + 3, none⟩ (by show (ae.add (k * 5)).block < _; rw [block_of_add]; exact hlae)).trans e3
        have g4 := (World.cell?_alloc_lt wr o ⟨(ae.add (k * 5)).block, (ae.add (k * 5)).off + 4, none⟩ (by show (ae.add (k * 5)).block < _; rw [block_of_add]; exact hlae)).trans e4
        subst ho
        subst ho'
        clear HIH hBW hb1 hb2 HKK HKK' HKA HKA' HRW HRW' HBo hwa
        cases hks : sameNs x.kids y.kids
        case false =>
          have HR := Lib.hid (show sameNs l m = false by rw [hs, hks]; simp)
          rw [hks] at HI
          clear hs hks
          go_wp2_with fail
          refine HI.out.mono ?_
          rintro e w2 ⟨rfl, hb3⟩
          rw [← HWA.out] at hb3
          have HB3 := Lib.hid (HB.out.trans (hb3.mono HB.out.size))
          clear hb3
          go_wp2_with fail
          go_ret
          exact ⟨by rw [HR.out]; rfl, HB3.out⟩
        rw [hks] at HI
        have HR := Lib.hid (show sameNs l m = (sameWs x.words y.words && sameNs (l.drop (k + 1)) (m.drop (k + 1))) by rw [hs, hks, Bool.and_true])
        clear hs hks
        obtain ⟨wo, hwo⟩ : ∃ wo, wo = wr := ⟨_, rfl⟩
        subst hwo
        go_wp2_with fail
        refine HI.out.mono ?_
        rintro e w2 ⟨rfl, hb3⟩
        rw [← HWA.out] at hb3
        have hz2 := hb3.size
        have hx : w2.heap[wo.heap.size]? = _ := (hb3.block _ (by omega)).trans HB1.out
        have hy : w2.heap[wo.heap.size + 1]? = _ := (hb3.block _ (by omega)).trans HB2.out
        have x2 := Joins.cell_of_block hx 2
        have HX := Lib.hid hx
        have HY := Lib.hid hy
        have HB3 := Lib.hid (HB.out.trans (hb3.mono HB.out.size))
        have HRA2 := Lib.hid (HRA.out.keep (w' := w2) (fun _ h => h) (fun p hp => hb3.cell (by omega)))
        have HRA2' := Lib.hid (HRA'.out.keep (w' := w2) (fun _ h => h) (fun p hp => hb3.cell (by omega)))
        have hwl20 : (x.words.length : Int) ≤ 100000 := by omega
        have hww2 : w.heap.size ≤ w2.heap.size := by omega
        clear hb3 hx hy d0 d1 d2 d3 d4 e0 e1 e2 e3 e4 g0 g1 g2 g3 g4 HWA HI HB HB1 HB2 HRA HRA'
        go_wp2_with fail
        go_loopw [58] (fun i wr => ∃ j : Nat, j ≤ x.words.length ∧ i = .int .i64 j ∧ Below w2.heap.size w2 wr ∧ sameWs x.words y.words = sameWs (x.words.drop j) (y.words.drop j)) (fun i _ => x.words.length - (intOf i).toNat)
        case atStart => exact ⟨0, Nat.zero_le _, rfl, Below.refl _ _, by simp⟩
        case round =>
          obtain ⟨j, hj, rfl, hb4, ha⟩ := hrel
          have hbs4 := hb4.size
          by_cases hjt : j < x.words.length
          · obtain ⟨u, hu⟩ : ∃ u, x.words[j]? = some u := ⟨_, List.getElem?_eq_getElem hjt⟩
            obtain ⟨v, hv⟩ : ∃ v, y.words[j]? = some v := ⟨_, List.getElem?_eq_getElem (by have := HWL.out; omega)⟩
            have hk' : ∀ p : Addr, p.block < B → wr.cell? p = w2.cell? p := fun p hp => hb4.cell (by omega)
            obtain ⟨bd, rfl, hbd, p0, p1, p2, p3⟩ := word_cells (HRA2.out.keep (fun _ h => h) hk') j u hu
            obtain ⟨be, rfl, hbe, q0, q1, q2, q3⟩ := word_cells (by rw [← HWL.out]; exact HRA2'.out.keep (fun _ h => h) hk') j v hv
            rw [sameWs_step x.words y.words j u v hu hv, sameW_eq] at ha
            have hneq := fun W => run_neqWord W ⟨u.num, u.n, u.s, v.pos⟩ v
            have hx := (hb4.block wo.heap.size (by omega)).trans HX.out
            have hy := (hb4.block (wo.heap.size + 1) (by omega)).trans HY.out
            have y2 := Joins.cell_of_block hy 2
            have HB4 := Lib.hid hb4
            have lj : (j : Int) < x.words.length := by omega
            have lj0 : (0 : Int) ≤ j := by omega
            have w3f : IntKind.i64.wrap ((j : Int) + 1) = (j : Int) + 1 := by rw [IntKind.wrap_i64]; omega
            have hbel : (be.add (j * 4)).block < wr.heap.size := by rw [block_of_add]; omega
            have hwoz : wo.heap.size + 1 < wr.heap.size := by omega
            have hwoz0 : wo.heap.size < wr.heap.size := by omega
            have hnb : be.block ≠ wr.heap.size := by omega
            clear hk' hb4 hx hy
            cases hab : decide (WordL.mk u.num u.n u.s v.pos = v)
            · simp only [hab] at hneq
              rw [hab, Bool.false_and] at ha
              have HRR := Lib.hid (show sameNs l m = false by rw [HR.out, ha, Bool.false_and])
              clear hab ha
              go_wp2_with fail
              go_quiet (fail)
              go_wp2
              go_ret
              exact ⟨by rw [HRR.out]; rfl, HB3.out.trans ((below_drewN ((HB4.out).alloc hbs4 _) _).mono hww2)⟩
            · simp only [hab] at hneq
              rw [hab, Bool.true_and] at ha
              have HA := Lib.hid ha
              clear hab ha
              go_wp2_with fail
              go_quiet (fail)
              go_wp2_with fail
              exact ⟨⟨j + 1, by omega, by go_num, below_drewN ((HB4.out).alloc hbs4 _) _, HA.out⟩, by simp [intOf]; omega⟩
          · have lj : ¬ (j : Int) < x.words.length := by omega
            have hsw : sameWs x.words y.words = true := by
              rw [ha, List.drop_eq_nil_of_le (by omega), List.drop_eq_nil_of_le (by have := HWL.out; omega)]; rfl
            have HRR := Lib.hid (show sameNs l m = sameNs (l.drop (k + 1)) (m.drop (k + 1)) by rw [HR.out, hsw, Bool.true_and])
            have HB4 := Lib.hid (HB3.out.trans (hb4.mono hww2))
            clear hb4 ha hsw
            go_wp2_with fail
            exact ⟨⟨k + 1, by omega, by go_num, HB4.out, HRR.out⟩, by simp [intOf]; omega⟩
      · have hkl : k = l.length := by omega
        have hs2 : sameNs l m = true := by
          rw [hs, List.drop_eq_nil_of_le (by omega), List.drop_eq_nil_of_le (by have := HL.out; omega)]; rfl
        have HS2 := Lib.hid hs2
        have lk : ¬ (k : Int) < l.length := by omega
        clear hs hs2
        go_wp2_with fail
        go_ret
        exact ⟨by rw [HS2.out]; rfl, hb⟩
  · have hne : ((l.length : Int) != (m.length : Int)) = true := by rw [bne_iff_ne]; omega
    have HS2 := Lib.hid (sameNs_len l m hlen)
    clear hlen ih h1 h2
    go_enter Try.func19, Try.ntmps19
    go_wp2_with fail
    go_ret
    exact ⟨by rw [HS2.out]; rfl, Below.refl _ _⟩

theorem ref9_sameTo : ∀ N, RSameTo N
  | 0 => fun l m A A' c c' w B h => by omega
  | N + 1 => ref9_same_step N (ref9_sameTo N)
theorem ref9_Same (l m : List NodeL) (A A' : Option Addr) (c c' : Nat) (w : World) (B : Nat) (hsm : cntL l ≤ 100000) (hB : B ≤ w.heap.size) (h1 : ROk w B A l) (h2 : ROk w B A' m) :
    Calls Try.prog 19 #[.slice A l.length c, .slice A' m.length c'] w fun e w' => e = .returned (.bool (sameNs l m)) ∧ Below w.heap.size w w' :=
  ref9_sameTo (cntL l + 1) l m A A' c c' w B (by omega) hsm hB h1 h2

end Go.Proofs.Ytmiejdbpogggeaa
