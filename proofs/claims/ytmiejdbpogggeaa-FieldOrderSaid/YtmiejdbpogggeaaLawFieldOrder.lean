import Derived.Test.YtmiejdbpogggeaaPkP
/- The law FieldOrder walked: it answers true at any calendar, and any number. -/
set_option linter.unusedVariables false
set_option linter.unusedSimpArgs false
set_option maxRecDepth 100000
namespace Go.Proofs.Ytmiejdbpogggeaa
open Go.RowKit

theorem row5 {w : World} {M : Nat → Prop} {n : NodeL} {cs : List Value} (h : NodeOk w M n cs) : ∃ a b c d e, cs = [a, b, c, d, e] := by
  obtain ⟨nm, p, ws, b, ks⟩ := n
  simp only [NodeOk] at h
  obtain ⟨_, _, _, _, _, rfl, _⟩ := h
  exact ⟨_, _, _, _, _, rfl⟩
theorem news_reads (wr : World) (cs : List Value) (T : TypeId) (hl : cs.length = 5) : Reads (wr.alloc (.cells cs.toArray T)).drew (wr.heap.size + 1) 5 (some ⟨wr.heap.size, 0, none⟩) 1 cs := by
  refine ⟨by omega, fun _ => ⟨_, rfl, Nat.lt_succ_self _, fun j u hu => ?_⟩⟩
  exact World.news_of_block (w := (wr.alloc (.cells cs.toArray T)).drew) (cs := cs.toArray) (heap_alloc_new wr _) j u (by simpa using hu)
theorem order_step {wA wr w3 : World} {B i k : Nat} {v : Value} {kn : List NodeL} {kcs row : List Value} {o : Obj} (hB : B ≤ wA.heap.size) (hb : Below wA.heap.size wA wr) (ho : wr.ownsRow wA.heap.size 25 5 v i kcs) (hk : NodesOk wr (fun b => 0 ≤ b ∧ b < B) (pickL kn k i) kcs)
    (hrow : NodeOk wA (fun b => 0 ≤ b ∧ b < B) (kn.getD (sig kn.length k i) nodeZ) row) (hgr : ((wr.alloc o).drew).grownBy w3 v.ownBlock) : Below wA.heap.size wA w3 ∧ NodesOk w3 (fun b => 0 ≤ b ∧ b < B) (pickL kn k (i + 1)) (kcs ++ row) := by
  have hs := hb.size
  have hba : Below wA.heap.size wA (wr.alloc o).drew := Below.drew (hb.alloc hs o)
  have hb3 : Below wA.heap.size wA w3 := hba.grown hgr hba.size (fun b hb => (ho.lt b hb).1)
  have hbr : ∀ b, b < wA.heap.size → w3.heap[b]? = wr.heap[b]? := fun b h => (hb3.block b h).trans (hb.block b h).symm
  refine ⟨hb3, ?_⟩
  rw [pickL_succ]
  exact NodesOk.append (hk.keepB (fun _ h => h) (fun b h => hbr b (by omega))) (NodesOk.one (NodeOk.keepB (fun _ h => h) (fun b h => hb3.block b (by omega)) hrow))
theorem order_fin {w wa wr : World} {bn B g gw N k cap g3 cp3 : Nat} {bc nm : Bytes} {kn : List NodeL} {kcs : List Value} {oc : Obj} (ha : NodeBlk wa bn bc 100 (.slice (some ⟨gw, 0, none⟩) 1 1) true (.slice (some ⟨g, 0, none⟩) N cap)) (hb : Below w.heap.size w wa)
    (hrw : ReadsM wa (fun b => 0 ≤ b ∧ b < B) 4 (some ⟨gw, 0, none⟩) 1 (wS nm).cells) (hB : B ≤ bn) (hwb : w.heap.size < bn) (hlen : kn.length = N) (hbr : Below wa.heap.size wa wr)
    (ho : wr.ownsRow wa.heap.size 25 5 (.slice (some ⟨g3, 0, none⟩) N cp3) N kcs) (hk : NodesOk wr (fun b => 0 ≤ b ∧ b < B) (pickL kn k N) kcs) (hc : wa.heap[w.heap.size]? = some oc) :
    NodeBlk (wr.setCell ⟨bn, 4, none⟩ (.slice (some ⟨g3, 0, none⟩) N cp3)) bn bc 100 (.slice (some ⟨gw, 0, none⟩) 1 1) true (.slice (some ⟨g3, 0, none⟩) N cp3) ∧
    NodeOk (wr.setCell ⟨bn, 4, none⟩ (.slice (some ⟨g3, 0, none⟩) N cp3)) (· < (wr.setCell ⟨bn, 4, none⟩ (.slice (some ⟨g3, 0, none⟩) N cp3)).heap.size) (.mk bc 100 [wS nm] true (pickL kn k N)) [.string ⟨bc.toArray⟩, .int .i64 100, .slice (some ⟨gw, 0, none⟩) 1 1, .bool true, .slice (some ⟨g3, 0, none⟩) N cp3] ∧
    Below w.heap.size w (wr.setCell ⟨bn, 4, none⟩ (.slice (some ⟨g3, 0, none⟩) N cp3)) ∧ (wr.setCell ⟨bn, 4, none⟩ (.slice (some ⟨g3, 0, none⟩) N cp3)).heap[w.heap.size]? = some oc := by
  have hbl := ha.lt
  have h3 := ha.keep hbr
  have hrow : KidRow wr 0 B g3 (pickL kn k N) := KidRow.of_own (own_down (show B ≤ wa.heap.size by omega) ho) (by rw [pickL_len]) hk
  have hge : wa.heap.size ≤ g3 := (ho.lt g3 rfl).1
  refine ⟨h3.skids _, KidRow.node 100 (hrow.other (.inr hB) (by show bn ≠ g3; omega) _) ?_ (by rw [pickL_len]), ?_, ?_⟩
  · exact hrw.keep (fun _ h => h) (fun q hq => (World.cell?_setCell_far _ _ _ _ (by show bn ≠ q.block; have := hq.2; omega)).trans (hbr.cell (by have := hq.2; omega)))
  · exact Below.setCell (hb.trans (hbr.mono hb.size)) (by show w.heap.size ≤ bn; omega) _
  · exact ((heap_setCell_other wr _ w.heap.size _ (fun e => by have : w.heap.size = bn := e; omega)).trans (hbr.block w.heap.size (by omega))).trans hc
theorem tmod_sig (n k i : Nat) (hk : k < n) (hi : i < n) : Int.tmod ((k : Int) + n - i) (n : Int) = (sig n k i : Nat) := by
  unfold sig
  rw [show (k : Int) + n - i = ((k + n - i : Nat) : Int) by omega]
  rfl

set_option maxHeartbeats 8000000 in
theorem walk_FieldOrder (c : CalL) (u : Int) (w : World) (hl : c.name.length ≤ maxLen) (wu : (Lit.int .u8 u).wf = true) :
    Calls Try.prog 6 #[calV c, .int .u8 u] w fun e w' => e = .returned (.bool true) ∧ Below w.heap.size w w' := by
  have HB0 := Lib.hid (below_cal w (calOb c))
  have HX0 := Lib.hid (heap_alloc_new w (calOb c))
  have HCH := Lib.hid (fun W => field_Check c hl W)
  have hu : 0 ≤ u ∧ u < 256 := by
    have := wf_u8f wu
    omega
  unfold calOb at HB0 HX0
  by_cases hbig : (100 : Int) < c.name.length
  · have hb' : (100 : Int) < (c.name.length : Int) := hbig
    obtain ⟨nm, kind, day, month, shift, shape, p0, p1, p2, cycle, extra, first, last, policy⟩ := c
    dsimp only at *
    dsimp only [calV]
    clear HCH
    go_enter Try.func6, Try.ntmps6
    go_wp2_with fail
    refine (law11_live _).mono ?_
    rintro e w1 ⟨rfl, hb1⟩
    have HB1 := Lib.hid (HB0.out.trans (hb1.mono HB0.out.size))
    have e0 := Joins.cell_of_block ((hb1.block w.heap.size (by simp)).trans HX0.out) 0
    clear hb1
    go_wp2_with fail
    go_ret
    exact ⟨rfl, HB1.out⟩
  cases hok : okC c
  · have HNO := Lib.hid (fun W => field_block_no c hok hl W)
    have hec : errC c = 1 := by unfold errC; rw [hok]; rfl
    rw [hec] at HCH
    obtain ⟨nm, kind, day, month, shift, shape, p0, p1, p2, cycle, extra, first, last, policy⟩ := c
    dsimp only at hbig HX0 HB0
    dsimp only [calV] at HCH HNO
    dsimp only [calV]
    clear hok hec hl
    go_enter Try.func6, Try.ntmps6
    go_wp2_with fail
    refine (law11_live _).mono ?_
    rintro e w1 ⟨rfl, hb1⟩
    have HB1 := Lib.hid (HB0.out.trans (hb1.mono HB0.out.size))
    have y1 := (hb1.block w.heap.size (by simp)).trans HX0.out
    have HY1 := Lib.hid y1
    have g0 := Joins.cell_of_block y1 0; have g1 := Joins.cell_of_block y1 1; have g2 := Joins.cell_of_block y1 2; have g3 := Joins.cell_of_block y1 3; have g4 := Joins.cell_of_block y1 4; have g5 := Joins.cell_of_block y1 5; have g6 := Joins.cell_of_block y1 6; have g7 := Joins.cell_of_block y1 7; have g8 := Joins.cell_of_block y1 8; have g9 := Joins.cell_of_block y1 9; have g10 := Joins.cell_of_block y1 10; have g11 := Joins.cell_of_block y1 11; have g12 := Joins.cell_of_block y1 12; have g13 := Joins.cell_of_block y1 13
    have hl1 := (Array.getElem?_eq_some_iff.1 y1).1
    clear hb1 y1
    go_wp2_with fail
    refine (HNO.out _).mono ?_
    rintro e w2 ⟨rfl, hb2⟩
    have HB2 := Lib.hid (HB1.out.trans (hb2.mono HB1.out.size))
    have y2 := (hb2.block w.heap.size hl1).trans HY1.out
    have HY2 := Lib.hid y2
    have hl2 := (Array.getElem?_eq_some_iff.1 y2).1
    clear g0 g1 g2 g3 g4 g5 g6 g7 g8 g9 g10 g11 g12 g13 hb2
    have g0 := Joins.cell_of_block y2 0; have g1 := Joins.cell_of_block y2 1; have g2 := Joins.cell_of_block y2 2; have g3 := Joins.cell_of_block y2 3; have g4 := Joins.cell_of_block y2 4; have g5 := Joins.cell_of_block y2 5; have g6 := Joins.cell_of_block y2 6; have g7 := Joins.cell_of_block y2 7; have g8 := Joins.cell_of_block y2 8; have g9 := Joins.cell_of_block y2 9; have g10 := Joins.cell_of_block y2 10; have g11 := Joins.cell_of_block y2 11; have g12 := Joins.cell_of_block y2 12; have g13 := Joins.cell_of_block y2 13
    clear y2
    go_wp2_with fail
    refine (HCH.out _).mono ?_
    rintro e w3 ⟨rfl, hb3⟩
    have hba := below_alloc1 HB2.out (.cells #[.string ⟨#[]⟩, .int .i64 0, .slice none 0 0, .bool false, .slice none 0 0] 25)
    have HB3 := Lib.hid (hba.trans (hb3.mono hba.size))
    clear hb3 hba
    go_wp2_with fail
    go_ret
    exact ⟨rfl, HB3.out⟩
  · have HBK := Lib.hid (fun W => field_block_ok c hok hl W)
    unfold BlockPost at HBK
    have h3 := kids_three c
    have h6 := kids_len c
    obtain ⟨k, hk⟩ : ∃ k : Nat, k = u.toNat % (kidsC c).length := ⟨_, rfl⟩
    have hkl : k < (kidsC c).length := by rw [hk]; exact Nat.mod_lt _ (by omega)
    have HRD := Lib.hid (fun W cs h => block_call (r := ⟨c, 0, 0⟩) hl (by rw [pickL_len]; omega) (fun x hx => by
      obtain ⟨j, hj, rfl⟩ := List.mem_map.1 hx
      have hs := sig_lt (numK (kidsC c)).length k j (by rw [numK_len]; exact hkl)
      exact kid_fit hl (numK_of (List.mem_of_getElem? (getD_lt _ _ hs)))) (read_turned hok k hkl 100) W cs h)
    have hknl : (numK (kidsC c)).length = (kidsC c).length := numK_len _
    generalize numK (kidsC c) = kn at *
    generalize b_calendar = bc at *
    obtain ⟨N, hN⟩ : ∃ N, (kidsC c).length = N := ⟨_, rfl⟩
    rw [hN] at hk hkl h3 h6 hknl
    rw [hN] at HBK HRD
    have hrem : Int.tmod u (N : Int) = (k : Int) := by
      rw [hk, Int.natCast_emod]
      rw [Int.tmod_eq_emod_of_nonneg hu.1]
      congr 1
      omega
    have heq := fun W => run_eqCal W c c
    rw [decide_eq_true (rfl : c = c)] at heq
    have hn0 : ((N : Int) == 0) = false := beq_false_of_ne (by omega)
    have hN0 : ¬ ((N : Int) = 0) := by omega
    have hkN : (k : Int) < N := by omega
    have hk0 : (0 : Int) ≤ k := by omega
    have HK := Lib.hid (And.intro hknl (And.intro h3 (And.intro h6 hkl)))
    clear hN hok hk h3 h6 hknl
    obtain ⟨nm, kind, day, month, shift, shape, p0, p1, p2, cycle, extra, first, last, policy⟩ := c
    dsimp only at hbig HX0 HB0 HRD HBK heq
    dsimp only [calV] at HCH HBK HRD
    dsimp only [calV]
    clear hl wu HCH
    go_enter Try.func6, Try.ntmps6
    go_wp2_with fail
    refine (law11_live _).mono ?_
    rintro e w1 ⟨rfl, hb1⟩
    have HB1 := Lib.hid (HB0.out.trans (hb1.mono HB0.out.size))
    have y1 := (hb1.block w.heap.size (by simp)).trans HX0.out
    have HY1 := Lib.hid y1
    have g0 := Joins.cell_of_block y1 0; have g1 := Joins.cell_of_block y1 1; have g2 := Joins.cell_of_block y1 2; have g3 := Joins.cell_of_block y1 3; have g4 := Joins.cell_of_block y1 4; have g5 := Joins.cell_of_block y1 5; have g6 := Joins.cell_of_block y1 6; have g7 := Joins.cell_of_block y1 7; have g8 := Joins.cell_of_block y1 8; have g9 := Joins.cell_of_block y1 9; have g10 := Joins.cell_of_block y1 10; have g11 := Joins.cell_of_block y1 11; have g12 := Joins.cell_of_block y1 12; have g13 := Joins.cell_of_block y1 13
    have hl1 := (Array.getElem?_eq_some_iff.1 y1).1
    clear hb1 y1
    go_wp2_with fail
    refine (HBK.out _).mono ?_
    rintro e w2 ⟨gw, g, cap, B, rfl, hcap, hB, hrw, hrow, hb2⟩
    have HB2 := Lib.hid (HB1.out.trans (hb2.mono HB1.out.size))
    have y2 := (hb2.block w.heap.size hl1).trans HY1.out
    clear g0 g1 g2 g3 g4 g5 g6 g7 g8 g9 g10 g11 g12 g13
    have HR2 := Lib.hid (And.intro hB (And.intro hrw (And.intro hrow (And.intro hb2 y2))))
    clear hB hrw hrow hb2 y2
    go_wp2_with fail
    obtain ⟨hB, hrw, hrow, hb2, y2⟩ := HR2.out
    have hl2 := (Array.getElem?_eq_some_iff.1 y2).1
    have hba := below_cal w2 (.cells #[.string ⟨bc.toArray⟩, .int .i64 100, .slice (some ⟨gw, 0, none⟩) 1 1, .bool true, .slice (some ⟨g, 0, none⟩) N cap] 25)
    have hbn := heap_alloc_new w2 (.cells #[.string ⟨bc.toArray⟩, .int .i64 100, .slice (some ⟨gw, 0, none⟩) 1 1, .bool true, .slice (some ⟨g, 0, none⟩) N cap] 25)
    have hHB := HB2.out.trans (hba.mono HB2.out.size)
    have hrow2 := hrow.below hba
    have yA := (hba.block w.heap.size hl2).trans y2
    have hrw2 := hrw.keep (w' := w2.alloc (.cells #[.string ⟨bc.toArray⟩, .int .i64 100, .slice (some ⟨gw, 0, none⟩) 1 1, .bool true, .slice (some ⟨g, 0, none⟩) N cap] 25)) (fun _ h => h) (fun q hq => hba.cell (Nat.lt_of_lt_of_le hq.2 (Nat.le_trans hrow.1 (Nat.le_of_lt hrow.lt))))
    have hsz : (w2.alloc (.cells #[.string ⟨bc.toArray⟩, .int .i64 100, .slice (some ⟨gw, 0, none⟩) 1 1, .bool true, .slice (some ⟨g, 0, none⟩) N cap] 25)).heap.size = w2.heap.size + 1 := by simp
    have hBw : B ≤ w2.heap.size := Nat.le_trans hrow.1 (Nat.le_of_lt hrow.lt)
    have hwb : w.heap.size < w2.heap.size := hl2
    clear HR2 HB2 hB hrw hrow hb2 hba y2 hl2
    generalize w2.alloc _ = wa at *
    generalize hbe : w2.heap.size = bn at *
    have hbl : bn < wa.heap.size := by omega
    have HA := Lib.hid (And.intro hbn (And.intro hHB (And.intro hrow2 (And.intro hrw2 (And.intro hsz (And.intro hBw (And.intro hwb yA)))))))
    clear hbn hHB hrow2 hrw2 hsz hBw hwb yA
    go_loopw [9, 38] (fun s9 i wr => ∃ (j : Nat) (kcs : List Value), j ≤ N ∧ i = .int .i64 j ∧ Below wa.heap.size wa wr ∧ wr.ownsRow wa.heap.size 25 5 s9 j kcs ∧ NodesOk wr (fun b => 0 ≤ b ∧ b < B) (pickL kn k j) kcs) (fun s9 i _ => N - (intOf i).toNat)
    case atStart => exact ⟨0, [], Nat.zero_le _, rfl, Below.refl _ _, World.ownsRow_nil _ _ _ _, by simp [pickL, NodesOk]⟩
    case round =>
      obtain ⟨j, kcs, hjN, rfl, hb, hown, hks⟩ := hrel
      obtain ⟨A, cp, rfl, hcp⟩ := own_form hown
      by_cases hlt : j < N
      · have hsl := sig_lt N k j HK.out.2.2.2
        have a3 := tmod_sig N k j HK.out.2.2.2 hlt
        have hgd := getD_lt kn (sig N k j) (by rw [HK.out.1]; exact hsl)
        obtain ⟨row, hr1, hr2⟩ := HA.out.2.2.1.cell _ _ hgd
        have HR1 := Lib.hid hr1
        have hgl := HA.out.2.2.1.lt
        obtain ⟨v0, v1, v2, v3, v4, rfl⟩ : ∃ a b c d e, row = [a, b, c, d, e] := row5 hr1
        have ho1 := NodeOk.one hr1
        obtain ⟨m, hm⟩ : ∃ m, sig N k j = m := ⟨_, rfl⟩
        rw [hm] at hsl a3 hgd hr1 hr2 HR1
        have HM := Lib.hid hm
        clear hm
        have x4 : wr.cell? ⟨bn, 4, none⟩ = some (.slice (some ⟨g, 0, none⟩) N cap) := (hb.cell (p := ⟨bn, 4, none⟩) hbl).trans (Joins.cell_of_block HA.out.1 4)
        have c0 : wr.cell? ⟨g, m * 5, none⟩ = some v0 := (hb.cell (p := ⟨g, m * 5, none⟩) hgl).trans (hr2 0 (by decide))
        have c1 : wr.cell? ⟨g, m * 5 + 1, none⟩ = some v1 := (hb.cell (p := ⟨g, m * 5 + 1, none⟩) hgl).trans (hr2 1 (by decide))
        have c2 : wr.cell? ⟨g, m * 5 + 2, none⟩ = some v2 := (hb.cell (p := ⟨g, m * 5 + 2, none⟩) hgl).trans (hr2 2 (by decide))
        have c3 : wr.cell? ⟨g, m * 5 + 3, none⟩ = some v3 := (hb.cell (p := ⟨g, m * 5 + 3, none⟩) hgl).trans (hr2 3 (by decide))
        have c4 : wr.cell? ⟨g, m * 5 + 4, none⟩ = some v4 := (hb.cell (p := ⟨g, m * 5 + 4, none⟩) hgl).trans (hr2 4 (by decide))
        have a1 : IntKind.i64.wrap ((k : Int) + N) = (k : Int) + N := by rw [IntKind.wrap_i64]; have := HK.out; omega
        have a2 : IntKind.i64.wrap ((k : Int) + N - j) = (k : Int) + N - j := by rw [IntKind.wrap_i64]; have := HK.out; omega
        have lk : (j : Int) < N := by omega
        have lk0 : (0 : Int) ≤ j := by omega
        have lm : (m : Int) < N := by omega
        have lm0 : (0 : Int) ≤ m := by omega
        have hNn : ¬ N = 0 := by omega
        have w1f := wrap_small j (by have := HK.out; omega)
        have HI := Lib.hid (And.intro hb (And.intro hown hks))
        have hj100 : j + 1 ≤ 100 := by have := HK.out; omega
        have r5 := news_reads wr [v0, v1, v2, v3, v4] 25 rfl
        have t6 : ((wr.alloc (.cells #[v0, v1, v2, v3, v4] 25)).drew).ownsRow wa.heap.size 25 5 (.slice A j cp) j kcs := hown.alloc _
        have hbs : wa.heap.size ≤ ((wr.alloc (.cells #[v0, v1, v2, v3, v4] 25)).drew).heap.size := by
          have := hb.size
          show _ ≤ (wr.alloc _).heap.size
          simp
          omega
        clear hb hown hks hr1 hr2 hgd hgl
        go_wp2_with fail
        go_region_law (first
          | (go_loud (refine step_cat (by rfl) _ _ (by rfl) wa.heap.size (.slice A j cp) j kcs (by rfl) t6 (some ⟨wr.heap.size, 0, none⟩) 1 1 (wr.heap.size + 1) [v0, v1, v2, v3, v4] (by rfl) r5 (fun h => by cases h) ho1 hj100 hbs ?_); intro vn wn hown' hgr')
          | fail)
        all_goals (
          go_wp2_with fail
          have hst := order_step (Nat.le_trans HA.out.2.2.2.2.2.1 (Nat.le_of_lt hbl)) HI.out.1 HI.out.2.1 HI.out.2.2 (by rw [HK.out.1, HM.out]; exact HR1.out) hgr'
          exact ⟨⟨j + 1, kcs ++ [v0, v1, v2, v3, v4], by omega, by go_num, hst.1, hown', hst.2⟩, by simp [intOf]; omega⟩)
      · have hjn : j = N := by omega
        subst hjn
        have hpos : 0 < j := by have := HK.out; omega
        have lk : ¬ (j : Int) < j := by omega
        obtain ⟨g3, cp3, hv3, hg3a, hg3b⟩ := own_head hown hpos
        injection hv3 with e1 e2 e3
        subst e1 e3
        have hf := order_fin HA.out.1 HA.out.2.1 HA.out.2.2.2.1 HA.out.2.2.2.2.2.1 HA.out.2.2.2.2.2.2.1 HK.out.1 hb hown hks HA.out.2.2.2.2.2.2.2
        have x4 : wr.cell? ⟨bn, 4, none⟩ = some (.slice (some ⟨g, 0, none⟩) j cap) := (hb.cell (p := ⟨bn, 4, none⟩) hbl).trans (Joins.cell_of_block HA.out.1 4)
        have y4 : wr.frozen? ⟨bn, 4, none⟩ = false := (hb.frozen (p := ⟨bn, 4, none⟩) hbl).trans (Joins.unfrozen_of_block HA.out.1 4)
        have HF := Lib.hid hf
        have z0 := Joins.cell_of_block hf.1 0
        have z1 := Joins.cell_of_block hf.1 1
        have z2 := Joins.cell_of_block hf.1 2
        have z3 := Joins.cell_of_block hf.1 3
        have z4 := Joins.cell_of_block hf.1 4
        clear hf hb hown hks hg3a hg3b
        go_wp2_with fail
        refine (HRD.out _ _ HF.out.2.1).mono ?_
        rintro e w4 ⟨rfl, hb4⟩
        have HB4 := Lib.hid (HF.out.2.2.1.trans (hb4.mono HF.out.2.2.1.size))
        have yC := (hb4.block w.heap.size (Array.getElem?_eq_some_iff.1 HF.out.2.2.2).1).trans HF.out.2.2.2
        have g0 := Joins.cell_of_block yC 0; have g1 := Joins.cell_of_block yC 1; have g2 := Joins.cell_of_block yC 2; have g3 := Joins.cell_of_block yC 3; have g4 := Joins.cell_of_block yC 4; have g5 := Joins.cell_of_block yC 5; have g6 := Joins.cell_of_block yC 6; have g7 := Joins.cell_of_block yC 7; have g8 := Joins.cell_of_block yC 8; have g9 := Joins.cell_of_block yC 9; have g10 := Joins.cell_of_block yC 10; have g11 := Joins.cell_of_block yC 11; have g12 := Joins.cell_of_block yC 12; have g13 := Joins.cell_of_block yC 13
        have hl4 := (Array.getElem?_eq_some_iff.1 yC).1
        clear hb4 yC z0 z1 z2 z3 z4 x4 y4
        go_wp2_with fail
        go_ret
        exact ⟨rfl, below_alloc1 HB4.out _⟩

end Go.Proofs.Ytmiejdbpogggeaa
