import Derived.Test.YtmiejdbpogggeaaPkP
/- The law FieldMiss walked: it answers true at any calendar, and any number. -/
set_option linter.unusedVariables false
set_option linter.unusedSimpArgs false
set_option maxRecDepth 100000
namespace Go.Proofs.Ytmiejdbpogggeaa
open Go.RowKit

theorem reads_tail {W : World} {g k N cap : Nat} {kcs : List Value} (hl : kcs.length = N * 5) (hc : N ≤ cap) (hg : g < W.heap.size) (hk : ∀ j u, kcs[j]? = some u → W.cell? ((⟨g, 0, none⟩ : Addr).add j) = some u) :
    Reads W W.heap.size 5 (if cap = k + 1 then some ⟨g, 0, none⟩ else some ⟨g, (k + 1) * 5, none⟩) (N - (k + 1)) (kcs.drop ((k + 1) * 5)) := by
  refine ⟨by rw [List.length_drop, hl]; omega, fun hp => ?_⟩
  rw [if_neg (by omega)]
  refine ⟨_, rfl, hg, fun j u hu => ?_⟩
  rw [List.getElem?_drop] at hu
  have := hk _ u hu
  rw [add_blk0] at this
  rw [← this]
  congr 1
  unfold Addr.add
  split
  · next h => subst h; rfl
  · rfl
theorem less_fin {w wa w3 : World} {bn B g gw N k cap m1 g3 cp3 : Nat} {bc nm : Bytes} {kn : List NodeL} {kcs : List Value} (ha : NodeBlk wa bn bc 100 (.slice (some ⟨gw, 0, none⟩) 1 1) true (.slice (some ⟨g, 0, none⟩) N cap)) (hb : Below w.heap.size w wa)
    (hrw : ReadsM wa (fun b => 0 ≤ b ∧ b < B) 4 (some ⟨gw, 0, none⟩) 1 (wS nm).cells) (hB : B ≤ bn) (hwb : w.heap.size ≤ bn) (hlen : kn.length = N) (hkl : k < N) (hkn : NodesOk wa (fun b => 0 ≤ b ∧ b < B) kn kcs)
    (ho : w3.ownsRow wa.heap.size 25 5 (.slice (some ⟨g3, 0, none⟩) m1 cp3) m1 ([] ++ kcs.take (k * 5) ++ kcs.drop ((k + 1) * 5))) (hb3 : Below wa.heap.size wa w3) (hm : 0 + k + (N - (k + 1)) = m1) :
    NodeBlk (w3.setCell ⟨bn, 4, none⟩ (.slice (some ⟨g3, 0, none⟩) m1 cp3)) bn bc 100 (.slice (some ⟨gw, 0, none⟩) 1 1) true (.slice (some ⟨g3, 0, none⟩) m1 cp3) ∧
    NodeOk (w3.setCell ⟨bn, 4, none⟩ (.slice (some ⟨g3, 0, none⟩) m1 cp3)) (· < (w3.setCell ⟨bn, 4, none⟩ (.slice (some ⟨g3, 0, none⟩) m1 cp3)).heap.size) (.mk bc 100 [wS nm] true (kn.take k ++ kn.drop (k + 1))) [.string ⟨bc.toArray⟩, .int .i64 100, .slice (some ⟨gw, 0, none⟩) 1 1, .bool true, .slice (some ⟨g3, 0, none⟩) m1 cp3] ∧
    Below w.heap.size w (w3.setCell ⟨bn, 4, none⟩ (.slice (some ⟨g3, 0, none⟩) m1 cp3)) := by
  have hbl := ha.lt
  have h3 := ha.keep hb3
  have hrow : KidRow w3 0 B g3 (kn.take k ++ kn.drop (k + 1)) := by
    rw [List.nil_append] at ho
    obtain ⟨t1, _⟩ := hkn.takeL k
    obtain ⟨_, t2⟩ := hkn.takeL (k + 1)
    refine KidRow.of_own (own_down (show B ≤ wa.heap.size by omega) ho) (by rw [List.length_append, List.length_take, List.length_drop]; omega) (NodesOk.keepB (fun _ h => h) (fun b h => hb3.block b (by omega)) (NodesOk.append t1 t2))
  have hge : wa.heap.size ≤ g3 := (ho.lt g3 rfl).1
  refine ⟨h3.skids _, KidRow.node 100 (hrow.other (.inr hB) (by show bn ≠ g3; omega) _) ?_ (by rw [List.length_append, List.length_take, List.length_drop]; omega), ?_⟩
  · exact hrw.keep (fun _ h => h) (fun q hq => (World.cell?_setCell_far _ _ _ _ (by show bn ≠ q.block; have := hq.2; omega)).trans (hb3.cell (by have := hq.2; omega)))
  · exact Below.setCell (hb.trans (hb3.mono hb.size)) (by show w.heap.size ≤ bn; exact hwb) _
set_option maxHeartbeats 8000000 in
theorem walk_FieldMiss (c : CalL) (u : Int) (w : World) (hl : c.name.length ≤ maxLen) (wu : (Lit.int .u8 u).wf = true) :
    Calls Try.prog 7 #[calV c, .int .u8 u] w fun e w' => e = .returned (.bool true) ∧ Below w.heap.size w w' := by
  have HB0 := Lib.hid (below_cal w (calOb c))
  have HX0 := Lib.hid (heap_alloc_new w (calOb c))
  have HCH := Lib.hid (fun W => field_Check c hl W)
  have hu : 0 ≤ u ∧ u < 256 := by
    have := wf_u8f wu
    omega
  unfold calOb at HB0 HX0
  by_cases hbig : (100 : Int) < c.name.length
  · have hb' : (100 : Int) < (c.name.length : Int) := hbig
    obtain ⟨nm, kind, day, month, shift, shape, p0, p1, p2, cycle, extra, first, last, policy⟩ := c
    dsimp only at *
    dsimp only [calV]
    clear HCH
    go_enter Try.func7, Try.ntmps7
    go_wp2_with fail
    refine (law11_live _).mono ?_
    rintro e w1 ⟨rfl, hb1⟩
    have HB1 := Lib.hid (HB0.out.trans (hb1.mono HB0.out.size))
    have e0 := Joins.cell_of_block ((hb1.block w.heap.size (by simp)).trans HX0.out) 0
    clear hb1
    go_wp2_with fail
    go_ret
    exact ⟨rfl, HB1.out⟩
  cases hok : okC c
  · have HNO := Lib.hid (fun W => field_block_no c hok hl W)
    have hec : errC c = 1 := by unfold errC; rw [hok]; rfl
    rw [hec] at HCH
    obtain ⟨nm, kind, day, month, shift, shape, p0, p1, p2, cycle, extra, first, last, policy⟩ := c
    dsimp only at hbig HX0 HB0
    dsimp only [calV] at HCH HNO
    dsimp only [calV]
    clear hok hec hl
    go_enter Try.func7, Try.ntmps7
    go_wp2_with fail
    refine (law11_live _).mono ?_
    rintro e w1 ⟨rfl, hb1⟩
    have HB1 := Lib.hid (HB0.out.trans (hb1.mono HB0.out.size))
    have y1 := (hb1.block w.heap.size (by simp)).trans HX0.out
    have HY1 := Lib.hid y1
    have g0 := Joins.cell_of_block y1 0; have g1 := Joins.cell_of_block y1 1; have g2 := Joins.cell_of_block y1 2; have g3 := Joins.cell_of_block y1 3; have g4 := Joins.cell_of_block y1 4; have g5 := Joins.cell_of_block y1 5; have g6 := Joins.cell_of_block y1 6; have g7 := Joins.cell_of_block y1 7; have g8 := Joins.cell_of_block y1 8; have g9 := Joins.cell_of_block y1 9; have g10 := Joins.cell_of_block y1 10; have g11 := Joins.cell_of_block y1 11; have g12 := Joins.cell_of_block y1 12; have g13 := Joins.cell_of_block y1 13
    have hl1 := (Array.getElem?_eq_some_iff.1 y1).1
    clear hb1 y1
    go_wp2_with fail
    refine (HNO.out _).mono ?_
    rintro e w2 ⟨rfl, hb2⟩
    have HB2 := Lib.hid (HB1.out.trans (hb2.mono HB1.out.size))
    have y2 := (hb2.block w.heap.size hl1).trans HY1.out
    have HY2 := Lib.hid y2
    have hl2 := (Array.getElem?_eq_some_iff.1 y2).1
    clear g0 g1 g2 g3 g4 g5 g6 g7 g8 g9 g10 g11 g12 g13 hb2
    have g0 := Joins.cell_of_block y2 0; have g1 := Joins.cell_of_block y2 1; have g2 := Joins.cell_of_block y2 2; have g3 := Joins.cell_of_block y2 3; have g4 := Joins.cell_of_block y2 4; have g5 := Joins.cell_of_block y2 5; have g6 := Joins.cell_of_block y2 6; have g7 := Joins.cell_of_block y2 7; have g8 := Joins.cell_of_block y2 8; have g9 := Joins.cell_of_block y2 9; have g10 := Joins.cell_of_block y2 10; have g11 := Joins.cell_of_block y2 11; have g12 := Joins.cell_of_block y2 12; have g13 := Joins.cell_of_block y2 13
    clear y2
    go_wp2_with fail
    refine (HCH.out _).mono ?_
    rintro e w3 ⟨rfl, hb3⟩
    have hba := below_alloc1 HB2.out (.cells #[.string ⟨#[]⟩, .int .i64 0, .slice none 0 0, .bool false, .slice none 0 0] 25)
    have HB3 := Lib.hid (hba.trans (hb3.mono hba.size))
    clear hb3 hba
    go_wp2_with fail
    go_ret
    exact ⟨rfl, HB3.out⟩
  · have HBK := Lib.hid (fun W => field_block_ok c hok hl W)
    unfold BlockPost at HBK
    have h3 := kids_three c
    have h6 := kids_len c
    obtain ⟨k, hk⟩ : ∃ k : Nat, k = u.toNat % (kidsC c).length := ⟨_, rfl⟩
    have hkl : k < (kidsC c).length := by rw [hk]; exact Nat.mod_lt _ (by omega)
    have HRD := Lib.hid (fun W cs h => block_call (r := ⟨calZ, 100, 10⟩) hl (by simp only [List.length_append, List.length_take, List.length_drop, numK_len]; omega) (fun x hx => by
      rcases List.mem_append.1 hx with h | h
      · exact kid_fit hl (numK_of (List.mem_of_mem_take h))
      · exact kid_fit hl (numK_of (List.mem_of_mem_drop h))) (read_less hok k hkl) W cs h)
    have hknl : (numK (kidsC c)).length = (kidsC c).length := numK_len _
    generalize numK (kidsC c) = kn at *
    generalize b_calendar = bc at *
    obtain ⟨N, hN⟩ : ∃ N, (kidsC c).length = N := ⟨_, rfl⟩
    rw [hN] at hk hkl h3 h6 hknl
    have HNN := Lib.hid hN
    rw [hN] at HBK
    have hrem : Int.tmod u (N : Int) = (k : Int) := by
      rw [hk, Int.natCast_emod]
      rw [Int.tmod_eq_emod_of_nonneg hu.1]
      congr 1
      omega
    have heq := fun W => run_eqCal W calZ calZ
    rw [decide_eq_true (rfl : calZ = calZ)] at heq
    dsimp only [calZ] at heq
    have hn0 : ((N : Int) == 0) = false := beq_false_of_ne (by omega)
    have hN0 : ¬ ((N : Int) = 0) := by omega
    have hkN : (k : Int) < N := by omega
    have hk0 : (0 : Int) ≤ k := by omega
    have HK := Lib.hid (And.intro hknl (And.intro h3 (And.intro h6 hkl)))
    clear hN hok hk h3 h6 hknl
    obtain ⟨nm, kind, day, month, shift, shape, p0, p1, p2, cycle, extra, first, last, policy⟩ := c
    dsimp only at hbig HX0 HB0 HRD HBK
    dsimp only [calV, calZ] at HCH HBK HRD
    dsimp only [calV]
    clear hl wu HCH HNN
    go_enter Try.func7, Try.ntmps7
    go_wp2_with fail
    refine (law11_live _).mono ?_
    rintro e w1 ⟨rfl, hb1⟩
    have HB1 := Lib.hid (HB0.out.trans (hb1.mono HB0.out.size))
    have y1 := (hb1.block w.heap.size (by simp)).trans HX0.out
    have HY1 := Lib.hid y1
    have g0 := Joins.cell_of_block y1 0; have g1 := Joins.cell_of_block y1 1; have g2 := Joins.cell_of_block y1 2; have g3 := Joins.cell_of_block y1 3; have g4 := Joins.cell_of_block y1 4; have g5 := Joins.cell_of_block y1 5; have g6 := Joins.cell_of_block y1 6; have g7 := Joins.cell_of_block y1 7; have g8 := Joins.cell_of_block y1 8; have g9 := Joins.cell_of_block y1 9; have g10 := Joins.cell_of_block y1 10; have g11 := Joins.cell_of_block y1 11; have g12 := Joins.cell_of_block y1 12; have g13 := Joins.cell_of_block y1 13
    have hl1 := (Array.getElem?_eq_some_iff.1 y1).1
    clear hb1 y1
    go_wp2_with fail
    refine (HBK.out _).mono ?_
    rintro e w2 ⟨gw, g, cap, B, rfl, hcap, hB, hrw, hrow, hb2⟩
    have HB2 := Lib.hid (HB1.out.trans (hb2.mono HB1.out.size))
    clear g0 g1 g2 g3 g4 g5 g6 g7 g8 g9 g10 g11 g12 g13
    have HR2 := Lib.hid (And.intro hB (And.intro hrw (And.intro hrow hb2)))
    clear hB hrw hrow hb2
    go_wp2_with fail
    obtain ⟨hB, hrw, hrow, hb2⟩ := HR2.out
    have hba := below_cal w2 (.cells #[.string ⟨bc.toArray⟩, .int .i64 100, .slice (some ⟨gw, 0, none⟩) 1 1, .bool true, .slice (some ⟨g, 0, none⟩) N cap] 25)
    have hbn := heap_alloc_new w2 (.cells #[.string ⟨bc.toArray⟩, .int .i64 100, .slice (some ⟨gw, 0, none⟩) 1 1, .bool true, .slice (some ⟨g, 0, none⟩) N cap] 25)
    have hHB := HB2.out.trans (hba.mono HB2.out.size)
    have hrow2 := hrow.below hba
    have hrw2 := hrw.keep (w' := w2.alloc (.cells #[.string ⟨bc.toArray⟩, .int .i64 100, .slice (some ⟨gw, 0, none⟩) 1 1, .bool true, .slice (some ⟨g, 0, none⟩) N cap] 25)) (fun _ h => h) (fun q hq => hba.cell (Nat.lt_of_lt_of_le hq.2 (Nat.le_trans hrow.1 (Nat.le_of_lt hrow.lt))))
    have hsz : (w2.alloc (.cells #[.string ⟨bc.toArray⟩, .int .i64 100, .slice (some ⟨gw, 0, none⟩) 1 1, .bool true, .slice (some ⟨g, 0, none⟩) N cap] 25)).heap.size = w2.heap.size + 1 := by simp
    have hBw : B ≤ w2.heap.size := Nat.le_trans hrow.1 (Nat.le_of_lt hrow.lt)
    have hwb : w.heap.size ≤ w2.heap.size := HB2.out.size
    clear HR2 HB2 hB hrw hrow hb2 hba
    generalize w2.alloc _ = wa at *
    generalize hbe : w2.heap.size = bn at *
    have x0 := Joins.cell_of_block hbn 0
    have x1 := Joins.cell_of_block hbn 1
    have x2 := Joins.cell_of_block hbn 2
    have x3 := Joins.cell_of_block hbn 3
    have x4 : wa.cell? ⟨bn, 4, none⟩ = some (.slice (some ⟨g, 0, none⟩) N cap) := Joins.cell_of_block hbn 4
    have y4 : wa.frozen? ⟨bn, 4, none⟩ = false := Joins.unfrozen_of_block hbn 4
    have HA := Lib.hid (And.intro hbn (And.intro hHB (And.intro hrow2 (And.intro hrw2 (And.intro hsz (And.intro hBw hwb))))))
    clear hbn hHB hrow2 hrw2 hsz hBw hwb hbe
    have s1 : ¬ ((k : Int) < 0) := by omega
    have s2 : (k : Int) ≤ cap := by omega
    have s3 : (k : Int) ≤ N := by omega
    have w1f : IntKind.i64.wrap ((k : Int) + 1) = (k : Int) + 1 := wrap_small k (by have := HK.out; omega)
    have s4 : (k : Int) + 1 ≤ N := by omega
    have s5 : (0 : Int) ≤ (k : Int) + 1 := by omega
    have s6 : (N : Int) ≤ cap := by omega
    have s7 : (k : Int) + 1 ≤ cap := by omega
    obtain ⟨kcs, hkl5, hkn, hkc, hk1⟩ := HA.out.2.2.1.reads
    have hgl := HA.out.2.2.1.lt
    have r1 : Reads wa.drew wa.heap.size 5 (some ⟨g, 0, none⟩) k (kcs.take (k * 5)) := ⟨by rw [List.length_take, hkl5, HK.out.1]; omega, fun _ => ⟨_, rfl, hgl, fun j u hu => hkc j u (get_take hu)⟩⟩
    have o1 : ∀ u ∈ kcs.take (k * 5), u.oneCell' = true := fun u hu => hk1 u (List.mem_of_mem_take hu)
    have r2 : Reads wa wa.heap.size 5 (if cap = k + 1 then some ⟨g, 0, none⟩ else some ⟨g, (k + 1) * 5, none⟩) (N - (k + 1)) (kcs.drop ((k + 1) * 5)) := reads_tail (by rw [hkl5, HK.out.1]) hcap hgl hkc
    have R2 := Lib.hid r2
    have n2 : (if cap = k + 1 then some (⟨g, 0, none⟩ : Addr) else some ⟨g, (k + 1) * 5, none⟩) = none → cap - (k + 1) = 0 := fun h => by split at h <;> cases h
    have o2 : ∀ u ∈ kcs.drop ((k + 1) * 5), u.oneCell' = true := fun u hu => hk1 u (List.mem_of_mem_drop hu)
    have hk101 : 0 + k + (N - (k + 1)) ≤ 100 := by have := HK.out; omega
    obtain ⟨m1, hm1⟩ : ∃ m, 0 + k + (N - (k + 1)) = m := ⟨_, rfl⟩
    have hm0 : 0 < m1 := by have := HK.out; omega
    clear r2
    have HKN := Lib.hid (And.intro hkl5 (And.intro hkn (And.intro hkc (And.intro hk1 hgl))))
    have hbl : bn < wa.heap.size := by rw [HA.out.2.2.2.2.1]; exact Nat.lt_succ_self _
    have hk100 : 0 + k ≤ 100 := by have := HK.out; omega
    clear hkl5 hkn hkc hk1 hgl
    go_region_law (first
      | ((refine step_cat (by rfl) _ _ (by rfl) wa.heap.size (.slice none 0 0) 0 [] (by rfl) (World.ownsRow_nil _ _ _ _) (some ⟨g, 0, none⟩) k cap wa.heap.size (kcs.take (k * 5)) (by rfl) r1 (fun h => by cases h) o1 hk100 (Nat.le_refl _) ?_); intro v1 w1 hown1 hgr1; go_loud (have hb1 : Below wa.heap.size wa w1 := (Below.drew (Below.refl _ _)).grown hgr1 (Nat.le_refl _) (fun k hk => by cases hk)); go_loud (have x4' := (hb1.cell (p := ⟨bn, 4, none⟩) hbl).trans x4); go_loud (have r2 := reads_below R2.out hb1); have HO1 := Lib.hid (And.intro hown1 hb1); have hs1 := hb1.size; clear hown1 hgr1 hb1)
      | (have hq := HO1; go_loud (refine step_cat (by rfl) _ _ (by rfl) wa.heap.size v1 (0 + k) _ (by rfl) HO1.out.1 (if cap = k + 1 then some ⟨g, 0, none⟩ else some ⟨g, (k + 1) * 5, none⟩) (N - (k + 1)) (cap - (k + 1)) wa.heap.size (kcs.drop ((k + 1) * 5)) (by rfl) r2 n2 o2 hk101 hs1 ?_); intro v3 w3 hown3 hgr3; go_loud (have hb3 : Below wa.heap.size wa w3 := HO1.out.2.grown hgr3 hs1 (fun k hk => (HO1.out.1.lt k hk).1)); go_loud (have x4'' := (hb3.cell (p := ⟨bn, 4, none⟩) hbl).trans x4); go_loud (have y4'' := (hb3.frozen (p := ⟨bn, 4, none⟩) hbl).trans y4); go_loud (rw [hm1] at hown3); go_loud (obtain ⟨g3, cp3, rfl, hg3a, hg3b⟩ := own_head hown3 hm0); have HO3 := Lib.hid (And.intro hown3 hb3); clear hown3 hgr3 hb3 hq)
      | fail)
    all_goals (
      have hf := less_fin HA.out.1 HA.out.2.1 HA.out.2.2.2.1 HA.out.2.2.2.2.2.1 HA.out.2.2.2.2.2.2 HK.out.1 HK.out.2.2.2 HKN.out.2.1 HO3.out.1 HO3.out.2 hm1
      have HF := Lib.hid hf
      have z0 := Joins.cell_of_block hf.1 0
      have z1 := Joins.cell_of_block hf.1 1
      have z2 := Joins.cell_of_block hf.1 2
      have z3 := Joins.cell_of_block hf.1 3
      have z4 := Joins.cell_of_block hf.1 4
      clear hf
      generalize w3.setCell _ _ = W at *
      go_wp2_with fail
      all_goals (
        refine (HRD.out _ _ HF.out.2.1).mono ?_
        rintro e w4 ⟨rfl, hb4⟩
        have HB4 := Lib.hid (HF.out.2.2.trans (hb4.mono HF.out.2.2.size))
        clear hb4
        go_wp2_with fail
        go_ret
        exact ⟨rfl, below_alloc1 HB4.out _⟩))

end Go.Proofs.Ytmiejdbpogggeaa
