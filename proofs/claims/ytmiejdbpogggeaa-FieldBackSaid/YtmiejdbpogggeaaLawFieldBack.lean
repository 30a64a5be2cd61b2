import Derived.Test.YtmiejdbpogggeaaFieldNk
import Derived.Test.YtmiejdbpogggeaaPkM
import Derived.Test.YtmiejdbpogggeaaTreeG4
/- The law FieldBack walked: it answers true at any calendar. -/
set_option linter.unusedVariables false
set_option linter.unusedSimpArgs false
set_option maxRecDepth 100000
namespace Go.Proofs.Ytmiejdbpogggeaa
open Go.RowKit

def calO (c : CalL) : Obj := .cells #[.string ⟨c.name.toArray⟩, .int .i64 c.kind, .int .i64 c.day, .int .i64 c.month, .int .i64 c.shift, .int .i64 c.shape, .int .i64 c.p0, .int .i64 c.p1, .int .i64 c.p2, .int .i64 c.cycle, .int .i64 c.extra, .int .i64 c.first, .int .i64 c.last, .int .i64 c.policy] 30
theorem zero_node (w : World) : NodeOk w (· < w.heap.size) nodeZ [.string ⟨#[]⟩, .int .i64 0, .slice none 0 0, .bool false, .slice none 0 0] := by
  unfold nodeZ
  simp only [NodeOk]
  exact ⟨none, 0, none, 0, [], rfl, fun _ => rfl, fun _ => rfl, ReadsM.nil _ _ _ _, ReadsM.nil _ _ _ _, rfl⟩
theorem same_zero (W : World) : Calls Try.prog 19 #[.slice (some ⟨W.heap.size, 0, none⟩) 1 1, .slice (some ⟨W.heap.size + 1, 0, none⟩) 1 1] ((W.alloc (.cells #[.string ⟨#[]⟩, .int .i64 0, .slice none 0 0, .bool false, .slice none 0 0] 25)).alloc (.cells #[.string ⟨#[]⟩, .int .i64 0, .slice none 0 0, .bool false, .slice none 0 0] 25)) fun e w' => e = .returned (.bool true) ∧ Below W.heap.size W w' := by
  have h1 := (rok_new W nodeZ _ 25 (zero_node W)).below (B := (W.alloc (.cells #[.string ⟨#[]⟩, .int .i64 0, .slice none 0 0, .bool false, .slice none 0 0] 25)).heap.size) ((Below.refl _ _).alloc (Nat.le_refl _) (.cells #[.string ⟨#[]⟩, .int .i64 0, .slice none 0 0, .bool false, .slice none 0 0] 25))
  have h2 := rok_new (W.alloc (.cells #[.string ⟨#[]⟩, .int .i64 0, .slice none 0 0, .bool false, .slice none 0 0] 25)) nodeZ _ 25 (zero_node _)
  have hs : (W.alloc (.cells #[.string ⟨#[]⟩, .int .i64 0, .slice none 0 0, .bool false, .slice none 0 0] 25)).heap.size = W.heap.size + 1 := by simp
  obtain ⟨cs1, r1, n1⟩ := h1
  have h1' : ROk ((W.alloc (.cells #[.string ⟨#[]⟩, .int .i64 0, .slice none 0 0, .bool false, .slice none 0 0] 25)).alloc (.cells #[.string ⟨#[]⟩, .int .i64 0, .slice none 0 0, .bool false, .slice none 0 0] 25)) ((W.alloc (.cells #[.string ⟨#[]⟩, .int .i64 0, .slice none 0 0, .bool false, .slice none 0 0] 25)).alloc (.cells #[.string ⟨#[]⟩, .int .i64 0, .slice none 0 0, .bool false, .slice none 0 0] 25)).heap.size (some ⟨W.heap.size, 0, none⟩) [nodeZ] :=
    ⟨cs1, r1.keep (fun b h => by simp at h ⊢; omega) (fun _ _ => rfl), NodesOk.keep (fun b h => by simp at h ⊢; omega) (fun _ _ => rfl) _ _ n1⟩
  rw [hs] at h2
  refine (ref9_Same [nodeZ] [nodeZ] _ _ 1 1 _ _ (by decide) (Nat.le_refl _) h1' h2).mono ?_
  rintro e w1 ⟨rfl, hb⟩
  refine ⟨congrArg (fun b => Ending.returned (Value.bool b)) (show sameNs [nodeZ] [nodeZ] = true by kernel_rfl), ?_⟩
  have hba := ((Below.refl W.heap.size W).alloc (Nat.le_refl _) (.cells #[.string ⟨#[]⟩, .int .i64 0, .slice none 0 0, .bool false, .slice none 0 0] 25)).alloc (by simp) (.cells #[.string ⟨#[]⟩, .int .i64 0, .slice none 0 0, .bool false, .slice none 0 0] 25)
  exact hba.trans (hb.mono hba.size)

theorem node_fact {c : CalL} {w w' : World} {e : Ending} (h : NodePost c w e w') : ∃ gw g cap N, e = .returned (.tuple #[.agg #[.string ⟨b_calendar.toArray⟩, .int .i64 0, .slice (some ⟨gw, 0, none⟩) 1 1, .bool true, .slice (some ⟨g, 0, none⟩) N cap], .int .i64 0]) ∧
    NodeOk w' (· < w'.heap.size) (nodeC c) [.string ⟨b_calendar.toArray⟩, .int .i64 0, .slice (some ⟨gw, 0, none⟩) 1 1, .bool true, .slice (some ⟨g, 0, none⟩) N cap] ∧ Below w.heap.size w w' := by
  obtain ⟨gw, g, cap, he, hgw, hne, hblk, hown, hb⟩ := h
  exact ⟨gw, g, cap, (kidsC c).length, he, node_laid hblk hown, hb⟩
theorem kidOf_self {c : CalL} {k : NodeL} (hk : k ∈ kidsC c) : KidOf c k := ⟨k, hk, rfl, rfl, by
    rw [mem_kids] at hk
    rcases hk with rfl | ⟨_, rfl⟩ | ⟨_, ⟨_, rfl⟩ | ⟨_, rfl⟩ | ⟨_, rfl⟩ | rfl⟩ | rfl | rfl <;> rfl, (kids_plain c k hk).1⟩
set_option maxHeartbeats 8000000 in
theorem walk_FieldBack (c : CalL) (w : World) (hl : c.name.length ≤ maxLen) :
    Calls Try.prog 5 #[calV c] w fun e w' => e = .returned (.bool true) ∧ Below w.heap.size w w' := by
  have HB0 := Lib.hid (below_cal w (calO c))
  have HX0 := Lib.hid (heap_alloc_new w (calO c))
  have HCH := Lib.hid (fun W => field_Check c hl W)
  unfold calO at HB0 HX0
  by_cases hbig : (100 : Int) < c.name.length
  · have hb' : (100 : Int) < (c.name.length : Int) := hbig
    obtain ⟨nm, kind, day, month, shift, shape, p0, p1, p2, cycle, extra, first, last, policy⟩ := c
    dsimp only at *
    dsimp only [calV]
    clear HCH
    go_enter Try.func5, Try.ntmps5
    go_wp2_with fail
    refine (law11_live _).mono ?_
    rintro e w1 ⟨rfl, hb1⟩
    have HB1 := Lib.hid (HB0.out.trans (hb1.mono HB0.out.size))
    have e0 := Joins.cell_of_block ((hb1.block w.heap.size (by simp)).trans HX0.out) 0
    clear hb1
    go_wp2_with fail
    go_ret
    exact ⟨rfl, HB1.out⟩
  cases hok : okC c
  · have HNO := Lib.hid (fun W => field_Node_no c hok hl W)
    have hec : errC c = 1 := by unfold errC; rw [hok]; rfl
    rw [hec] at HCH
    obtain ⟨nm, kind, day, month, shift, shape, p0, p1, p2, cycle, extra, first, last, policy⟩ := c
    dsimp only at hbig HX0 HB0
    dsimp only [calV] at HCH HNO
    dsimp only [calV]
    clear hok hec hl
    go_enter Try.func5, Try.ntmps5
    go_wp2_with fail
    refine (law11_live _).mono ?_
    rintro e w1 ⟨rfl, hb1⟩
    have HB1 := Lib.hid (HB0.out.trans (hb1.mono HB0.out.size))
    have y1 := (hb1.block w.heap.size (by simp)).trans HX0.out
    have HY1 := Lib.hid y1
    have g0 := Joins.cell_of_block y1 0; have g1 := Joins.cell_of_block y1 1; have g2 := Joins.cell_of_block y1 2; have g3 := Joins.cell_of_block y1 3; have g4 := Joins.cell_of_block y1 4; have g5 := Joins.cell_of_block y1 5; have g6 := Joins.cell_of_block y1 6; have g7 := Joins.cell_of_block y1 7; have g8 := Joins.cell_of_block y1 8; have g9 := Joins.cell_of_block y1 9; have g10 := Joins.cell_of_block y1 10; have g11 := Joins.cell_of_block y1 11; have g12 := Joins.cell_of_block y1 12; have g13 := Joins.cell_of_block y1 13
    have hl1 := (Array.getElem?_eq_some_iff.1 y1).1
    clear hb1 y1
    go_wp2_with fail
    refine (HNO.out _).mono ?_
    rintro e w2 ⟨rfl, hb2⟩
    have HB2 := Lib.hid (HB1.out.trans (hb2.mono HB1.out.size))
    have y2 := (hb2.block w.heap.size hl1).trans HY1.out
    have HY2 := Lib.hid y2
    have hl2 := (Array.getElem?_eq_some_iff.1 y2).1
    clear g0 g1 g2 g3 g4 g5 g6 g7 g8 g9 g10 g11 g12 g13 hb2
    have g0 := Joins.cell_of_block y2 0; have g1 := Joins.cell_of_block y2 1; have g2 := Joins.cell_of_block y2 2; have g3 := Joins.cell_of_block y2 3; have g4 := Joins.cell_of_block y2 4; have g5 := Joins.cell_of_block y2 5; have g6 := Joins.cell_of_block y2 6; have g7 := Joins.cell_of_block y2 7; have g8 := Joins.cell_of_block y2 8; have g9 := Joins.cell_of_block y2 9; have g10 := Joins.cell_of_block y2 10; have g11 := Joins.cell_of_block y2 11; have g12 := Joins.cell_of_block y2 12; have g13 := Joins.cell_of_block y2 13
    clear y2
    go_wp2_with fail
    refine (HCH.out _).mono ?_
    rintro e w3 ⟨rfl, hb3⟩
    have hba := below_alloc1 HB2.out (.cells #[.string ⟨#[]⟩, .int .i64 0, .slice none 0 0, .bool false, .slice none 0 0] 25)
    have HB3 := Lib.hid (hba.trans (hb3.mono hba.size))
    have z3 := (hb3.block w2.heap.size (by simp)).trans (heap_alloc_new w2 _)
    have z0 := Joins.cell_of_block z3 0
    have z1 := Joins.cell_of_block z3 1
    have z2 := Joins.cell_of_block z3 2
    have z3' := Joins.cell_of_block z3 3
    have z4 := Joins.cell_of_block z3 4
    clear hb3 hba z3 g0 g1 g2 g3 g4 g5 g6 g7 g8 g9 g10 g11 g12 g13
    go_wp2_with fail
    refine (same_zero _).mono ?_
    rintro e w4 ⟨rfl, hb4⟩
    have HB4 := Lib.hid (HB3.out.trans (hb4.mono HB3.out.size))
    clear hb4
    go_wp2_with fail
    go_ret
    exact ⟨rfl, HB4.out⟩
  · have HNK := Lib.hid (fun W => (field_Node_ok c hok hl W).mono (fun e w' h => node_fact h))
    have hec : errC c = 0 := by unfold errC; rw [hok]; rfl
    rw [hec] at HCH
    have hfit : fitNs [nodeC c] := ⟨fit_node hl, trivial⟩
    have hfew := few_node c
    obtain ⟨a1, a2, a3⟩ := left_geL [nodeC c] 60 12 (by omega)
    have hcn : cntL [nodeC c] ≤ 100000 := by have := (a3 hfew).2; omega
    have HRD := Lib.hid (fun cs W B h1 h2 => field_Read (nodeC c) cs W B h1 h2 hcn hfit)
    unfold ReadPost at HRD
    rw [read_node hok] at HRD
    have HFew := Lib.hid (fun g W (h : ROk W W.heap.size (some ⟨g, 0, none⟩) [nodeC c]) => ref9_FewG [nodeC c] (some ⟨g, 0, none⟩) 1 W W.heap.size 60 (by omega) (by omega) (by simp [maxLen]) hfit (Nat.le_refl _) h)
    rw [decide_eq_true hfew] at HFew
    have HTC := Lib.hid (fun g W (h : ROk W W.heap.size (some ⟨g, 0, none⟩) [nodeC c]) => tree_CheckG [nodeC c] (some ⟨g, 0, none⟩) 1 W W.heap.size hcn (Nat.le_refl _) h hfit)
    have hck : checkL 0 [nodeC c] = 0 := check_block (l := kidsC c) hok (fun k hk => kid_check hok (kidOf_self hk) 1) 0
    rw [hck] at HTC
    have heq := fun W => run_eqCal W c c
    rw [decide_eq_true (rfl : c = c)] at heq
    generalize nodeC c = n at *
    clear hok hec hfit hfew a1 a2 a3 hcn hck
    obtain ⟨nm, kind, day, month, shift, shape, p0, p1, p2, cycle, extra, first, last, policy⟩ := c
    dsimp only at hbig HX0 HB0 heq
    dsimp only [calV] at HCH HNK HRD
    dsimp only [calV]
    clear hl
    go_enter Try.func5, Try.ntmps5
    go_wp2_with fail
    refine (law11_live _).mono ?_
    rintro e w1 ⟨rfl, hb1⟩
    have HB1 := Lib.hid (HB0.out.trans (hb1.mono HB0.out.size))
    have y1 := (hb1.block w.heap.size (by simp)).trans HX0.out
    have HY1 := Lib.hid y1
    have g0 := Joins.cell_of_block y1 0; have g1 := Joins.cell_of_block y1 1; have g2 := Joins.cell_of_block y1 2; have g3 := Joins.cell_of_block y1 3; have g4 := Joins.cell_of_block y1 4; have g5 := Joins.cell_of_block y1 5; have g6 := Joins.cell_of_block y1 6; have g7 := Joins.cell_of_block y1 7; have g8 := Joins.cell_of_block y1 8; have g9 := Joins.cell_of_block y1 9; have g10 := Joins.cell_of_block y1 10; have g11 := Joins.cell_of_block y1 11; have g12 := Joins.cell_of_block y1 12; have g13 := Joins.cell_of_block y1 13
    have hl1 := (Array.getElem?_eq_some_iff.1 y1).1
    clear hb1 y1
    go_wp2_with fail
    refine (HNK.out _).mono ?_
    rintro e w2 ⟨gw, g, cap, N, rfl, hnode, hb2⟩
    have HB2 := Lib.hid (HB1.out.trans (hb2.mono HB1.out.size))
    have y2 := (hb2.block w.heap.size hl1).trans HY1.out
    have HY2 := Lib.hid y2
    have hl2 := (Array.getElem?_eq_some_iff.1 y2).1
    have HN2 := Lib.hid hnode
    clear g0 g1 g2 g3 g4 g5 g6 g7 g8 g9 g10 g11 g12 g13 hb2 hnode y2
    go_wp2_with fail
    refine (HRD.out _ _ w2.heap.size (by simp) (HN2.out.below (below_cal w2 _))).mono ?_
    rintro e w3 ⟨rfl, hb3⟩
    have hba := below_alloc1 HB2.out (.cells #[.string ⟨b_calendar.toArray⟩, .int .i64 0, .slice (some ⟨gw, 0, none⟩) 1 1, .bool true, .slice (some ⟨g, 0, none⟩) N cap] 25)
    have HB3 := Lib.hid (hba.trans (hb3.mono hba.size))
    have hb23 : Below w2.heap.size w2 w3 := (below_cal w2 _).trans (hb3.mono (below_cal w2 _).size)
    have x3 := (hb3.block w2.heap.size (by simp)).trans (heap_alloc_new w2 _)
    have y3 := (hb23.block w.heap.size hl2).trans HY2.out
    have HN3 := Lib.hid (HN2.out.below hb23)
    have HX3 := Lib.hid x3
    have HY3 := Lib.hid y3
    have hs3 := hb23.size
    have g0 := Joins.cell_of_block y3 0; have g1 := Joins.cell_of_block y3 1; have g2 := Joins.cell_of_block y3 2; have g3 := Joins.cell_of_block y3 3; have g4 := Joins.cell_of_block y3 4; have g5 := Joins.cell_of_block y3 5; have g6 := Joins.cell_of_block y3 6; have g7 := Joins.cell_of_block y3 7; have g8 := Joins.cell_of_block y3 8; have g9 := Joins.cell_of_block y3 9; have g10 := Joins.cell_of_block y3 10; have g11 := Joins.cell_of_block y3 11; have g12 := Joins.cell_of_block y3 12; have g13 := Joins.cell_of_block y3 13
    have hl3 := (Array.getElem?_eq_some_iff.1 y3).1
    clear hb3 hba hb23 x3 y3
    have hlx : w2.heap.size < w3.heap.size := (Array.getElem?_eq_some_iff.1 HX3.out).1
    have HL := Lib.hid (And.intro hlx hs3)
    clear hlx hs3
    go_wp2_with fail
    refine (HCH.out _).mono ?_
    rintro e w4 ⟨rfl, hb4⟩
    have hb34 : Below w3.heap.size w3 w4 := (below_cal w3 _).trans (hb4.mono (below_cal w3 _).size)
    have HB4 := Lib.hid (HB3.out.trans (hb34.mono HB3.out.size))
    have x4 := (hb34.block w2.heap.size HL.out.1).trans HX3.out
    have HX4 := Lib.hid x4
    have HN4 := Lib.hid (HN3.out.below (hb34.mono HL.out.2))
    have HL4 := Lib.hid (Nat.le_trans HL.out.2 hb34.size)
    have z0 := Joins.cell_of_block x4 0
    have z1 := Joins.cell_of_block x4 1
    have z2 := Joins.cell_of_block x4 2
    have z3 := Joins.cell_of_block x4 3
    have z4 := Joins.cell_of_block x4 4
    have HRK4 := Lib.hid (rok_new w4 n _ 25 (HN4.out.up HL4.out))
    clear hb4 hb34 x4 g0 g1 g2 g3 g4 g5 g6 g7 g8 g9 g10 g11 g12 g13
    go_wp2_with fail
    refine (HFew.out _ _ HRK4.out).mono ?_
    rintro e w5 ⟨rfl, hb5⟩
    have hb45 : Below w4.heap.size w4 w5 := (below_cal w4 _).trans (hb5.mono (below_cal w4 _).size)
    have HB5 := Lib.hid (HB4.out.trans (hb45.mono HB4.out.size))
    have x5 := (hb45.block w2.heap.size (Array.getElem?_eq_some_iff.1 HX4.out).1).trans HX4.out
    have HN5 := Lib.hid (HN4.out.below (hb45.mono HL4.out))
    have HL5 := Lib.hid (Nat.le_trans HL4.out hb45.size)
    have u0 := Joins.cell_of_block x5 0
    have u1 := Joins.cell_of_block x5 1
    have u2 := Joins.cell_of_block x5 2
    have u3 := Joins.cell_of_block x5 3
    have u4 := Joins.cell_of_block x5 4
    have HRK5 := Lib.hid (rok_new w5 n _ 25 (HN5.out.up HL5.out))
    clear hb5 hb45 x5 z0 z1 z2 z3 z4
    go_wp2_with fail
    refine (HTC.out _ _ HRK5.out).mono ?_
    rintro e w6 ⟨rfl, hb6⟩
    have HB6 := Lib.hid (HB5.out.trans (((below_cal w5 _).trans (hb6.mono (below_cal w5 _).size)).mono HB5.out.size))
    clear hb6 u0 u1 u2 u3 u4
    go_wp2_with fail
    go_ret
    exact ⟨rfl, HB6.out⟩

end Go.Proofs.Ytmiejdbpogggeaa
