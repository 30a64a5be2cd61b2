import Derived.Test.YtmiejdbpogggeaaPkP
import Derived.Test.YtmiejdbpogggeaaPkO
/- The law FieldEnds walked: it answers true at any two calendars. -/
set_option linter.unusedVariables false
set_option linter.unusedSimpArgs false
set_option maxRecDepth 100000
namespace Go.Proofs.Ytmiejdbpogggeaa
open Go.RowKit

/-- The law's own block, of any calendar: what it looks like. -/
theorem field_block_any (c : CalL) (hl : c.name.length ≤ maxLen) (w : World) : Calls Try.prog 21 #[calV c] w fun e w' =>
    ∃ s p A n cp b A2 n2 cp2, e = .returned (.tuple #[.agg #[.string s, .int .i64 p, .slice A n cp, .bool b, .slice A2 n2 cp2], .bool (okC c)]) ∧ Below w.heap.size w w' := by
  cases hok : okC c
  · refine (field_block_no c hok hl w).mono ?_
    rintro e w1 ⟨rfl, hb⟩
    exact ⟨_, _, _, _, _, _, _, _, _, rfl, hb⟩
  · refine (field_block_ok c hok hl w).mono ?_
    rintro e w1 ⟨gw, g, cap, B, rfl, _, _, _, _, hb⟩
    exact ⟨_, _, _, _, _, _, _, _, _, rfl, hb⟩
def calOc (c d : CalL) (w : World) : World := (w.alloc (calOb c)).alloc (calOb d)
theorem two_cals (w : World) (c d : CalL) : Below w.heap.size w (calOc c d w) ∧ (calOc c d w).heap[w.heap.size]? = some (calOb c) ∧ (calOc c d w).heap[w.heap.size + 1]? = some (calOb d) ∧ (calOc c d w).heap.size = w.heap.size + 2 := by
  have z1 : (w.alloc (calOb c)).heap.size = w.heap.size + 1 := by simp
  refine ⟨(below_alloc1 (Below.refl _ _) _).alloc (by simp) _, ?_, ?_, by simp [calOc]⟩
  · exact (Go.heap_alloc_old _ _ (by omega)).trans (heap_alloc_new w _)
  · have := heap_alloc_new (w.alloc (calOb c)) (calOb d)
    rw [z1] at this
    exact this

theorem row5 {w : World} {M : Nat → Prop} {n : NodeL} {cs : List Value} (h : NodeOk w M n cs) : ∃ a b c d e, cs = [a, b, c, d, e] := by
  obtain ⟨nm, p, ws, b, ks⟩ := n
  simp only [NodeOk] at h
  obtain ⟨_, _, _, _, _, rfl, _⟩ := h
  exact ⟨_, _, _, _, _, rfl⟩
theorem row5s {w : World} {M : Nat → Prop} {n : NodeL} {cs : List Value} (h : NodeOk w M n cs) : ∃ s p A m c b A' m' c', cs = [.string s, .int .i64 p, .slice A m c, .bool b, .slice A' m' c'] := by
  obtain ⟨nm, p, ws, b, ks⟩ := n
  simp only [NodeOk] at h
  obtain ⟨_, _, _, _, _, rfl, _⟩ := h
  exact ⟨_, _, _, _, _, _, _, _, _, rfl⟩
/-- What is known when both blocks are laid. -/
structure EndsMid (w : World) (oc od : Obj) (bc nm : Bytes) (kn kd : List NodeL) (g gw N cap B bn g' L' B' bm : Nat) (ob : Obj) (W : World) : Prop where
  below : Below w.heap.size w W
  calc_ : W.heap[w.heap.size]? = some oc
  cald : W.heap[w.heap.size + 1]? = some od
  nblk : NodeBlk W bn bc 100 (.slice (some ⟨gw, 0, none⟩) 1 1) true (.slice (some ⟨g, 0, none⟩) N cap)
  mblk : W.heap[bm]? = some ob
  row : KidRow W 0 B g kn
  words : ReadsM W (fun b => 0 ≤ b ∧ b < B) 4 (some ⟨gw, 0, none⟩) 1 (wS nm).cells
  rowd : KidRow W L' B' g' kd
  low : w.heap.size + 1 < B
  old : w.heap.size + 1 < bn ∧ g < bn ∧ B ≤ bn ∧ bn < L' ∧ bn < bm ∧ g' < bm
theorem ends_mid {w w2 w3 : World} {oc od nb : Obj} {bc nm : Bytes} {kn kd : List NodeL} {g gw N cap B g' B' : Nat} {o : Obj} (hB2 : Below w.heap.size w w2) (y2 : w2.heap[w.heap.size]? = some oc) (v2 : w2.heap[w.heap.size + 1]? = some od) (hl2 : w.heap.size < w2.heap.size) (hm2 : w.heap.size + 1 < w2.heap.size) (hlow : w.heap.size + 1 < B)
    (hrw : ReadsM w2 (fun b => 0 ≤ b ∧ b < B) 4 (some ⟨gw, 0, none⟩) 1 (wS nm).cells) (hrow : KidRow w2 0 B g kn) (hnb : nb = .cells #[.string ⟨bc.toArray⟩, .int .i64 100, .slice (some ⟨gw, 0, none⟩) 1 1, .bool true, .slice (some ⟨g, 0, none⟩) N cap] 25)
    (hrow' : KidRow w3 (w2.alloc nb).heap.size B' g' kd) (hb3 : Below (w2.alloc nb).heap.size (w2.alloc nb) w3) : EndsMid w oc od bc nm kn kd g gw N cap B w2.heap.size g' (w2.heap.size + 1) B' w3.heap.size o (w3.alloc o) := by
  have hz : (w2.alloc nb).heap.size = w2.heap.size + 1 := by simp
  have hs := hb3.size
  have hgl := hrow.lt
  have hg'l := hrow'.lt
  have hBg := hrow.1
  have hb23 : Below w2.heap.size w2 w3 := (below_cal w2 nb).trans (hb3.mono (by omega))
  have hb24 : Below w2.heap.size w2 (w3.alloc o) := hb23.trans ((below_cal w3 o).mono (by omega))
  have hn4 : (w3.alloc o).heap[w2.heap.size]? = some nb := (Go.heap_alloc_old _ _ (by omega)).trans ((hb3.block w2.heap.size (by omega)).trans (heap_alloc_new w2 nb))
  rw [hz] at hrow'
  refine ⟨hB2.trans (hb24.mono hB2.size), (hb24.block _ hl2).trans y2, (hb24.block _ hm2).trans v2, by rw [hnb] at hn4; exact hn4, heap_alloc_new w3 o, hrow.below hb24, hrw.keep (fun _ h => h) (fun q hq => hb24.cell (by have := hq.2; omega)), hrow'.below (below_cal w3 o), hlow, hm2, hgl, by omega, Nat.lt_succ_self _, by omega, hg'l⟩
theorem heap_drew5 (w : World) : w.drew.heap = w.heap := rfl
theorem set5_block (W : World) (g : Nat) (cur : Array Value) (T : TypeId) (v0 v1 v2 v3 v4 : Value) (h : W.heap[g]? = some (.cells cur T (0, 0))) :
    (((((W.setCell ⟨g, 0, none⟩ v0).setCell ⟨g, 1, none⟩ v1).setCell ⟨g, 2, none⟩ v2).setCell ⟨g, 3, none⟩ v3).setCell ⟨g, 4, none⟩ v4).heap[g]? = some (.cells (((((cur.setIfInBounds 0 v0).setIfInBounds 1 v1).setIfInBounds 2 v2).setIfInBounds 3 v3).setIfInBounds 4 v4) T (0, 0)) :=
  heap_set_same _ _ _ _ _ _ _ (heap_set_same _ _ _ _ _ _ _ (heap_set_same _ _ _ _ _ _ _ (heap_set_same _ _ _ _ _ _ _ (heap_set_same _ _ _ _ _ _ _ h))))
theorem set5_list (l : List Value) (v0 v1 v2 v3 v4 : Value) (h : 5 ≤ l.length) : ((((l.set 0 v0).set 1 v1).set 2 v2).set 3 v3).set 4 v4 = [v0, v1, v2, v3, v4] ++ l.drop 5 := by
  match l, h with
  | a :: b :: c :: d :: e :: r, _ => rfl
theorem set5_other (W : World) (g b : Nat) (h : b ≠ g) (v0 v1 v2 v3 v4 : Value) : (((((W.setCell ⟨g, 0, none⟩ v0).setCell ⟨g, 1, none⟩ v1).setCell ⟨g, 2, none⟩ v2).setCell ⟨g, 3, none⟩ v3).setCell ⟨g, 4, none⟩ v4).heap[b]? = W.heap[b]? := by
  rw [heap_setCell_other _ ⟨g, 4, none⟩ _ _ h, heap_setCell_other _ ⟨g, 3, none⟩ _ _ h, heap_setCell_other _ ⟨g, 2, none⟩ _ _ h, heap_setCell_other _ ⟨g, 1, none⟩ _ _ h, heap_setCell_other _ ⟨g, 0, none⟩ _ _ h]
theorem ends_fin {w W : World} {oc od ob : Obj} {bc nm : Bytes} {kn kd : List NodeL} {g gw N cap B bn g' L' B' bm : Nat} {v0 v1 v2 v3 v4 : Value} {ed : NodeL} (h : EndsMid w oc od bc nm kn kd g gw N cap B bn g' L' B' bm ob W) (hv : NodeOk W (fun b => L' ≤ b ∧ b < B') ed [v0, v1, v2, v3, v4]) (hlen : kn.length = N) (hN : 0 < N) (X : World)
    (hX : X = (((((W.setCell ⟨g, 0, none⟩ v0).setCell ⟨g, 1, none⟩ v1).setCell ⟨g, 2, none⟩ v2).setCell ⟨g, 3, none⟩ v3).setCell ⟨g, 4, none⟩ v4).drew) :
    NodeOk X (· < X.heap.size) (.mk bc 100 [wS nm] true (kn.set 0 ed)) [.string ⟨bc.toArray⟩, .int .i64 100, .slice (some ⟨gw, 0, none⟩) 1 1, .bool true, .slice (some ⟨g, 0, none⟩) N cap] ∧
    Below w.heap.size w X ∧ X.heap[w.heap.size]? = some oc ∧ X.heap[w.heap.size + 1]? = some od ∧ NodeBlk X bn bc 100 (.slice (some ⟨gw, 0, none⟩) 1 1) true (.slice (some ⟨g, 0, none⟩) N cap) ∧ X.heap[bm]? = some ob := by
  obtain ⟨qb, qc, qd, qn, qm, qr, qw, qk, ql, q1, q2, q3, q4, q5, q6⟩ := h
  have hoth : ∀ b, b ≠ g → X.heap[b]? = W.heap[b]? := fun b hb => by rw [hX, heap_drew5]; exact set5_other W g b hb _ _ _ _ _
  have hsz : X.heap.size = W.heap.size := by rw [hX, heap_drew5]; simp [World.setCell]
  have hBg := qr.1
  have hgl := qr.lt
  have hml : bm < W.heap.size := (Array.getElem?_eq_some_iff.1 qm).1
  have hkl := qk.lt
  have hkB := qk.1
  obtain ⟨_, cur, hg, h1, h2⟩ := qr
  have hXg := set5_block W g cur _ v0 v1 v2 v3 v4 hg
  have hXe := congrArg World.heap hX
  rw [heap_drew5] at hXe
  rw [← hXe] at hXg
  refine ⟨?_, ?_, (hoth _ (by omega)).trans qc, (hoth _ (by omega)).trans qd, (hoth _ (by omega)).trans qn, (hoth _ (by omega)).trans qm⟩
  · have hks : NodesOk X (· < X.heap.size) (kn.set 0 ed) ([v0, v1, v2, v3, v4] ++ (cur.toList.take (kn.length * 5)).drop 5) := by
      match kn, hlen, hN, h2 with
      | k0 :: tl, hlen, hN, h2 =>
        obtain ⟨_, t2⟩ := h2.takeL 1
        rw [List.set_cons_zero]
        refine NodesOk.append (l := [ed]) (m := tl) (NodesOk.one (NodeOk.keepB (fun b hb => by show b < _; have hb' : L' ≤ b ∧ b < B' := hb; rw [hsz]; omega) (fun b hb => hoth b (by have hb' : L' ≤ b ∧ b < B' := hb; omega)) hv)) ?_
        exact NodesOk.keepB (fun b hb => by show b < _; have hb' : 0 ≤ b ∧ b < B := hb; rw [hsz]; omega) (fun b hb => hoth b (by have hb' : 0 ≤ b ∧ b < B := hb; omega)) t2
    have h5 : 5 ≤ (cur.toList.take (kn.length * 5)).length := by rw [h2.len]; omega
    have hrd : ReadsM X (· < X.heap.size) 5 (some ⟨g, 0, none⟩) (kn.set 0 ed).length ([v0, v1, v2, v3, v4] ++ (cur.toList.take (kn.length * 5)).drop 5) := by
      refine ⟨hks.len, fun _ => ⟨_, rfl, by show g < _; omega, fun j u hu => ?_⟩⟩
      rw [add_blk0, Joins.cell_of_block hXg j]
      have hj := (List.getElem?_eq_some_iff.1 hu).1
      rw [hks.len, List.length_set] at hj
      rw [← set5_list (cur.toList.take (kn.length * 5)) v0 v1 v2 v3 v4 h5] at hu
      rw [← Array.getElem?_toList]
      simp only [Array.toList_setIfInBounds]
      simp only [← List.take_set] at hu
      rw [List.getElem?_take_of_lt hj] at hu
      exact hu
    simp only [NodeOk]
    refine ⟨some ⟨gw, 0, none⟩, 1, some ⟨g, 0, none⟩, cap, _, by rw [List.length_set, hlen]; rfl, (fun h => by cases h), (fun h => by cases h), ?_, hrd, hks⟩
    simpa using qw.keep (w' := X) (M' := (· < X.heap.size)) (fun b hb => by show b < _; have hb' : 0 ≤ b ∧ b < B := hb; rw [hsz]; omega) (fun q hq => World.cell?_of_block (hoth _ (by have := hq.2; omega)))
  · rw [hX]
    refine Below.drew ?_
    repeat (first | exact qb | refine Below.setCell ?_ (by show w.heap.size ≤ g; omega) _)
set_option maxHeartbeats 8000000 in
theorem walk_FieldEnds (c d : CalL) (w : World) (hl : c.name.length ≤ maxLen) (hld : d.name.length ≤ maxLen) :
    Calls Try.prog 9 #[calV c, calV d] w fun e w' => e = .returned (.bool true) ∧ Below w.heap.size w w' := by
  have HX0 := Lib.hid (two_cals w c d)
  have HCH := Lib.hid (fun W => field_Check c hl W)
  have HCD := Lib.hid (fun W => field_Check d hld W)
  unfold calOc calOb at HX0
  by_cases hbig : (100 : Int) < c.name.length ∨ (100 : Int) < d.name.length
  · have hbb : ((100 : Int) < c.name.length ) ∨ ((c.name.length : Int) ≤ 100 ∧ (100 : Int) < d.name.length) := by
      by_cases h : (100 : Int) < c.name.length
      · exact .inl h
      · rcases hbig with h1 | h1
        · exact absurd h1 h
        · exact .inr ⟨by omega, h1⟩
    obtain ⟨nm, kind, day, month, shift, shape, p0, p1, p2, cycle, extra, first, last, policy⟩ := c
    obtain ⟨dnm, dkind, dday, dmonth, dshift, dshape, dp0, dp1, dp2, dcycle, dextra, dfirst, dlast, dpolicy⟩ := d
    dsimp only at HX0 hbb
    dsimp only [calV]
    clear HCH HCD hbig hl hld
    rcases hbb with hb' | ⟨hb0, hb'⟩ <;> (
      go_enter Try.func9, Try.ntmps9
      go_wp2_with fail
      refine (law11_live _).mono ?_
      rintro e w1 ⟨rfl, hb1⟩
      have HB1 := Lib.hid (HX0.out.1.trans (hb1.mono HX0.out.1.size))
      have e0 := Joins.cell_of_block ((hb1.block w.heap.size (by simp; omega)).trans HX0.out.2.1) 0
      have e1 := Joins.cell_of_block ((hb1.block (w.heap.size + 1) (by simp)).trans HX0.out.2.2.1) 0
      clear hb1
      go_wp2_with fail
      go_ret
      exact ⟨rfl, HB1.out⟩)
  have hbc : (c.name.length : Int) ≤ 100 := by
    have h : ¬ (100 : Int) < c.name.length := fun h => hbig (.inl h)
    omega
  have hbd : (d.name.length : Int) ≤ 100 := by
    have h : ¬ (100 : Int) < d.name.length := fun h => hbig (.inr h)
    omega
  clear hbig
  by_cases hboth : okC c = true ∧ okC d = true
  · obtain ⟨hok, hod⟩ := hboth
    have HBC := Lib.hid (fun W => field_block_ok c hok hl W)
    have HBD := Lib.hid (fun W => field_block_ok2 d hod hld W)
    unfold BlockPost at HBC
    unfold BlockPost2 at HBD
    have h3 := kids_three c
    have h6 := kids_len c
    have k3 := kids_three d
    have k6 := kids_len d
    have hES := read_ended hok hod
    have hhd := num_head d
    obtain ⟨r, hr⟩ : ∃ r, readC (.mk b_calendar 100 [wS c.name] true ((numK (kidsC c)).set 0 (endL d))) = r := ⟨_, rfl⟩
    rw [hr] at hES
    obtain ⟨⟨rn, rk, rd, rm, rs, rh, rp, rq, ro, rc, rx, rf, rl, ry⟩, rat, rerr⟩ := r
    have HRD := Lib.hid (fun W cs h => block_call (r := ⟨⟨rn, rk, rd, rm, rs, rh, rp, rq, ro, rc, rx, rf, rl, ry⟩, rat, rerr⟩) hl (by rw [List.length_set, numK_len]; omega) (fun x hx => by
      rcases List.mem_or_eq_of_mem_set hx with h | h
      · exact kid_fit hl (numK_of h)
      · rw [h]; exact kid_fit hld (numK_of (List.mem_of_getElem? hhd))) hr W cs h)
    have hknl : (numK (kidsC c)).length = (kidsC c).length := numK_len _
    have hdnl : (numK (kidsC d)).length = (kidsC d).length := numK_len _
    have hes : (rerr = 0 ∧ rat = 0 ∧ rk = d.kind ∧ rd = d.day ∧ rm = d.month ∧ rf = c.first ∧ ry = c.policy ∧ rn = c.name ∧ (kidsC d).length ≤ (kidsC c).length) ∨
      ((⟨rn, rk, rd, rm, rs, rh, rp, rq, ro, rc, rx, rf, rl, ry⟩ : CalL) = calZ ∧ ((rerr = 8 ∧ 2 ≤ rat ∧ rat ≤ 6) ∨ (rerr = 10 ∧ rat = 100) ∨ (rerr = 1 ∧ rat = 100))) := by
      rcases hES with h | ⟨h1, h2 | ⟨h2 | h2, h3⟩⟩
      · exact .inl h
      · exact .inr ⟨h1, .inl h2⟩
      · exact .inr ⟨h1, .inr (.inl ⟨h2, h3⟩)⟩
      · exact .inr ⟨h1, .inr (.inr ⟨h2, h3⟩)⟩
    generalize endL d = ed at *
    generalize numK (kidsC c) = kn at *
    generalize numK (kidsC d) = kd at *
    generalize b_calendar = bc at *
    obtain ⟨N, hN⟩ : ∃ N, (kidsC c).length = N := ⟨_, rfl⟩
    obtain ⟨D, hD⟩ : ∃ D, (kidsC d).length = D := ⟨_, rfl⟩
    rw [hN] at h3 h6 hknl hes
    rw [hN] at HBC
    rw [hD] at k3 k6 hdnl hes
    rw [hD] at HBD
    have hN0 : (0 : Int) < N := by omega
    have hD0 : (0 : Int) < D := by omega
    have heq := fun W => run_eqCal W calZ calZ
    rw [decide_eq_true (rfl : calZ = calZ)] at heq
    dsimp only [calZ] at heq
    have HK := Lib.hid (And.intro hknl (And.intro hdnl (And.intro h3 (And.intro h6 (And.intro k3 k6)))))
    have HHD := Lib.hid hhd
    have HES := Lib.hid hes
    clear hN hD hok hod h3 h6 k3 k6 hknl hdnl hES hes hr hhd
    obtain ⟨nm, kind, day, month, shift, shape, p0, p1, p2, cycle, extra, first, last, policy⟩ := c
    obtain ⟨dnm, dkind, dday, dmonth, dshift, dshape, dp0, dp1, dp2, dcycle, dextra, dfirst, dlast, dpolicy⟩ := d
    dsimp only at HX0 hbc hbd HBC HBD HRD HES
    dsimp only [calV] at HBC HBD HRD
    dsimp only [calV]
    clear hl hld HCH HCD
    go_enter Try.func9, Try.ntmps9
    go_wp2_with fail
    refine (law11_live _).mono ?_
    rintro e w1 ⟨rfl, hb1⟩
    have HB1 := Lib.hid (HX0.out.1.trans (hb1.mono HX0.out.1.size))
    have y1 := (hb1.block w.heap.size (by simp; omega)).trans HX0.out.2.1
    have v1 := (hb1.block (w.heap.size + 1) (by simp)).trans HX0.out.2.2.1
    have HY1 := Lib.hid (And.intro y1 v1)
    have g0 := Joins.cell_of_block y1 0; have g1 := Joins.cell_of_block y1 1; have g2 := Joins.cell_of_block y1 2; have g3 := Joins.cell_of_block y1 3; have g4 := Joins.cell_of_block y1 4; have g5 := Joins.cell_of_block y1 5; have g6 := Joins.cell_of_block y1 6; have g7 := Joins.cell_of_block y1 7; have g8 := Joins.cell_of_block y1 8; have g9 := Joins.cell_of_block y1 9; have g10 := Joins.cell_of_block y1 10; have g11 := Joins.cell_of_block y1 11; have g12 := Joins.cell_of_block y1 12; have g13 := Joins.cell_of_block y1 13
    have e0 := Joins.cell_of_block v1 0
    have hl1 := (Array.getElem?_eq_some_iff.1 y1).1
    have hm1 := (Array.getElem?_eq_some_iff.1 v1).1
    have HM1 := Lib.hid hm1
    clear hb1 y1 v1
    go_wp2_with fail
    refine (HBC.out _).mono ?_
    rintro e w2 ⟨gw, g, cap, B, rfl, hcap, hB, hrw, hrow, hb2⟩
    have HB2 := Lib.hid (HB1.out.trans (hb2.mono HB1.out.size))
    have HY2 := Lib.hid (And.intro ((hb2.block w.heap.size hl1).trans HY1.out.1) ((hb2.block (w.heap.size + 1) hm1).trans HY1.out.2))
    have y2 := HY2.out.1
    have v2 := HY2.out.2
    have hl2 := (Array.getElem?_eq_some_iff.1 y2).1
    have hm2 := (Array.getElem?_eq_some_iff.1 v2).1
    have HR2 := Lib.hid (And.intro hB (And.intro hrw hrow))
    clear g0 g1 g2 g3 g4 g5 g6 g7 g8 g9 g10 g11 g12 g13 hb2 e0 hl1 hm1 y2 hB hrw hrow
    have g0 := Joins.cell_of_block v2 0; have g1 := Joins.cell_of_block v2 1; have g2 := Joins.cell_of_block v2 2; have g3 := Joins.cell_of_block v2 3; have g4 := Joins.cell_of_block v2 4; have g5 := Joins.cell_of_block v2 5; have g6 := Joins.cell_of_block v2 6; have g7 := Joins.cell_of_block v2 7; have g8 := Joins.cell_of_block v2 8; have g9 := Joins.cell_of_block v2 9; have g10 := Joins.cell_of_block v2 10; have g11 := Joins.cell_of_block v2 11; have g12 := Joins.cell_of_block v2 12; have g13 := Joins.cell_of_block v2 13
    clear v2
    go_wp2_with fail
    refine (HBD.out _).mono ?_
    rintro e w3 ⟨gw', g', cap', B', rfl, hcap', hB', hrw', hrow', hb3⟩
    have HE := Lib.hid (ends_mid (o := .cells #[.string ⟨bc.toArray⟩, .int .i64 100, .slice (some ⟨gw', 0, none⟩) 1 1, .bool true, .slice (some ⟨g', 0, none⟩) D cap'] 25) HB2.out HY2.out.1 HY2.out.2 hl2 hm2 (Nat.lt_of_lt_of_le HM1.out HR2.out.1) HR2.out.2.1 HR2.out.2.2 rfl hrow' hb3)
    clear g0 g1 g2 g3 g4 g5 g6 g7 g8 g9 g10 g11 g12 g13 hb3 hl2 hm2 hB' hrw' hrow'
    go_wp2_with fail
    generalize hbm : w3.heap.size = bm at *
    generalize hbn : w2.heap.size = bn at *
    generalize w3.alloc _ = W at *
    clear hbm hbn
    obtain ⟨qb, qc, qd, qn, qm, qr, qw, qk, ql, qo⟩ := HE.out
    have hhn : ∃ x, kn[0]? = some x := ⟨_, List.getElem?_eq_getElem (by have := HK.out; omega)⟩
    obtain ⟨kn0, hkn0⟩ := hhn
    obtain ⟨ru, hu1, hu2⟩ := qr.cell 0 kn0 hkn0
    obtain ⟨u0, u1, u2, u3, u4, rfl⟩ := row5 hu1
    obtain ⟨rv, hv1, hv2⟩ := qk.cell 0 ed HHD.out
    obtain ⟨s0, s1, A2, n2, a2, s3, A4, n4, a4, rfl⟩ := row5s hv1
    have HV := Lib.hid hv1
    have x4 : W.cell? ⟨bn, 4, none⟩ = some (.slice (some ⟨g, 0, none⟩) N cap) := Joins.cell_of_block qn 4
    have m4 : W.cell? ⟨bm, 4, none⟩ = some (.slice (some ⟨g', 0, none⟩) D cap') := Joins.cell_of_block qm 4
    have c0 : W.cell? ⟨g', 0, none⟩ = some (.string s0) := hv2 0 (by decide)
    have c1 : W.cell? ⟨g', 1, none⟩ = some (.int .i64 s1) := hv2 1 (by decide)
    have c2 : W.cell? ⟨g', 2, none⟩ = some (.slice A2 n2 a2) := hv2 2 (by decide)
    have c3 : W.cell? ⟨g', 3, none⟩ = some (.bool s3) := hv2 3 (by decide)
    have c4 : W.cell? ⟨g', 4, none⟩ = some (.slice A4 n4 a4) := hv2 4 (by decide)
    have d0 : W.cell? ⟨g, 0, none⟩ = some u0 := hu2 0 (by decide)
    have d1 : W.cell? ⟨g, 1, none⟩ = some u1 := hu2 1 (by decide)
    have d2 : W.cell? ⟨g, 2, none⟩ = some u2 := hu2 2 (by decide)
    have d3 : W.cell? ⟨g, 3, none⟩ = some u3 := hu2 3 (by decide)
    have d4 : W.cell? ⟨g, 4, none⟩ = some u4 := hu2 4 (by decide)
    have f0 := qr.unfrozen 0
    have f1 := qr.unfrozen 1
    have f2 := qr.unfrozen 2
    have f3 := qr.unfrozen 3
    have f4 := qr.unfrozen 4
    clear qb qc qd qn qm qr qw qk ql qo hu1 hu2 hv1 hv2 hkn0
    go_region
    obtain ⟨hfn, hfb, hfc, hfd, hfk, hfm⟩ := ends_fin HE.out HV.out HK.out.1 (by omega) _ rfl
    have z0 := Joins.cell_of_block hfk 0
    have z1 := Joins.cell_of_block hfk 1
    have z2 := Joins.cell_of_block hfk 2
    have z3 := Joins.cell_of_block hfk 3
    have z4 := Joins.cell_of_block hfk 4
    have HF := Lib.hid (And.intro hfn (And.intro hfb (And.intro hfc (And.intro hfd (And.intro hfk hfm)))))
    clear hfn hfb hfc hfd hfk hfm HE HV x4 m4 c0 c1 c2 c3 c4 d0 d1 d2 d3 d4 f0 f1 f2 f3 f4
    generalize World.drew _ = X at *
    go_wp2_with fail
    refine (HRD.out _ _ HF.out.1).mono ?_
    rintro e w4 ⟨rfl, hb4⟩
    have HB4 := Lib.hid (HF.out.2.1.trans (hb4.mono HF.out.2.1.size))
    have yC := (hb4.block w.heap.size (Array.getElem?_eq_some_iff.1 HF.out.2.2.1).1).trans HF.out.2.2.1
    have yD := (hb4.block (w.heap.size + 1) (Array.getElem?_eq_some_iff.1 HF.out.2.2.2.1).1).trans HF.out.2.2.2.1
    have yN := HF.out.2.2.2.2.1.keep hb4
    have yM := (hb4.block bm (Array.getElem?_eq_some_iff.1 HF.out.2.2.2.2.2).1).trans HF.out.2.2.2.2.2
    have g0 := Joins.cell_of_block yC 0; have g1 := Joins.cell_of_block yC 1; have g2 := Joins.cell_of_block yC 2; have g3 := Joins.cell_of_block yC 3; have g4 := Joins.cell_of_block yC 4; have g5 := Joins.cell_of_block yC 5; have g6 := Joins.cell_of_block yC 6; have g7 := Joins.cell_of_block yC 7; have g8 := Joins.cell_of_block yC 8; have g9 := Joins.cell_of_block yC 9; have g10 := Joins.cell_of_block yC 10; have g11 := Joins.cell_of_block yC 11; have g12 := Joins.cell_of_block yC 12; have g13 := Joins.cell_of_block yC 13
    have e1 := Joins.cell_of_block yD 1
    have e2 := Joins.cell_of_block yD 2
    have e3 := Joins.cell_of_block yD 3
    have n4 := Joins.cell_of_block yN 4
    have m4 := Joins.cell_of_block yM 4
    have lC := (Array.getElem?_eq_some_iff.1 yC).1
    have lD := (Array.getElem?_eq_some_iff.1 yD).1
    have lN := yN.lt
    have lM := (Array.getElem?_eq_some_iff.1 yM).1
    clear hb4 yC yD yN yM z0 z1 z2 z3 z4 HF HRD
    rcases HES.out with ⟨rfl, rfl, rfl, rfl, rfl, rfl, rfl, rfl, hDN⟩ | ⟨hcz, h⟩
    · clear HES heq
      have hdn : (D : Int) ≤ N := by omega
      go_wp2_with fail
      go_ret
      exact ⟨rfl, below_alloc1 HB4.out _⟩
    · simp only [calZ, CalL.mk.injEq] at hcz
      obtain ⟨rfl, rfl, rfl, rfl, rfl, rfl, rfl, rfl, rfl, rfl, rfl, rfl, rfl, rfl⟩ := hcz
      clear HES
      rcases h with ⟨rfl, hr2, hr6⟩ | ⟨rfl, rfl⟩ | ⟨rfl, rfl⟩
      · have q2 : decide (2 ≤ rat) = true := decide_eq_true hr2
        have q6 : decide (rat ≤ 6) = true := decide_eq_true hr6
        go_wp2_with fail
        go_ret
        exact ⟨rfl, below_alloc1 HB4.out _⟩
      · go_wp2_with fail
        go_ret
        exact ⟨rfl, below_alloc1 HB4.out _⟩
      · go_wp2_with fail
        go_ret
        exact ⟨rfl, below_alloc1 HB4.out _⟩
  · have HBC := Lib.hid (fun W => field_block_any c hl W)
    have HBD := Lib.hid (fun W => field_block_any d hld W)
    have hee : (okC c = false ∧ errC c = 1 ∧ ∃ x, errC d = x ∧ okC d = okC d) ∨ (okC c = true ∧ errC c = 0 ∧ okC d = false ∧ errC d = 1) := by
      unfold errC
      cases h1 : okC c
      · exact .inl ⟨rfl, rfl, _, rfl, rfl⟩
      · cases h2 : okC d
        · exact .inr ⟨rfl, rfl, rfl, rfl⟩
        · exact absurd ⟨h1, h2⟩ hboth
    generalize okC c = oc at *
    generalize okC d = od at *
    generalize errC c = ec at *
    generalize errC d = ed at *
    clear hboth
    obtain ⟨nm, kind, day, month, shift, shape, p0, p1, p2, cycle, extra, first, last, policy⟩ := c
    obtain ⟨dnm, dkind, dday, dmonth, dshift, dshape, dp0, dp1, dp2, dcycle, dextra, dfirst, dlast, dpolicy⟩ := d
    dsimp only at HX0 hbc hbd
    dsimp only [calV] at HCH HCD HBC HBD
    dsimp only [calV]
    clear hl hld
    rcases hee with ⟨rfl, rfl, _⟩ | ⟨rfl, rfl, rfl, rfl⟩
    · cases od <;> (
        go_enter Try.func9, Try.ntmps9
        go_wp2_with fail
        refine (law11_live _).mono ?_
        rintro e w1 ⟨rfl, hb1⟩
        have HB1 := Lib.hid (HX0.out.1.trans (hb1.mono HX0.out.1.size))
        have y1 := (hb1.block w.heap.size (by simp; omega)).trans HX0.out.2.1
        have v1 := (hb1.block (w.heap.size + 1) (by simp)).trans HX0.out.2.2.1
        have HY1 := Lib.hid (And.intro y1 v1)
        have g0 := Joins.cell_of_block y1 0; have g1 := Joins.cell_of_block y1 1; have g2 := Joins.cell_of_block y1 2; have g3 := Joins.cell_of_block y1 3; have g4 := Joins.cell_of_block y1 4; have g5 := Joins.cell_of_block y1 5; have g6 := Joins.cell_of_block y1 6; have g7 := Joins.cell_of_block y1 7; have g8 := Joins.cell_of_block y1 8; have g9 := Joins.cell_of_block y1 9; have g10 := Joins.cell_of_block y1 10; have g11 := Joins.cell_of_block y1 11; have g12 := Joins.cell_of_block y1 12; have g13 := Joins.cell_of_block y1 13
        have e0 := Joins.cell_of_block v1 0
        have hl1 := (Array.getElem?_eq_some_iff.1 y1).1
        have hm1 := (Array.getElem?_eq_some_iff.1 v1).1
        clear hb1 y1 v1
        go_wp2_with fail
        refine (HBC.out _).mono ?_
        rintro e w2 ⟨s2, p2', A2, n2, cp2, b2, K2, m2, q2, rfl, hb2⟩
        have HB2 := Lib.hid (HB1.out.trans (hb2.mono HB1.out.size))
        have HY2 := Lib.hid (And.intro ((hb2.block w.heap.size hl1).trans HY1.out.1) ((hb2.block (w.heap.size + 1) hm1).trans HY1.out.2))
        have y2 := HY2.out.1
        have v2 := HY2.out.2
        have hl2 := (Array.getElem?_eq_some_iff.1 y2).1
        have hm2 := (Array.getElem?_eq_some_iff.1 v2).1
        clear g0 g1 g2 g3 g4 g5 g6 g7 g8 g9 g10 g11 g12 g13 hb2 e0 hl1 hm1 y2
        have g0 := Joins.cell_of_block v2 0; have g1 := Joins.cell_of_block v2 1; have g2 := Joins.cell_of_block v2 2; have g3 := Joins.cell_of_block v2 3; have g4 := Joins.cell_of_block v2 4; have g5 := Joins.cell_of_block v2 5; have g6 := Joins.cell_of_block v2 6; have g7 := Joins.cell_of_block v2 7; have g8 := Joins.cell_of_block v2 8; have g9 := Joins.cell_of_block v2 9; have g10 := Joins.cell_of_block v2 10; have g11 := Joins.cell_of_block v2 11; have g12 := Joins.cell_of_block v2 12; have g13 := Joins.cell_of_block v2 13
        clear v2
        go_wp2_with fail
        refine (HBD.out _).mono ?_
        rintro e w3 ⟨s3, p3', A3, n3, cp3, b3, K3, m3, q3, rfl, hb3⟩
        have hba := below_alloc1 HB2.out (.cells #[.string s2, .int .i64 p2', .slice A2 n2 cp2, .bool b2, .slice K2 m2 q2] 25)
        have hbb3 : Below w2.heap.size w2 w3 := (below_cal w2 _).trans (hb3.mono (below_cal w2 _).size)
        have HB3 := Lib.hid (HB2.out.trans (hbb3.mono HB2.out.size))
        have y3 := (hbb3.block w.heap.size hl2).trans HY2.out.1
        have v3 := (hbb3.block (w.heap.size + 1) hm2).trans HY2.out.2
        have HY3 := Lib.hid (And.intro y3 v3)
        have hl3 := (Array.getElem?_eq_some_iff.1 y3).1
        have hm3 := (Array.getElem?_eq_some_iff.1 v3).1
        clear g0 g1 g2 g3 g4 g5 g6 g7 g8 g9 g10 g11 g12 g13 hb3 hbb3 hba v3 hl2 hm2
        have g0 := Joins.cell_of_block y3 0; have g1 := Joins.cell_of_block y3 1; have g2 := Joins.cell_of_block y3 2; have g3 := Joins.cell_of_block y3 3; have g4 := Joins.cell_of_block y3 4; have g5 := Joins.cell_of_block y3 5; have g6 := Joins.cell_of_block y3 6; have g7 := Joins.cell_of_block y3 7; have g8 := Joins.cell_of_block y3 8; have g9 := Joins.cell_of_block y3 9; have g10 := Joins.cell_of_block y3 10; have g11 := Joins.cell_of_block y3 11; have g12 := Joins.cell_of_block y3 12; have g13 := Joins.cell_of_block y3 13
        clear y3
        go_wp2_with fail
        refine (HCH.out _).mono ?_
        rintro e w4 ⟨rfl, hb4⟩
        have hba := below_alloc1 HB3.out (.cells #[.string s3, .int .i64 p3', .slice A3 n3 cp3, .bool b3, .slice K3 m3 q3] 25)
        have HB4 := Lib.hid (hba.trans (hb4.mono hba.size))
        clear hb4 hba
        go_wp2_with fail
        go_ret
        exact ⟨rfl, HB4.out⟩)
    · skip
      go_enter Try.func9, Try.ntmps9
      go_wp2_with fail
      refine (law11_live _).mono ?_
      rintro e w1 ⟨rfl, hb1⟩
      have HB1 := Lib.hid (HX0.out.1.trans (hb1.mono HX0.out.1.size))
      have y1 := (hb1.block w.heap.size (by simp; omega)).trans HX0.out.2.1
      have v1 := (hb1.block (w.heap.size + 1) (by simp)).trans HX0.out.2.2.1
      have HY1 := Lib.hid (And.intro y1 v1)
      have g0 := Joins.cell_of_block y1 0; have g1 := Joins.cell_of_block y1 1; have g2 := Joins.cell_of_block y1 2; have g3 := Joins.cell_of_block y1 3; have g4 := Joins.cell_of_block y1 4; have g5 := Joins.cell_of_block y1 5; have g6 := Joins.cell_of_block y1 6; have g7 := Joins.cell_of_block y1 7; have g8 := Joins.cell_of_block y1 8; have g9 := Joins.cell_of_block y1 9; have g10 := Joins.cell_of_block y1 10; have g11 := Joins.cell_of_block y1 11; have g12 := Joins.cell_of_block y1 12; have g13 := Joins.cell_of_block y1 13
      have e0 := Joins.cell_of_block v1 0
      have hl1 := (Array.getElem?_eq_some_iff.1 y1).1
      have hm1 := (Array.getElem?_eq_some_iff.1 v1).1
      clear hb1 y1 v1
      go_wp2_with fail
      refine (HBC.out _).mono ?_
      rintro e w2 ⟨s2, p2', A2, n2, cp2, b2, K2, m2, q2, rfl, hb2⟩
      have HB2 := Lib.hid (HB1.out.trans (hb2.mono HB1.out.size))
      have HY2 := Lib.hid (And.intro ((hb2.block w.heap.size hl1).trans HY1.out.1) ((hb2.block (w.heap.size + 1) hm1).trans HY1.out.2))
      have y2 := HY2.out.1
      have v2 := HY2.out.2
      have hl2 := (Array.getElem?_eq_some_iff.1 y2).1
      have hm2 := (Array.getElem?_eq_some_iff.1 v2).1
      clear g0 g1 g2 g3 g4 g5 g6 g7 g8 g9 g10 g11 g12 g13 hb2 e0 hl1 hm1 y2
      have g0 := Joins.cell_of_block v2 0; have g1 := Joins.cell_of_block v2 1; have g2 := Joins.cell_of_block v2 2; have g3 := Joins.cell_of_block v2 3; have g4 := Joins.cell_of_block v2 4; have g5 := Joins.cell_of_block v2 5; have g6 := Joins.cell_of_block v2 6; have g7 := Joins.cell_of_block v2 7; have g8 := Joins.cell_of_block v2 8; have g9 := Joins.cell_of_block v2 9; have g10 := Joins.cell_of_block v2 10; have g11 := Joins.cell_of_block v2 11; have g12 := Joins.cell_of_block v2 12; have g13 := Joins.cell_of_block v2 13
      clear v2
      go_wp2_with fail
      refine (HBD.out _).mono ?_
      rintro e w3 ⟨s3, p3', A3, n3, cp3, b3, K3, m3, q3, rfl, hb3⟩
      have hba := below_alloc1 HB2.out (.cells #[.string s2, .int .i64 p2', .slice A2 n2 cp2, .bool b2, .slice K2 m2 q2] 25)
      have hbb3 : Below w2.heap.size w2 w3 := (below_cal w2 _).trans (hb3.mono (below_cal w2 _).size)
      have HB3 := Lib.hid (HB2.out.trans (hbb3.mono HB2.out.size))
      have y3 := (hbb3.block w.heap.size hl2).trans HY2.out.1
      have v3 := (hbb3.block (w.heap.size + 1) hm2).trans HY2.out.2
      have HY3 := Lib.hid (And.intro y3 v3)
      have hl3 := (Array.getElem?_eq_some_iff.1 y3).1
      have hm3 := (Array.getElem?_eq_some_iff.1 v3).1
      clear g0 g1 g2 g3 g4 g5 g6 g7 g8 g9 g10 g11 g12 g13 hb3 hbb3 hba v3 hl2 hm2
      have g0 := Joins.cell_of_block y3 0; have g1 := Joins.cell_of_block y3 1; have g2 := Joins.cell_of_block y3 2; have g3 := Joins.cell_of_block y3 3; have g4 := Joins.cell_of_block y3 4; have g5 := Joins.cell_of_block y3 5; have g6 := Joins.cell_of_block y3 6; have g7 := Joins.cell_of_block y3 7; have g8 := Joins.cell_of_block y3 8; have g9 := Joins.cell_of_block y3 9; have g10 := Joins.cell_of_block y3 10; have g11 := Joins.cell_of_block y3 11; have g12 := Joins.cell_of_block y3 12; have g13 := Joins.cell_of_block y3 13
      clear y3
      go_wp2_with fail
      refine (HCH.out _).mono ?_
      rintro e w4 ⟨rfl, hb4⟩
      have hba := below_alloc1 HB3.out (.cells #[.string s3, .int .i64 p3', .slice A3 n3 cp3, .bool b3, .slice K3 m3 q3] 25)
      have hbb4 : Below w3.heap.size w3 w4 := (below_cal w3 _).trans (hb4.mono (below_cal w3 _).size)
      have HB4 := Lib.hid (hba.trans (hb4.mono hba.size))
      have v4 := (hbb4.block (w.heap.size + 1) hm3).trans HY3.out.2
      clear hb4 hba hbb4 g0 g1 g2 g3 g4 g5 g6 g7 g8 g9 g10 g11 g12 g13 hl3 hm3
      have g0 := Joins.cell_of_block v4 0; have g1 := Joins.cell_of_block v4 1; have g2 := Joins.cell_of_block v4 2; have g3 := Joins.cell_of_block v4 3; have g4 := Joins.cell_of_block v4 4; have g5 := Joins.cell_of_block v4 5; have g6 := Joins.cell_of_block v4 6; have g7 := Joins.cell_of_block v4 7; have g8 := Joins.cell_of_block v4 8; have g9 := Joins.cell_of_block v4 9; have g10 := Joins.cell_of_block v4 10; have g11 := Joins.cell_of_block v4 11; have g12 := Joins.cell_of_block v4 12; have g13 := Joins.cell_of_block v4 13
      clear v4
      go_wp2_with fail
      refine (HCD.out _).mono ?_
      rintro e w5 ⟨rfl, hb5⟩
      have HB5 := Lib.hid (HB4.out.trans (hb5.mono HB4.out.size))
      clear hb5
      go_wp2_with fail
      go_ret
      exact ⟨rfl, HB5.out⟩

end Go.Proofs.Ytmiejdbpogggeaa
