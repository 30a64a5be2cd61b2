import Derived.Test.YtmiejdbpogggeaaPkM
import Derived.Test.YtmiejdbpogggeaaPkF
import Derived.Deep.RegionHeld3
/- The law FieldRight walked: it answers true at any item. -/
set_option linter.unusedVariables false
set_option linter.unusedSimpArgs false
set_option maxRecDepth 100000
namespace Go.Proofs.Ytmiejdbpogggeaa
open Go.RowKit

set_option maxHeartbeats 8000000 in
theorem walk_FieldRight (n : NodeL) (cs : List Value) (w : World) (hn : NodeOk w (· < w.heap.size) n cs) (hfit : fitN n) :
    Calls Try.prog 4 #[.agg cs.toArray] w fun e w' => e = .returned (.bool true) ∧ Below w.heap.size w w' := by
  have HN := Lib.hid hn
  have hfs : fitNs [n] := ⟨hfit, trivial⟩
  have HFew := Lib.hid (fun g W (h : ROk W W.heap.size (some ⟨g, 0, none⟩) [n]) => ref9_FewG [n] (some ⟨g, 0, none⟩) 1 W W.heap.size 40 (by omega) (by omega) (by simp [maxLen]) hfs (Nat.le_refl _) h)
  obtain ⟨a1, a2, a3⟩ := left_geL [n] 40 12 (by omega)
  obtain ⟨r1, r2⟩ := read_right n
  have HRD := Lib.hid (fun W B h0 h1 (h2 : cntL [n] ≤ 100000) => field_Read n cs W B h0 h1 h2 hfs)
  unfold ReadPost at HRD
  obtain ⟨nm, p, ws, b, ks⟩ := n
  simp only [NodeOk] at hn
  obtain ⟨Aw, cw, Ak, ck, kcs, rfl, _, _, hrw, hrk, hks⟩ := hn
  have HRW := Lib.hid hrw
  have hfw : ∀ t ∈ ws, t.s.length ≤ maxLen := hfit.2.2.1
  have HFW := Lib.hid hfw
  have HB0 := Lib.hid (below_cal w (.cells #[.string ⟨nm.toArray⟩, .int .i64 p, .slice Aw ws.length cw, .bool b, .slice Ak ks.length ck] 25))
  have HX0 := Lib.hid (heap_alloc_new w (.cells #[.string ⟨nm.toArray⟩, .int .i64 p, .slice Aw ws.length cw, .bool b, .slice Ak ks.length ck] 25))
  clear hrw hrk hks hfit hfw
  have HPRE := Lib.hid (fun (W : World) (hb : Below w.heap.size w W) => rok_new W _ _ 25 ((HN.out.below hb).up hb.size))
  by_cases hf1 : 0 ≤ leftL 40 12 [.mk nm p ws b ks]
  case neg =>
    rw [decide_eq_false hf1] at HFew
    clear a1 a2 a3 r1 r2 hf1 HRD
    go_enter Try.func4, Try.ntmps4
    go_wp2_with fail
    refine (law11_live _).mono ?_
    rintro e w1 ⟨rfl, hb1⟩
    have HB1 := Lib.hid (HB0.out.trans (hb1.mono HB0.out.size))
    have y1 := (hb1.block w.heap.size (by simp)).trans HX0.out
    have e0 := Joins.cell_of_block y1 0
    have e1 := Joins.cell_of_block y1 1
    have e2 := Joins.cell_of_block y1 2
    have e3 := Joins.cell_of_block y1 3
    have e4 := Joins.cell_of_block y1 4
    have HO := Lib.hid (HPRE.out w1 HB1.out)
    clear hb1 y1
    go_wp2_with fail
    refine (HFew.out _ _ HO.out).mono ?_
    rintro e w2 ⟨rfl, hb2⟩
    have HB2 := Lib.hid (Below.trans (HB1.out.alloc HB1.out.size _) (hb2.mono (HB1.out.alloc HB1.out.size _).size))
    clear hb2
    go_wp2_with fail
    go_ret
    exact ⟨rfl, HB2.out⟩
  rw [decide_eq_true hf1] at HFew
  obtain ⟨_, hcn⟩ := a3 hf1
  have hcl : cntL [.mk nm p ws b ks] ≤ 100000 := by omega
  have HRD' := Lib.hid (fun W B h0 h1 => HRD.out W B h0 h1 hcl)
  clear HRD a1 a2 a3 hf1 hcn hcl
  generalize readC (.mk nm p ws b ks) = R at *
  obtain ⟨rc, rp, re⟩ := R
  dsimp only at r1 r2 HRD'
  by_cases he : re = 0
  case neg =>
    rw [r1 he] at HRD'
    have hne : (re == 0) = false := beq_false_of_ne he
    have heq := fun W => run_eqCal W calZ calZ
    rw [decide_eq_true (rfl : calZ = calZ)] at heq
    dsimp only [calZ] at heq
    dsimp only [calV, calZ] at HRD'
    clear r1 r2 he
    go_enter Try.func4, Try.ntmps4
    go_wp2_with fail
    refine (law11_live _).mono ?_
    rintro e w1 ⟨rfl, hb1⟩
    have HB1 := Lib.hid (HB0.out.trans (hb1.mono HB0.out.size))
    have y1 := (hb1.block w.heap.size (by simp)).trans HX0.out
    have e0 := Joins.cell_of_block y1 0
    have e1 := Joins.cell_of_block y1 1
    have e2 := Joins.cell_of_block y1 2
    have e3 := Joins.cell_of_block y1 3
    have e4 := Joins.cell_of_block y1 4
    have HO := Lib.hid (HPRE.out w1 HB1.out)
    have HY1 := Lib.hid y1
    clear hb1 y1
    go_wp2_with fail
    refine (HFew.out _ _ HO.out).mono ?_
    rintro e w2 ⟨rfl, hb2⟩
    have hba := HB1.out.alloc HB1.out.size (.cells #[.string ⟨nm.toArray⟩, .int .i64 p, .slice Aw ws.length cw, .bool b, .slice Ak ks.length ck] 25)
    have HB2 := Lib.hid (Below.trans hba (hb2.mono hba.size))
    have hl1 := (Array.getElem?_eq_some_iff.1 HY1.out).1
    have y2 := (hb2.block w.heap.size (by simp; omega)).trans (((below_cal w1 _).block w.heap.size hl1).trans HY1.out)
    have f0 := Joins.cell_of_block y2 0
    have f1 := Joins.cell_of_block y2 1
    have f2 := Joins.cell_of_block y2 2
    have f3 := Joins.cell_of_block y2 3
    have f4 := Joins.cell_of_block y2 4
    have HN2 := Lib.hid (HN.out.below HB2.out)
    clear hb2 hba hl1 y2 e0 e1 e2 e3 e4
    go_wp2_with fail
    refine (HRD'.out _ w.heap.size HB2.out.size HN2.out).mono ?_
    rintro e w3 ⟨rfl, hb3⟩
    have HB3 := Lib.hid (HB2.out.trans (hb3.mono HB2.out.size))
    clear hb3 f0 f1 f2 f3 f4
    go_wp2_with fail
    go_ret
    exact ⟨rfl, HB3.out.alloc HB3.out.size _⟩
  · subst he
    obtain ⟨rfl, hok, t, rfl, hnm⟩ := r2 rfl
    dsimp only [NodeL.words] at *
    have hok' := hok
    unfold okC at hok'
    simp only [Bool.and_eq_true] at hok'
    obtain ⟨⟨⟨hsv, _⟩, hnl⟩, hru⟩ := hok'
    have hx := ruled_extra rc hru
    have hfl : rc.first ≤ rc.last := by unfold servedC at hsv; simp at hsv; exact hsv.1.2
    have hts : t.s.length ≤ maxLen := HFW.out t (by simp)
    have hnlen : rc.name.length ≤ maxLen := by rw [hnm]; exact hts
    have HPE := Lib.hid (fun W => field_Periods rc hnlen W)
    have HCH := Lib.hid (fun W => field_Check rc hnlen W)
    have HNA := Lib.hid (fun W => name_atG rc.name hnlen W)
    have hec : errC rc = 0 := by unfold errC; rw [hok]; rfl
    have hpc : periodsC rc = manyC rc.shape rc.cycle := by unfold periodsC; rw [hok]; rfl
    rw [hec, hpc] at HPE
    rw [hec] at HCH
    rw [hnl] at HNA
    obtain ⟨cname, ckind, cday, cmonth, cshift, cshape, cp0, cp1, cp2, ccyc, cextra, cfirst, clast, cpol⟩ := rc
    dsimp only at hnm hx hfl
    subst hnm
    dsimp only [calV] at HPE HCH HNA HRD'
    generalize manyC cshape ccyc = mm at *
    obtain ⟨hx0, hx1⟩ := hx
    clear hok hsv hnl hru hts hnlen hec hpc r1 r2
    go_enter Try.func4, Try.ntmps4
    go_wp2_with fail
    refine (law11_live _).mono ?_
    rintro e w1 ⟨rfl, hb1⟩
    have HB1 := Lib.hid (HB0.out.trans (hb1.mono HB0.out.size))
    have y1 := (hb1.block w.heap.size (by simp)).trans HX0.out
    have e0 := Joins.cell_of_block y1 0
    have e1 := Joins.cell_of_block y1 1
    have e2 := Joins.cell_of_block y1 2
    have e3 := Joins.cell_of_block y1 3
    have e4 := Joins.cell_of_block y1 4
    have HO := Lib.hid (HPRE.out w1 HB1.out)
    have HY1 := Lib.hid y1
    clear hb1 y1
    go_wp2_with fail
    refine (HFew.out _ _ HO.out).mono ?_
    rintro e w2 ⟨rfl, hb2⟩
    have hba := HB1.out.alloc HB1.out.size (.cells #[.string ⟨nm.toArray⟩, .int .i64 p, .slice Aw [t].length cw, .bool b, .slice Ak ks.length ck] 25)
    have HB2 := Lib.hid (Below.trans hba (hb2.mono hba.size))
    have hl1 := (Array.getElem?_eq_some_iff.1 HY1.out).1
    have y2 := (hb2.block w.heap.size (by simp; omega)).trans (((below_cal w1 _).block w.heap.size hl1).trans HY1.out)
    have f0 := Joins.cell_of_block y2 0
    have f1 := Joins.cell_of_block y2 1
    have f2 := Joins.cell_of_block y2 2
    have f3 := Joins.cell_of_block y2 3
    have f4 := Joins.cell_of_block y2 4
    have HY2 := Lib.hid y2
    have HN2 := Lib.hid (HN.out.below HB2.out)
    clear hb2 hba hl1 y2 e0 e1 e2 e3 e4
    go_wp2_with fail
    refine (HRD'.out _ w.heap.size HB2.out.size HN2.out).mono ?_
    rintro e w3 ⟨rfl, hb3⟩
    have hl2 := (Array.getElem?_eq_some_iff.1 HY2.out).1
    have HB3 := Lib.hid (HB2.out.trans (hb3.mono HB2.out.size))
    have HY3 := Lib.hid ((hb3.block w.heap.size hl2).trans HY2.out)
    clear hb3 f0 f1 f2 f3 f4 hl2
    go_wp2_with fail
    have hz3 := heap_alloc_new w3 (.cells #[.string ⟨t.s.toArray⟩, .int .i64 ckind, .int .i64 cday, .int .i64 cmonth, .int .i64 cshift, .int .i64 cshape, .int .i64 cp0, .int .i64 cp1, .int .i64 cp2, .int .i64 ccyc, .int .i64 cextra, .int .i64 cfirst, .int .i64 clast, .int .i64 cpol] 30)
    refine (HPE.out _).mono ?_
    rintro e w4 ⟨rfl, hb4⟩
    have hba3 := below_cal w3 (.cells #[.string ⟨t.s.toArray⟩, .int .i64 ckind, .int .i64 cday, .int .i64 cmonth, .int .i64 cshift, .int .i64 cshape, .int .i64 cp0, .int .i64 cp1, .int .i64 cp2, .int .i64 ccyc, .int .i64 cextra, .int .i64 cfirst, .int .i64 clast, .int .i64 cpol] 30)
    have hb34 : Below w3.heap.size w3 w4 := hba3.trans (hb4.mono hba3.size)
    have hl3 := (Array.getElem?_eq_some_iff.1 HY3.out).1
    have hz4 := (hb4.block w3.heap.size (by simp)).trans hz3
    have hy4 := (hb34.block w.heap.size hl3).trans HY3.out
    have HB4 := Lib.hid (HB3.out.trans (hb34.mono HB3.out.size))
    obtain ⟨aw, hAw, hawb, d0, d1, d2, d3⟩ := word0 (HRW.out.keep (fun _ h => h) (fun q hq => HB4.out.cell hq))
    subst hAw
    obtain ⟨gz, hgz⟩ : ∃ g, w3.heap.size = g := ⟨_, rfl⟩
    rw [hgz] at hz4
    rw [hgz]
    have HZ4 := Lib.hid hz4
    have HY4 := Lib.hid hy4
    have z0 := Joins.cell_of_block hz4 0
    have z1 := Joins.cell_of_block hz4 1
    have z2 := Joins.cell_of_block hz4 2
    have z3 := Joins.cell_of_block hz4 3
    have z4 := Joins.cell_of_block hz4 4
    have z5 := Joins.cell_of_block hz4 5
    have z6 := Joins.cell_of_block hz4 6
    have z7 := Joins.cell_of_block hz4 7
    have z8 := Joins.cell_of_block hz4 8
    have z9 := Joins.cell_of_block hz4 9
    have z10 := Joins.cell_of_block hz4 10
    have z11 := Joins.cell_of_block hz4 11
    have z12 := Joins.cell_of_block hz4 12
    have z13 := Joins.cell_of_block hz4 13
    have y42 := Joins.cell_of_block hy4 2
    have hgl : gz < w4.heap.size := (Array.getElem?_eq_some_iff.1 hz4).1
    have hwl : w.heap.size < w4.heap.size := (Array.getElem?_eq_some_iff.1 hy4).1
    have hal : aw.block < w4.heap.size := by have := HB4.out.size; omega
    clear hz3 hb4 hba3 hb34 hl3 hz4 hy4 hgz hawb
    go_wp2_with fail
    have hbR := (Below.refl w4.heap.size w4).drew
    go_region_held3 (fun W => (∀ j, W.cell? ⟨gz, j, none⟩ = w4.cell? ⟨gz, j, none⟩) ∧ W.cell? ⟨w.heap.size, 2, none⟩ = w4.cell? ⟨w.heap.size, 2, none⟩ ∧ W.cell? ⟨aw.block, aw.off + 2, none⟩ = w4.cell? ⟨aw.block, aw.off + 2, none⟩ ∧ Below w4.heap.size w4 W)
      (first | exact ⟨fun _ => rfl, rfl, rfl, hbR⟩ | exact ⟨fun j => hbZ.cell (p := ⟨gz, j, none⟩) hgl, hbZ.cell (p := ⟨w.heap.size, 2, none⟩) hwl, hbZ.cell (p := ⟨aw.block, aw.off + 2, none⟩) hal, hbZ⟩ | (go_split_ands; refine ⟨?_, ?_, ?_, ?_⟩ <;> assumption))
      (first
      | (go_at_call 16; go_loud ((with_reducible refine Calls.mono (HCH.out _) ?_); rintro e w5 ⟨rfl, hbc⟩; have hbZ : Below w4.heap.size w4 w5 := (by refine Below.trans ?_ (Below.mono hbc ?_); assumption; exact Below.size (by assumption))))
      | (go_at_call 17; refine (HNA.out _).mono ?_; rintro e w6 ⟨rfl, rfl⟩))
    all_goals (
      go_wp2_with fail
      go_ret
      exact ⟨rfl, HB4.out.trans (Below.mono (by assumption) HB4.out.size)⟩)

end Go.Proofs.Ytmiejdbpogggeaa
