import Derived.Test.YtjbniichcopnlaaGreatDoorPkV42
/- Layer 12 (conf): the walks of the reference's Few, of Check, and of Find. -/
set_option linter.unusedVariables false
set_option linter.unusedSimpArgs false
set_option maxRecDepth 100000
namespace Go.Proofs.YtjbniichcopnlaaGreatDoor
open Go.RowKit

def fewK : List CalL → Bool
  | [] => true
  | c :: r => if 100 < c.name.length then false else fewK r
theorem ccells_keep {w w' : World} {B B' : Nat} {A : Option Addr} {l : List CalL} (h : ReadsM w (· < B) 14 A l.length (l.flatMap CalL.cc)) (hb : Below B w w') (hB : B ≤ B') : ReadsM w' (· < B') 14 A l.length (l.flatMap CalL.cc) :=
  h.keep (fun b h => by omega) fun p hp => hb.cell hp

set_option maxHeartbeats 4000000 in
theorem ref12_Few (l : List CalL) (A : Option Addr) (c : Nat) (w : World) (B : Nat) (hB : B ≤ w.heap.size) (hr : ReadsM w (· < B) 14 A l.length (l.flatMap CalL.cc)) (hl : l.length ≤ maxLen) (hn : ∀ t ∈ l, t.name.length ≤ maxLen) :
    Calls Tryz.prog 7 #[.slice A l.length c] w fun e w' => e = .returned (.bool (fewK l && decide ((l.length : Int) ≤ 40))) ∧ Below w.heap.size w w' := by
  have HR := Lib.hid hr
  have HN := Lib.hid hn
  have HL := Lib.hid hl
  unfold maxLen at hl
  clear hr hn
  go_enter Tryz.func7, Tryz.ntmps7
  go_wp2_with fail
  go_loopw [7] (fun iv wr => ∃ q : Nat, q ≤ l.length ∧ iv = .int .i64 q ∧ Below w.heap.size w wr ∧ fewK l = fewK (l.drop q)) (fun iv _ => l.length - (intOf iv).toNat)
  case atStart => exact ⟨0, Nat.zero_le _, rfl, Below.refl _ _, by rw [List.drop_zero]⟩
  case round =>
    obtain ⟨q, hq, rfl, hbw, hk⟩ := hrel
    have hzw := hbw.size
    by_cases hlt : q < l.length
    · obtain ⟨t, ht⟩ : ∃ n, l[q]? = some n := ⟨_, List.getElem?_eq_getElem hlt⟩
      have htn := HN.out t (List.mem_of_getElem? ht)
      unfold maxLen at htn
      rw [List.drop_eq_getElem_cons hlt, show l[q] = t from Option.some.inj ((List.getElem?_eq_getElem hlt).symm.trans ht), fewK] at hk
      obtain ⟨ad, hA, hM, hc14⟩ := cal_at (ccells_keep HR.out (hbw.mono hB) (Nat.le_refl _)) q t ht
      subst hA
      obtain ⟨nm, kind, day, month, shift, shape, p0, p1, p2, cycle, extra, first, last, policy⟩ := t
      obtain ⟨x0, x1, x2, x3, x4, x5, x6, x7, x8, x9, x10, x11, x12, x13⟩ := hc14
      dsimp only at htn hk x0 x1 x2 x3 x4 x5 x6 x7 x8 x9 x10 x11 x12 x13
      have lk : (q : Int) < l.length := by omega
      have lk0 : (0 : Int) ≤ q := by omega
      have w1f : IntKind.i64.wrap ((q : Int) + 1) = (q : Int) + 1 := by rw [IntKind.wrap_i64]; omega
      have HB := Lib.hid hbw
      by_cases hg : 100 < nm.length
      · rw [if_pos hg] at hk
        have hgi : (100 : Int) < nm.length := by omega
        have HK := Lib.hid hk
        clear hk ht hbw
        go_wp2_with fail
        go_ret
        exact ⟨by rw [HK.out]; rfl, HB.out.alloc hzw _⟩
      · rw [if_neg hg] at hk
        have hgi : ¬ (100 : Int) < nm.length := by omega
        have HK := Lib.hid hk
        clear hk ht hbw
        go_wp2_with fail
        exact ⟨⟨q + 1, by omega, by go_num, HB.out.alloc hzw _, HK.out⟩, by simp [intOf]; omega⟩
    · have lk : ¬ (q : Int) < l.length := by omega
      have HB := Lib.hid hbw
      have HK := Lib.hid (show fewK l = true by rw [hk, show q = l.length by omega, List.drop_length]; rfl)
      clear hbw hk
      go_wp2_with fail
      go_ret
      exact ⟨by rw [HK.out]; rfl, HB.out⟩

set_option maxHeartbeats 1500000 in
theorem conf_Check (l : List CalL) (A : Option Addr) (c : Nat) (w : World) (B : Nat) (hB : B ≤ w.heap.size) (hr : ReadsM w (· < B) 14 A l.length (l.flatMap CalL.cc)) (hl : l.length ≤ maxLen) (hn : ∀ t ∈ l, t.name.length ≤ maxLen) :
    Calls Tryz.prog 9 #[.slice A l.length c] w fun e w' => e = .returned (.int .i64 (confC l)) ∧ Below w.heap.size w w' := by
  have HR := Lib.hid hr
  have HN := Lib.hid hn
  have HL := Lib.hid hl
  have HC := Lib.hid (show confC l = if 32 < l.length then 6 else confGo [] l from rfl)
  unfold maxLen at hl
  clear hr hn
  generalize confC l = C at *
  by_cases hbig : 32 < l.length
  · have hbi : (32 : Int) < l.length := by omega
    have HX := Lib.hid (show C = 6 by rw [HC.out, if_pos hbig])
    go_enter Tryz.func9, Tryz.ntmps9
    go_wp2_with fail
    go_ret
    exact ⟨by rw [HX.out]; rfl, Below.refl _ _⟩
  have hbi : ¬ (32 : Int) < l.length := by omega
  have HX := Lib.hid (show C = confGo [] l by rw [HC.out, if_neg hbig])
  have hmm := @run_makeMap Tryz.prog
  go_enter Tryz.func9, Tryz.ntmps9
  go_wp2_with fail
  obtain ⟨mb, hmb⟩ : ∃ g, g = w.heap.size := ⟨_, rfl⟩
  rw [← hmb]
  have HST := Lib.hid (show (w.alloc (.map #[] 0)).heap[mb]? = some (.map (atMap []) ([] : List Bytes).length) ∧ Below w.heap.size w (w.alloc (.map #[] 0)) ∧ mb < (w.alloc (.map #[] 0)).heap.size from ⟨by rw [hmb]; exact heap_alloc_new w _, (Below.refl _ _).alloc (Nat.le_refl _) _, by rw [hmb]; simp⟩)
  have HMB := Lib.hid hmb
  have hmw : w.heap.size ≤ mb := by omega
  clear hmm hmb
  go_loopw [13] (fun iv wr => ∃ (q : Nat) (seen : List Bytes), q ≤ l.length ∧ iv = .int .i64 q ∧ seen.length = q ∧ confGo [] l = confGo seen (l.drop q) ∧ wr.heap[mb]? = some (.map (atMap seen) seen.length) ∧ Below w.heap.size w wr ∧ mb < wr.heap.size) (fun iv _ => l.length - (intOf iv).toNat)
  case atStart => exact ⟨0, [], Nat.zero_le _, rfl, rfl, by rw [List.drop_zero], HST.out⟩
  case round =>
    obtain ⟨q, seen, hq, rfl, hsl, hk, hmap, hbw, hmz⟩ := hrel
    have hzw := hbw.size
    by_cases hlt : q < l.length
    · obtain ⟨t, ht⟩ : ∃ n, l[q]? = some n := ⟨_, List.getElem?_eq_getElem hlt⟩
      have htn := HN.out t (List.mem_of_getElem? ht)
      have hfc := field_Check t htn
      unfold maxLen at htn
      rw [List.drop_eq_getElem_cons hlt, show l[q] = t from Option.some.inj ((List.getElem?_eq_getElem hlt).symm.trans ht), confGo] at hk
      obtain ⟨ad, hA, hM, hc14⟩ := cal_at (ccells_keep HR.out (hbw.mono hB) (Nat.le_refl _)) q t ht
      subst hA
      generalize herr : errC t = E at *
      obtain ⟨nm, kind, day, month, shift, shape, p0, p1, p2, cycle, extra, first, last, policy⟩ := t
      obtain ⟨x0, x1, x2, x3, x4, x5, x6, x7, x8, x9, x10, x11, x12, x13⟩ := hc14
      dsimp only at htn hk x0 x1 x2 x3 x4 x5 x6 x7 x8 x9 x10 x11 x12 x13
      dsimp only [calV] at hfc
      have HF := Lib.hid hfc
      have lk : (q : Int) < l.length := by omega
      have lk0 : (0 : Int) ≤ q := by omega
      have w1f : IntKind.i64.wrap ((q : Int) + 1) = (q : Int) + 1 := by rw [IntKind.wrap_i64]; omega
      have HA := Lib.hid (heap_alloc_new wr (.cells #[.string ⟨nm.toArray⟩, .int .i64 kind, .int .i64 day, .int .i64 month, .int .i64 shift, .int .i64 shape, .int .i64 p0, .int .i64 p1, .int .i64 p2, .int .i64 cycle, .int .i64 extra, .int .i64 first, .int .i64 last, .int .i64 policy] 37))
      have HAB := Lib.hid ((Below.refl wr.heap.size wr).alloc (Nat.le_refl _) (.cells #[.string ⟨nm.toArray⟩, .int .i64 kind, .int .i64 day, .int .i64 month, .int .i64 shift, .int .i64 shape, .int .i64 p0, .int .i64 p1, .int .i64 p2, .int .i64 cycle, .int .i64 extra, .int .i64 first, .int .i64 last, .int .i64 policy] 37))
      have HB := Lib.hid hbw
      have HMAP := Lib.hid hmap
      have HK := Lib.hid hk
      clear hbw hmap hk ht hfc herr
      go_wp2_with fail
      refine (HF.out _).mono ?_
      rintro e1 w1 ⟨rfl, hb1⟩
      have hz1 := hb1.size
      have hzz : wr.heap.size + 1 ≤ w1.heap.size := by simpa using hz1
      have hcb : w1.heap[wr.heap.size]? = _ := (hb1.block _ (by simp)).trans HA.out
      have hb2 : Below wr.heap.size wr w1 := HAB.out.trans (hb1.mono (by simp))
      have HCB := Lib.hid hcb
      have HB2 := Lib.hid (HB.out.trans (hb2.mono hzw))
      have hmap1 := (hb2.block mb hmz).trans HMAP.out
      have hmet := names_met w1 mb seen nm hmap1 (by omega)
      have HMET := Lib.hid hmet
      clear hb1 hb2 hmap1 hmet hcb hz1
      by_cases hE : E = 0
      case neg =>
        have hne : (E == 0) = false := beq_false_of_ne hE
        have HY := Lib.hid (show C = E by rw [HX.out, HK.out, if_pos hE])
        clear hE
        go_wp2_with fail
        go_ret
        exact ⟨by rw [HY.out]; rfl, HB2.out⟩
      subst hE
      have g0 : w1.cell? ⟨wr.heap.size, 0, none⟩ = some (.string ⟨nm.toArray⟩) := Joins.cell_of_block HCB.out 0
      go_wp2_with fail
      refine HMET.out.mono ?_
      rintro e5 w5 ⟨rfl, o, rfl, hnew⟩
      have hbm := Below.setB HB2.out hmw o
      cases hct : seen.contains nm with
      | true =>
        have HY := Lib.hid (show C = 9 by rw [HX.out, HK.out, if_neg (by simp), if_pos hct])
        have HBM := Lib.hid hbm
        clear hbm hnew hct
        go_wp2_with fail
        go_ret
        exact ⟨by rw [HY.out]; rfl, HBM.out⟩
      | false =>
        have ho5 := hnew hct
        subst ho5
        have HY := Lib.hid (show confGo [] l = confGo (seen ++ [nm]) (l.drop (q + 1)) by rw [HK.out, if_neg (by simp), if_neg (by rw [hct]; decide)])
        have HN5 := Lib.hid (And.intro (setB_new w1 mb (.map (atMap (seen ++ [nm])) (seen ++ [nm]).length) (by omega)) (And.intro hbm (show mb < (setB w1 mb (.map (atMap (seen ++ [nm])) (seen ++ [nm]).length)).heap.size by rw [setB_size]; omega)))
        generalize setB w1 mb (.map (atMap (seen ++ [nm])) (seen ++ [nm]).length) = w5 at *
        clear hbm hnew hct
        go_wp2_with fail
        exact ⟨⟨q + 1, seen ++ [nm], by omega, by go_num, by simp [hsl], HY.out, HN5.out⟩, by simp [intOf]; omega⟩
    · have lk : ¬ (q : Int) < l.length := by omega
      have HB := Lib.hid hbw
      have HK := Lib.hid (show C = 0 by rw [HX.out, hk, show q = l.length by omega, List.drop_length]; rfl)
      clear hbw hk hmap
      go_wp2_with fail
      go_ret
      exact ⟨by rw [HK.out]; rfl, HB.out⟩

set_option maxHeartbeats 3000000 in
theorem conf_Find (l : List CalL) (A : Option Addr) (c : Nat) (s : ByteArray) (w : World) (B : Nat) (hB : B ≤ w.heap.size) (hr : ReadsM w (· < B) 14 A l.length (l.flatMap CalL.cc)) (hl : l.length ≤ maxLen) (hn : ∀ t ∈ l, t.name.length ≤ maxLen) :
    Calls Tryz.prog 14 #[.slice A l.length c, .string s] w fun e w' => e = .returned (.tuple #[calV (findC l s.data.toList).1, .int .i64 (findC l s.data.toList).2]) ∧ Below w.heap.size w w' := by
  have HCK := Lib.hid (fun W hB hr => conf_Check l A c W B hB hr hl hn)
  have HR := Lib.hid hr
  have HN := Lib.hid hn
  have HC := Lib.hid (show findC l s.data.toList = if confC l ≠ 0 then (calZ, confC l) else findGo s.data.toList l from rfl)
  unfold maxLen at hl
  clear hn hr
  generalize findC l s.data.toList = F at *
  generalize confC l = C at *
  obtain ⟨cb, hcb⟩ : ∃ g, g = w.heap.size := ⟨_, rfl⟩
  have HCB := Lib.hid hcb
  have hpre : ∀ o, Below w.heap.size w (w.alloc o) := fun o => (Below.refl _ _).alloc (Nat.le_refl _) o
  have HPRE := Lib.hid hpre
  have HZ := Lib.hid (heap_alloc_new w (.cells #[.string ⟨#[]⟩, .int .i64 0, .int .i64 0, .int .i64 0, .int .i64 0, .int .i64 0, .int .i64 0, .int .i64 0, .int .i64 0, .int .i64 0, .int .i64 0, .int .i64 0, .int .i64 0, .int .i64 0] 37))
  have HCK2 := Lib.hid (HCK.out (w.alloc (.cells #[.string ⟨#[]⟩, .int .i64 0, .int .i64 0, .int .i64 0, .int .i64 0, .int .i64 0, .int .i64 0, .int .i64 0, .int .i64 0, .int .i64 0, .int .i64 0, .int .i64 0, .int .i64 0, .int .i64 0] 37)) (by simp; omega) (ccells_keep HR.out ((HPRE.out _).mono hB) (Nat.le_refl _)))
  have hcw : w.heap.size ≤ cb := by omega
  clear hcb hpre HCK
  by_cases hE : C = 0
  case neg =>
    have hne : (C == 0) = false := beq_false_of_ne hE
    have HX := Lib.hid (show F = (calZ, C) by rw [HC.out, if_pos hE])
    clear hE
    go_enter Tryz.func14, Tryz.ntmps14
    go_wp2_with fail
    refine HCK2.out.mono ?_
    rintro e1 w1 ⟨rfl, hb1⟩
    have hb2 := (HPRE.out _).trans (hb1.mono (by simp))
    have hcal : CalBlk w1 cb calZ := (hb1.block cb (by rw [HCB.out]; simp)).trans (by rw [HCB.out]; exact HZ.out)
    rw [← HCB.out]
    have HB2 := Lib.hid hb2
    clear hb1 hb2
    dsimp only [CalBlk, calZ] at hcal
    have f0 := Joins.unfrozen_of_block hcal 0; have c0 := Joins.cell_of_block hcal 0; have f1 := Joins.unfrozen_of_block hcal 1; have c1 := Joins.cell_of_block hcal 1; have f2 := Joins.unfrozen_of_block hcal 2; have c2 := Joins.cell_of_block hcal 2; have f3 := Joins.unfrozen_of_block hcal 3; have c3 := Joins.cell_of_block hcal 3; have f4 := Joins.unfrozen_of_block hcal 4; have c4 := Joins.cell_of_block hcal 4; have f5 := Joins.unfrozen_of_block hcal 5; have c5 := Joins.cell_of_block hcal 5; have f6 := Joins.unfrozen_of_block hcal 6; have c6 := Joins.cell_of_block hcal 6; have f7 := Joins.unfrozen_of_block hcal 7; have c7 := Joins.cell_of_block hcal 7; have f8 := Joins.unfrozen_of_block hcal 8; have c8 := Joins.cell_of_block hcal 8; have f9 := Joins.unfrozen_of_block hcal 9; have c9 := Joins.cell_of_block hcal 9; have f10 := Joins.unfrozen_of_block hcal 10; have c10 := Joins.cell_of_block hcal 10; have f11 := Joins.unfrozen_of_block hcal 11; have c11 := Joins.cell_of_block hcal 11; have f12 := Joins.unfrozen_of_block hcal 12; have c12 := Joins.cell_of_block hcal 12; have f13 := Joins.unfrozen_of_block hcal 13; have c13 := Joins.cell_of_block hcal 13
    clear hcal
    go_wp2_with fail
    refine bodyPost_ret (v := .tuple #[calV calZ, .int .i64 C]) (by simp [results, calV, calZ, Tryz.results14, go_sem, *]) rfl ?_
    rw [HX.out]
    exact ⟨rfl, CalBlk.below HB2.out hcw calZ⟩
  subst hE
  have HX := Lib.hid (show F = findGo s.data.toList l by rw [HC.out, if_neg (by simp)])
  go_enter Tryz.func14, Tryz.ntmps14
  go_wp2_with fail
  refine HCK2.out.mono ?_
  rintro e1 w1 ⟨rfl, hb1⟩
  have hb2 := (HPRE.out _).trans (hb1.mono (by simp))
  have hcal : CalBlk w1 cb calZ := (hb1.block cb (by rw [HCB.out]; simp)).trans (by rw [HCB.out]; exact HZ.out)
  rw [← HCB.out]
  have HB2 := Lib.hid hb2
  have HCAL := Lib.hid hcal
  clear hb1 hb2 hcal
  go_wp2_with fail
  go_loopw [17] (fun iv wr => ∃ q : Nat, q ≤ l.length ∧ iv = .int .i64 q ∧ Below w.heap.size w wr ∧ CalBlk wr cb calZ ∧ F = findGo s.data.toList (l.drop q)) (fun iv _ => l.length - (intOf iv).toNat)
  case atStart => exact ⟨0, Nat.zero_le _, rfl, HB2.out, HCAL.out, by rw [List.drop_zero]; exact HX.out⟩
  case round =>
    obtain ⟨q, hq, rfl, hbw, hcal, hk⟩ := hrel
    have hzw := hbw.size
    have hcl := hcal.lt
    by_cases hlt : q < l.length
    · obtain ⟨t, ht⟩ : ∃ n, l[q]? = some n := ⟨_, List.getElem?_eq_getElem hlt⟩
      have htn := HN.out t (List.mem_of_getElem? ht)
      unfold maxLen at htn
      rw [List.drop_eq_getElem_cons hlt, show l[q] = t from Option.some.inj ((List.getElem?_eq_getElem hlt).symm.trans ht), findGo] at hk
      obtain ⟨ad, hA, hM, hc14⟩ := cal_at (ccells_keep HR.out (hbw.mono hB) (Nat.le_refl _)) q t ht
      subst hA
      have HT := Lib.hid (show t = t from rfl)
      obtain ⟨t0, ht0⟩ : ∃ x, x = t := ⟨_, rfl⟩
      have HT0 := Lib.hid ht0
      obtain ⟨nm, kind, day, month, shift, shape, p0, p1, p2, cycle, extra, first, last, policy⟩ := t
      obtain ⟨x0, x1, x2, x3, x4, x5, x6, x7, x8, x9, x10, x11, x12, x13⟩ := hc14
      dsimp only at htn hk x0 x1 x2 x3 x4 x5 x6 x7 x8 x9 x10 x11 x12 x13
      have lk : (q : Int) < l.length := by omega
      have lk0 : (0 : Int) ≤ q := by omega
      have w1f : IntKind.i64.wrap ((q : Int) + 1) = (q : Int) + 1 := by rw [IntKind.wrap_i64]; omega
      have HB := Lib.hid hbw
      have hcal2 : CalBlk (wr.alloc (.cells #[.string ⟨nm.toArray⟩, .int .i64 kind, .int .i64 day, .int .i64 month, .int .i64 shift, .int .i64 shape, .int .i64 p0, .int .i64 p1, .int .i64 p2, .int .i64 cycle, .int .i64 extra, .int .i64 first, .int .i64 last, .int .i64 policy] 37)) cb calZ := (heap_alloc_old wr (.cells #[.string ⟨nm.toArray⟩, .int .i64 kind, .int .i64 day, .int .i64 month, .int .i64 shift, .int .i64 shape, .int .i64 p0, .int .i64 p1, .int .i64 p2, .int .i64 cycle, .int .i64 extra, .int .i64 first, .int .i64 last, .int .i64 policy] 37) hcl).trans hcal
      have HCAL2 := Lib.hid hcal2
      have hto : (ByteArray.mk nm.toArray).toList = nm := by rw [ba_toList]
      by_cases hg : nm = s.data.toList
      · rw [if_pos hg] at hk
        have hgs : (nm == s.toList) = true := by rw [ba_toList, hg]; simp
        have HK := Lib.hid hk
        clear hk ht hbw hg ht0 hcal
        have hnew := heap_alloc_new wr (.cells #[.string ⟨nm.toArray⟩, .int .i64 kind, .int .i64 day, .int .i64 month, .int .i64 shift, .int .i64 shape, .int .i64 p0, .int .i64 p1, .int .i64 p2, .int .i64 cycle, .int .i64 extra, .int .i64 first, .int .i64 last, .int .i64 policy] 37)
        have hbn : Below w.heap.size w (wr.alloc (.cells #[.string ⟨nm.toArray⟩, .int .i64 kind, .int .i64 day, .int .i64 month, .int .i64 shift, .int .i64 shape, .int .i64 p0, .int .i64 p1, .int .i64 p2, .int .i64 cycle, .int .i64 extra, .int .i64 first, .int .i64 last, .int .i64 policy] 37)) := HB.out.alloc hzw _
        have HBN := Lib.hid hbn
        obtain ⟨nb, hnb⟩ : ∃ g, g = wr.heap.size := ⟨_, rfl⟩
        rw [← hnb] at hnew
        have HNEW := Lib.hid hnew
        have HNB := Lib.hid hnb
        have HC2 := Lib.hid hcal2
        clear hbn hnew hcal2 hnb
        go_upto_region 7 with fail
        rw [← HNB.out]
        have hnew := HNEW.out
        have hcal2 := HC2.out
        have hbn := HBN.out
        clear HNEW HC2 HBN HCAL2
        generalize World.alloc wr _ = W4 at *
        have HBN := Lib.hid hbn
        dsimp only [CalBlk, calZ] at hcal2
        have f0 := Joins.unfrozen_of_block hcal2 0; have c0 := Joins.cell_of_block hcal2 0; have f1 := Joins.unfrozen_of_block hcal2 1; have c1 := Joins.cell_of_block hcal2 1; have f2 := Joins.unfrozen_of_block hcal2 2; have c2 := Joins.cell_of_block hcal2 2; have f3 := Joins.unfrozen_of_block hcal2 3; have c3 := Joins.cell_of_block hcal2 3; have f4 := Joins.unfrozen_of_block hcal2 4; have c4 := Joins.cell_of_block hcal2 4; have f5 := Joins.unfrozen_of_block hcal2 5; have c5 := Joins.cell_of_block hcal2 5; have f6 := Joins.unfrozen_of_block hcal2 6; have c6 := Joins.cell_of_block hcal2 6; have f7 := Joins.unfrozen_of_block hcal2 7; have c7 := Joins.cell_of_block hcal2 7; have f8 := Joins.unfrozen_of_block hcal2 8; have c8 := Joins.cell_of_block hcal2 8; have f9 := Joins.unfrozen_of_block hcal2 9; have c9 := Joins.cell_of_block hcal2 9; have f10 := Joins.unfrozen_of_block hcal2 10; have c10 := Joins.cell_of_block hcal2 10; have f11 := Joins.unfrozen_of_block hcal2 11; have c11 := Joins.cell_of_block hcal2 11; have f12 := Joins.unfrozen_of_block hcal2 12; have c12 := Joins.cell_of_block hcal2 12; have f13 := Joins.unfrozen_of_block hcal2 13; have c13 := Joins.cell_of_block hcal2 13
        have g0 := Joins.cell_of_block hnew 0; have g1 := Joins.cell_of_block hnew 1; have g2 := Joins.cell_of_block hnew 2; have g3 := Joins.cell_of_block hnew 3; have g4 := Joins.cell_of_block hnew 4; have g5 := Joins.cell_of_block hnew 5; have g6 := Joins.cell_of_block hnew 6; have g7 := Joins.cell_of_block hnew 7; have g8 := Joins.cell_of_block hnew 8; have g9 := Joins.cell_of_block hnew 9; have g10 := Joins.cell_of_block hnew 10; have g11 := Joins.cell_of_block hnew 11; have g12 := Joins.cell_of_block hnew 12; have g13 := Joins.cell_of_block hnew 13
        clear hcal2 hnew hbn
        go_wp2_with fail
        refine bodyPost_ret (v := .tuple #[calV t0, .int .i64 0]) (by rw [HT0.out]; simp [results, calV, calZ, Tryz.results14, go_sem, *]) rfl ?_
        rw [HK.out, ← HT0.out]
        exact ⟨rfl, by have := CalBlk.below HBN.out hcw t0; rw [HT0.out] at this; exact this⟩
      · rw [if_neg hg] at hk
        have hgs : (nm == s.toList) = false := by rw [ba_toList]; simpa using hg
        have HK := Lib.hid hk
        clear hk ht hbw hg ht0 hcal hcal2
        go_wp2_with fail
        exact ⟨⟨q + 1, by omega, by go_num, HB.out.alloc hzw _, HCAL2.out, HK.out⟩, by simp [intOf]; omega⟩
    · have lk : ¬ (q : Int) < l.length := by omega
      have HB := Lib.hid hbw
      have HK := Lib.hid (show F = (calZ, 13) by rw [hk, show q = l.length by omega, List.drop_length]; rfl)
      dsimp only [CalBlk, calZ] at hcal
      have f0 := Joins.unfrozen_of_block hcal 0; have c0 := Joins.cell_of_block hcal 0; have f1 := Joins.unfrozen_of_block hcal 1; have c1 := Joins.cell_of_block hcal 1; have f2 := Joins.unfrozen_of_block hcal 2; have c2 := Joins.cell_of_block hcal 2; have f3 := Joins.unfrozen_of_block hcal 3; have c3 := Joins.cell_of_block hcal 3; have f4 := Joins.unfrozen_of_block hcal 4; have c4 := Joins.cell_of_block hcal 4; have f5 := Joins.unfrozen_of_block hcal 5; have c5 := Joins.cell_of_block hcal 5; have f6 := Joins.unfrozen_of_block hcal 6; have c6 := Joins.cell_of_block hcal 6; have f7 := Joins.unfrozen_of_block hcal 7; have c7 := Joins.cell_of_block hcal 7; have f8 := Joins.unfrozen_of_block hcal 8; have c8 := Joins.cell_of_block hcal 8; have f9 := Joins.unfrozen_of_block hcal 9; have c9 := Joins.cell_of_block hcal 9; have f10 := Joins.unfrozen_of_block hcal 10; have c10 := Joins.cell_of_block hcal 10; have f11 := Joins.unfrozen_of_block hcal 11; have c11 := Joins.cell_of_block hcal 11; have f12 := Joins.unfrozen_of_block hcal 12; have c12 := Joins.cell_of_block hcal 12; have f13 := Joins.unfrozen_of_block hcal 13; have c13 := Joins.cell_of_block hcal 13
      clear hbw hk hcal
      go_wp2_with fail
      refine bodyPost_ret (v := .tuple #[calV calZ, .int .i64 13]) (by simp [results, calV, calZ, Tryz.results14, go_sem, *]) rfl ?_
      rw [HK.out]
      exact ⟨rfl, CalBlk.below HB.out hcw calZ⟩

end Go.Proofs.YtjbniichcopnlaaGreatDoor
