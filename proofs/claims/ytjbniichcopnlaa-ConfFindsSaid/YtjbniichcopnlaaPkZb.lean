import Derived.Test.YtjbniichcopnlaaPkZa
import Derived.Below
import Derived.ChangeSame
import Derived.ProofKit
import Derived.WideKeyArgs
import Derived.OpenVars
import Derived.OpenShut
import Derived.ShutString
import Derived.Test.YtjbniichcopnlaaTreeG1
import Derived.Deep.Slices
import Derived.Deep.Fields
import Derived.DataShut
import Derived.Test.YtjbniichcopnlaaFieldA
import Derived.Laws.IdiomArrays
section
/- Layer 12 (conf): the walks of the reference's Few, of Check, and of Find. -/
set_option linter.unusedVariables false
set_option linter.unusedSimpArgs false
set_option maxRecDepth 100000
namespace Go.Proofs.Ytjbniichcopnlaa
open Go.RowKit

def fewK : List CalL → Bool
  | [] => true
  | c :: r => if 100 < c.name.length then false else fewK r
theorem ccells_keep {w w' : World} {B B' : Nat} {A : Option Addr} {l : List CalL} (h : ReadsM w (· < B) 14 A l.length (l.flatMap CalL.cc)) (hb : Below B w w') (hB : B ≤ B') : ReadsM w' (· < B') 14 A l.length (l.flatMap CalL.cc) :=
  h.keep (fun b h => by omega) fun p hp => hb.cell hp

set_option maxHeartbeats 4000000 in
theorem ref12_Few (l : List CalL) (A : Option Addr) (c : Nat) (w : World) (B : Nat) (hB : B ≤ w.heap.size) (hr : ReadsM w (· < B) 14 A l.length (l.flatMap CalL.cc)) (hl : l.length ≤ maxLen) (hn : ∀ t ∈ l, t.name.length ≤ maxLen) :
    Calls Try.prog 13 #[.slice A l.length c] w fun e w' => e = .returned (.bool (fewK l && decide ((l.length : Int) ≤ 40))) ∧ Below w.heap.size w w' := by
  have HR := Lib.hid hr
  have HN := Lib.hid hn
  have HL := Lib.hid hl
  unfold maxLen at hl
  clear hr hn
  go_enter Try.func13, Try.ntmps13
  go_wp2_with fail
  go_loopw [7] (fun iv wr => ∃ q : Nat, q ≤ l.length ∧ iv = .int .i64 q ∧ Below w.heap.size w wr ∧ fewK l = fewK (l.drop q)) (fun iv _ => l.length - (intOf iv).toNat)
  case atStart => exact ⟨0, Nat.zero_le _, rfl, Below.refl _ _, by rw [List.drop_zero]⟩
  case round =>
    obtain ⟨q, hq, rfl, hbw, hk⟩ := hrel
    have hzw := hbw.size
    by_cases hlt : q < l.length
    · obtain ⟨t, ht⟩ : ∃ n, l[q]? = some n := ⟨_, List.getElem?_eq_getElem hlt⟩
      have htn := HN.out t (List.mem_of_getElem? ht)
      unfold maxLen at htn
      rw [List.drop_eq_getElem_cons hlt, show l[q] = t from Option.some.inj ((List.getElem?_eq_getElem hlt).symm.trans ht), fewK] at hk
      obtain ⟨ad, hA, hM, hc14⟩ := cal_at (ccells_keep HR.out (hbw.mono hB) (Nat.le_refl _)) q t ht
      subst hA
      obtain ⟨nm, kind, day, month, shift, shape, p0, p1, p2, cycle, extra, first, last, policy⟩ := t
      obtain ⟨x0, x1, x2, x3, x4, x5, x6, x7, x8, x9, x10, x11, x12, x13⟩ := hc14
      dsimp only at htn hk x0 x1 x2 x3 x4 x5 x6 x7 x8 x9 x10 x11 x12 x13
      have lk : (q : Int) < l.length := by omega
      have lk0 : (0 : Int) ≤ q := by omega
      have w1f : IntKind.i64.wrap ((q : Int) + 1) = (q : Int) + 1 := by rw [IntKind.wrap_i64]; omega
      have HB := Lib.hid hbw
      by_cases hg : 100 < nm.length
      · rw [if_pos hg] at hk
        have hgi : (100 : Int) < nm.length := by omega
        have HK := Lib.hid hk
        clear hk ht hbw
        go_wp2_with fail
        go_ret
        exact ⟨by rw [HK.out]; rfl, HB.out.alloc hzw _⟩
      · rw [if_neg hg] at hk
        have hgi : ¬ (100 : Int) < nm.length := by omega
        have HK := Lib.hid hk
        clear hk ht hbw
        go_wp2_with fail
        exact ⟨⟨q + 1, by omega, by go_num, HB.out.alloc hzw _, HK.out⟩, by simp [intOf]; omega⟩
    · have lk : ¬ (q : Int) < l.length := by omega
      have HB := Lib.hid hbw
      have HK := Lib.hid (show fewK l = true by rw [hk, show q = l.length by omega, List.drop_length]; rfl)
      clear hbw hk
      go_wp2_with fail
      go_ret
      exact ⟨by rw [HK.out]; rfl, HB.out⟩

set_option maxHeartbeats 1500000 in
theorem conf_Check (l : List CalL) (A : Option Addr) (c : Nat) (w : World) (B : Nat) (hB : B ≤ w.heap.size) (hr : ReadsM w (· < B) 14 A l.length (l.flatMap CalL.cc)) (hl : l.length ≤ maxLen) (hn : ∀ t ∈ l, t.name.length ≤ maxLen) :
    Calls Try.prog 14 #[.slice A l.length c] w fun e w' => e = .returned (.int .i64 (confC l)) ∧ Below w.heap.size w w' := by
  have HR := Lib.hid hr
  have HN := Lib.hid hn
  have HL := Lib.hid hl
  have HC := Lib.hid (show confC l = if 32 < l.length then 6 else confGo [] l from rfl)
  unfold maxLen at hl
  clear hr hn
  generalize confC l = C at *
  by_cases hbig : 32 < l.length
  · have hbi : (32 : Int) < l.length := by omega
    have HX := Lib.hid (show C = 6 by rw [HC.out, if_pos hbig])
    go_enter Try.func14, Try.ntmps14
    go_wp2_with fail
    go_ret
    exact ⟨by rw [HX.out]; rfl, Below.refl _ _⟩
  have hbi : ¬ (32 : Int) < l.length := by omega
  have HX := Lib.hid (show C = confGo [] l by rw [HC.out, if_neg hbig])
  have hmm := @run_makeMap Try.prog
  go_enter Try.func14, Try.ntmps14
  go_wp2_with fail
  obtain ⟨mb, hmb⟩ : ∃ g, g = w.heap.size := ⟨_, rfl⟩
  rw [← hmb]
  have HST := Lib.hid (show (w.alloc (.map #[] 0)).heap[mb]? = some (.map (atMap []) ([] : List Bytes).length) ∧ Below w.heap.size w (w.alloc (.map #[] 0)) ∧ mb < (w.alloc (.map #[] 0)).heap.size from ⟨by rw [hmb]; exact heap_alloc_new w _, (Below.refl _ _).alloc (Nat.le_refl _) _, by rw [hmb]; simp⟩)
  have HMB := Lib.hid hmb
  have hmw : w.heap.size ≤ mb := by omega
  clear hmm hmb
  go_loopw [13] (fun iv wr => ∃ (q : Nat) (seen : List Bytes), q ≤ l.length ∧ iv = .int .i64 q ∧ seen.length = q ∧ confGo [] l = confGo seen (l.drop q) ∧ wr.heap[mb]? = some (.map (atMap seen) seen.length) ∧ Below w.heap.size w wr ∧ mb < wr.heap.size) (fun iv _ => l.length - (intOf iv).toNat)
  case atStart => exact ⟨0, [], Nat.zero_le _, rfl, rfl, by rw [List.drop_zero], HST.out⟩
  case round =>
    obtain ⟨q, seen, hq, rfl, hsl, hk, hmap, hbw, hmz⟩ := hrel
    have hzw := hbw.size
    by_cases hlt : q < l.length
    · obtain ⟨t, ht⟩ : ∃ n, l[q]? = some n := ⟨_, List.getElem?_eq_getElem hlt⟩
      have htn := HN.out t (List.mem_of_getElem? ht)
      have hfc := field_Check t htn
      unfold maxLen at htn
      rw [List.drop_eq_getElem_cons hlt, show l[q] = t from Option.some.inj ((List.getElem?_eq_getElem hlt).symm.trans ht), confGo] at hk
      obtain ⟨ad, hA, hM, hc14⟩ := cal_at (ccells_keep HR.out (hbw.mono hB) (Nat.le_refl _)) q t ht
      subst hA
      generalize herr : errC t = E at *
      obtain ⟨nm, kind, day, month, shift, shape, p0, p1, p2, cycle, extra, first, last, policy⟩ := t
      obtain ⟨x0, x1, x2, x3, x4, x5, x6, x7, x8, x9, x10, x11, x12, x13⟩ := hc14
      dsimp only at htn hk x0 x1 x2 x3 x4 x5 x6 x7 x8 x9 x10 x11 x12 x13
      dsimp only [calV] at hfc
      have HF := Lib.hid hfc
      have lk : (q : Int) < l.length := by omega
      have lk0 : (0 : Int) ≤ q := by omega
      have w1f : IntKind.i64.wrap ((q : Int) + 1) = (q : Int) + 1 := by rw [IntKind.wrap_i64]; omega
      have HA := Lib.hid (heap_alloc_new wr (.cells #[.string ⟨nm.toArray⟩, .int .i64 kind, .int .i64 day, .int .i64 month, .int .i64 shift, .int .i64 shape, .int .i64 p0, .int .i64 p1, .int .i64 p2, .int .i64 cycle, .int .i64 extra, .int .i64 first, .int .i64 last, .int .i64 policy] 31))
      have HAB := Lib.hid ((Below.refl wr.heap.size wr).alloc (Nat.le_refl _) (.cells #[.string ⟨nm.toArray⟩, .int .i64 kind, .int .i64 day, .int .i64 month, .int .i64 shift, .int .i64 shape, .int .i64 p0, .int .i64 p1, .int .i64 p2, .int .i64 cycle, .int .i64 extra, .int .i64 first, .int .i64 last, .int .i64 policy] 31))
      have HB := Lib.hid hbw
      have HMAP := Lib.hid hmap
      have HK := Lib.hid hk
      clear hbw hmap hk ht hfc herr
      go_wp2_with fail
      refine (HF.out _).mono ?_
      rintro e1 w1 ⟨rfl, hb1⟩
      have hz1 := hb1.size
      have hzz : wr.heap.size + 1 ≤ w1.heap.size := by simpa using hz1
      have hcb : w1.heap[wr.heap.size]? = _ := (hb1.block _ (by simp)).trans HA.out
      have hb2 : Below wr.heap.size wr w1 := HAB.out.trans (hb1.mono (by simp))
      have HCB := Lib.hid hcb
      have HB2 := Lib.hid (HB.out.trans (hb2.mono hzw))
      have hmap1 := (hb2.block mb hmz).trans HMAP.out
      have hmet := names_met w1 mb seen nm hmap1 (by omega)
      have HMET := Lib.hid hmet
      clear hb1 hb2 hmap1 hmet hcb hz1
      by_cases hE : E = 0
      case neg =>
        have hne : (E == 0) = false := beq_false_of_ne hE
        have HY := Lib.hid (show C = E by rw [HX.out, HK.out, if_pos hE])
        clear hE
        go_wp2_with fail
        go_ret
        exact ⟨by rw [HY.out]; rfl, HB2.out⟩
      subst hE
      have g0 : w1.cell? ⟨wr.heap.size, 0, none⟩ = some (.string ⟨nm.toArray⟩) := Joins.cell_of_block HCB.out 0
      go_wp2_with fail
      refine HMET.out.mono ?_
      rintro e5 w5 ⟨rfl, o, rfl, hnew⟩
      have hbm := Below.setB HB2.out hmw o
      cases hct : seen.contains nm with
      | true =>
        have HY := Lib.hid (show C = 9 by rw [HX.out, HK.out, if_neg (by simp), if_pos hct])
        have HBM := Lib.hid hbm
        clear hbm hnew hct
        go_wp2_with fail
        go_ret
        exact ⟨by rw [HY.out]; rfl, HBM.out⟩
      | false =>
        have ho5 := hnew hct
        subst ho5
        have HY := Lib.hid (show confGo [] l = confGo (seen ++ [nm]) (l.drop (q + 1)) by rw [HK.out, if_neg (by simp), if_neg (by rw [hct]; decide)])
        have HN5 := Lib.hid (And.intro (setB_new w1 mb (.map (atMap (seen ++ [nm])) (seen ++ [nm]).length) (by omega)) (And.intro hbm (show mb < (setB w1 mb (.map (atMap (seen ++ [nm])) (seen ++ [nm]).length)).heap.size by rw [setB_size]; omega)))
        generalize setB w1 mb (.map (atMap (seen ++ [nm])) (seen ++ [nm]).length) = w5 at *
        clear hbm hnew hct
        go_wp2_with fail
        exact ⟨⟨q + 1, seen ++ [nm], by omega, by go_num, by simp [hsl], HY.out, HN5.out⟩, by simp [intOf]; omega⟩
    · have lk : ¬ (q : Int) < l.length := by omega
      have HB := Lib.hid hbw
      have HK := Lib.hid (show C = 0 by rw [HX.out, hk, show q = l.length by omega, List.drop_length]; rfl)
      clear hbw hk hmap
      go_wp2_with fail
      go_ret
      exact ⟨by rw [HK.out]; rfl, HB.out⟩

set_option maxHeartbeats 3000000 in
theorem conf_Find (l : List CalL) (A : Option Addr) (c : Nat) (s : ByteArray) (w : World) (B : Nat) (hB : B ≤ w.heap.size) (hr : ReadsM w (· < B) 14 A l.length (l.flatMap CalL.cc)) (hl : l.length ≤ maxLen) (hn : ∀ t ∈ l, t.name.length ≤ maxLen) :
    Calls Try.prog 15 #[.slice A l.length c, .string s] w fun e w' => e = .returned (.tuple #[calV (findC l s.data.toList).1, .int .i64 (findC l s.data.toList).2]) ∧ Below w.heap.size w w' := by
  have HCK := Lib.hid (fun W hB hr => conf_Check l A c W B hB hr hl hn)
  have HR := Lib.hid hr
  have HN := Lib.hid hn
  have HC := Lib.hid (show findC l s.data.toList = if confC l ≠ 0 then (calZ, confC l) else findGo s.data.toList l from rfl)
  unfold maxLen at hl
  clear hn hr
  generalize findC l s.data.toList = F at *
  generalize confC l = C at *
  obtain ⟨cb, hcb⟩ : ∃ g, g = w.heap.size := ⟨_, rfl⟩
  have HCB := Lib.hid hcb
  have hpre : ∀ o, Below w.heap.size w (w.alloc o) := fun o => (Below.refl _ _).alloc (Nat.le_refl _) o
  have HPRE := Lib.hid hpre
  have HZ := Lib.hid (heap_alloc_new w (.cells #[.string ⟨#[]⟩, .int .i64 0, .int .i64 0, .int .i64 0, .int .i64 0, .int .i64 0, .int .i64 0, .int .i64 0, .int .i64 0, .int .i64 0, .int .i64 0, .int .i64 0, .int .i64 0, .int .i64 0] 31))
  have HCK2 := Lib.hid (HCK.out (w.alloc (.cells #[.string ⟨#[]⟩, .int .i64 0, .int .i64 0, .int .i64 0, .int .i64 0, .int .i64 0, .int .i64 0, .int .i64 0, .int .i64 0, .int .i64 0, .int .i64 0, .int .i64 0, .int .i64 0, .int .i64 0] 31)) (by simp; omega) (ccells_keep HR.out ((HPRE.out _).mono hB) (Nat.le_refl _)))
  have hcw : w.heap.size ≤ cb := by omega
  clear hcb hpre HCK
  by_cases hE : C = 0
  case neg =>
    have hne : (C == 0) = false := beq_false_of_ne hE
    have HX := Lib.hid (show F = (calZ, C) by rw [HC.out, if_pos hE])
    clear hE
    go_enter Try.func15, Try.ntmps15
    go_wp2_with fail
    refine HCK2.out.mono ?_
    rintro e1 w1 ⟨rfl, hb1⟩
    have hb2 := (HPRE.out _).trans (hb1.mono (by simp))
    have hcal : CalBlk w1 cb calZ := (hb1.block cb (by rw [HCB.out]; simp)).trans (by rw [HCB.out]; exact HZ.out)
    rw [← HCB.out]
    have HB2 := Lib.hid hb2
    clear hb1 hb2
    dsimp only [CalBlk, calZ] at hcal
    have f0 := Joins.unfrozen_of_block hcal 0; have c0 := Joins.cell_of_block hcal 0; have f1 := Joins.unfrozen_of_block hcal 1; have c1 := Joins.cell_of_block hcal 1; have f2 := Joins.unfrozen_of_block hcal 2; have c2 := Joins.cell_of_block hcal 2; have f3 := Joins.unfrozen_of_block hcal 3; have c3 := Joins.cell_of_block hcal 3; have f4 := Joins.unfrozen_of_block hcal 4; have c4 := Joins.cell_of_block hcal 4; have f5 := Joins.unfrozen_of_block hcal 5; have c5 := Joins.cell_of_block hcal 5; have f6 := Joins.unfrozen_of_block hcal 6; have c6 := Joins.cell_of_block hcal 6; have f7 := Joins.unfrozen_of_block hcal 7; have c7 := Joins.cell_of_block hcal 7; have f8 := Joins.unfrozen_of_block hcal 8; have c8 := Joins.cell_of_block hcal 8; have f9 := Joins.unfrozen_of_block hcal 9; have c9 := Joins.cell_of_block hcal 9; have f10 := Joins.unfrozen_of_block hcal 10; have c10 := Joins.cell_of_block hcal 10; have f11 := Joins.unfrozen_of_block hcal 11; have c11 := Joins.cell_of_block hcal 11; have f12 := Joins.unfrozen_of_block hcal 12; have c12 := Joins.cell_of_block hcal 12; have f13 := Joins.unfrozen_of_block hcal 13; have c13 := Joins.cell_of_block hcal 13
    clear hcal
    go_wp2_with fail
    refine bodyPost_ret (v := .tuple #[calV calZ, .int .i64 C]) (by simp [results, calV, calZ, Try.results15, go_sem, *]) rfl ?_
    rw [HX.out]
    exact ⟨rfl, CalBlk.below HB2.out hcw calZ⟩
  subst hE
  have HX := Lib.hid (show F = findGo s.data.toList l by rw [HC.out, if_neg (by simp)])
  go_enter Try.func15, Try.ntmps15
  go_wp2_with fail
  refine HCK2.out.mono ?_
  rintro e1 w1 ⟨rfl, hb1⟩
  have hb2 := (HPRE.out _).trans (hb1.mono (by simp))
  have hcal : CalBlk w1 cb calZ := (hb1.block cb (by rw [HCB.out]; simp)).trans (by rw [HCB.out]; exact HZ.out)
  rw [← HCB.out]
  have HB2 := Lib.hid hb2
  have HCAL := Lib.hid hcal
  clear hb1 hb2 hcal
  go_wp2_with fail
  go_loopw [17] (fun iv wr => ∃ q : Nat, q ≤ l.length ∧ iv = .int .i64 q ∧ Below w.heap.size w wr ∧ CalBlk wr cb calZ ∧ F = findGo s.data.toList (l.drop q)) (fun iv _ => l.length - (intOf iv).toNat)
  case atStart => exact ⟨0, Nat.zero_le _, rfl, HB2.out, HCAL.out, by rw [List.drop_zero]; exact HX.out⟩
  case round =>
    obtain ⟨q, hq, rfl, hbw, hcal, hk⟩ := hrel
    have hzw := hbw.size
    have hcl := hcal.lt
    by_cases hlt : q < l.length
    · obtain ⟨t, ht⟩ : ∃ n, l[q]? = some n := ⟨_, List.getElem?_eq_getElem hlt⟩
      have htn := HN.out t (List.mem_of_getElem? ht)
      unfold maxLen at htn
      rw [List.drop_eq_getElem_cons hlt, show l[q] = t from Option.some.inj ((List.getElem?_eq_getElem hlt).symm.trans ht), findGo] at hk
      obtain ⟨ad, hA, hM, hc14⟩ := cal_at (ccells_keep HR.out (hbw.mono hB) (Nat.le_refl _)) q t ht
      subst hA
      have HT := Lib.hid (show t = t from rfl)
      obtain ⟨t0, ht0⟩ : ∃ x, x = t := ⟨_, rfl⟩
      have HT0 := Lib.hid ht0
      obtain ⟨nm, kind, day, month, shift, shape, p0, p1, p2, cycle, extra, first, last, policy⟩ := t
      obtain ⟨x0, x1, x2, x3, x4, x5, x6, x7, x8, x9, x10, x11, x12, x13⟩ := hc14
      dsimp only at htn hk x0 x1 x2 x3 x4 x5 x6 x7 x8 x9 x10 x11 x12 x13
      have lk : (q : Int) < l.length := by omega
      have lk0 : (0 : Int) ≤ q := by omega
      have w1f : IntKind.i64.wrap ((q : Int) + 1) = (q : Int) + 1 := by rw [IntKind.wrap_i64]; omega
      have HB := Lib.hid hbw
      have hcal2 : CalBlk (wr.alloc (.cells #[.string ⟨nm.toArray⟩, .int .i64 kind, .int .i64 day, .int .i64 month, .int .i64 shift, .int .i64 shape, .int .i64 p0, .int .i64 p1, .int .i64 p2, .int .i64 cycle, .int .i64 extra, .int .i64 first, .int .i64 last, .int .i64 policy] 31)) cb calZ := (heap_alloc_old wr (.cells #[.string ⟨nm.toArray⟩, .int .i64 kind, .int .i64 day, .int .i64 month, .int .i64 shift, .int .i64 shape, .int .i64 p0, .int .i64 p1, .int .i64 p2, .int .i64 cycle, .int .i64 extra, .int .i64 first, .int .i64 last, .int .i64 policy] 31) hcl).trans hcal
      have HCAL2 := Lib.hid hcal2
      have hto : (ByteArray.mk nm.toArray).toList = nm := by rw [ba_toList]
      by_cases hg : nm = s.data.toList
      · rw [if_pos hg] at hk
        have hgs : (nm == s.toList) = true := by rw [ba_toList, hg]; simp
        have HK := Lib.hid hk
        clear hk ht hbw hg ht0 hcal
        have hnew := heap_alloc_new wr (.cells #[.string ⟨nm.toArray⟩, .int .i64 kind, .int .i64 day, .int .i64 month, .int .i64 shift, .int .i64 shape, .int .i64 p0, .int .i64 p1, .int .i64 p2, .int .i64 cycle, .int .i64 extra, .int .i64 first, .int .i64 last, .int .i64 policy] 31)
        have hbn : Below w.heap.size w (wr.alloc (.cells #[.string ⟨nm.toArray⟩, .int .i64 kind, .int .i64 day, .int .i64 month, .int .i64 shift, .int .i64 shape, .int .i64 p0, .int .i64 p1, .int .i64 p2, .int .i64 cycle, .int .i64 extra, .int .i64 first, .int .i64 last, .int .i64 policy] 31)) := HB.out.alloc hzw _
        have HBN := Lib.hid hbn
        obtain ⟨nb, hnb⟩ : ∃ g, g = wr.heap.size := ⟨_, rfl⟩
        rw [← hnb] at hnew
        have HNEW := Lib.hid hnew
        have HNB := Lib.hid hnb
        have HC2 := Lib.hid hcal2
        clear hbn hnew hcal2 hnb
        go_upto_region 7 with fail
        rw [← HNB.out]
        have hnew := HNEW.out
        have hcal2 := HC2.out
        have hbn := HBN.out
        clear HNEW HC2 HBN HCAL2
        generalize World.alloc wr _ = W4 at *
        have HBN := Lib.hid hbn
        dsimp only [CalBlk, calZ] at hcal2
        have f0 := Joins.unfrozen_of_block hcal2 0; have c0 := Joins.cell_of_block hcal2 0; have f1 := Joins.unfrozen_of_block hcal2 1; have c1 := Joins.cell_of_block hcal2 1; have f2 := Joins.unfrozen_of_block hcal2 2; have c2 := Joins.cell_of_block hcal2 2; have f3 := Joins.unfrozen_of_block hcal2 3; have c3 := Joins.cell_of_block hcal2 3; have f4 := Joins.unfrozen_of_block hcal2 4; have c4 := Joins.cell_of_block hcal2 4; have f5 := Joins.unfrozen_of_block hcal2 5; have c5 := Joins.cell_of_block hcal2 5; have f6 := Joins.unfrozen_of_block hcal2 6; have c6 := Joins.cell_of_block hcal2 6; have f7 := Joins.unfrozen_of_block hcal2 7; have c7 := Joins.cell_of_block hcal2 7; have f8 := Joins.unfrozen_of_block hcal2 8; have c8 := Joins.cell_of_block hcal2 8; have f9 := Joins.unfrozen_of_block hcal2 9; have c9 := Joins.cell_of_block hcal2 9; have f10 := Joins.unfrozen_of_block hcal2 10; have c10 := Joins.cell_of_block hcal2 10; have f11 := Joins.unfrozen_of_block hcal2 11; have c11 := Joins.cell_of_block hcal2 11; have f12 := Joins.unfrozen_of_block hcal2 12; have c12 := Joins.cell_of_block hcal2 12; have f13 := Joins.unfrozen_of_block hcal2 13; have c13 := Joins.cell_of_block hcal2 13
        have g0 := Joins.cell_of_block hnew 0; have g1 := Joins.cell_of_block hnew 1; have g2 := Joins.cell_of_block hnew 2; have g3 := Joins.cell_of_block hnew 3; have g4 := Joins.cell_of_block hnew 4; have g5 := Joins.cell_of_block hnew 5; have g6 := Joins.cell_of_block hnew 6; have g7 := Joins.cell_of_block hnew 7; have g8 := Joins.cell_of_block hnew 8; have g9 := Joins.cell_of_block hnew 9; have g10 := Joins.cell_of_block hnew 10; have g11 := Joins.cell_of_block hnew 11; have g12 := Joins.cell_of_block hnew 12; have g13 := Joins.cell_of_block hnew 13
        clear hcal2 hnew hbn
        go_wp2_with fail
        refine bodyPost_ret (v := .tuple #[calV t0, .int .i64 0]) (by rw [HT0.out]; simp [results, calV, calZ, Try.results15, go_sem, *]) rfl ?_
        rw [HK.out, ← HT0.out]
        exact ⟨rfl, by have := CalBlk.below HBN.out hcw t0; rw [HT0.out] at this; exact this⟩
      · rw [if_neg hg] at hk
        have hgs : (nm == s.toList) = false := by rw [ba_toList]; simpa using hg
        have HK := Lib.hid hk
        clear hk ht hbw hg ht0 hcal hcal2
        go_wp2_with fail
        exact ⟨⟨q + 1, by omega, by go_num, HB.out.alloc hzw _, HCAL2.out, HK.out⟩, by simp [intOf]; omega⟩
    · have lk : ¬ (q : Int) < l.length := by omega
      have HB := Lib.hid hbw
      have HK := Lib.hid (show F = (calZ, 13) by rw [hk, show q = l.length by omega, List.drop_length]; rfl)
      dsimp only [CalBlk, calZ] at hcal
      have f0 := Joins.unfrozen_of_block hcal 0; have c0 := Joins.cell_of_block hcal 0; have f1 := Joins.unfrozen_of_block hcal 1; have c1 := Joins.cell_of_block hcal 1; have f2 := Joins.unfrozen_of_block hcal 2; have c2 := Joins.cell_of_block hcal 2; have f3 := Joins.unfrozen_of_block hcal 3; have c3 := Joins.cell_of_block hcal 3; have f4 := Joins.unfrozen_of_block hcal 4; have c4 := Joins.cell_of_block hcal 4; have f5 := Joins.unfrozen_of_block hcal 5; have c5 := Joins.cell_of_block hcal 5; have f6 := Joins.unfrozen_of_block hcal 6; have c6 := Joins.cell_of_block hcal 6; have f7 := Joins.unfrozen_of_block hcal 7; have c7 := Joins.cell_of_block hcal 7; have f8 := Joins.unfrozen_of_block hcal 8; have c8 := Joins.cell_of_block hcal 8; have f9 := Joins.unfrozen_of_block hcal 9; have c9 := Joins.cell_of_block hcal 9; have f10 := Joins.unfrozen_of_block hcal 10; have c10 := Joins.cell_of_block hcal 10; have f11 := Joins.unfrozen_of_block hcal 11; have c11 := Joins.cell_of_block hcal 11; have f12 := Joins.unfrozen_of_block hcal 12; have c12 := Joins.cell_of_block hcal 12; have f13 := Joins.unfrozen_of_block hcal 13; have c13 := Joins.cell_of_block hcal 13
      clear hbw hk hcal
      go_wp2_with fail
      refine bodyPost_ret (v := .tuple #[calV calZ, .int .i64 13]) (by simp [results, calV, calZ, Try.results15, go_sem, *]) rfl ?_
      rw [HK.out]
      exact ⟨rfl, CalBlk.below HB.out hcw calZ⟩

end Go.Proofs.Ytjbniichcopnlaa
end

section
/- The law ConfFinds walked: it answers true at any calendars, and any name. -/
set_option linter.unusedVariables false
set_option linter.unusedSimpArgs false
set_option maxRecDepth 100000
namespace Go.Proofs.Ytjbniichcopnlaa
open Go.RowKit

theorem any_step (l : List CalL) (q : Nat) (t : CalL) (s : Bytes) (h : l[q]? = some t) : (l.take (q + 1)).any (fun c => c.name == s) = ((l.take q).any (fun c => c.name == s) || (t.name == s)) := by
  rw [List.take_add_one, h]
  simp [List.any_append]

set_option maxHeartbeats 3000000 in
theorem walk_ConfFinds (l : List CalL) (A : Option Addr) (c : Nat) (s : ByteArray) (w : World) (hr : ReadsM w (· < w.heap.size) 14 A l.length (l.flatMap CalL.cc)) (hl : l.length ≤ maxLen) (hn : ∀ t ∈ l, t.name.length ≤ maxLen) (hs : s.size ≤ maxLen) :
    Calls Try.prog 6 #[.slice A l.length c, .string s] w fun e w' => e = .returned (.bool true) ∧ Below w.heap.size w w' := by
  have HV := Lib.hid (law12_live w)
  have HFW := Lib.hid (fun W (hb : Below w.heap.size w W) => ref12_Few l A c W w.heap.size hb.size (ccells_keep hr hb (Nat.le_refl _)) hl hn)
  have HCK := Lib.hid (fun W (hb : Below w.heap.size w W) => conf_Check l A c W w.heap.size hb.size (ccells_keep hr hb (Nat.le_refl _)) hl hn)
  have HFD := Lib.hid (fun (x : ByteArray) W (hb : Below w.heap.size w W) => conf_Find l A c x W w.heap.size hb.size (ccells_keep hr hb (Nat.le_refl _)) hl hn)
  have HR := Lib.hid hr
  unfold maxLen at hl
  clear hr hn
  generalize hfw : (fewK l && decide ((l.length : Int) ≤ 40)) = fw at *
  cases fw with
  | false =>
    clear hfw HCK HFD
    go_enter Try.func6, Try.ntmps6
    go_wp2_with fail
    refine HV.out.mono ?_
    rintro e w1 ⟨rfl, hb1⟩
    have HB1 := Lib.hid hb1
    clear hb1
    go_wp2_with fail
    refine (HFW.out w1 HB1.out).mono ?_
    rintro e w2 ⟨rfl, hb2⟩
    have HB2 := Lib.hid (HB1.out.trans (hb2.mono HB1.out.size))
    clear hb2
    go_wp2_with fail
    go_ret
    exact ⟨rfl, HB2.out⟩
  | true =>
  clear hfw
  by_cases hc : confC l = 0
  case neg =>
    have hne : (confC l == 0) = false := beq_false_of_ne hc
    generalize confC l = C at *
    clear HFD hc
    go_enter Try.func6, Try.ntmps6
    go_wp2_with fail
    refine HV.out.mono ?_
    rintro e w1 ⟨rfl, hb1⟩
    have HB1 := Lib.hid hb1
    clear hb1
    go_wp2_with fail
    refine (HFW.out w1 HB1.out).mono ?_
    rintro e w2 ⟨rfl, hb2⟩
    have HB2 := Lib.hid (HB1.out.trans (hb2.mono HB1.out.size))
    clear hb2
    go_wp2_with fail
    refine (HCK.out w2 HB2.out).mono ?_
    rintro e w3 ⟨rfl, hb3⟩
    have HB3 := Lib.hid (HB2.out.trans (hb3.mono HB2.out.size))
    clear hb3
    go_wp2_with fail
    go_ret
    exact ⟨rfl, HB3.out⟩
  have HC := Lib.hid hc
  rw [hc] at HCK
  clear hc
  go_enter Try.func6, Try.ntmps6
  go_wp2_with fail
  refine HV.out.mono ?_
  rintro e w1 ⟨rfl, hb1⟩
  have HB1 := Lib.hid hb1
  clear hb1
  go_wp2_with fail
  refine (HFW.out w1 HB1.out).mono ?_
  rintro e w2 ⟨rfl, hb2⟩
  have HB2 := Lib.hid (HB1.out.trans (hb2.mono HB1.out.size))
  clear hb2
  go_wp2_with fail
  refine (HCK.out w2 HB2.out).mono ?_
  rintro e w3 ⟨rfl, hb3⟩
  have HB3 := Lib.hid (HB2.out.trans (hb3.mono HB2.out.size))
  clear hb3 HFW HCK HV
  go_wp2_with fail
  go_loopw [5, 24] (fun tv iv wr => ∃ q : Nat, q ≤ l.length ∧ tv = .bool ((l.take q).any (fun c => c.name == s.data.toList)) ∧ iv = .int .i64 q ∧ Below w.heap.size w wr) (fun _ iv _ => l.length - (intOf iv).toNat)
  case atStart => exact ⟨0, Nat.zero_le _, rfl, rfl, HB3.out⟩
  case round =>
    obtain ⟨q, hq, rfl, rfl, hbw⟩ := hrel
    have hzw := hbw.size
    have HAQ : ∃ bq, bq = (l.take q).any (fun c => c.name == s.data.toList) := ⟨_, rfl⟩
    obtain ⟨bq, hbq⟩ := HAQ
    rw [← hbq]
    by_cases hlt : q < l.length
    · obtain ⟨t, ht⟩ : ∃ n, l[q]? = some n := ⟨_, List.getElem?_eq_getElem hlt⟩
      obtain ⟨ad, hA, hM, hc14⟩ := cal_at (ccells_keep HR.out hbw (Nat.le_refl _)) q t ht
      subst hA
      have hfind := conf_names l HC.out t (List.mem_of_getElem? ht)
      have hfd := fun W hb => HFD.out ⟨t.name.toArray⟩ W hb
      rw [show (ByteArray.mk t.name.toArray).data.toList = t.name from rfl, hfind] at hfd
      have HNX := Lib.hid (any_step l q t s.data.toList ht)
      rw [← hbq] at HNX
      have hnq := fun W => run_neqCal W t t
      have hnm : ∃ bn, bn = (t.name == s.data.toList) := ⟨_, rfl⟩
      obtain ⟨bn, hbn⟩ := hnm
      rw [← hbn] at HNX
      obtain ⟨nm, kind, day, month, shift, shape, p0, p1, p2, cycle, extra, first, last, policy⟩ := t
      unfold CalL.cc at hnq
      simp only [decide_true, Bool.not_true] at hnq
      obtain ⟨x0, x1, x2, x3, x4, x5, x6, x7, x8, x9, x10, x11, x12, x13⟩ := hc14
      dsimp only at hbn x0 x1 x2 x3 x4 x5 x6 x7 x8 x9 x10 x11 x12 x13 hfd
      dsimp only [calV] at hfd
      have hbn' : (nm == s.toList) = bn := by rw [ba_toList, hbn]
      have lk : (q : Int) < l.length := by omega
      have lk0 : (0 : Int) ≤ q := by omega
      have w1f : IntKind.i64.wrap ((q : Int) + 1) = (q : Int) + 1 := by rw [IntKind.wrap_i64]; omega
      have HA0 := Lib.hid (heap_alloc_new wr (.cells #[.string ⟨nm.toArray⟩, .int .i64 kind, .int .i64 day, .int .i64 month, .int .i64 shift, .int .i64 shape, .int .i64 p0, .int .i64 p1, .int .i64 p2, .int .i64 cycle, .int .i64 extra, .int .i64 first, .int .i64 last, .int .i64 policy] 31))
      have HFD2 := Lib.hid (hfd _ (hbw.alloc hzw (.cells #[.string ⟨nm.toArray⟩, .int .i64 kind, .int .i64 day, .int .i64 month, .int .i64 shift, .int .i64 shape, .int .i64 p0, .int .i64 p1, .int .i64 p2, .int .i64 cycle, .int .i64 extra, .int .i64 first, .int .i64 last, .int .i64 policy] 31)))
      have HB := Lib.hid hbw
      clear hbw ht hfind hfd hbn hbq HFD hM
      go_wp2_with fail
      refine HFD2.out.mono ?_
      rintro e4 w4 ⟨rfl, hb4⟩
      have hcb : w4.heap[wr.heap.size]? = _ := (hb4.block _ (by simp)).trans HA0.out
      have g0 := Joins.cell_of_block hcb 0; have g1 := Joins.cell_of_block hcb 1; have g2 := Joins.cell_of_block hcb 2; have g3 := Joins.cell_of_block hcb 3; have g4 := Joins.cell_of_block hcb 4; have g5 := Joins.cell_of_block hcb 5; have g6 := Joins.cell_of_block hcb 6; have g7 := Joins.cell_of_block hcb 7; have g8 := Joins.cell_of_block hcb 8; have g9 := Joins.cell_of_block hcb 9; have g10 := Joins.cell_of_block hcb 10; have g11 := Joins.cell_of_block hcb 11; have g12 := Joins.cell_of_block hcb 12; have g13 := Joins.cell_of_block hcb 13
      have hzz := hb4.size
      have hlt4 : wr.heap.size < w4.heap.size := by simp at hzz; omega
      have HB4 := Lib.hid (HB.out.trans (((Below.refl wr.heap.size wr).alloc (Nat.le_refl _) (.cells #[.string ⟨nm.toArray⟩, .int .i64 kind, .int .i64 day, .int .i64 month, .int .i64 shift, .int .i64 shape, .int .i64 p0, .int .i64 p1, .int .i64 p2, .int .i64 cycle, .int .i64 extra, .int .i64 first, .int .i64 last, .int .i64 policy] 31) |>.trans (hb4.mono (by simp))).mono hzw))
      clear hcb hb4 hzz
      cases bq
      · go_wp2_with fail
        refine ⟨⟨q + 1, by omega, by first | (rw [HNX.out]; rfl) | (rw [HNX.out]; simp), by go_num, ?_⟩, by simp [intOf]; omega⟩
        first | exact HB4.out | exact HB4.out.alloc HB4.out.size _
      · go_wp2_with fail
        refine ⟨⟨q + 1, by omega, by first | (rw [HNX.out]; rfl) | (rw [HNX.out]; simp), by go_num, ?_⟩, by simp [intOf]; omega⟩
        first | exact HB4.out | exact HB4.out.alloc HB4.out.size _
    · have lk : ¬ (q : Int) < l.length := by omega
      have hfd := fun W hb => HFD.out s W hb
      have hq0 : l.take q = l := by rw [show q = l.length by omega, List.take_length]
      rw [hq0] at hbq
      have HB := Lib.hid hbw
      cases bq with
      | true =>
        have hth : ∃ c ∈ l, c.name = s.data.toList := by
          obtain ⟨x, hx, he⟩ := List.any_eq_true.1 hbq.symm
          exact ⟨x, hx, by simpa using he⟩
        obtain ⟨f1, f2⟩ := find_there l s.data.toList HC.out hth
        generalize findC l s.data.toList = F at *
        obtain ⟨t, fe⟩ := F
        dsimp only at f1 f2 hfd
        subst f1
        obtain ⟨nm, kind, day, month, shift, shape, p0, p1, p2, cycle, extra, first, last, policy⟩ := t
        dsimp only [calV] at hfd f2
        have hnn : (nm == s.toList) = true := by rw [ba_toList, f2]; simp
        have HFD2 := Lib.hid (hfd _ hbw)
        clear hbw hfd hbq f2 hth HFD
        go_wp2_with fail
        refine HFD2.out.mono ?_
        rintro e4 w4 ⟨rfl, hb4⟩
        have HB4 := Lib.hid (HB.out.trans (hb4.mono hzw))
        clear hb4
        go_wp2_with fail
        go_ret
        exact ⟨by first | rfl | exact ret_bool (by simp), HB4.out.alloc HB4.out.size _⟩
      | false =>
        have hth : ∀ c ∈ l, ¬ c.name = s.data.toList := by
          intro x hx he
          have := List.any_eq_false.1 hbq.symm x hx
          simp [he] at this
        have hF := find_none l s.data.toList HC.out hth
        rw [hF] at hfd
        dsimp only [calV, calZ] at hfd
        have heq := fun W => run_eqCal W calZ calZ
        dsimp only [calZ] at heq
        simp only [decide_true] at heq
        have HFD2 := Lib.hid (hfd _ hbw)
        clear hbw hfd hbq hth HFD hF
        go_wp2_with fail
        refine HFD2.out.mono ?_
        rintro e4 w4 ⟨rfl, hb4⟩
        have HB4 := Lib.hid (HB.out.trans (hb4.mono hzw))
        clear hb4
        go_wp2_with fail
        go_ret
        exact ⟨by first | rfl | exact ret_bool (by simp), HB4.out.alloc HB4.out.size _⟩

end Go.Proofs.Ytjbniichcopnlaa
end

section
/- The row's last step over a walk that tells 'Below' alone. Over any program. -/
namespace Go.Proofs.Ytjbniichcopnlaa
open Go.RowKit Go.WideShapes Go.ChangeShapes

section
variable {H : Type} {enc : TypeId × Value → H} {P : Program}
theorem post_of_below {f : Func} {s : ChangeSpec} {apart fresh handsOn again : Bool} {W W' : World} {args : Array Value} {v : Value} {ds gs : List (DataW H)} {before pa pv : List MemPlace}
    (hW : DataW.Whole enc P f.params.toList s.vars apart W args.toList ds gs before)
    (hres : ∀ (b : Nat) (sp : Nat → Bool) (hd : Bool), DataW.TrodAll enc P W' b sp hd f.resultTypes.toList (v.resultList f.resultTypes.size) (s.fn H (ds ++ gs)).results [])
    (hargs : ∀ sp : Nat → Bool, (∀ p ∈ before, sp p.block = true) → DataW.TrodAll enc P W' 0 sp true f.params.toList args.toList (s.fn H (ds ++ gs)).args pa)
    (hvars : ∀ sp : Nat → Bool, (∀ p ∈ before, sp p.block = true) → DataW.TrodVars enc P W' sp s.vars (s.fn H (ds ++ gs)).vars pv)
    (hps : before = pa ++ pv) (hb : Below W.heap.size W W')
    (hok : ∀ (j : Nat) (t : TypeId) (r : Value), f.resultTypes[j]? = some t → (v.resultList f.resultTypes.size)[j]? = some r → Value.okWide P W' .any 0 t r) :
    s.post enc P f apart fresh handsOn again W args v W' := by
  have hlt : ∀ p ∈ before, p.block < W.heap.size := fun p hp => hW.lt p hp
  have hold : ∀ p ∈ before, (fun b => decide (b < W.heap.size)) p.block = true := fun p hp => by simpa using hlt p hp
  refine ⟨ds, gs, before, [], pa, pv, hW, hres _ _ _, hargs _ hold, hvars _ hold, World.keptBut_mono (fun p hp => ⟨hp, ?_⟩) (hb.frame (· ∈ before)), fun _ => ?_⟩
  · rw [hps, List.mem_append] at hp
    exact Or.inr hp
  · obtain ⟨_, _, _, _, _, hz, hn⟩ := hW
    refine ⟨hok, _, _, ([] ++ pa) ++ pv, ⟨[] ++ pa, pv, trodAll_append (hargs _ (fun _ _ => rfl)) (hres _ _ _), hvars _ (fun _ _ => rfl), rfl, ?_, ?_⟩, ?_⟩
    · intro b off hp
      have hin : MemPlace.cell b off ∈ before := by rw [hps]; simpa using hp
      rw [hb.frozen (hlt _ hin)]
      exact hz b off hin
    · intro ha
      have := hn ha
      rw [hps] at this
      simpa using this
    · intro p hp _
      rw [hps]
      simpa using hp
end
end Go.Proofs.Ytjbniichcopnlaa
end

section
/- The row's last step: the arguments read behind the call as they did, unopened, whatever their types. Over any program. -/
namespace Go.Proofs.Ytjbniichcopnlaa
open Go.RowKit Go.WideShapes Go.ChangeShapes Go.WideElems Go.ChangeAt

section
variable {H : Type} {enc : TypeId × Value → H} {P : Program}

/-- One closed fact: each parameter's type can be read and is a row of the table. -/
def paramsRowed (P : Program) (ts : List TypeId) : Bool := ts.all fun t => P.readableRec t && decide (t < P.types.size)

theorem trodAll_stay (hl : laidOutB P = true) {W W' : World} (hb : Below W.heap.size W W') : ∀ {ts : List TypeId} {vs : List Value} {ds : List (DataW H)} {ps : List MemPlace}, paramsRowed P ts = true →
    (∀ p ∈ ps, p.block < W.heap.size) → DataW.TrodAll enc P W 0 (fun _ => true) true ts vs ds ps →
    ∀ sp : Nat → Bool, (∀ p ∈ ps, sp p.block = true) → DataW.TrodAll enc P W' 0 sp true ts vs ds ps := by
  intro ts
  induction ts with
  | nil =>
    intro vs ds ps _ _ h sp _
    obtain ⟨rfl, rfl, rfl⟩ := trodAll_nil h
    exact trodAll_mk0
  | cons t ts ih =>
    intro vs ds ps hp hlt h sp hsp
    obtain ⟨v0, vs0, d0, ds0, p0, q0, rfl, rfl, rfl, h0, r0⟩ := trodAll_cons h
    simp only [paramsRowed, List.all_cons, Bool.and_eq_true, decide_eq_true_eq] at hp
    refine trodAll_cons_mk (Trod_stays hl hp.1.1 hp.1.2 h0 (fun p hx => hb.same (hlt p (by simp [hx]))) (fun p hx => hsp p (by simp [hx]))) (ih (by simpa [paramsRowed] using hp.2) (fun p hx => hlt p (by simp [hx])) r0 sp (fun p hx => hsp p (by simp [hx])))
end
end Go.Proofs.Ytjbniichcopnlaa
end

section
/- An argument that is a slice of items, opened. -/
set_option maxRecDepth 100000
namespace Go.Proofs.Ytjbniichcopnlaa
open Go.RowKit Go.WideShapes Go.ChangeShapes Go.WideElems Go.Deep

section
variable {H : Type} {enc : TypeId × Value → H} {P : Program} {w : World} {base : Nat} {spare : Nat → Bool} {held : Bool}
/-- A slice of structs whose fields are one cell each, opened; each field is read with less fuel. -/
theorem open_slice_less {t e : TypeId} {fs : Array Field} {fuel : Nat} {cs : List Value} {x : DataW H × List MemPlace} (ht : P.underlying t = some (.slice e)) (he : P.underlying e = some (.struct fs))
    (hone : oneCellFields P fs = true) (hC : P.cellsOf e = fs.size) (h : DataW.trod enc P w base spare held fuel t cs = some x) :
    cs = [.slice none 0 0] ∨
    ∃ (a : Addr) (len cap : Nat), cs = [.slice (some a) len cap] ∧ len ≤ cap ∧ cap ≤ maxLen ∧
      ∀ i, i < len → ∀ (j : Nat) (f : Field), fs[j]? = some f → ∃ (v : Value) (y : DataW H × List MemPlace) (n : Nat), n < fuel ∧ w.cell? (a.add (i * fs.size + j)) = some v ∧ DataW.trod enc P w base spare held n f.type [v] = some y := by
  rcases DataW.trod_slice ht h with h0 | ⟨a, len, cap, elems, rest, n, hfu, hcs, hx, hb, hl, hm, hlen, hel, _, _⟩
  · exact .inl h0.1
  · refine .inr ⟨a, len, cap, hcs, hl, hm, fun i him j f hj => ?_⟩
    have hi := hel i him
    rw [List.getElem?_eq_getElem (by omega)] at hi
    obtain ⟨cs', hc, ht'⟩ := Option.bind_eq_some_iff.1 hi
    rw [hC] at hc
    obtain ⟨ys, n', hn', hy, hlen', hyl, hf⟩ := DataW.trod_struct he ht'
    obtain ⟨_, hcl, hat⟩ := World.cells?_some hc
    obtain ⟨ho, hk⟩ := hone_of hone j f hj
    have hjl : j < fs.size := (Array.getElem?_eq_some_iff.1 hj).1
    have hcell := hat j hjl
    have hv : cs'[j]? = some (cs'[j]'(by omega)) := List.getElem?_eq_getElem (by omega)
    have h1 := hf j f hj
    rw [ho, hk] at h1
    have hone' : (cs'.drop j).take 1 = [cs'[j]'(by omega)] := by
      rw [List.drop_eq_getElem_cons (by omega)]
      rfl
    rw [hone'] at h1
    have hys : ys[j]? = some (ys[j]'(by omega)) := List.getElem?_eq_getElem (by omega)
    refine ⟨_, _, n', by omega, ?_, h1.trans hys⟩
    rw [← Go.Deep.add_add, hcell, hv]
end

theorem exists_list {α : Type} (n : Nat) (p : Nat → α → Prop) (h : ∀ i, i < n → ∃ a, p i a) : ∃ l : List α, l.length = n ∧ ∀ i a, l[i]? = some a → p i a := by
  induction n with
  | zero => exact ⟨[], rfl, fun i a h => by simp at h⟩
  | succ n ih =>
    obtain ⟨l, hl, hp⟩ := ih fun i hi => h i (by omega)
    obtain ⟨a, ha⟩ := h n (by omega)
    refine ⟨l ++ [a], by simp [hl], fun i b hb => ?_⟩
    by_cases hi : i < l.length
    · rw [List.getElem?_append_left hi] at hb
      exact hp i b hb
    · rw [List.getElem?_append_right (by omega)] at hb
      have h0 : i - l.length = 0 := by
        have := (List.getElem?_eq_some_iff.1 hb).1
        simp at this
        omega
      rw [h0] at hb
      simp at hb
      subst hb
      rw [show i = n by omega]
      exact ha

theorem cell_lt {w : World} {p : Addr} {v : Value} (h : w.cell? p = some v) : p.block < w.heap.size := by
  rcases Nat.lt_or_ge p.block w.heap.size with hlt | hge
  · exact hlt
  · exfalso
    unfold World.cell? at h
    rw [Array.getElem?_eq_none hge] at h
    simp at h

theorem open_words {H : Type} {enc : TypeId × Value → H} {w : World} {base : Nat} {spare : Nat → Bool} {held : Bool} {fuel : Nat} {cs : List Value} {x : DataW H × List MemPlace}
    (h : DataW.trod enc Try.prog w base spare held fuel 38 cs = some x) :
    ∃ (A : Option Addr) (c : Nat) (l : List WordL), cs = [.slice A l.length c] ∧ NilOk A c ∧ ReadsM w (· < w.heap.size) 4 A l.length (l.flatMap WordL.cells) ∧ l.length ≤ maxLen ∧ ∀ t ∈ l, t.s.length ≤ maxLen := by
  rcases open_slice_less Try.underlying38 Try.underlying62 (by kernel_rfl) (by kernel_rfl) h with rfl | ⟨a, len, cap, rfl, hl, hm, hi⟩
  · exact ⟨none, 0, [], rfl, fun _ => rfl, ReadsM.nil _ _ _ _, by simp, by simp⟩
  · obtain ⟨l, hlen, hp⟩ := exists_list len (fun (i : Nat) (t : WordL) => t.s.length ≤ maxLen ∧ w.cell? (a.add (i * 4)) = some (.bool t.num) ∧ w.cell? (a.add (i * 4 + 1)) = some (.int .i64 t.n) ∧ w.cell? (a.add (i * 4 + 2)) = some (.string ⟨t.s.toArray⟩) ∧ w.cell? (a.add (i * 4 + 3)) = some (.int .i64 t.pos)) (fun i him => by
      obtain ⟨v0, y0, n0, _, c0, t0⟩ := hi i him 0 _ rfl
      obtain ⟨v1, y1, n1, _, c1, t1⟩ := hi i him 1 _ rfl
      obtain ⟨v2, y2, n2, _, c2, t2⟩ := hi i him 2 _ rfl
      obtain ⟨v3, y3, n3, _, c3, t3⟩ := hi i him 3 _ rfl
      obtain ⟨k0, h0, _⟩ := DataW.trod_bool Try.underlying4 t0
      obtain ⟨k1, h1, _, w1⟩ := DataW.trod_int (k := .i64) Try.underlying3 t1
      obtain ⟨k2, h2, _, w2⟩ := DataW.trod_string Try.underlying9 t2
      obtain ⟨k3, h3, _, w3⟩ := DataW.trod_int (k := .i64) Try.underlying3 t3
      simp only [List.cons.injEq, and_true] at h0 h1 h2 h3
      subst h0 h1 h2 h3
      exact ⟨⟨k0, k1, k2.data.toList, k3⟩, by rw [ba_len]; exact w2, c0, c1, by simpa using c2, c3⟩)
    subst hlen
    refine ⟨some a, cap, l, rfl, fun h => by simp at h, ⟨wcells_length l, fun h0 => ⟨a, rfl, ?_, fun j u hj => ?_⟩⟩, by omega, fun t ht => ?_⟩
    · have h1 := (hp 0 _ (List.getElem?_eq_getElem h0)).2.1
      have := cell_lt h1
      rwa [block_of_add] at this
    · have hj4 : j < l.length * 4 := by
        have := (List.getElem?_eq_some_iff.1 hj).1
        rwa [wcells_length] at this
      have hi4 : j / 4 < l.length := by omega
      have hg := wflat_get l (j / 4) _ (List.getElem?_eq_getElem hi4) (j % 4) (by omega)
      rw [show j / 4 * 4 + j % 4 = j by omega, hj] at hg
      obtain ⟨_, q0, q1, q2, q3⟩ := hp (j / 4) _ (List.getElem?_eq_getElem hi4)
      have hm4 : j % 4 = 0 ∨ j % 4 = 1 ∨ j % 4 = 2 ∨ j % 4 = 3 := by omega
      rcases hm4 with h4 | h4 | h4 | h4
      · rw [h4] at hg; simp [WordL.cells] at hg; rw [show j = j / 4 * 4 by omega, hg]; exact q0
      · rw [h4] at hg; simp [WordL.cells] at hg; rw [show j = j / 4 * 4 + 1 by omega, hg]; exact q1
      · rw [h4] at hg; simp [WordL.cells] at hg; rw [show j = j / 4 * 4 + 2 by omega, hg]; exact q2
      · rw [h4] at hg; simp [WordL.cells] at hg; rw [show j = j / 4 * 4 + 3 by omega, hg]; exact q3
    · obtain ⟨i, hi, rfl⟩ := List.mem_iff_getElem.1 ht
      exact (hp i _ (List.getElem?_eq_getElem hi)).1

/-- Five cells from an address on. -/
def At5 (w : World) (a : Addr) (i : Nat) (cs : List Value) : Prop := cs.length = 5 ∧ ∀ j u, cs[j]? = some u → w.cell? (a.add (i * 5 + j)) = some u
theorem nodes_ok {w : World} {M : Nat → Prop} {a : Addr} : ∀ (l : List NodeL) (i : Nat), (∀ (j : Nat) (n : NodeL), l[j]? = some n → ∃ cs, At5 w a (i + j) cs ∧ NodeOk w M n cs) →
    ∃ kcs, kcs.length = l.length * 5 ∧ (∀ j u, kcs[j]? = some u → w.cell? (a.add (i * 5 + j)) = some u) ∧ NodesOk w M l kcs
  | [], i, _ => ⟨[], rfl, fun j u h => by simp at h, by simp only [NodesOk]⟩
  | n :: r, i, h => by
    obtain ⟨cs, ⟨h1, h2⟩, h3⟩ := h 0 n rfl
    obtain ⟨kcs, k1, k2, k3⟩ := nodes_ok r (i + 1) (fun j m hj => by
      have := h (j + 1) m (by simpa using hj)
      rwa [show i + (j + 1) = i + 1 + j by omega] at this)
    refine ⟨cs ++ kcs, by rw [List.length_append, h1, k1, List.length_cons]; omega, fun j u hj => ?_, by simp only [NodesOk]; exact ⟨cs, kcs, rfl, h3, k3⟩⟩
    by_cases hj5 : j < 5
    · rw [List.getElem?_append_left (by omega)] at hj
      simpa using h2 j u hj
    · rw [List.getElem?_append_right (by omega), h1] at hj
      have := k2 (j - 5) u hj
      rwa [show (i + 1) * 5 + (j - 5) = i * 5 + j by omega] at this
theorem fitNs_of : ∀ (l : List NodeL), (∀ (j : Nat) (n : NodeL), l[j]? = some n → fitN n) → fitNs l
  | [], _ => trivial
  | n :: r, h => ⟨h 0 n rfl, fitNs_of r fun j m hj => h (j + 1) m (by simpa using hj)⟩

theorem open_nodes_fuel {H : Type} {enc : TypeId × Value → H} {w : World} {base : Nat} {spare : Nat → Bool} {held : Bool} : ∀ (N fuel : Nat), fuel < N → ∀ {cs : List Value} {x : DataW H × List MemPlace},
    DataW.trod enc Try.prog w base spare held fuel 33 cs = some x →
    ∃ (A : Option Addr) (c : Nat) (l : List NodeL), cs = [.slice A l.length c] ∧ NilOk A c ∧ ROk w w.heap.size A l ∧ l.length ≤ maxLen ∧ fitNs l
  | 0, fuel, hf, _, _, _ => by omega
  | N + 1, fuel, hf, cs, x, h => by
    rcases open_slice_less Try.underlying33 Try.underlying40 (by kernel_rfl) (by kernel_rfl) h with rfl | ⟨a, len, cap, rfl, hl, hm, hi⟩
    · exact ⟨none, 0, [], rfl, fun _ => rfl, ⟨[], ReadsM.nil _ _ _ _, by simp only [NodesOk]⟩, by simp, trivial⟩
    · obtain ⟨l, hlen, hp⟩ := exists_list len (fun (i : Nat) (n : NodeL) => fitN n ∧ ∃ cs, At5 w a i cs ∧ NodeOk w (· < w.heap.size) n cs) (fun i him => by
        obtain ⟨v0, y0, n0, _, c0, t0⟩ := hi i him 0 _ rfl
        obtain ⟨v1, y1, n1, _, c1, t1⟩ := hi i him 1 _ rfl
        obtain ⟨v2, y2, n2, _, c2, t2⟩ := hi i him 2 _ rfl
        obtain ⟨v3, y3, n3, _, c3, t3⟩ := hi i him 3 _ rfl
        obtain ⟨v4, y4, n4, l4, c4, t4⟩ := hi i him 4 _ rfl
        obtain ⟨k0, h0, _, w0⟩ := DataW.trod_string Try.underlying9 t0
        obtain ⟨k1, h1, _, w1⟩ := DataW.trod_int (k := .i64) Try.underlying3 t1
        obtain ⟨Aw, cw, ws, h2, g1, g2, g3, g4⟩ := open_words t2
        obtain ⟨k3, h3, _⟩ := DataW.trod_bool Try.underlying4 t3
        obtain ⟨Ak, ck, ks, h4, g5, ⟨kcs, g6, g7⟩, g8, g9⟩ := open_nodes_fuel N n4 (by omega) t4
        simp only [List.cons.injEq, and_true] at h0 h1 h2 h3 h4
        subst h0 h1 h2 h3 h4
        refine ⟨.mk k0.data.toList k1 ws k3 ks, ⟨by rw [ba_len]; exact w0, g3, g4, g8, g9⟩, [.string k0, .int .i64 k1, .slice Aw ws.length cw, .bool k3, .slice Ak ks.length ck], ⟨rfl, fun j u hj => ?_⟩, ?_⟩
        · have hj5 : j < 5 := (List.getElem?_eq_some_iff.1 hj).1
          have hm5 : j = 0 ∨ j = 1 ∨ j = 2 ∨ j = 3 ∨ j = 4 := by omega
          rcases hm5 with rfl | rfl | rfl | rfl | rfl <;> (simp only [List.getElem?_cons_zero, List.getElem?_cons_succ, Option.some.injEq] at hj; subst hj; assumption)
        · simp only [NodeOk]
          exact ⟨Aw, cw, Ak, ck, kcs, by simp, g1, g5, g2, g6, g7⟩)
      subst hlen
      obtain ⟨kcs, k1, k2, k3⟩ := nodes_ok l 0 (fun j n hj => by
        have := (hp j n hj).2
        rwa [Nat.zero_add])
      refine ⟨some a, cap, l, rfl, fun h => by simp at h, ⟨kcs, ⟨k1, fun h0 => ⟨a, rfl, ?_, fun j u hj => by simpa using k2 j u hj⟩⟩, k3⟩, by omega, fitNs_of l fun j n hj => (hp j n hj).1⟩
      have hk0 : 0 < kcs.length := by omega
      have := cell_lt (k2 0 _ (List.getElem?_eq_getElem hk0))
      rwa [block_of_add] at this

theorem open_nodes {H : Type} {enc : TypeId × Value → H} {w : World} {base : Nat} {spare : Nat → Bool} {held : Bool} {v : Value} {d : DataW H} {ps : List MemPlace} {r : Reach} {b0 : Nat}
    (hval : Value.okWide Try.prog w r b0 33 v) (hd : DataW.Trod enc Try.prog w base spare held 33 v d ps) :
    ∃ (A : Option Addr) (c : Nat) (l : List NodeL), v = .slice A l.length c ∧ NilOk A c ∧ ROk w w.heap.size A l ∧ l.length ≤ maxLen ∧ fitNs l := by
  obtain ⟨A, n, c, rfl⟩ := okWide_slice Try.underlying33 hval
  obtain ⟨fuel, hf⟩ := hd
  obtain ⟨A', c', l, h1, h2⟩ := open_nodes_fuel (fuel + 1) fuel (by omega) hf
  simp only [Value.cells] at h1
  refine ⟨A', c', l, ?_, h2⟩
  simpa using h1

end Go.Proofs.Ytjbniichcopnlaa
end

section
/- Arguments that are an item, a calendar, opened. -/
set_option maxRecDepth 100000
namespace Go.Proofs.Ytjbniichcopnlaa
open Go.RowKit Go.WideShapes Go.ChangeShapes Go.WideElems Go.Deep

theorem cells_string : Try.prog.cellsOf 9 = 1 := by kernel_rfl
theorem cells_bool : Try.prog.cellsOf 4 = 1 := by kernel_rfl
theorem cells_pat : Try.prog.cellsOf 29 = 3 := by kernel_rfl
theorem cells_words : Try.prog.cellsOf 38 = 1 := by kernel_rfl
theorem cells_nodes : Try.prog.cellsOf 33 = 1 := by kernel_rfl

theorem arr5 {α : Type} (cs : Array α) (h : cs.size = 5) : ∃ a b c d e, cs = #[a, b, c, d, e] := by
  obtain ⟨l⟩ := cs
  match l, h with
  | [a, b, c, d, e], _ => exact ⟨a, b, c, d, e, rfl⟩
theorem arr14 {α : Type} (cs : Array α) (h : cs.size = 14) : ∃ a b c d e f g i j k l m n o, cs = #[a, b, c, d, e, f, g, i, j, k, l, m, n, o] := by
  obtain ⟨x⟩ := cs
  match x, h with
  | [a, b, c, d, e, f, g, i, j, k, l, m, n, o], _ => exact ⟨a, b, c, d, e, f, g, i, j, k, l, m, n, o, rfl⟩

theorem open_node {H : Type} {enc : TypeId × Value → H} {w : World} {base : Nat} {spare : Nat → Bool} {held : Bool} {v : Value} {d : DataW H} {ps : List MemPlace} {r : Reach} {b0 : Nat}
    (hval : Value.okWide Try.prog w r b0 40 v) (hd : DataW.Trod enc Try.prog w base spare held 40 v d ps) :
    ∃ (cs : List Value) (n : NodeL), v = .agg cs.toArray ∧ NodeOk w (· < w.heap.size) n cs ∧ fitN n := by
  obtain ⟨cs, rfl, hsz⟩ := okWide_struct Try.underlying40 hval
  obtain ⟨c0, c1, c2, c3, c4, rfl⟩ := arr5 cs (hsz.trans (by kernel_rfl))
  obtain ⟨fuel, hf⟩ := hd
  obtain ⟨xs, n, _, _, _, hlen, hfs⟩ := DataW.trod_struct Try.underlying40 hf
  have hlen' : xs.length = 5 := hlen
  have t0 := hfs 0 _ rfl
  have t1 := hfs 1 _ rfl
  have t2 := hfs 2 _ rfl
  have t3 := hfs 3 _ rfl
  have t4 := hfs 4 _ rfl
  rw [List.getElem?_eq_getElem (by omega)] at t0 t1 t2 t3 t4
  simp only [List.getElem_toArray, List.getElem_cons_zero, List.getElem_cons_succ] at t0 t1 t2 t3 t4
  rw [cells_string] at t0
  rw [cells_int] at t1
  rw [cells_words] at t2
  rw [cells_bool] at t3
  rw [cells_nodes] at t4
  obtain ⟨k0, h0, _, w0⟩ := DataW.trod_string Try.underlying9 t0
  obtain ⟨k1, h1, _, w1⟩ := DataW.trod_int (k := .i64) Try.underlying3 t1
  obtain ⟨Aw, cw, ws, h2, g1, g2, g3, g4⟩ := open_words t2
  obtain ⟨k3, h3, _⟩ := DataW.trod_bool Try.underlying4 t3
  obtain ⟨Ak, ck, ks, h4, g5, ⟨kcs, g6, g7⟩, g8, g9⟩ := open_nodes_fuel (n + 1) n (by omega) t4
  simp [Value.cells] at h0 h1 h2 h3 h4
  subst h0 h1 h2 h3 h4
  refine ⟨[.string k0, .int .i64 k1, .slice Aw ws.length cw, .bool k3, .slice Ak ks.length ck], .mk k0.data.toList k1 ws k3 ks, rfl, ?_, ⟨by rw [ba_len]; exact w0, g3, g4, g8, g9⟩⟩
  simp only [NodeOk]
  exact ⟨Aw, cw, Ak, ck, kcs, by simp, g1, g5, g2, g6, g7⟩

theorem open_cal {H : Type} {enc : TypeId × Value → H} {w : World} {base : Nat} {spare : Nat → Bool} {held : Bool} {v : Value} {d : DataW H} {ps : List MemPlace} {r : Reach} {b0 : Nat}
    (hval : Value.okWide Try.prog w r b0 31 v) (hd : DataW.Trod enc Try.prog w base spare held 31 v d ps) :
    ∃ c : CalL, v = calV c ∧ c.name.length ≤ maxLen := by
  obtain ⟨cs, rfl, hsz⟩ := okWide_struct Try.underlying31 hval
  obtain ⟨c0, c1, c2, c3, c4, c5, c6, c7, c8, c9, c10, c11, c12, c13, rfl⟩ := arr14 cs (hsz.trans (by kernel_rfl))
  obtain ⟨fuel, hf⟩ := hd
  obtain ⟨xs, n, _, _, _, hlen, hfs⟩ := DataW.trod_struct Try.underlying31 hf
  have hlen' : xs.length = 12 := hlen
  have t0 := hfs 0 _ rfl
  have t1 := hfs 1 _ rfl
  have t2 := hfs 2 _ rfl
  have t3 := hfs 3 _ rfl
  have t4 := hfs 4 _ rfl
  have t5 := hfs 5 _ rfl
  have t6 := hfs 6 _ rfl
  have t7 := hfs 7 _ rfl
  have t8 := hfs 8 _ rfl
  have t9 := hfs 9 _ rfl
  have t10 := hfs 10 _ rfl
  have t11 := hfs 11 _ rfl
  rw [List.getElem?_eq_getElem (by omega)] at t0 t1 t2 t3 t4 t5 t6 t7 t8 t9 t10 t11
  simp only [List.getElem_toArray, List.getElem_cons_zero, List.getElem_cons_succ] at t0 t1 t2 t3 t4 t5 t6 t7 t8 t9 t10 t11
  rw [cells_string] at t0
  rw [cells_int] at t1 t2 t3 t4 t5 t7 t8 t9 t10 t11
  rw [cells_pat] at t6
  simp only [Value.cells, List.drop_succ_cons, List.drop_zero, List.take_succ_cons, List.take_zero] at t0 t1 t2 t3 t4 t5 t6 t7 t8 t9 t10 t11
  obtain ⟨y0, y1, y2, m, _, p0, p1, p2⟩ := trod_array3 und_pat cells_int t6
  obtain ⟨k0, h0, _, w0⟩ := DataW.trod_string Try.underlying9 t0
  obtain ⟨k1, h1, _, _⟩ := DataW.trod_int (k := .i64) Try.underlying3 t1
  obtain ⟨k2, h2, _, _⟩ := DataW.trod_int (k := .i64) Try.underlying3 t2
  obtain ⟨k3, h3, _, _⟩ := DataW.trod_int (k := .i64) Try.underlying3 t3
  obtain ⟨k4, h4, _, _⟩ := DataW.trod_int (k := .i64) Try.underlying3 t4
  obtain ⟨k5, h5, _, _⟩ := DataW.trod_int (k := .i64) Try.underlying3 t5
  obtain ⟨q0, e0, _, _⟩ := DataW.trod_int (k := .i64) Try.underlying3 p0
  obtain ⟨q1, e1, _, _⟩ := DataW.trod_int (k := .i64) Try.underlying3 p1
  obtain ⟨q2, e2, _, _⟩ := DataW.trod_int (k := .i64) Try.underlying3 p2
  obtain ⟨k7, h7, _, _⟩ := DataW.trod_int (k := .i64) Try.underlying3 t7
  obtain ⟨k8, h8, _, _⟩ := DataW.trod_int (k := .i64) Try.underlying3 t8
  obtain ⟨k9, h9, _, _⟩ := DataW.trod_int (k := .i64) Try.underlying3 t9
  obtain ⟨k10, h10, _, _⟩ := DataW.trod_int (k := .i64) Try.underlying3 t10
  obtain ⟨k11, h11, _, _⟩ := DataW.trod_int (k := .i64) Try.underlying3 t11
  simp only [List.cons.injEq, and_true] at h0 h1 h2 h3 h4 h5 h7 h8 h9 h10 h11 e0 e1 e2
  subst h0 h1 h2 h3 h4 h5 h7 h8 h9 h10 h11 e0 e1 e2
  exact ⟨⟨k0.data.toList, k1, k2, k3, k4, k5, q0, q1, q2, k7, k8, k9, k10, k11⟩, by simp [calV], by rw [ba_len]; exact w0⟩

end Go.Proofs.Ytjbniichcopnlaa
end

section
/- An argument that is a slice of calendars, opened. -/
set_option maxRecDepth 100000
namespace Go.Proofs.Ytjbniichcopnlaa
open Go.RowKit Go.WideShapes Go.ChangeShapes Go.WideElems Go.Deep

theorem arr14l {α : Type} (cs : List α) (h : cs.length = 14) : ∃ a b c d e f g i j k l m n o, cs = [a, b, c, d, e, f, g, i, j, k, l, m, n, o] := by
  match cs, h with
  | [a, b, c, d, e, f, g, i, j, k, l, m, n, o], _ => exact ⟨a, b, c, d, e, f, g, i, j, k, l, m, n, o, rfl⟩
theorem trod_cal {H : Type} {enc : TypeId × Value → H} {w : World} {base : Nat} {spare : Nat → Bool} {held : Bool} {fuel : Nat} {cs : List Value} {x : DataW H × List MemPlace}
    (hl : cs.length = 14) (h : DataW.trod enc Try.prog w base spare held fuel 31 cs = some x) : ∃ c : CalL, cs = c.cc ∧ c.name.length ≤ maxLen := by
  obtain ⟨c0, c1, c2, c3, c4, c5, c6, c7, c8, c9, c10, c11, c12, c13, rfl⟩ := arr14l cs hl
  obtain ⟨xs, n, _, _, _, hlen, hfs⟩ := DataW.trod_struct Try.underlying31 h
  have hlen' : xs.length = 12 := hlen
  have t0 := hfs 0 _ rfl
  have t1 := hfs 1 _ rfl
  have t2 := hfs 2 _ rfl
  have t3 := hfs 3 _ rfl
  have t4 := hfs 4 _ rfl
  have t5 := hfs 5 _ rfl
  have t6 := hfs 6 _ rfl
  have t7 := hfs 7 _ rfl
  have t8 := hfs 8 _ rfl
  have t9 := hfs 9 _ rfl
  have t10 := hfs 10 _ rfl
  have t11 := hfs 11 _ rfl
  rw [List.getElem?_eq_getElem (by omega)] at t0 t1 t2 t3 t4 t5 t6 t7 t8 t9 t10 t11
  simp only [List.getElem_toArray, List.getElem_cons_zero, List.getElem_cons_succ] at t0 t1 t2 t3 t4 t5 t6 t7 t8 t9 t10 t11
  rw [cells_string] at t0
  rw [cells_int] at t1 t2 t3 t4 t5 t7 t8 t9 t10 t11
  rw [cells_pat] at t6
  simp only [List.drop_succ_cons, List.drop_zero, List.take_succ_cons, List.take_zero] at t0 t1 t2 t3 t4 t5 t6 t7 t8 t9 t10 t11
  obtain ⟨y0, y1, y2, m, _, p0, p1, p2⟩ := trod_array3 und_pat cells_int t6
  obtain ⟨k0, h0, _, w0⟩ := DataW.trod_string Try.underlying9 t0
  obtain ⟨k1, h1, _, _⟩ := DataW.trod_int (k := .i64) Try.underlying3 t1
  obtain ⟨k2, h2, _, _⟩ := DataW.trod_int (k := .i64) Try.underlying3 t2
  obtain ⟨k3, h3, _, _⟩ := DataW.trod_int (k := .i64) Try.underlying3 t3
  obtain ⟨k4, h4, _, _⟩ := DataW.trod_int (k := .i64) Try.underlying3 t4
  obtain ⟨k5, h5, _, _⟩ := DataW.trod_int (k := .i64) Try.underlying3 t5
  obtain ⟨q0, e0, _, _⟩ := DataW.trod_int (k := .i64) Try.underlying3 p0
  obtain ⟨q1, e1, _, _⟩ := DataW.trod_int (k := .i64) Try.underlying3 p1
  obtain ⟨q2, e2, _, _⟩ := DataW.trod_int (k := .i64) Try.underlying3 p2
  obtain ⟨k7, h7, _, _⟩ := DataW.trod_int (k := .i64) Try.underlying3 t7
  obtain ⟨k8, h8, _, _⟩ := DataW.trod_int (k := .i64) Try.underlying3 t8
  obtain ⟨k9, h9, _, _⟩ := DataW.trod_int (k := .i64) Try.underlying3 t9
  obtain ⟨k10, h10, _, _⟩ := DataW.trod_int (k := .i64) Try.underlying3 t10
  obtain ⟨k11, h11, _, _⟩ := DataW.trod_int (k := .i64) Try.underlying3 t11
  simp only [List.cons.injEq, and_true] at h0 h1 h2 h3 h4 h5 h7 h8 h9 h10 h11 e0 e1 e2
  subst h0 h1 h2 h3 h4 h5 h7 h8 h9 h10 h11 e0 e1 e2
  exact ⟨⟨k0.data.toList, k1, k2, k3, k4, k5, q0, q1, q2, k7, k8, k9, k10, k11⟩, by simp [CalL.cc], by rw [ba_len]; exact w0⟩

theorem cellsof_cal : Try.prog.cellsOf 31 = 14 := by kernel_rfl
theorem open_cals_fuel {H : Type} {enc : TypeId × Value → H} {w : World} {base : Nat} {spare : Nat → Bool} {held : Bool} {fuel : Nat} {cs : List Value} {x : DataW H × List MemPlace}
    (h : DataW.trod enc Try.prog w base spare held fuel 23 cs = some x) :
    ∃ (A : Option Addr) (c : Nat) (l : List CalL), cs = [.slice A l.length c] ∧ NilOk A c ∧ ReadsM w (· < w.heap.size) 14 A l.length (l.flatMap CalL.cc) ∧ l.length ≤ maxLen ∧ ∀ t ∈ l, t.name.length ≤ maxLen := by
  rcases DataW.trod_slice Try.underlying23 h with h0 | ⟨a, len, cap, elems, rest, n, hfu, hcs, hx, hb, hl, hm, hlen, hel, _, _⟩
  · exact ⟨none, 0, [], h0.1, fun _ => rfl, ReadsM.nil _ _ _ _, by simp, by simp⟩
  · subst hcs
    obtain ⟨l, hll, hp⟩ := exists_list len (fun (i : Nat) (t : CalL) => t.name.length ≤ maxLen ∧ ∀ j u, t.cc[j]? = some u → w.cell? (a.add (i * 14 + j)) = some u) (fun i him => by
      have hi := hel i him
      rw [List.getElem?_eq_getElem (by omega)] at hi
      obtain ⟨cs', hc, ht'⟩ := Option.bind_eq_some_iff.1 hi
      rw [cellsof_cal] at hc
      obtain ⟨_, hcl, hat⟩ := World.cells?_some hc
      obtain ⟨c, rfl, hn⟩ := trod_cal hcl ht'
      refine ⟨c, hn, fun j u hj => ?_⟩
      have hjl : j < 14 := by rw [← hcl]; exact (List.getElem?_eq_some_iff.1 hj).1
      have := hat j hjl
      rw [Go.Deep.add_add] at this
      rw [this, hj])
    subst hll
    refine ⟨some a, cap, l, rfl, fun h => by simp at h, ⟨ccells_length l, fun h0 => ⟨a, rfl, ?_, fun j u hj => ?_⟩⟩, by omega, fun t ht => ?_⟩
    · have h1 := (hp 0 _ (List.getElem?_eq_getElem h0)).2 0 _ rfl
      have := cell_lt h1
      rwa [block_of_add] at this
    · have hj4 : j < l.length * 14 := by
        have := (List.getElem?_eq_some_iff.1 hj).1
        rwa [ccells_length] at this
      have hi4 : j / 14 < l.length := by omega
      have hg := cflat_get l (j / 14) _ (List.getElem?_eq_getElem hi4) (j % 14) (by omega)
      rw [show j / 14 * 14 + j % 14 = j by omega, hj] at hg
      have := (hp (j / 14) _ (List.getElem?_eq_getElem hi4)).2 (j % 14) u hg.symm
      rwa [show j / 14 * 14 + j % 14 = j by omega] at this
    · obtain ⟨i, hi, rfl⟩ := List.mem_iff_getElem.1 ht
      exact (hp i _ (List.getElem?_eq_getElem hi)).1
theorem open_cals {H : Type} {enc : TypeId × Value → H} {w : World} {base : Nat} {spare : Nat → Bool} {held : Bool} {v : Value} {d : DataW H} {ps : List MemPlace} {r : Reach} {b0 : Nat}
    (hval : Value.okWide Try.prog w r b0 23 v) (hd : DataW.Trod enc Try.prog w base spare held 23 v d ps) :
    ∃ (A : Option Addr) (c : Nat) (l : List CalL), v = .slice A l.length c ∧ NilOk A c ∧ ReadsM w (· < w.heap.size) 14 A l.length (l.flatMap CalL.cc) ∧ l.length ≤ maxLen ∧ ∀ t ∈ l, t.name.length ≤ maxLen := by
  obtain ⟨A, n, c, rfl⟩ := okWide_slice Try.underlying23 hval
  obtain ⟨fuel, hf⟩ := hd
  obtain ⟨A', c', l, h1, h2⟩ := open_cals_fuel hf
  simp only [Value.cells] at h1
  refine ⟨A', c', l, ?_, h2⟩
  simpa using h1

end Go.Proofs.Ytjbniichcopnlaa
end
