/- The law ConfTells walked: it answers true at any calendars, and any name. -/
import Derived.Test.YtjbniichcopnlaaGreatDoorPkS49
import Derived.Test.YtjbniichcopnlaaGreatDoorPkS33
set_option linter.unusedVariables false
set_option linter.unusedSimpArgs false
set_option maxRecDepth 100000
namespace Go.Proofs.YtjbniichcopnlaaGreatDoor
open Go.RowKit
open Go.Lib renaming hid → zh
set_option maxHeartbeats 4000000 in
theorem walk_ConfTells (w : World) (ht : Tab w) (hsp : SpaceTab w) (A : Option Addr) (c : Nat) (l : List CalL) (hnl : NilOk A c ∧ l.length ≤ c) (hr : ReadsM w (· < w.heap.size) 14 A l.length (l.flatMap CalL.cc)) (hl : l.length ≤ maxLen) (hn : ∀ t ∈ l,t.name.length ≤ maxLen) (s : ByteArray) (hs : s.size ≤ maxLen) :
    Calls Tryz.prog 5 #[.slice A l.length c, .string s] w fun e w' => e = .returned (.bool true) ∧ Below w.heap.size w w':=by
  have HV:=zh (law12_live w)
  have hg1:=hsp.lt
  have hg2:=ht.lt
  have HFW:=zh (fun W (hb : Below w.heap.size w W) => ref12_Few l A c W w.heap.size hb.size (ccells_keep hr hb (Nat.le_refl _)) hl hn)
  have HR:=zh hr
  have HNL:=zh hnl.1
  have HL:=zh hl
  generalize hfw : (fewK l && decide ((l.length : Int) ≤ 40)) = fw at *
  cases fw with
  | false =>
    clear hfw
    unfold maxLen at hl
    clear hr hn
    go_enter Tryz.func5,Tryz.ntmps5
    go_wp2_with fail
    refine HV.out.mono ?_
    rintro e w1 ⟨rfl,hb1⟩
    have HB1:=zh hb1
    clear hb1
    go_wp2_with fail
    refine (HFW.out w1 HB1.out).mono ?_
    rintro e w2 ⟨rfl,hb2⟩
    have HB2:=zh (HB1.out.trans (hb2.mono HB1.out.size))
    clear hb2
    go_wp2_with fail
    go_ret
    exact ⟨rfl,HB2.out⟩
  | true =>
  have hle : l.length ≤ 40 := by
    simp only [Bool.and_eq_true,decide_eq_true_eq] at hfw
    omega
  have HC1:=zh (fun W (hb : Below w.heap.size w W) => conf_Check l A c W w.heap.size hb.size (ccells_keep hr hb (Nat.le_refl _)) hl hn)
  have HC2:=zh (fun W (hb : Below w.heap.size w W) => ref12_Check l A c W w.heap.size hb.size (ccells_keep hr hb (Nat.le_refl _)) hl hn hnl.2)
  have HP1:=zh (fun W (hb : Below w.heap.size w W) => conf_Print l A c W w.heap.size hb.size (ccells_keep hr hb (Nat.le_refl _)) hl hn (ht.below hb) (hsp.below hb) (Nat.lt_of_lt_of_le hg1 hb.size) (Nat.lt_of_lt_of_le hg2 hb.size))
  have HP2:=zh (fun W (hb : Below w.heap.size w W) => ref12_Print l A c W w.heap.size hb.size (ccells_keep hr hb (Nat.le_refl _)) hl hn hnl.2)
  have HF1:=zh (fun W (hb : Below w.heap.size w W) => conf_Find l A c s W w.heap.size hb.size (ccells_keep hr hb (Nat.le_refl _)) hl hn)
  have HF2:=zh (fun W (hb : Below w.heap.size w W) => ref12_Find l A c s W w.heap.size hb.size (ccells_keep hr hb (Nat.le_refl _)) hl hn hnl.2)
  generalize confP l = P at *
  generalize confC l = C at *
  generalize findC l s.data.toList = F at *
  obtain ⟨pb,pe⟩:=P
  obtain ⟨t,fe⟩:=F
  have heq:=fun W => run_eqCal W t t
  simp only [decide_true] at heq
  dsimp only at HP1 HP2 HF1 HF2
  obtain ⟨nm,kind,day,month,shift,shape,p0,p1,p2,cycle,extra,first,last,policy⟩:=t
  dsimp only [calV] at HF1 HF2 heq
  clear hfw hr hn hl hnl ht hsp hg1 hg2
  go_enter Tryz.func5,Tryz.ntmps5
  go_wp2_with fail
  refine HV.out.mono ?_
  rintro e w1 ⟨rfl,hb1⟩
  have HB1:=zh hb1
  clear hb1
  go_wp2_with fail
  refine (HFW.out w1 HB1.out).mono ?_
  rintro e w2 ⟨rfl,hb2⟩
  have HB2:=zh (HB1.out.trans (hb2.mono HB1.out.size))
  have hr2:=(ccells_keep HR.out HB2.out HB2.out.size)
  clear hb2
  go_wp2_with (first | (at_builtin;go_loud (refine wpList_behindC _ _ rfl w2.heap.size (.slice none 0 0) [] l rfl (OwnCals.nil _ _) A c rfl hr2 HNL.out (by simp;omega) (Nat.le_refl _) (by first | rfl | simp [Region.wanted,yielded]) ?_);intro v3 w3 hr3 hb3;obtain ⟨A9,c9,hv9,hn9,hr9⟩:=own_cals_reads (show OwnCals w3 w2.heap.size v3 l from hr3);subst hv9;have HR3:=zh hr9;have HB3:=zh (HB2.out.trans (hb3.mono HB2.out.size));clear hr3 hb3 hr9 hn9) | fail)
  refine (HP1.out w3 HB3.out).mono ?_
  rintro e w4 ⟨rfl,hb4⟩
  have HB34:=zh hb4
  have HB4:=zh (HB3.out.trans (hb4.mono HB3.out.size))
  clear hb4
  dsimp only
  go_wp2_with fail
  refine (HP2.out w4 HB4.out).mono ?_
  rintro e w5 ⟨rfl,hb5⟩
  have HB35:=zh (HB34.out.trans (hb5.mono HB34.out.size))
  have HB5:=zh (HB4.out.trans (hb5.mono HB4.out.size))
  clear hb5
  dsimp only
  go_wp2_with fail
  refine (HF1.out w5 HB5.out).mono ?_
  rintro e w6 ⟨rfl,hb6⟩
  have HB36:=zh (HB35.out.trans (hb6.mono HB35.out.size))
  have HB6:=zh (HB5.out.trans (hb6.mono HB5.out.size))
  clear hb6
  dsimp only
  go_wp2_with fail
  refine (HF2.out _ (HB6.out.alloc HB6.out.size _)).mono ?_
  rintro e w7 ⟨rfl,hb7⟩
  have hb67:=(below_cal w6 (.cells #[.string ⟨nm.toArray⟩, .int .i64 kind, .int .i64 day, .int .i64 month, .int .i64 shift, .int .i64 shape, .int .i64 p0, .int .i64 p1, .int .i64 p2, .int .i64 cycle, .int .i64 extra, .int .i64 first, .int .i64 last, .int .i64 policy] 37))
  have hc7:=(hb7.block w6.heap.size (by simp)).trans (heap_alloc_new w6 (.cells #[.string ⟨nm.toArray⟩, .int .i64 kind, .int .i64 day, .int .i64 month, .int .i64 shift, .int .i64 shape, .int .i64 p0, .int .i64 p1, .int .i64 p2, .int .i64 cycle, .int .i64 extra, .int .i64 first, .int .i64 last, .int .i64 policy] 37))
  have hb7':=hb67.trans (hb7.mono hb67.size)
  have HB7:=zh (HB6.out.trans (hb7'.mono HB6.out.size))
  have HB37:=zh (HB36.out.trans (hb7'.mono HB36.out.size))
  have hl7:=(Array.getElem?_eq_some_iff.1 hc7).1
  have hn7 : w6.heap.size ≠ w7.heap.size:=Nat.ne_of_lt hl7
  clear hb67 hb7 hb7' HB36 HB35 HB34 HB6 HB5 HB4 HB3 HB2 HB1 HF1 HF2 HP1 HP2 HFW HV
  generalize w6.heap.size = bc at *
  obtain ⟨g0,g1,g2,g3,g4,g5,g6,g7,g8,g9,g10,g11,g12,g13⟩:=cells14 hc7
  clear hc7
  dsimp only
  go_wp2_with fail
  have HB8:=zh (HB7.out.alloc HB7.out.size (.cells #[.string ⟨nm.toArray⟩, .int .i64 kind, .int .i64 day, .int .i64 month, .int .i64 shift, .int .i64 shape, .int .i64 p0, .int .i64 p1, .int .i64 p2, .int .i64 cycle, .int .i64 extra, .int .i64 first, .int .i64 last, .int .i64 policy] 37))
  have HB38:=zh (HB37.out.alloc HB37.out.size (.cells #[.string ⟨nm.toArray⟩, .int .i64 kind, .int .i64 day, .int .i64 month, .int .i64 shift, .int .i64 shape, .int .i64 p0, .int .i64 p1, .int .i64 p2, .int .i64 cycle, .int .i64 extra, .int .i64 first, .int .i64 last, .int .i64 policy] 37))
  refine (HC1.out _ HB8.out).mono ?_
  rintro e w8 ⟨rfl,hb8⟩
  replace HB8:=zh (HB8.out.trans (hb8.mono HB8.out.size))
  replace HB38:=zh (HB38.out.trans (hb8.mono HB38.out.size))
  clear hb8
  go_wp2_with fail
  refine (HC2.out _ HB8.out).mono ?_
  rintro e w9 ⟨rfl,hb9⟩
  replace HB8:=zh (HB8.out.trans (hb9.mono HB8.out.size))
  replace HB38:=zh (HB38.out.trans (hb9.mono HB38.out.size))
  clear hb9
  go_wp2_with fail
  refine (ref12_Same A A9 c c9 l l w9 (ccells_keep HR.out HB8.out HB8.out.size) (ccells_keep HR3.out HB38.out HB38.out.size) HL.out).mono ?_
  rintro e wz ⟨rfl,hbz⟩
  have HBZ:=zh (HB8.out.trans (hbz.mono HB8.out.size))
  clear hbz
  go_wp2_with fail
  go_ret
  exact ⟨by first | rfl | simp,HBZ.out⟩
end Go.Proofs.YtjbniichcopnlaaGreatDoor
