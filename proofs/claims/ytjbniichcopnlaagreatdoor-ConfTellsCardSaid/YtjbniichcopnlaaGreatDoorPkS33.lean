/- Layer 12 (conf): the walks of the reference's Few, of Check, and of Find. Then: Layer 12 (conf): the walk of the reference's Same. Then: Layer 12. Then: Layer 11 (field), the reference: the walks of place, with. Then: Layer 11 (field), the reference: the walk of many. -/
import Derived.Test.YtjbniichcopnlaaGreatDoorPkS32
import Derived.Deep.QuietTactic
import Derived.Test.YtjbniichcopnlaaGreatDoorPkS13
import Derived.Test.YtjbniichcopnlaaGreatDoorPkS22
set_option linter.unusedVariables false
set_option linter.unusedSimpArgs false
namespace Go.Proofs.YtjbniichcopnlaaGreatDoor
section
set_option maxRecDepth 100000
open Go.RowKit
open Go.Joins renaming cell_of_block → zb, unfrozen_of_block → zu
open Go.Lib renaming hid → zh
def fewK : List CalL → Bool
  | [] => true
  | c :: r => if 100 < c.name.length then false else fewK r
theorem ccells_keep {w w' : World} {B B' : Nat} {A : Option Addr} {l : List CalL} (h : ReadsM w (· < B) 14 A l.length (l.flatMap CalL.cc)) (hb : Below B w w') (hB : B ≤ B') : ReadsM w' (· < B') 14 A l.length (l.flatMap CalL.cc) :=
  h.keep (fun b h => by omega) fun p hp => hb.cell hp
set_option maxHeartbeats 4000000 in
theorem ref12_Few (l : List CalL) (A : Option Addr) (c : Nat) (w : World) (B : Nat) (hB : B ≤ w.heap.size) (hr : ReadsM w (· < B) 14 A l.length (l.flatMap CalL.cc)) (hl : l.length ≤ maxLen) (hn : ∀ t ∈ l,t.name.length ≤ maxLen) :
    Calls Tryz.prog 7 #[.slice A l.length c] w fun e w' => e = .returned (.bool (fewK l && decide ((l.length : Int) ≤ 40))) ∧ Below w.heap.size w w':=by
  have HR:=zh hr
  have HN:=zh hn
  have HL:=zh hl
  unfold maxLen at hl
  clear hr hn
  go_enter Tryz.func7,Tryz.ntmps7
  go_wp2_with fail
  go_loopw [7] (fun iv wr => ∃ q : Nat,q ≤ l.length ∧ iv = .int .i64 q ∧ Below w.heap.size w wr ∧ fewK l = fewK (l.drop q)) (fun iv _ => l.length - (intOf iv).toNat)
  case atStart => exact ⟨0,Nat.zero_le _,rfl,Below.refl _ _,by rw [List.drop_zero]⟩
  case round =>
    obtain ⟨q,hq,rfl,hbw,hk⟩:=hrel
    have hzw:=hbw.size
    by_cases hlt : q < l.length
    · obtain ⟨t,ht⟩ : ∃ n,l[q]? = some n := ⟨_,List.getElem?_eq_getElem hlt⟩
      have htn:=HN.out t (List.mem_of_getElem? ht)
      unfold maxLen at htn
      rw [List.drop_eq_getElem_cons hlt,show l[q] = t from Option.some.inj ((List.getElem?_eq_getElem hlt).symm.trans ht),fewK] at hk
      obtain ⟨ad,hA,hM,hc14⟩:=cal_at (ccells_keep HR.out (hbw.mono hB) (Nat.le_refl _)) q t ht
      subst hA
      obtain ⟨nm,kind,day,month,shift,shape,p0,p1,p2,cycle,extra,first,last,policy⟩:=t
      obtain ⟨x0,x1,x2,x3,x4,x5,x6,x7,x8,x9,x10,x11,x12,x13⟩:=hc14
      dsimp only at htn hk x0 x1 x2 x3 x4 x5 x6 x7 x8 x9 x10 x11 x12 x13
      have lk : (q : Int) < l.length:=by omega
      have lk0 : (0 : Int) ≤ q:=by omega
      have w1f : IntKind.i64.wrap ((q : Int) + 1) = (q : Int) + 1:=by rw [IntKind.wrap_i64];omega
      have HB:=zh hbw
      by_cases hg : 100 < nm.length
      · rw [if_pos hg] at hk
        have hgi : (100 : Int) < nm.length:=by omega
        have HK:=zh hk
        clear hk ht hbw
        go_wp2_with fail
        go_ret
        exact ⟨by rw [HK.out];rfl,HB.out.alloc hzw _⟩
      · rw [if_neg hg] at hk
        have hgi : ¬ (100 : Int) < nm.length:=by omega
        have HK:=zh hk
        clear hk ht hbw
        go_wp2_with fail
        exact ⟨⟨q + 1,by omega,by go_num,HB.out.alloc hzw _,HK.out⟩,by simp [intOf];omega⟩
    · have lk : ¬ (q : Int) < l.length := by omega
      have HB:=zh hbw
      have HK:=zh (show fewK l = true by rw [hk,show q = l.length by omega,List.drop_length];rfl)
      clear hbw hk
      go_wp2_with fail
      go_ret
      exact ⟨by rw [HK.out];rfl,HB.out⟩
set_option maxHeartbeats 1500000 in
theorem conf_Check (l : List CalL) (A : Option Addr) (c : Nat) (w : World) (B : Nat) (hB : B ≤ w.heap.size) (hr : ReadsM w (· < B) 14 A l.length (l.flatMap CalL.cc)) (hl : l.length ≤ maxLen) (hn : ∀ t ∈ l,t.name.length ≤ maxLen) :
    Calls Tryz.prog 9 #[.slice A l.length c] w fun e w' => e = .returned (.int .i64 (confC l)) ∧ Below w.heap.size w w':=by
  have HR:=zh hr
  have HN:=zh hn
  have HL:=zh hl
  have HC:=zh (show confC l = if 32 < l.length then 6 else confGo [] l from rfl)
  unfold maxLen at hl
  clear hr hn
  generalize confC l = C at *
  by_cases hbig : 32 < l.length
  · have hbi : (32 : Int) < l.length := by omega
    have HX:=zh (show C = 6 by rw [HC.out,if_pos hbig])
    go_enter Tryz.func9,Tryz.ntmps9
    go_wp2_with fail
    go_ret
    exact ⟨by rw [HX.out];rfl,Below.refl _ _⟩
  have hbi : ¬ (32 : Int) < l.length:=by omega
  have HX:=zh (show C = confGo [] l by rw [HC.out,if_neg hbig])
  have hmm:=@run_makeMap Tryz.prog
  go_enter Tryz.func9,Tryz.ntmps9
  go_wp2_with fail
  obtain ⟨mb,hmb⟩ : ∃ g,g = w.heap.size:=⟨_,rfl⟩
  rw [← hmb]
  have HST:=zh (show (w.alloc (.map #[] 0)).heap[mb]? = some (.map (atMap []) ([] : List Bytes).length) ∧ Below w.heap.size w (w.alloc (.map #[] 0)) ∧ mb < (w.alloc (.map #[] 0)).heap.size from ⟨by rw [hmb];exact heap_alloc_new w _,(Below.refl _ _).alloc (Nat.le_refl _) _,by rw [hmb];simp⟩)
  have HMB:=zh hmb
  have hmw : w.heap.size ≤ mb:=by omega
  clear hmm hmb
  go_loopw [13] (fun iv wr => ∃ (q : Nat) (seen : List Bytes),q ≤ l.length ∧ iv = .int .i64 q ∧ seen.length = q ∧ confGo [] l = confGo seen (l.drop q) ∧ wr.heap[mb]? = some (.map (atMap seen) seen.length) ∧ Below w.heap.size w wr ∧ mb < wr.heap.size) (fun iv _ => l.length - (intOf iv).toNat)
  case atStart => exact ⟨0,[],Nat.zero_le _,rfl,rfl,by rw [List.drop_zero],HST.out⟩
  case round =>
    obtain ⟨q,seen,hq,rfl,hsl,hk,hmap,hbw,hmz⟩:=hrel
    have hzw:=hbw.size
    by_cases hlt : q < l.length
    · obtain ⟨t,ht⟩ : ∃ n,l[q]? = some n := ⟨_,List.getElem?_eq_getElem hlt⟩
      have htn:=HN.out t (List.mem_of_getElem? ht)
      have hfc:=field_Check t htn
      unfold maxLen at htn
      rw [List.drop_eq_getElem_cons hlt,show l[q] = t from Option.some.inj ((List.getElem?_eq_getElem hlt).symm.trans ht),confGo] at hk
      obtain ⟨ad,hA,hM,hc14⟩:=cal_at (ccells_keep HR.out (hbw.mono hB) (Nat.le_refl _)) q t ht
      subst hA
      generalize herr : errC t = E at *
      obtain ⟨nm,kind,day,month,shift,shape,p0,p1,p2,cycle,extra,first,last,policy⟩:=t
      obtain ⟨x0,x1,x2,x3,x4,x5,x6,x7,x8,x9,x10,x11,x12,x13⟩:=hc14
      dsimp only at htn hk x0 x1 x2 x3 x4 x5 x6 x7 x8 x9 x10 x11 x12 x13
      dsimp only [calV] at hfc
      have HF:=zh hfc
      have lk : (q : Int) < l.length:=by omega
      have lk0 : (0 : Int) ≤ q:=by omega
      have w1f : IntKind.i64.wrap ((q : Int) + 1) = (q : Int) + 1:=by rw [IntKind.wrap_i64];omega
      have HA:=zh (heap_alloc_new wr (.cells #[.string ⟨nm.toArray⟩, .int .i64 kind, .int .i64 day, .int .i64 month, .int .i64 shift, .int .i64 shape, .int .i64 p0, .int .i64 p1, .int .i64 p2, .int .i64 cycle, .int .i64 extra, .int .i64 first, .int .i64 last, .int .i64 policy] 37))
      have HAB:=zh ((Below.refl wr.heap.size wr).alloc (Nat.le_refl _) (.cells #[.string ⟨nm.toArray⟩, .int .i64 kind, .int .i64 day, .int .i64 month, .int .i64 shift, .int .i64 shape, .int .i64 p0, .int .i64 p1, .int .i64 p2, .int .i64 cycle, .int .i64 extra, .int .i64 first, .int .i64 last, .int .i64 policy] 37))
      have HB:=zh hbw
      have HMAP:=zh hmap
      have HK:=zh hk
      clear hbw hmap hk ht hfc herr
      go_wp2_with fail
      refine (HF.out _).mono ?_
      rintro e1 w1 ⟨rfl,hb1⟩
      have hz1:=hb1.size
      have hzz : wr.heap.size + 1 ≤ w1.heap.size:=by simpa using hz1
      have hcb : w1.heap[wr.heap.size]? = _:=(hb1.block _ (by simp)).trans HA.out
      have hb2 : Below wr.heap.size wr w1:=HAB.out.trans (hb1.mono (by simp))
      have HCB:=zh hcb
      have HB2:=zh (HB.out.trans (hb2.mono hzw))
      have hmap1:=(hb2.block mb hmz).trans HMAP.out
      have hmet:=names_met w1 mb seen nm hmap1 (by omega)
      have HMET:=zh hmet
      clear hb1 hb2 hmap1 hmet hcb hz1
      by_cases hE : E = 0
      case neg =>
        have hne : (E == 0) = false:=beq_false_of_ne hE
        have HY:=zh (show C = E by rw [HX.out,HK.out,if_pos hE])
        clear hE
        go_wp2_with fail
        go_ret
        exact ⟨by rw [HY.out];rfl,HB2.out⟩
      subst hE
      have g0 : w1.cell? ⟨wr.heap.size,0,none⟩ = some (.string ⟨nm.toArray⟩):=zb HCB.out 0
      go_wp2_with fail
      refine HMET.out.mono ?_
      rintro e5 w5 ⟨rfl,o,rfl,hnew⟩
      have hbm:=Below.setB HB2.out hmw o
      cases hct : seen.contains nm with
      | true =>
        have HY:=zh (show C = 9 by rw [HX.out,HK.out,if_neg (by simp),if_pos hct])
        have HBM:=zh hbm
        clear hbm hnew hct
        go_wp2_with fail
        go_ret
        exact ⟨by rw [HY.out];rfl,HBM.out⟩
      | false =>
        have ho5:=hnew hct
        subst ho5
        have HY:=zh (show confGo [] l = confGo (seen ++ [nm]) (l.drop (q + 1)) by rw [HK.out,if_neg (by simp),if_neg (by rw [hct];decide)])
        have HN5:=zh (And.intro (setB_new w1 mb (.map (atMap (seen ++ [nm])) (seen ++ [nm]).length) (by omega)) (And.intro hbm (show mb < (setB w1 mb (.map (atMap (seen ++ [nm])) (seen ++ [nm]).length)).heap.size by rw [setB_size];omega)))
        generalize setB w1 mb (.map (atMap (seen ++ [nm])) (seen ++ [nm]).length) = w5 at *
        clear hbm hnew hct
        go_wp2_with fail
        exact ⟨⟨q + 1,seen ++ [nm],by omega,by go_num,by simp [hsl],HY.out,HN5.out⟩,by simp [intOf];omega⟩
    · have lk : ¬ (q : Int) < l.length := by omega
      have HB:=zh hbw
      have HK:=zh (show C = 0 by rw [HX.out,hk,show q = l.length by omega,List.drop_length];rfl)
      clear hbw hk hmap
      go_wp2_with fail
      go_ret
      exact ⟨by rw [HK.out];rfl,HB.out⟩
set_option maxHeartbeats 3000000 in
theorem conf_Find (l : List CalL) (A : Option Addr) (c : Nat) (s : ByteArray) (w : World) (B : Nat) (hB : B ≤ w.heap.size) (hr : ReadsM w (· < B) 14 A l.length (l.flatMap CalL.cc)) (hl : l.length ≤ maxLen) (hn : ∀ t ∈ l,t.name.length ≤ maxLen) :
    Calls Tryz.prog 14 #[.slice A l.length c, .string s] w fun e w' => e = .returned (.tuple #[calV (findC l s.data.toList).1, .int .i64 (findC l s.data.toList).2]) ∧ Below w.heap.size w w':=by
  have HCK:=zh (fun W hB hr => conf_Check l A c W B hB hr hl hn)
  have HR:=zh hr
  have HN:=zh hn
  have HC:=zh (show findC l s.data.toList = if confC l ≠ 0 then (calZ,confC l) else findGo s.data.toList l from rfl)
  unfold maxLen at hl
  clear hn hr
  generalize findC l s.data.toList = F at *
  generalize confC l = C at *
  obtain ⟨cb,hcb⟩ : ∃ g,g = w.heap.size:=⟨_,rfl⟩
  have HCB:=zh hcb
  have hpre : ∀ o,Below w.heap.size w (w.alloc o):=fun o => (Below.refl _ _).alloc (Nat.le_refl _) o
  have HPRE:=zh hpre
  have HZ:=zh (heap_alloc_new w (.cells #[.string ⟨#[]⟩, .int .i64 0, .int .i64 0, .int .i64 0, .int .i64 0, .int .i64 0, .int .i64 0, .int .i64 0, .int .i64 0, .int .i64 0, .int .i64 0, .int .i64 0, .int .i64 0, .int .i64 0] 37))
  have HCK2:=zh (HCK.out (w.alloc (.cells #[.string ⟨#[]⟩, .int .i64 0, .int .i64 0, .int .i64 0, .int .i64 0, .int .i64 0, .int .i64 0, .int .i64 0, .int .i64 0, .int .i64 0, .int .i64 0, .int .i64 0, .int .i64 0, .int .i64 0] 37)) (by simp;omega) (ccells_keep HR.out ((HPRE.out _).mono hB) (Nat.le_refl _)))
  have hcw : w.heap.size ≤ cb:=by omega
  clear hcb hpre HCK
  by_cases hE : C = 0
  case neg =>
    have hne : (C == 0) = false:=beq_false_of_ne hE
    have HX:=zh (show F = (calZ,C) by rw [HC.out,if_pos hE])
    clear hE
    go_enter Tryz.func14,Tryz.ntmps14
    go_wp2_with fail
    refine HCK2.out.mono ?_
    rintro e1 w1 ⟨rfl,hb1⟩
    have hb2:=(HPRE.out _).trans (hb1.mono (by simp))
    have hcal : CalBlk w1 cb calZ:=(hb1.block cb (by rw [HCB.out];simp)).trans (by rw [HCB.out];exact HZ.out)
    rw [← HCB.out]
    have HB2:=zh hb2
    clear hb1 hb2
    dsimp only [CalBlk,calZ] at hcal
    obtain ⟨c0,c1,c2,c3,c4,c5,c6,c7,c8,c9,c10,c11,c12,c13⟩:=cells14 hcal;obtain ⟨f0,f1,f2,f3,f4,f5,f6,f7,f8,f9,f10,f11,f12,f13⟩:=unf14 hcal
    clear hcal
    go_wp2_with fail
    refine bodyPost_ret (v:=.tuple #[calV calZ, .int .i64 C]) (by simp [results,calV,calZ,Tryz.results14,go_sem, *]) rfl ?_
    rw [HX.out]
    exact ⟨rfl,CalBlk.below HB2.out hcw calZ⟩
  subst hE
  have HX:=zh (show F = findGo s.data.toList l by rw [HC.out,if_neg (by simp)])
  go_enter Tryz.func14,Tryz.ntmps14
  go_wp2_with fail
  refine HCK2.out.mono ?_
  rintro e1 w1 ⟨rfl,hb1⟩
  have hb2:=(HPRE.out _).trans (hb1.mono (by simp))
  have hcal : CalBlk w1 cb calZ:=(hb1.block cb (by rw [HCB.out];simp)).trans (by rw [HCB.out];exact HZ.out)
  rw [← HCB.out]
  have HB2:=zh hb2
  have HCAL:=zh hcal
  clear hb1 hb2 hcal
  go_wp2_with fail
  go_loopw [17] (fun iv wr => ∃ q : Nat,q ≤ l.length ∧ iv = .int .i64 q ∧ Below w.heap.size w wr ∧ CalBlk wr cb calZ ∧ F = findGo s.data.toList (l.drop q)) (fun iv _ => l.length - (intOf iv).toNat)
  case atStart => exact ⟨0,Nat.zero_le _,rfl,HB2.out,HCAL.out,by rw [List.drop_zero];exact HX.out⟩
  case round =>
    obtain ⟨q,hq,rfl,hbw,hcal,hk⟩:=hrel
    have hzw:=hbw.size
    have hcl:=hcal.lt
    by_cases hlt : q < l.length
    · obtain ⟨t,ht⟩ : ∃ n,l[q]? = some n := ⟨_,List.getElem?_eq_getElem hlt⟩
      have htn:=HN.out t (List.mem_of_getElem? ht)
      unfold maxLen at htn
      rw [List.drop_eq_getElem_cons hlt,show l[q] = t from Option.some.inj ((List.getElem?_eq_getElem hlt).symm.trans ht),findGo] at hk
      obtain ⟨ad,hA,hM,hc14⟩:=cal_at (ccells_keep HR.out (hbw.mono hB) (Nat.le_refl _)) q t ht
      subst hA
      have HT:=zh (show t = t from rfl)
      obtain ⟨t0,ht0⟩ : ∃ x,x = t:=⟨_,rfl⟩
      have HT0:=zh ht0
      obtain ⟨nm,kind,day,month,shift,shape,p0,p1,p2,cycle,extra,first,last,policy⟩:=t
      obtain ⟨x0,x1,x2,x3,x4,x5,x6,x7,x8,x9,x10,x11,x12,x13⟩:=hc14
      dsimp only at htn hk x0 x1 x2 x3 x4 x5 x6 x7 x8 x9 x10 x11 x12 x13
      have lk : (q : Int) < l.length:=by omega
      have lk0 : (0 : Int) ≤ q:=by omega
      have w1f : IntKind.i64.wrap ((q : Int) + 1) = (q : Int) + 1:=by rw [IntKind.wrap_i64];omega
      have HB:=zh hbw
      have hcal2 : CalBlk (wr.alloc (.cells #[.string ⟨nm.toArray⟩, .int .i64 kind, .int .i64 day, .int .i64 month, .int .i64 shift, .int .i64 shape, .int .i64 p0, .int .i64 p1, .int .i64 p2, .int .i64 cycle, .int .i64 extra, .int .i64 first, .int .i64 last, .int .i64 policy] 37)) cb calZ:=(heap_alloc_old wr (.cells #[.string ⟨nm.toArray⟩, .int .i64 kind, .int .i64 day, .int .i64 month, .int .i64 shift, .int .i64 shape, .int .i64 p0, .int .i64 p1, .int .i64 p2, .int .i64 cycle, .int .i64 extra, .int .i64 first, .int .i64 last, .int .i64 policy] 37) hcl).trans hcal
      have HCAL2:=zh hcal2
      have hto : (ByteArray.mk nm.toArray).toList = nm:=by rw [ba_toList]
      by_cases hg : nm = s.data.toList
      · rw [if_pos hg] at hk
        have hgs : (nm == s.toList) = true:=by rw [ba_toList,hg];simp
        have HK:=zh hk
        clear hk ht hbw hg ht0 hcal
        have hnew:=heap_alloc_new wr (.cells #[.string ⟨nm.toArray⟩, .int .i64 kind, .int .i64 day, .int .i64 month, .int .i64 shift, .int .i64 shape, .int .i64 p0, .int .i64 p1, .int .i64 p2, .int .i64 cycle, .int .i64 extra, .int .i64 first, .int .i64 last, .int .i64 policy] 37)
        have hbn : Below w.heap.size w (wr.alloc (.cells #[.string ⟨nm.toArray⟩, .int .i64 kind, .int .i64 day, .int .i64 month, .int .i64 shift, .int .i64 shape, .int .i64 p0, .int .i64 p1, .int .i64 p2, .int .i64 cycle, .int .i64 extra, .int .i64 first, .int .i64 last, .int .i64 policy] 37)):=HB.out.alloc hzw _
        have HBN:=zh hbn
        obtain ⟨nb,hnb⟩ : ∃ g,g = wr.heap.size:=⟨_,rfl⟩
        rw [← hnb] at hnew
        have HNEW:=zh hnew
        have HNB:=zh hnb
        have HC2:=zh hcal2
        clear hbn hnew hcal2 hnb
        go_upto_region 7 with fail
        rw [← HNB.out]
        have hnew:=HNEW.out
        have hcal2:=HC2.out
        have hbn:=HBN.out
        clear HNEW HC2 HBN HCAL2
        generalize World.alloc wr _ = W4 at *
        have HBN:=zh hbn
        dsimp only [CalBlk,calZ] at hcal2
        obtain ⟨c0,c1,c2,c3,c4,c5,c6,c7,c8,c9,c10,c11,c12,c13⟩:=cells14 hcal2;obtain ⟨f0,f1,f2,f3,f4,f5,f6,f7,f8,f9,f10,f11,f12,f13⟩:=unf14 hcal2
        obtain ⟨g0,g1,g2,g3,g4,g5,g6,g7,g8,g9,g10,g11,g12,g13⟩:=cells14 hnew
        clear hcal2 hnew hbn
        go_wp2_with fail
        refine bodyPost_ret (v:=.tuple #[calV t0, .int .i64 0]) (by rw [HT0.out];simp [results,calV,calZ,Tryz.results14,go_sem, *]) rfl ?_
        rw [HK.out,← HT0.out]
        exact ⟨rfl,by have:=CalBlk.below HBN.out hcw t0;rw [HT0.out] at this;exact this⟩
      · rw [if_neg hg] at hk
        have hgs : (nm == s.toList) = false:=by rw [ba_toList];simpa using hg
        have HK:=zh hk
        clear hk ht hbw hg ht0 hcal hcal2
        go_wp2_with fail
        exact ⟨⟨q + 1,by omega,by go_num,HB.out.alloc hzw _,HCAL2.out,HK.out⟩,by simp [intOf];omega⟩
    · have lk : ¬ (q : Int) < l.length := by omega
      have HB:=zh hbw
      have HK:=zh (show F = (calZ,13) by rw [hk,show q = l.length by omega,List.drop_length];rfl)
      dsimp only [CalBlk,calZ] at hcal
      obtain ⟨c0,c1,c2,c3,c4,c5,c6,c7,c8,c9,c10,c11,c12,c13⟩:=cells14 hcal;obtain ⟨f0,f1,f2,f3,f4,f5,f6,f7,f8,f9,f10,f11,f12,f13⟩:=unf14 hcal
      clear hbw hk hcal
      go_wp2_with fail
      refine bodyPost_ret (v:=.tuple #[calV calZ, .int .i64 13]) (by simp [results,calV,calZ,Tryz.results14,go_sem, *]) rfl ?_
      rw [HK.out]
      exact ⟨rfl,CalBlk.below HB.out hcw calZ⟩
end
section
open Go.RowKit
open Go.Lib renaming hid → zh
theorem info_calL : (Tryz.prog.info? 37).map (fun i => (i.zero,i.size,i.bytes)) = some (some (.agg #[.string ⟨#[]⟩, .int .i64 0, .int .i64 0, .int .i64 0, .int .i64 0, .int .i64 0, .int .i64 0, .int .i64 0, .int .i64 0, .int .i64 0, .int .i64 0, .int .i64 0, .int .i64 0, .int .i64 0]),14,120):=by kernel_rfl
theorem own_cals_reads {w : World} {base : Nat} {v : Value} {l : List CalL} (h : OwnCals w base v l) : ∃ A cap,v = .slice A l.length cap ∧ NilOk A cap ∧ ReadsM w (· < w.heap.size) 14 A l.length (l.flatMap CalL.cc) := by
  have h0:=h
  unfold OwnCals at h
  obtain ⟨A,cap,rfl,hr⟩:=own_readsC h0
  refine ⟨A,cap,rfl,?_,hr⟩
  rcases h.2 with ⟨he,hn⟩ | ⟨g,cap',cur,he,_⟩
  · simp only [Value.slice.injEq] at he;exact fun _ => he.2.2
  · simp only [Value.slice.injEq] at he;intro h;rw [he.1] at h;cases h
theorem cc_one (l : List CalL) : ∀ u ∈ l.flatMap CalL.cc,u.oneCell' = true := by
  intro u hu
  obtain ⟨c,_,hc⟩:=List.mem_flatMap.1 hu
  exact cells_one c u hc
/-- Calendars put behind a row of the call's own. -/
theorem wpList_behindC {w : World} {ops : Array Oper} {rest : List Oper} {o : Oper} {a : Act} {Q : Exit → Act → World → Prop} (s x : Operand)
    (ho : o.op = .call { callee:=.builtin .append,args:=#[s,x],argTypes:=#[22,22] }) (base : Nat) (v : Value) (l m : List CalL) (hs : a.eval s = v) (hown : OwnCals w base v l)
    (A : Option Addr) (c : Nat) (hx : a.eval x = .slice A m.length c) (hm : ReadsM w (· < base) 14 A m.length (m.flatMap CalL.cc)) (hnil : NilOk A c) (hnm : l.length + m.length ≤ 100000) (hbase : base ≤ w.heap.size) (hwn : Region.wanted o (yielded ops a.tmps) = true)
    (h : ∀ v' w',OwnCals w' base v' (l ++ m) → Below base w w' → wpList Tryz.prog ops Q rest (a.put o.dst v') w') : wpList Tryz.prog ops Q (o :: rest) a w:=by
  obtain ⟨j0,hj0,hy0,hy1,hy2⟩:=info_parts info_calL
  obtain ⟨v',w',hrun,h5,h6⟩:=run_append_reads (P:=Tryz.prog) (w:=w) base 22 o.type 37 j0 _ 14 120 Tryz.underlying22 hj0 hy0 hy1 hy2 rfl (by decide) v l.length _ hown A m.length c base _ hm.reads hnil (cc_one m) (by unfold maxLen;omega) (by omega) hbase
  have hb : Below base w w':=(Below.refl base w).grown h6 hbase (fun k hk => (hown.lt k hk).1)
  refine wpList_append_run s x 22 ho hwn v _ hs hx o.type rfl v' w' hrun (h v' w' ?_ hb)
  unfold OwnCals
  rw [List.length_append,List.flatMap_append]
  exact h5
theorem same_step (l m : List CalL) (k : Nat) (a b : CalL) (ha : l[k]? = some a) (hb : m[k]? = some b) : decide (l.drop k = m.drop k) = (decide (a = b) && decide (l.drop (k + 1) = m.drop (k + 1))) := by
  obtain ⟨h1,rfl⟩:=List.getElem?_eq_some_iff.1 ha
  obtain ⟨h2,rfl⟩:=List.getElem?_eq_some_iff.1 hb
  rw [Bool.eq_iff_iff,decide_eq_true_eq,Bool.and_eq_true,decide_eq_true_eq,decide_eq_true_eq,List.drop_eq_getElem_cons h1,List.drop_eq_getElem_cons h2,List.cons.injEq]
set_option maxRecDepth 100000 in
set_option maxHeartbeats 2000000 in
theorem ref12_Same (A1 A2 : Option Addr) (c1 c2 : Nat) (l m : List CalL) (w : World) (h1 : ReadsM w (· < w.heap.size) 14 A1 l.length (l.flatMap CalL.cc)) (h2 : ReadsM w (· < w.heap.size) 14 A2 m.length (m.flatMap CalL.cc)) (hl : l.length ≤ maxLen) :
    Calls Tryz.prog 11 #[.slice A1 l.length c1, .slice A2 m.length c2] w fun e w' => e = .returned (.bool (decide (l = m))) ∧ Below w.heap.size w w':=by
  unfold maxLen at hl
  by_cases hlen : l.length = m.length
  · have hne : ((l.length : Int) != (m.length : Int)) = false := by rw [bne_eq_false_iff_eq]; omega
    have HL:=zh hlen
    have H1:=zh h1
    have H2:=zh h2
    clear hlen h1 h2
    go_enter Tryz.func11,Tryz.ntmps11
    go_wp2_with fail
    go_loopw [13] (fun i wr => ∃ k : Nat,k ≤ l.length ∧ i = .int .i64 k ∧ Below w.heap.size w wr ∧ decide (l = m) = decide (l.drop k = m.drop k)) (fun i _ => l.length - (intOf i).toNat)
    case atStart => exact ⟨0,Nat.zero_le _,rfl,Below.refl _ _,rfl⟩
    case round =>
      obtain ⟨k,hk,rfl,hB,htk⟩:=hrel
      have hbs:=hB.size
      by_cases hlt : k < l.length
      · obtain ⟨a,ha⟩ : ∃ a,l[k]? = some a := ⟨_,List.getElem?_eq_getElem hlt⟩
        obtain ⟨b,hb⟩ : ∃ b,m[k]? = some b:=⟨_,List.getElem?_eq_getElem (by rw [← HL.out];exact hlt)⟩
        have hlt2 : k < m.length:=by rw [← HL.out];exact hlt
        obtain ⟨ad,hA1,hb1,p⟩:=cal_at (H1.out.keep (w':=wr) (M':=(· < w.heap.size)) (fun _ h => h) fun p hp => hB.cell hp) k a ha
        obtain ⟨bd,hA2,hb2,q⟩:=cal_at (H2.out.keep (w':=wr) (M':=(· < w.heap.size)) (fun _ h => h) fun p hp => hB.cell hp) k b hb
        subst hA1
        subst hA2
        rw [same_step l m k a b ha hb] at htk
        have hneq:=fun W => run_neqCal W a b
        have HT:=zh htk
        obtain ⟨p0,p1,p2,p3,p4,p5,p6,p7,p8,p9,p10,p11,p12,p13⟩:=p
        obtain ⟨q0,q1,q2,q3,q4,q5,q6,q7,q8,q9,q10,q11,q12,q13⟩:=q
        unfold CalL.cc at hneq
        have HBL:=zh hB
        clear htk ha hb hB hb1 hb2
        cases hab : decide (a = b)
        · simp only [hab] at hneq
          rw [hab,Bool.false_and] at HT
          go_wp2_with fail
          go_quiet (fail)
          go_wp2_with fail
          go_ret
          exact ⟨ret_bool (by rw [HT.out]),below_drewN HBL.out _⟩
        · simp only [hab] at hneq
          rw [hab,Bool.true_and] at HT
          clear hab
          go_wp2_with fail
          go_quiet (fail)
          go_wp2_with fail
          exact ⟨⟨k + 1,by omega,by go_num,below_drewN HBL.out _,HT.out⟩,by simp [intOf];omega⟩
      · have hkl : k = l.length := by omega
        have hlm : decide (l = m) = true := by
          rw [htk,List.drop_eq_nil_of_le (by omega),List.drop_eq_nil_of_le (by rw [← HL.out];omega)];rfl
        have HLM:=zh hlm
        clear hlm hkl htk
        go_wp2_with fail
        go_ret
        exact ⟨ret_bool (by rw [HLM.out]),hB⟩
  · have hne : ((l.length : Int) != (m.length : Int)) = true := by rw [bne_iff_ne]; omega
    have HX:=zh (show decide (l = m) = false from decide_eq_false fun e => hlen (by rw [e]))
    go_enter Tryz.func11,Tryz.ntmps11
    go_wp2_with fail
    go_ret
    exact ⟨ret_bool (by rw [HX.out]),Below.refl _ _⟩
end
section
set_option maxRecDepth 100000
open Go.RowKit
open Go.Lib renaming hid → zh
theorem ccells_keepV {w w' : World} {B B' : Nat} {A : Option Addr} {l : List CalL} (h : ReadsM w (· < B) 14 A l.length (l.flatMap CalL.cc)) (hb : Below B w w') (hB : B ≤ B') : ReadsM w' (· < B') 14 A l.length (l.flatMap CalL.cc) :=
  h.keep (fun b h => by omega) fun p hp => hb.cell hp
set_option maxHeartbeats 2000000 in
theorem ref12_has (l : List CalL) (s : Bytes) (A : Option Addr) (c : Nat) (w : World) (B : Nat) (hB : B ≤ w.heap.size) (hr : ReadsM w (· < B) 14 A l.length (l.flatMap CalL.cc)) (hl : l.length ≤ 100000) :
    Calls Tryz.prog 26 #[.slice A l.length c, .string ⟨s.toArray⟩] w fun e w' => e = .returned (.bool ((l.map CalL.name).contains s)) ∧ Below w.heap.size w w':=by
  have HR:=zh hr
  obtain ⟨R,hR⟩ : ∃ R,(l.map CalL.name).contains s = R:=⟨_,rfl⟩
  rw [hR]
  have HRR:=zh hR
  clear hr hR
  go_enter Tryz.func26,Tryz.ntmps26
  go_wp2_with fail
  go_loopw [9] (fun iv wr => ∃ q : Nat,q ≤ l.length ∧ iv = .int .i64 q ∧ Below w.heap.size w wr ∧ R = ((l.drop q).map CalL.name).contains s) (fun iv _ => l.length - (intOf iv).toNat)
  case atStart => exact ⟨0,Nat.zero_le _,rfl,Below.refl _ _,by rw [List.drop_zero];exact HRR.out.symm⟩
  case round =>
    obtain ⟨q,hq,rfl,hbw,hk⟩:=hrel
    have hzw:=hbw.size
    by_cases hlt : q < l.length
    · obtain ⟨t,ht⟩ : ∃ n,l[q]? = some n := ⟨_,List.getElem?_eq_getElem hlt⟩
      rw [List.drop_eq_getElem_cons hlt,show l[q] = t from Option.some.inj ((List.getElem?_eq_getElem hlt).symm.trans ht),List.map_cons,List.contains_cons] at hk
      obtain ⟨ad,hA,hM,hc14⟩:=cal_at (ccells_keepV HR.out (hbw.mono hB) (Nat.le_refl _)) q t ht
      subst hA
      obtain ⟨nm,kind,day,month,shift,shape,p0,p1,p2,cycle,extra,first,last,policy⟩:=t
      obtain ⟨x0,x1,x2,x3,x4,x5,x6,x7,x8,x9,x10,x11,x12,x13⟩:=hc14
      dsimp only at hk x0 x1 x2 x3 x4 x5 x6 x7 x8 x9 x10 x11 x12 x13
      have lk : (q : Int) < l.length:=by omega
      have lk0 : (0 : Int) ≤ q:=by omega
      have w1f : IntKind.i64.wrap ((q : Int) + 1) = (q : Int) + 1:=by rw [IntKind.wrap_i64];omega
      obtain ⟨g,hg⟩ : ∃ g,(nm == s) = g:=⟨_,rfl⟩
      have hg' : (s == nm) = g:=by rw [← hg];exact BEq.comm
      rw [hg'] at hk
      have HB:=zh hbw
      have HK:=zh hk
      clear hk ht hbw hg'
      cases g
      · go_wp2_with fail
        exact ⟨⟨q + 1,by omega,by go_num,HB.out.alloc hzw _,by rw [HK.out,Bool.false_or]⟩,by simp [intOf];omega⟩
      · go_wp2_with fail
        go_ret
        exact ⟨by rw [HK.out];rfl,HB.out.alloc hzw _⟩
    · have lk : ¬ (q : Int) < l.length := by omega
      have HB:=zh hbw
      have HK:=zh (show R = false by rw [hk,show q = l.length by omega,List.drop_length];rfl)
      clear hbw hk
      go_wp2_with fail
      go_ret
      exact ⟨by rw [HK.out];rfl,HB.out⟩
end
section
set_option maxRecDepth 100000
open Go.RowKit
theorem posL_drop (l : List Bytes) (s a : Bytes) (k : Nat) (h : l[k]? = some a) : posL (l.drop k) s = if a = s then 1 else if posL (l.drop (k + 1)) s = 0 then 0 else posL (l.drop (k + 1)) s + 1 := by
  have hk : k < l.length:=(List.getElem?_eq_some_iff.1 h).1
  rw [List.drop_eq_getElem_cons hk,(List.getElem?_eq_some_iff.1 h).2]
  rfl
/-- What is told from the k-th on. -/
def posFrom (l : List Bytes) (s : Bytes) (k : Nat) : Int:=if posL (l.drop k) s = 0 then 0 else posL (l.drop k) s + k
theorem posFrom_step (l : List Bytes) (s a : Bytes) (k : Nat) (h : l[k]? = some a) : posFrom l s k = if a = s then (k : Int) + 1 else posFrom l s (k + 1) := by
  have hp:=posL_nonneg (l.drop (k + 1)) s
  unfold posFrom
  rw [posL_drop l s a k h]
  by_cases e : a = s
  · rw [if_pos e,if_pos e,if_neg (by decide)];omega
  · rw [if_neg e,if_neg e]
    by_cases z : posL (l.drop (k + 1)) s = 0
    · rw [if_pos z,if_pos rfl,if_pos z]
    · rw [if_neg z,if_neg z,if_neg (by omega)];push_cast;omega
theorem posFrom_end (l : List Bytes) (s : Bytes) : posFrom l s l.length = 0:=by unfold posFrom;rw [List.drop_length];rfl
theorem posFrom_zero (l : List Bytes) (s : Bytes) : posFrom l s 0 = posL l s := by
  unfold posFrom
  rw [List.drop_zero]
  split
  · next h => exact h.symm
  · simp
set_option maxHeartbeats 4000000 in
theorem r11_with (k : Int) (s : Bytes) (w : World) (h1 : 1 ≤ k) (h6 : k ≤ 6) : Calls Tryz.prog 50 #[.int .i64 k, .string ⟨s.toArray⟩] w fun e w' => e = .returned (.bool (standsC k s)) ∧ w = w' := by
  obtain ⟨q0,hq0⟩ : ∃ q,(s == [110,97,109,101,100]) = q:=⟨_,rfl⟩
  obtain ⟨q1,hq1⟩ : ∃ q,(s == [112,101,114,105,111,100,115]) = q:=⟨_,rfl⟩
  obtain ⟨q2,hq2⟩ : ∃ q,(s == [112,97,121]) = q:=⟨_,rfl⟩
  obtain ⟨q3,hq3⟩ : ∃ q,(s == [101,120,116,114,97]) = q:=⟨_,rfl⟩
  have hst : standsC k s = if q0 then (decide (k ≠ 3) && decide (k ≠ 4) && decide (k ≠ 5)) else if q1 || q2 || q3 then (decide (k ≠ 3) && decide (k ≠ 4) && decide (k ≠ 6)) else true := by
    rw [← hq0,← hq1,← hq2,← hq3]
    unfold standsC
    simp only [beq_iff_eq,Bool.or_eq_true]
    rw [show b_named = [110,97,109,101,100] from rfl,show b_periods = [112,101,114,105,111,100,115] from rfl,show b_pay = [112,97,121] from rfl,show b_extra = [101,120,116,114,97] from rfl]
    simp only [or_assoc]
  rw [hst]
  clear hst
  obtain rfl | rfl | rfl | rfl | rfl | rfl : k = 1 ∨ k = 2 ∨ k = 3 ∨ k = 4 ∨ k = 5 ∨ k = 6:=by omega
  all_goals
    clear h1 h6
    cases q0
    · cases q1
      · cases q2
        · cases q3 <;> (
            go_enter Tryz.func50,Tryz.ntmps50
            go_wp2_with fail
            go_ret
            exact ⟨rfl,rfl⟩)
        · skip
          go_enter Tryz.func50,Tryz.ntmps50
          go_wp2_with fail
          go_ret
          exact ⟨rfl,rfl⟩
      · skip
        go_enter Tryz.func50,Tryz.ntmps50
        go_wp2_with fail
        go_ret
        exact ⟨rfl,rfl⟩
    · skip
      go_enter Tryz.func50,Tryz.ntmps50
      go_wp2_with fail
      go_ret
      exact ⟨rfl,rfl⟩
end
section
set_option maxRecDepth 100000
open Go.RowKit
open Go.Lib renaming hid → zh
/-- How many periods,as the reference says: of a cycle that is none nought. -/
def manyR (s c : Int) : Int:=if s = 2 then 13 else if s = 3 then (if 0 < c then 52 / c else 0) else if s = 1 ∨ s = 4 ∨ s = 5 then 12 else 0
set_option maxHeartbeats 2000000 in
theorem r11_many (d : CalL) (w : World) : Calls Tryz.prog 55 #[calV d] w fun e w' => e = .returned (.int .i64 (manyR d.shape d.cycle)) ∧ Below w.heap.size w w' := by
  obtain ⟨nm,kind,day,month,shift,s,p0,p1,p2,c,extra,first,last,policy⟩:=d
  dsimp only [calV]
  have HB:=zh (below_cal w (.cells #[.string ⟨nm.toArray⟩, .int .i64 kind, .int .i64 day, .int .i64 month, .int .i64 shift, .int .i64 s, .int .i64 p0, .int .i64 p1, .int .i64 p2, .int .i64 c, .int .i64 extra, .int .i64 first, .int .i64 last, .int .i64 policy] 37))
  unfold manyR
  by_cases h2 : s = 2
  · subst h2
    rw [if_pos rfl]
    go_enter Tryz.func55,Tryz.ntmps55
    go_wp2_with fail
    go_ret
    exact ⟨rfl,HB.out⟩
  rw [if_neg h2]
  by_cases h3 : s = 3
  · subst h3
    by_cases hc : 0 < c
    · rw [if_pos rfl,if_pos hc]
      have q:=quo52 c hc
      have c0 : (c == 0) = false:=beq_false_of_ne (by omega)
      have c1 : c ≠ 0:=by omega
      go_enter Tryz.func55,Tryz.ntmps55
      go_wp2_with fail
      go_ret
      exact ⟨rfl,HB.out⟩
    · rw [if_pos rfl,if_neg hc]
      have hd : decide (0 < c) = false:=decide_eq_false hc
      go_enter Tryz.func55,Tryz.ntmps55
      go_wp2_with fail
      go_ret
      exact ⟨rfl,HB.out⟩
  · rw [if_neg h3]
    have k2 : (s == 2) = false:=beq_false_of_ne h2
    have k3 : (s == 3) = false:=beq_false_of_ne h3
    by_cases h145 : s = 1 ∨ s = 4 ∨ s = 5
    · rw [if_pos h145]
      rcases h145 with rfl | rfl | rfl <;> (
        go_enter Tryz.func55,Tryz.ntmps55
        go_wp2_with fail
        go_ret
        exact ⟨rfl,HB.out⟩)
    · rw [if_neg h145]
      have k1 : (s == 1) = false:=beq_false_of_ne (by omega)
      have k4 : (s == 4) = false:=beq_false_of_ne (by omega)
      have k5 : (s == 5) = false:=beq_false_of_ne (by omega)
      go_enter Tryz.func55,Tryz.ntmps55
      go_wp2_with fail
      go_ret
      exact ⟨rfl,HB.out⟩
end
end Go.Proofs.YtjbniichcopnlaaGreatDoor
