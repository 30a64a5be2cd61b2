/- Layer 9 (tree): whether any items may be: the walk of Check. Then: Layer 10 (layout): the walks of Print and Canon. Then: Layer 8, the reference: the walk of Same; the laws' live. -/
import Derived.Test.YtjbniichcopnlaaGreatDoorPkS16
import Derived.Test.YtjbniichcopnlaaGreatDoorPkS13
import Derived.Test.YtjbniichcopnlaaGreatDoorPkS14
import Derived.Test.YtjbniichcopnlaaGreatDoorPkS2
import Derived.Test.YtjbniichcopnlaaGreatDoorPkS3
import Derived.BigQuiet
import Derived.Deep.QuietTactic
namespace Go.Proofs.YtjbniichcopnlaaGreatDoor
section
set_option linter.unusedVariables false
set_option linter.unusedSimpArgs false
open Go.RowKit
open Go.Joins renaming cell_of_block → zb, unfrozen_of_block → zu
open Go.Lib renaming hid → zh
theorem name_atG (s : Bytes) (h : s.length ≤ maxLen) (W : World) : Calls Tryz.prog 39 #[.string ⟨s.toArray⟩] W fun e w' => e = .returned (.bool (nameL s)) ∧ W = w' :=
  lex_Name ⟨s.toArray⟩ W (by show s.toArray.size ≤ _;rw [List.size_toArray];exact h)
theorem tree_wordedG (t : WordL) (ht : t.s.length ≤ maxLen) (w : World) :
    Calls Tryz.prog 87 #[.agg #[.bool t.num, .int .i64 t.n, .string ⟨t.s.toArray⟩, .int .i64 t.pos]] w fun e w' => e = .returned (.bool (wordOk t)) ∧ Below w.heap.size w w':=by
  obtain ⟨num,n,s,pos⟩:=t
  dsimp only at ht ⊢
  have hbW : Below w.heap.size w (w.alloc (.cells #[.bool num, .int .i64 n, .string ⟨s.toArray⟩, .int .i64 pos] 61)):=(Below.refl _ _).alloc (Nat.le_refl _) _
  have HB:=zh hbW
  have HN:=zh (name_atG s ht)
  clear hbW ht
  cases num
  · have hr : wordOk ⟨false,n,s,pos⟩ = (decide (n = 0) && nameL s) := rfl
    rw [hr]
    clear hr
    by_cases hn : n = 0
    · subst hn
      rw [decide_eq_true rfl,Bool.true_and]
      generalize nameL s = r at *
      go_enter Tryz.func87,Tryz.ntmps87
      go_wp2_with fail
      refine (HN.out _).mono ?_
      rintro e w1 ⟨rfl,rfl⟩
      go_wp2
      go_ret
      exact ⟨rfl,HB.out⟩
    · rw [decide_eq_false hn,Bool.false_and]
      have hn' : (n == 0) = false:=by simpa using hn
      clear hn HN
      go_enter Tryz.func87,Tryz.ntmps87
      go_wp2_with fail
      go_ret
      exact ⟨rfl,HB.out⟩
  · have hr : wordOk ⟨true,n,s,pos⟩ = (decide (s = []) && decide (0 ≤ n) && decide (n ≤ 999999999)) := rfl
    rw [hr]
    clear hr HN
    by_cases hs : s = []
    · subst hs
      rw [decide_eq_true rfl,Bool.true_and]
      by_cases h0 : 0 ≤ n
      · rw [decide_eq_true h0,Bool.true_and]
        go_enter Tryz.func87,Tryz.ntmps87
        go_wp2
        go_ret
        exact ⟨rfl,HB.out⟩
      · rw [decide_eq_false h0,Bool.false_and]
        go_enter Tryz.func87,Tryz.ntmps87
        go_wp2
        go_ret
        exact ⟨rfl,HB.out⟩
    · rw [decide_eq_false hs,Bool.false_and,Bool.false_and]
      have hs' : (s == []) = false:=by simpa using hs
      clear hs
      go_enter Tryz.func87,Tryz.ntmps87
      go_wp2
      go_ret
      exact ⟨rfl,HB.out⟩
theorem tree_within1G (t : WordL) (ht : t.s.length ≤ maxLen) (w : World) :
    Calls Tryz.prog 86 #[.agg #[.bool t.num, .int .i64 t.n, .string ⟨t.s.toArray⟩, .int .i64 t.pos]] w fun e w' => e = .returned (.bool (!wordOk t)) ∧ Below w.heap.size w w':=by
  have HW:=zh (tree_wordedG t ht)
  clear ht
  go_enter Tryz.func86,Tryz.ntmps86
  go_wp2_with fail
  refine (HW.out _).mono ?_
  rintro e w1 ⟨rfl,hb1⟩
  have hB : Below w.heap.size w w1:=((Below.refl _ _).alloc (Nat.le_refl _) _).trans (hb1.mono (by simp))
  go_wp2
  go_ret
  exact ⟨rfl,hB⟩
/-- Where the first one stands that is wrong;-1: none is. -/
def badAt : List WordL → Nat → Int
  | [],_ => -1
  | t :: r,k => if wordOk t then badAt r (k + 1) else k
theorem badAt_all : ∀ (l : List WordL) (k : Nat),(0 ≤ badAt l k) = (l.all wordOk = false)
  | [],k => by simp [badAt]
  | t :: r,k => by
    rw [badAt,List.all_cons]
    cases h : wordOk t
    · simp
    · simpa using badAt_all r (k + 1)
theorem badAt_step (l : List WordL) (k : Nat) (t : WordL) (h : l[k]? = some t) : badAt (l.drop k) k = if wordOk t then badAt (l.drop (k + 1)) (k + 1) else k := by
  obtain ⟨hk,rfl⟩:=List.getElem?_eq_some_iff.1 h
  rw [List.drop_eq_getElem_cons hk,badAt]
set_option maxHeartbeats 1000000 in
theorem words_indexG (ws : List WordL) (hfit : ∀ t ∈ ws,t.s.length ≤ maxLen) (hlen : ws.length ≤ maxLen) (A : Option Addr) (c : Nat) (w : World) (B : Nat) (hB : B ≤ w.heap.size) (hr : ReadsM w (· < B) 4 A ws.length (ws.flatMap WordL.cells)) :
    Calls Tryz.prog 109 #[.slice A ws.length c, .func (.func 86) #[] #[]] w fun e w' => e = .returned (.int .i64 (badAt ws 0)) ∧ Below w.heap.size w w':=by
  have HR:=zh hr
  have HFIT:=zh hfit
  unfold maxLen at hlen
  clear hr hfit
  go_enter Tryz.func109,Tryz.ntmps109
  go_wp2_with fail
  go_loopw [8] (fun i wr => ∃ k : Nat,k ≤ ws.length ∧ i = .int .i64 k ∧ Below w.heap.size w wr ∧ badAt ws 0 = badAt (ws.drop k) k) (fun i _ => ws.length - (intOf i).toNat)
  case atStart => exact ⟨0,Nat.zero_le _,rfl,Below.refl _ _,by simp⟩
  case round =>
    obtain ⟨k,hk,rfl,hb,hs⟩:=hrel
    have hbs:=hb.size
    by_cases hlt : k < ws.length
    · obtain ⟨t,ht⟩ : ∃ t,ws[k]? = some t := ⟨_,List.getElem?_eq_getElem hlt⟩
      have hk' : ∀ p : Addr,p.block < B → wr.cell? p = w.cell? p:=fun p hp => hb.cell (by omega)
      obtain ⟨ad,rfl,_,d0,d1,d2,d3⟩:=word_cells (HR.out.keep (fun _ h => h) hk') k t ht
      have HW:=zh (tree_within1G t (HFIT.out t (List.mem_of_getElem? ht)))
      rw [badAt_step ws k t ht] at hs
      have HB:=zh hb
      have lk : (k : Int) < ws.length:=by omega
      have lk0 : (0 : Int) ≤ k:=by omega
      have w1f : IntKind.i64.wrap ((k : Int) + 1) = (k : Int) + 1:=by rw [IntKind.wrap_i64];omega
      cases hok : wordOk t
      · rw [hok,if_neg (by simp)] at hs
        rw [hok] at HW
        have HS:=zh hs
        clear hk' hok hb hs
        go_wp2_with fail
        refine (HW.out _).mono ?_
        rintro e w2 ⟨rfl,hb2⟩
        have HB2:=zh (HB.out.trans (hb2.mono hbs))
        clear hb2
        go_wp2_with fail
        go_ret
        exact ⟨by rw [HS.out];rfl,HB2.out⟩
      · rw [hok,if_pos rfl] at hs
        rw [hok] at HW
        have HS:=zh hs
        clear hk' hok hb hs
        go_wp2_with fail
        refine (HW.out _).mono ?_
        rintro e w2 ⟨rfl,hb2⟩
        have HB2:=zh (HB.out.trans (hb2.mono hbs))
        clear hb2
        go_wp2_with fail
        exact ⟨⟨k + 1,by omega,by go_num,HB2.out,HS.out⟩,by simp [intOf];omega⟩
    · have lk : ¬ (k : Int) < ws.length := by omega
      have hs2 : badAt ws 0 = -1:=by rw [hs,List.drop_eq_nil_of_le (by omega)];rfl
      have HS2:=zh hs2
      clear hs hs2
      go_wp2_with fail
      go_ret
      exact ⟨by rw [HS2.out];rfl,hb⟩
theorem words_containsG (ws : List WordL) (hfit : ∀ t ∈ ws,t.s.length ≤ maxLen) (hlen : ws.length ≤ maxLen) (A : Option Addr) (c : Nat) (w : World) (B : Nat) (hB : B ≤ w.heap.size) (hr : ReadsM w (· < B) 4 A ws.length (ws.flatMap WordL.cells)) :
    Calls Tryz.prog 85 #[.slice A ws.length c, .func (.func 86) #[] #[]] w fun e w' => e = .returned (.bool (!ws.all wordOk)) ∧ Below w.heap.size w w':=by
  have H:=zh (words_indexG ws hfit hlen A c w B hB hr)
  have hbd:=badAt_all ws 0
  generalize badAt ws 0 = x at *
  generalize ws.all wordOk = y at *
  have HR:=zh hbd
  clear hr hfit hbd
  go_enter Tryz.func85,Tryz.ntmps85
  go_wp2_with fail
  refine H.out.mono ?_
  rintro e w1 ⟨rfl,hb1⟩
  go_wp2
  go_ret
  exact ⟨by first | exact ret_bool (by have:=HR.out;cases y <;> simp_all) | rfl,hb1⟩
theorem checkN_eq (d : Nat) (n : NodeL) : checkN d n = if (!n.words.all wordOk || !nameL n.name || decide (8 < n.words.length) || (!n.block && decide (0 < n.kids.length))) = true then 1 else if n.block = true ∧ d = 6 then 7 else checkL (d + 1) n.kids := by
  obtain ⟨a,b,c,e,f⟩:=n
  simp only [checkN,NodeL.words,NodeL.kids,NodeL.name,NodeL.block]
  congr 1
theorem checkL_step : ∀ (l : List NodeL) (k d : Nat) (n : NodeL),l[k]? = some n → checkL d (l.drop k) = if checkN d n ≠ 0 then checkN d n else checkL d (l.drop (k + 1))
  | [],k,d,n,h => by simp at h
  | x :: r,0,d,n,h => by
    simp only [List.getElem?_cons_zero,Option.some.injEq] at h
    subst h
    simp only [List.drop_zero,checkL,Nat.zero_add,List.drop_succ_cons]
  | x :: r,k + 1,d,n,h => by simpa using checkL_step r k d n (by simpa using h)
theorem checkL_nil (d : Nat) : checkL d [] = 0:=by simp only [checkL]
set_option maxRecDepth 100000 in
set_option maxHeartbeats 4000000 in
theorem tree_withinG : ∀ (N : Nat) (l : List NodeL) (A : Option Addr) (c : Nat) (w : World) (B d : Nat),cntL l < N → cntL l ≤ 100000 → B ≤ w.heap.size → ROk w B A l → d + N ≤ 200000 → fitNs l →
    Calls Tryz.prog 57 #[.slice A l.length c, .int .i64 d] w fun e w' => e = .returned (.int .i64 (checkL d l)) ∧ Below w.heap.size w w':=by
  intro N
  induction N with
  | zero => intro l A c w B d h;omega
  | succ N ih =>
    intro l A c w B d hN hsm hB hok hd100 hfit
    have hlen:=cntL_len l
    have HOK:=zh hok
    have HIH:=zh ih
    have HFIT:=zh hfit
    clear ih hok hfit
    go_enter Tryz.func57,Tryz.ntmps57
    go_wp2_with fail
    go_loopw [11] (fun i wr => ∃ k : Nat,k ≤ l.length ∧ i = .int .i64 k ∧ Below w.heap.size w wr ∧ checkL d l = checkL d (l.drop k)) (fun i _ => l.length - (intOf i).toNat)
    case atStart => exact ⟨0,Nat.zero_le _,rfl,Below.refl _ _,by simp⟩
    case round =>
      obtain ⟨k,hk,rfl,hb,hs⟩:=hrel
      have hbs:=hb.size
      by_cases hlt : k < l.length
      · obtain ⟨n,hn⟩ : ∃ n,l[k]? = some n := ⟨_,List.getElem?_eq_getElem hlt⟩
        obtain ⟨ad,Aw,cw,Ak,ck,hA,hadB,c0,c1,c2,c3,c4,hw,hkk⟩:=(HOK.out.below (hb.mono hB)).at k n hn
        subst hA
        obtain ⟨f1,f2,f3,f4,f5⟩:=fit_parts n (fit_at l k n HFIT.out hn)
        have hc1:=cntL_take_mem l k n hn
        have hc2:=cntN_eq n
        have hst:=checkL_step l k d n hn
        rw [checkN_eq] at hst
        have HNM:=zh (name_atG n.name f1)
        have HBLK:=zh (heap_alloc_new wr (.cells #[.string ⟨n.name.toArray⟩, .int .i64 n.pos, .slice Aw n.words.length cw, .bool n.block, .slice Ak n.kids.length ck] 44))
        have hW:=(Below.refl wr.heap.size wr).alloc (Nat.le_refl _) (.cells #[.string ⟨n.name.toArray⟩, .int .i64 n.pos, .slice Aw n.words.length cw, .bool n.block, .slice Ak n.kids.length ck] 44)
        have HW:=zh hW
        have HWC:=zh (words_containsG n.words f3 f2 Aw cw _ B (by simp;omega) (hw.keep (w':=wr.alloc (.cells #[.string ⟨n.name.toArray⟩, .int .i64 n.pos, .slice Aw n.words.length cw, .bool n.block, .slice Ak n.kids.length ck] 44)) (fun _ h => h) (fun p hp => hW.cell (by omega))))
        have HKK:=zh hkk
        have HB:=zh hb
        have HF5:=zh f5
        have lk : (k : Int) < l.length:=by omega
        have lk0 : (0 : Int) ≤ k:=by omega
        have w1f : IntKind.i64.wrap ((k : Int) + 1) = (k : Int) + 1:=by rw [IntKind.wrap_i64];omega
        have w2f : IntKind.i64.wrap ((d : Int) + 1) = (d : Int) + 1:=by rw [IntKind.wrap_i64];omega
        have HS:=zh hs
        have HST:=zh hst
        clear hW hw hkk hb f1 f2 f3 f4 f5 hs hst
        go_wp2_with fail
        refine HWC.out.mono ?_
        rintro e w2 ⟨rfl,hb2⟩
        have hlt2 : wr.heap.size < w2.heap.size:=by have:=hb2.size;simp at this;omega
        have hblk2 : w2.heap[wr.heap.size]? = _:=(hb2.block _ (by simp)).trans HBLK.out
        have e0:=zb hblk2 0
        have e2:=zb hblk2 2
        have e3:=zb hblk2 3
        have e4:=zb hblk2 4
        have hb3 : Below w.heap.size w w2:=HB.out.trans ((HW.out.trans (hb2.mono (by simp))).mono hbs)
        have hb32 : Below B wr w2:=(HW.out.trans (hb2.mono (by simp))).mono (by omega)
        have HB3:=zh hb3
        have HKK3:=zh (HKK.out.below hb32)
        clear hb2 hb3 hb32 hblk2 HWC HBLK HW HKK
        cases hall : n.words.all wordOk
        · have HR := zh (show checkL d l = 1 by rw [HS.out,HST.out,hall]; simp)
          clear HST HS
          go_wp2_with fail
          go_ret
          exact ⟨by rw [HR.out];rfl,HB3.out⟩
        cases hnm : nameL n.name
        · have HR := zh (show checkL d l = 1 by rw [HS.out,HST.out,hnm]; simp)
          rw [hnm] at HNM
          clear HST HS
          go_wp2_with fail
          refine (HNM.out _).mono ?_
          rintro e w3 ⟨rfl,rfl⟩
          go_wp2_with fail
          go_ret
          exact ⟨by rw [HR.out];rfl,HB3.out⟩
        rw [hnm] at HNM
        by_cases hw8 : 8 < n.words.length
        · have HR := zh (show checkL d l = 1 by rw [HS.out,HST.out]; simp [hw8])
          have hw8' : (8 : Int) < n.words.length:=by omega
          clear HST HS hw8
          go_wp2_with fail
          refine (HNM.out _).mono ?_
          rintro e w3 ⟨rfl,rfl⟩
          go_wp2_with fail
          go_ret
          exact ⟨by rw [HR.out];rfl,HB3.out⟩
        have hw8' : ¬ (8 : Int) < n.words.length:=by omega
        have hB4 : B ≤ w2.heap.size:=by omega
        cases hbl : n.block
        · rw [hbl] at e3
          by_cases hk0 : 0 < n.kids.length
          · have HR := zh (show checkL d l = 1 by rw [HS.out,HST.out,hbl]; simp [hk0])
            have hk0' : (0 : Int) < n.kids.length:=by omega
            clear HST HS hw8
            go_wp2_with fail
            refine (HNM.out _).mono ?_
            rintro e w3 ⟨rfl,rfl⟩
            go_wp2_with fail
            go_ret
            exact ⟨by rw [HR.out];rfl,HB3.out⟩
          · have hkn : n.kids = [] := List.eq_nil_of_length_eq_zero (by omega)
            have HR:=zh (show checkL d l = checkL d (l.drop (k + 1)) by rw [HS.out,HST.out,hall,hnm,hbl,hkn];simp [hw8,checkL_nil])
            have HI:=zh (HIH.out [] Ak ck w2 B (d + 1) (by simp only [cntL];omega) (by simp only [cntL];omega) hB4 (by have:=HKK3.out;rw [hkn] at this;exact this) (by omega) (by simp only [fitNs]))
            rw [checkL_nil] at HI
            have HI2:=zh (show Calls Tryz.prog 57 #[.slice Ak 0 ck, .int .i64 ((d : Int) + 1)] w2 fun e w' => e = .returned (.int .i64 0) ∧ Below w2.heap.size w2 w' from HI.out)
            rw [hkn] at e4
            simp only [List.length_nil] at e4
            clear HST HS hw8 HI
            go_wp2_with fail
            refine (HNM.out _).mono ?_
            rintro e w3 ⟨rfl,rfl⟩
            go_wp2_with fail
            refine HI2.out.mono ?_
            rintro e w5 ⟨rfl,hb5⟩
            have HB5:=zh (HB3.out.trans (hb5.mono HB3.out.size))
            clear hb5
            go_wp2_with fail
            exact ⟨⟨k + 1,by omega,by go_num,HB5.out,HR.out⟩,by simp [intOf];omega⟩
        · rw [hbl] at e3
          by_cases hd6 : d = 6
          · have HR := zh (show checkL d l = 7 by rw [HS.out,HST.out,hall,hnm,hbl]; simp [hw8,hd6])
            have hd6' : ((d : Int) == 6) = true:=by simp [hd6]
            clear HST HS hw8 hd6
            go_wp2_with fail
            refine (HNM.out _).mono ?_
            rintro e w3 ⟨rfl,rfl⟩
            go_wp2_with fail
            go_ret
            exact ⟨by rw [HR.out];rfl,HB3.out⟩
          · have hd6' : ((d : Int) == 6) = false := beq_false_of_ne (by omega)
            have HR:=zh (show checkL d l = if checkL (d + 1) n.kids ≠ 0 then checkL (d + 1) n.kids else checkL d (l.drop (k + 1)) by rw [HS.out,HST.out,hall,hnm,hbl];simp [hw8,hd6])
            have HI:=zh (HIH.out n.kids Ak ck w2 B (d + 1) (by omega) (by omega) hB4 HKK3.out (by omega) HF5.out)
            have HI2:=zh (show Calls Tryz.prog 57 #[.slice Ak n.kids.length ck, .int .i64 ((d : Int) + 1)] w2 fun e w' => e = .returned (.int .i64 (checkL (d + 1) n.kids)) ∧ Below w2.heap.size w2 w' from HI.out)
            clear HST HS hw8 HI hd6
            generalize checkL (d + 1) n.kids = y at *
            by_cases hy : y = 0
            · subst hy
              rw [if_neg (by simp)] at HR
              go_wp2_with fail
              refine (HNM.out _).mono ?_
              rintro e w3 ⟨rfl,rfl⟩
              go_wp2_with fail
              refine HI2.out.mono ?_
              rintro e w5 ⟨rfl,hb5⟩
              have HB5:=zh (HB3.out.trans (hb5.mono HB3.out.size))
              clear hb5
              go_wp2_with fail
              exact ⟨⟨k + 1,by omega,by go_num,HB5.out,HR.out⟩,by simp [intOf];omega⟩
            · rw [if_pos hy] at HR
              have hy' : (y != 0) = true:=by simpa using hy
              clear hy
              go_wp2_with fail
              refine (HNM.out _).mono ?_
              rintro e w3 ⟨rfl,rfl⟩
              go_wp2_with fail
              refine HI2.out.mono ?_
              rintro e w5 ⟨rfl,hb5⟩
              have HB5:=zh (HB3.out.trans (hb5.mono HB3.out.size))
              clear hb5
              go_wp2_with fail
              go_ret
              exact ⟨by rw [HR.out];rfl,HB5.out⟩
      · have lk : ¬ (k : Int) < l.length := by omega
        have hs2 : checkL d l = 0:=by rw [hs,List.drop_eq_nil_of_le (by omega),checkL_nil]
        have HS2:=zh hs2
        clear hs hs2
        go_wp2_with fail
        go_ret
        exact ⟨by rw [HS2.out];rfl,hb⟩
theorem tree_CheckG (l : List NodeL) (A : Option Addr) (c : Nat) (w : World) (B : Nat) (hsm : cntL l ≤ 100000) (hB : B ≤ w.heap.size) (hok : ROk w B A l) (hfit : fitNs l) :
    Calls Tryz.prog 33 #[.slice A l.length c] w fun e w' => e = .returned (.int .i64 (checkL 0 l)) ∧ Below w.heap.size w w':=by
  have H:=zh (tree_withinG (cntL l + 1) l A c w B 0 (by omega) hsm hB hok (by omega) hfit)
  clear hok hfit
  go_enter Tryz.func33,Tryz.ntmps33
  go_wp2_with fail
  refine H.out.mono ?_
  rintro e w1 ⟨rfl,hb1⟩
  go_wp2
  go_ret
  exact ⟨rfl,hb1⟩
end
section
set_option linter.unusedVariables false
set_option linter.unusedSimpArgs false
open Go.RowKit
open Go.Lib renaming hid → zh
/-! ### How long what is written is -/
theorem wordB_len (w : WordL) (h : wordOk w = true) : (wordB w).length ≤ 16 := by
  obtain ⟨h1,_⟩:=word_text w h
  have:=text_len (wordT w) (by rw [h1])
  rwa [h1] at this
theorem joinTail_words (ws : List WordL) (h : ws.all wordOk = true) : (Lib.joinTail [32] (ws.map wordB)).length ≤ 17 * ws.length := by
  have := joinTail_len (ws.map wordB) (fun x hx => by
    obtain ⟨w,hw,rfl⟩:=List.mem_map.1 hx
    exact wordB_len w (List.all_eq_true.1 h w hw))
  rwa [List.length_map] at this
mutual
theorem printN_small : ∀ (n : NodeL) (d : Nat),checkN d n = 0 → d ≤ 6 → (printN d n).length ≤ 60 * cntN n
  | .mk nm p ws b ks,d,h,hd => by
    obtain ⟨h1,h2⟩:=check_head d nm p ws b ks h
    obtain ⟨h3,_,h5,h6⟩:=check_parts d nm p ws b ks h
    have hn:=name16 nm h2
    have hw:=joinTail_words ws h1
    have hj : (Lib.join (nm :: ws.map wordB) [32]).length = nm.length + (Lib.joinTail [32] (ws.map wordB)).length:=by rw [Lib.join_cons,List.length_append]
    cases b
    · simp only [printN,Bool.false_eq_true,if_false,line_len,hj,cntN,List.length_cons,List.length_nil]
      omega
    · have hk := printL_small ks (d + 1) h6 (by have := h5 rfl; omega)
      simp only [printN,if_true,List.length_append,line_len,hj,cntN,List.length_cons,List.length_nil,Lib.join_nil]
      omega
theorem printL_small : ∀ (l : List NodeL) (d : Nat),checkL d l = 0 → d ≤ 6 → (printL d l).length ≤ 60 * cntL l
  | [],d,_,_ => by simp [printL]
  | n :: r,d,h,hd => by
    obtain ⟨h1,h2⟩:=checkL_cons d n r h
    have a1:=printN_small n d h1 hd
    have a2:=printL_small r d h2 hd
    simp only [printL,List.length_append,cntL]
    omega
end
theorem flat_small : ∀ l : List NodeL,(flatL l).length ≤ 3 * cntL l
  | [] => Nat.le_refl _
  | .mk nm p ws b ks :: r => by
    have h1:=flat_small ks
    have h2:=flat_small r
    simp only [cntL,cntN,flatL,flatN,List.length_append,List.length_cons,List.length_map]
    cases b <;> simp <;> omega
/-! ### Few items are written in few bytes -/
mutual
theorem left_ndN : ∀ (n : NodeL) (most deep : Int),-1 ≤ most → 0 ≤ leftN most deep n → (ndN n : Int) + leftN most deep n ≤ most
  | .mk nm p ws b ks,most,deep,h,h0 => by
    simp only [leftN] at h0 ⊢
    by_cases hc : most < 0 ∨ 20 < ws.length
    · rw [if_pos hc] at h0;omega
    · rw [if_neg hc] at h0 ⊢
      have:=left_ndL ks (most - 1) (deep - 1) (by omega) h0
      simp only [ndN];omega
theorem left_ndL : ∀ (l : List NodeL) (most deep : Int),-1 ≤ most → 0 ≤ leftL most deep l → (ndL l : Int) + leftL most deep l ≤ most
  | [],most,deep,h,h0 => by simp only [leftL,ndL] at h0 ⊢;omega
  | n :: r,most,deep,h,h0 => by
    simp only [leftL] at h0 ⊢
    by_cases hd : deep = 0
    · rw [if_pos hd] at h0;omega
    · rw [if_neg hd] at h0 ⊢
      exact left_ndG (n :: r) most deep h h0
theorem left_ndG : ∀ (l : List NodeL) (most deep : Int),-1 ≤ most → 0 ≤ leftGo most deep l → (ndL l : Int) + leftGo most deep l ≤ most
  | [],most,deep,h,h0 => by simp only [leftGo,ndL] at h0 ⊢;omega
  | n :: r,most,deep,h,h0 => by
    simp only [leftGo] at h0 ⊢
    obtain ⟨a1,a2,a3⟩:=left_geN n most deep h
    have h2:=left_ndG r (leftN most deep n) deep a1 h0
    have h3 : 0 ≤ leftN most deep n := by have : (0 : Int) ≤ ndL r := by omega
                                          omega
    have h1:=left_ndN n most deep h h3
    simp only [ndL];omega
end
mutual
theorem printN_nd : ∀ (n : NodeL) (d : Nat),checkN d n = 0 → d ≤ 6 → (printN d n).length ≤ 190 * ndN n ∧ (flatN n).length ≤ 12 * ndN n
  | .mk nm p ws b ks,d,h,hd => by
    obtain ⟨h1,h2⟩:=check_head d nm p ws b ks h
    obtain ⟨h3,_,h5,h6⟩:=check_parts d nm p ws b ks h
    have hn:=name16 nm h2
    have hw:=joinTail_words ws h1
    have hj : (Lib.join (nm :: ws.map wordB) [32]).length = nm.length + (Lib.joinTail [32] (ws.map wordB)).length:=by rw [Lib.join_cons,List.length_append]
    cases b
    · simp only [printN,flatN,Bool.false_eq_true,if_false,line_len,hj,ndN,List.length_cons,List.length_nil,List.length_append,List.length_map]
      omega
    · have hk := printL_nd ks (d + 1) h6 (by have := h5 rfl; omega)
      simp only [printN,flatN,if_true,List.length_append,line_len,hj,ndN,List.length_cons,List.length_nil,Lib.join_nil,List.length_map]
      omega
theorem printL_nd : ∀ (l : List NodeL) (d : Nat),checkL d l = 0 → d ≤ 6 → (printL d l).length ≤ 190 * ndL l ∧ (flatL l).length ≤ 12 * ndL l
  | [],d,_,_ => by simp [printL,flatL]
  | n :: r,d,h,hd => by
    obtain ⟨h1,h2⟩:=checkL_cons d n r h
    have a1:=printN_nd n d h1 hd
    have a2:=printL_nd r d h2 hd
    simp only [printL,flatL,List.length_append,ndL]
    omega
end
/-- Of few items Print tells Check's error,or the text. -/
theorem few_lay (l : List NodeL) (m : Nat) (hm : m ≤ 300) (h : ndL l ≤ m) : (layL l).2 = checkL 0 l ∧ ((layL l).2 ≠ 0 → (layL l).1 = []) ∧ ((layL l).2 = 0 → layL l = (printL 0 l,0)) := by
  unfold layL
  by_cases hc : checkL 0 l = 0
  · obtain ⟨a1,a2⟩ := printL_nd l 0 hc (by omega)
    rw [if_neg (by simp [hc]),if_neg (by omega)]
    exact ⟨hc.symm,fun h => absurd rfl h,fun _ => rfl⟩
  · rw [if_pos hc]
    exact ⟨rfl,fun _ => rfl,fun h => absurd h hc⟩
theorem sheet_new (w : World) (B : Nat) (hB : B ≤ w.heap.size) : IsSheet B w.heap.size (Lib.byteCells []) 0 (w.alloc (.cells #[.pointer none, .slice none 0 0, .int .i64 0] 68)) :=
  Or.inl ⟨hB, .slice none 0 0,heap_alloc_new w _,World.ownsRow_nil _ _ _ _,by simp [Value.ownBlock]⟩
set_option maxRecDepth 100000 in
set_option maxHeartbeats 2000000 in
theorem layout_Print (l : List NodeL) (A : Option Addr) (c : Nat) (w : World) (hsm : cntL l ≤ 100000) (hok : ROk w w.heap.size A l) (hfit : fitNs l) (ht : Tab w) (hs : SpaceTab w)
    (hg1 : 0 < w.heap.size) (hg2 : 2 < w.heap.size) :
    Calls Tryz.prog 18 #[.slice A l.length c] w fun e w' => e = .returned (.tuple #[.string ⟨(layL l).1.toArray⟩, .int .i64 (layL l).2]) ∧ Below w.heap.size w w':=by
  have HC:=zh (tree_CheckG l A c w w.heap.size hsm (Nat.le_refl _) hok hfit)
  have HOK:=zh hok
  have HT:=zh ht
  have HS:=zh hs
  clear hfit hok ht hs
  by_cases hck : checkL 0 l = 0
  · have hps := printL_small l 0 hck (by omega)
    have hfs:=flat_small l
    have HCK:=zh hck
    rw [hck] at HC
    have HLY:=zh (show layL l = if 8192 < (flatL l).length ∨ 65536 < (printL 0 l).length then ([],6) else (printL 0 l,0) by unfold layL;rw [if_neg (by simp [hck])])
    clear hck
    go_enter Tryz.func18,Tryz.ntmps18
    go_wp2_with fail
    refine HC.out.mono ?_
    rintro e1 w1 ⟨rfl,hb1⟩
    have hz1:=hb1.size
    have HB1:=zh hb1
    clear hb1
    go_wp2_with fail
    have hbW:=HB1.out.alloc hz1 (.cells #[.pointer none, .slice none 0 0, .int .i64 0] 68)
    have hwk := layout_walk w1.heap.size w.heap.size (cntL l + 1) l 0 [] 0 A c (w1.alloc (.cells #[.pointer none, .slice none 0 0, .int .i64 0] 68)) (by omega) hsm (by omega) HCK.out (by simp; omega)
      (HOK.out.below hbW) (sheet_new w1 w.heap.size hz1) hg1 hg2 (HT.out.belowB hbW hg2) (HS.out.belowB hbW hg1) (by rw [List.nil_append];omega) (by omega) (by omega)
    rw [List.nil_append,Int.zero_add] at hwk
    have HWK:=zh hwk
    have HBW:=zh hbW
    clear hwk hbW
    refine HWK.out.mono ?_
    rintro e2 w2 hl
    have hb2:=HBW.out.trans hl.2.2.1
    have hsh:=hl.2.1
    obtain ⟨rfl,_⟩:=hl
    obtain ⟨q2,_⟩:=hsh.cell2
    have HL:=zh (sheet_Len hsh)
    rw [Lib.byteCells_length] at HL
    have HST:=zh (sheet_String (printL 0 l) hsh hb2.size)
    have HB2:=zh hb2
    clear hb2 hsh hps
    by_cases h8 : 8192 < (flatL l).length
    · have HR := zh (show layL l = ([],6) by rw [HLY.out,if_pos (Or.inl h8)])
      have h8' : (8192 : Int) < (flatL l).length:=by omega
      go_wp2_with fail
      go_ret2
      exact ⟨by rw [HR.out];rfl,HB2.out⟩
    · have h8' : ¬ (8192 : Int) < (flatL l).length := by omega
      by_cases h6 : 65536 < (printL 0 l).length
      · have HR := zh (show layL l = ([],6) by rw [HLY.out,if_pos (Or.inr h6)])
        have h6' : (65536 : Int) < (printL 0 l).length:=by omega
        go_wp2_with (go_at_call 36;refine HL.out.mono ?_;rintro e3 w3 ⟨rfl,rfl⟩)
        go_ret2
        exact ⟨by rw [HR.out];rfl,HB2.out⟩
      · have HR := zh (show layL l = (printL 0 l,0) by rw [HLY.out,if_neg (by omega)])
        have h6' : ¬ (65536 : Int) < (printL 0 l).length:=by omega
        go_wp2_with (first | (go_at_call 36;refine HL.out.mono ?_;rintro e3 w3 ⟨rfl,rfl⟩) | (go_at_call 37;refine HST.out.mono ?_;rintro e4 w4 ⟨rfl,hb4⟩))
        go_ret2
        exact ⟨by rw [HR.out];rfl,HB2.out.trans hb4⟩
  · have HR := zh (show layL l = ([],checkL 0 l) by unfold layL; rw [if_pos hck])
    have hne : (checkL 0 l == 0) = false:=beq_false_of_ne hck
    generalize checkL 0 l = x at *
    have HX:=zh hck
    clear hck
    go_enter Tryz.func18,Tryz.ntmps18
    go_wp2_with fail
    refine HC.out.mono ?_
    rintro e1 w1 ⟨rfl,hb1⟩
    have HB1:=zh hb1
    clear hb1
    go_wp2_with fail
    go_ret2
    exact ⟨by rw [HR.out];rfl,HB1.out⟩
theorem ROk.of_post {w w' : World} {A : Option Addr} {l : List NodeL} {kcs : List Value} (h1 : ReadsM w' (fun b => w.heap.size ≤ b ∧ b < w'.heap.size) 5 A l.length kcs) (h2 : NodesOk w' (fun b => w.heap.size ≤ b ∧ b < w'.heap.size) l kcs) : ROk w' w'.heap.size A l:=ROk.of_parse h1 h2
/-- What the items of a text are: few,and with short texts. -/
theorem fit_of_checkW : ∀ ws : List WordL,ws.all wordOk = true → ∀ t ∈ ws,t.s.length ≤ maxLen
  | ws,h,t,ht => by
    have:=List.all_eq_true.1 h t ht
    obtain ⟨nu,n,s,p⟩:=t
    unfold wordOk at this
    unfold maxLen
    cases nu
    · simp only [Bool.false_eq_true,if_false,Bool.and_eq_true,decide_eq_true_eq] at this
      have:=name16 s this.2
      simp only;omega
    · simp only [if_true,Bool.and_eq_true,decide_eq_true_eq] at this
      obtain ⟨⟨rfl,_⟩,_⟩:=this
      simp
mutual
theorem fit_of_checkN : ∀ (n : NodeL) (d : Nat),checkN d n = 0 → cntN n ≤ 100000 → fitN n
  | .mk nm p ws b ks,d,h,hc => by
    obtain ⟨h1,h2⟩:=check_head d nm p ws b ks h
    obtain ⟨h3,h4,_,h6⟩:=check_parts d nm p ws b ks h
    simp only [cntN] at hc
    have h7:=fit_of_checkL ks (d + 1) h6 (by omega)
    have h8:=name16 nm h2
    have h9:=cntL_len ks
    refine ⟨by unfold maxLen;omega,by unfold maxLen;omega,fit_of_checkW ws h1,by unfold maxLen;omega,h7⟩
theorem fit_of_checkL : ∀ (l : List NodeL) (d : Nat),checkL d l = 0 → cntL l ≤ 100000 → fitNs l
  | [],_,_,_ => trivial
  | n :: r,d,h,hc => by
    obtain ⟨h1,h2⟩:=checkL_cons d n r h
    simp only [cntL] at hc
    exact ⟨fit_of_checkN n d h1 (by omega),fit_of_checkL r d h2 (by omega)⟩
end
set_option maxRecDepth 100000 in
theorem layout_Canon (s : ByteArray) (w : World) (hs : s.data.toList.length ≤ 100000) (hcn : (treeL s.data.toList).err = 0 → checkL 0 (treeL s.data.toList).nodes = 0 ∧ cntL (treeL s.data.toList).nodes ≤ 100000) (ht : Tab w) (hsp : SpaceTab w)
    (hg1 : 0 < w.heap.size) (hg2 : 2 < w.heap.size) :
    Calls Tryz.prog 12 #[.string s] w fun e w' => e = .returned (.tuple #[.string ⟨(canonL s.data.toList).1.toArray⟩, .int .i64 (canonL s.data.toList).2.1, .int .i64 (canonL s.data.toList).2.2]) ∧ Below w.heap.size w w':=by
  have HP:=zh (tree_Parse s w (by unfold maxLen;rw [ba_len] at hs;omega))
  have HCN:=zh hcn
  have HT:=zh ht
  have HS:=zh hsp
  have hcl : canonL s.data.toList = if (treeL s.data.toList).err ≠ 0 then ([],(treeL s.data.toList).pos,(treeL s.data.toList).err) else ((layL (treeL s.data.toList).nodes).1,0,(layL (treeL s.data.toList).nodes).2):=rfl
  have HCL:=zh hcl
  clear hcn ht hsp hcl hs
  generalize canonL s.data.toList = C at *
  generalize treeL s.data.toList = R at *
  obtain ⟨nds,pos,err⟩:=R
  simp only at HCN HCL
  by_cases he : err = 0
  · subst he
    have HL:=zh (show C = ((layL nds).1,0,(layL nds).2) by rw [HCL.out,if_neg (by simp)])
    obtain ⟨hck,hcnt⟩:=HCN.out rfl
    have HF:=zh (fit_of_checkL nds 0 hck hcnt)
    clear hck
    go_enter Tryz.func12,Tryz.ntmps12
    go_wp2_with fail
    refine HP.out.mono ?_
    rintro e1 w1 ⟨A,c,kcs,rfl,_,hr,hn,hb1⟩
    have hz:=hb1.size
    have HPR:=zh (layout_Print nds A c w1 hcnt (ROk.of_parse hr hn) HF.out (HT.out.below hb1) (HS.out.below hb1) (by omega) (by omega))
    have HB1:=zh hb1
    clear hr hn hb1
    go_wp2_with fail
    refine HPR.out.mono ?_
    rintro e2 w2 ⟨rfl,hb2⟩
    have HB2:=zh (HB1.out.trans (hb2.mono hz))
    clear hb2
    go_wp2_with fail
    go_ret3
    exact ⟨by rw [HL.out];rfl,HB2.out⟩
  · have HL := zh (show C = ([],pos,err) by rw [HCL.out,if_pos he])
    have hne : (err == 0) = false:=beq_false_of_ne he
    have HE:=zh he
    clear he
    go_enter Tryz.func12,Tryz.ntmps12
    go_wp2_with fail
    refine HP.out.mono ?_
    rintro e1 w1 ⟨A,c,kcs,rfl,_,hr,hn,hb1⟩
    have HB1:=zh hb1
    clear hr hn hb1
    go_wp2_with fail
    go_ret3
    exact ⟨by rw [HL.out];rfl,HB1.out⟩
end
section
open Go.RowKit
/-- What Same asks of two tokens. -/
def sameTok (a b : Tok) : Bool:=decide (a.kind = b.kind ∧ a.n = b.n ∧ a.s = b.s)
def sameL : List Tok → List Tok → Bool
  | [],[] => true
  | a :: l,b :: m => sameTok a b && sameL l m
  | _,_ => false
theorem sameTok_eq (a b : Tok) : sameTok a b = decide (Tok.mk a.kind b.pos a.n a.s = b) := by
  unfold sameTok
  rw [decide_eq_decide,tok_eq_iff]
  simp
theorem sameL_len : ∀ (l m : List Tok),sameL l m = true → l.length = m.length
  | [],[],_ => rfl
  | a :: l,b :: m,h => by
    simp only [sameL,Bool.and_eq_true] at h
    simp [sameL_len l m h.2]
  | [],b :: m,h => by simp [sameL] at h
  | a :: l,[],h => by simp [sameL] at h
theorem sameL_step : ∀ (l m : List Tok) (k : Nat) (a b : Tok),l[k]? = some a → m[k]? = some b → sameL (l.drop k) (m.drop k) = (sameTok a b && sameL (l.drop (k + 1)) (m.drop (k + 1))) := by
  intro l m k a b ha hb
  have h1:=(List.getElem?_eq_some_iff.1 ha)
  have h2:=(List.getElem?_eq_some_iff.1 hb)
  obtain ⟨h1,rfl⟩:=h1
  obtain ⟨h2,rfl⟩:=h2
  rw [List.drop_eq_getElem_cons h1,List.drop_eq_getElem_cons h2]
  rfl
end
end Go.Proofs.YtjbniichcopnlaaGreatDoor
