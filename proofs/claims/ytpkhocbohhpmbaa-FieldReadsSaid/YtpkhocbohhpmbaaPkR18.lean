/- Layer 9 (tree): whether any items may be: the walk of Check. Then: Layer 11 (field): the walks of Check, Periods. -/
import Derived.Test.YtpkhocbohhpmbaaPkR13
import Derived.Test.YtpkhocbohhpmbaaPkR12
import Derived.Test.YtpkhocbohhpmbaaPkR17
set_option linter.unusedVariables false
set_option linter.unusedSimpArgs false
namespace Go.Proofs.Ytpkhocbohhpmbaa
section
open Go.RowKit
open Go.Joins renaming cell_of_block → zb, unfrozen_of_block → zu
open Go.Lib renaming hid → zh
theorem name_atG (s : Bytes) (h : s.length ≤ maxLen) (W : World) : Calls Try.prog 40 #[.string ⟨s.toArray⟩] W fun e w' => e = .returned (.bool (nameL s)) ∧ W = w' :=
  lex_Name ⟨s.toArray⟩ W (by show s.toArray.size ≤ _;rw [List.size_toArray];exact h)
theorem tree_wordedG (t : WordL) (ht : t.s.length ≤ maxLen) (w : World) :
    Calls Try.prog 72 #[.agg #[.bool t.num, .int .i64 t.n, .string ⟨t.s.toArray⟩, .int .i64 t.pos]] w fun e w' => e = .returned (.bool (wordOk t)) ∧ Below w.heap.size w w':=by
  obtain ⟨num,n,s,pos⟩:=t
  dsimp only at ht ⊢
  have hbW : Below w.heap.size w (w.alloc (.cells #[.bool num, .int .i64 n, .string ⟨s.toArray⟩, .int .i64 pos] 47)):=(Below.refl _ _).alloc (Nat.le_refl _) _
  have HB:=zh hbW
  have HN:=zh (name_atG s ht)
  clear hbW ht
  cases num
  · have hr : wordOk ⟨false,n,s,pos⟩ = (decide (n = 0) && nameL s) := rfl
    rw [hr]
    clear hr
    by_cases hn : n = 0
    · subst hn
      rw [decide_eq_true rfl,Bool.true_and]
      generalize nameL s = r at *
      go_enter Try.func72,Try.ntmps72
      go_wp2_with fail
      refine (HN.out _).mono ?_
      rintro e w1 ⟨rfl,rfl⟩
      go_wp2
      go_ret
      exact ⟨rfl,HB.out⟩
    · rw [decide_eq_false hn,Bool.false_and]
      have hn' : (n == 0) = false:=by simpa using hn
      clear hn HN
      go_enter Try.func72,Try.ntmps72
      go_wp2_with fail
      go_ret
      exact ⟨rfl,HB.out⟩
  · have hr : wordOk ⟨true,n,s,pos⟩ = (decide (s = []) && decide (0 ≤ n) && decide (n ≤ 999999999)) := rfl
    rw [hr]
    clear hr HN
    by_cases hs : s = []
    · subst hs
      rw [decide_eq_true rfl,Bool.true_and]
      by_cases h0 : 0 ≤ n
      · rw [decide_eq_true h0,Bool.true_and]
        go_enter Try.func72,Try.ntmps72
        go_wp2
        go_ret
        exact ⟨rfl,HB.out⟩
      · rw [decide_eq_false h0,Bool.false_and]
        go_enter Try.func72,Try.ntmps72
        go_wp2
        go_ret
        exact ⟨rfl,HB.out⟩
    · rw [decide_eq_false hs,Bool.false_and,Bool.false_and]
      have hs' : (s == []) = false:=by simpa using hs
      clear hs
      go_enter Try.func72,Try.ntmps72
      go_wp2
      go_ret
      exact ⟨rfl,HB.out⟩
theorem tree_within1G (t : WordL) (ht : t.s.length ≤ maxLen) (w : World) :
    Calls Try.prog 71 #[.agg #[.bool t.num, .int .i64 t.n, .string ⟨t.s.toArray⟩, .int .i64 t.pos]] w fun e w' => e = .returned (.bool (!wordOk t)) ∧ Below w.heap.size w w':=by
  have HW:=zh (tree_wordedG t ht)
  clear ht
  go_enter Try.func71,Try.ntmps71
  go_wp2_with fail
  refine (HW.out _).mono ?_
  rintro e w1 ⟨rfl,hb1⟩
  have hB : Below w.heap.size w w1:=((Below.refl _ _).alloc (Nat.le_refl _) _).trans (hb1.mono (by simp))
  go_wp2
  go_ret
  exact ⟨rfl,hB⟩
/-- Where the first one stands that is wrong;-1: none is. -/
def badAt : List WordL → Nat → Int
  | [],_ => -1
  | t :: r,k => if wordOk t then badAt r (k + 1) else k
theorem badAt_all : ∀ (l : List WordL) (k : Nat),(0 ≤ badAt l k) = (l.all wordOk = false)
  | [],k => by simp [badAt]
  | t :: r,k => by
    rw [badAt,List.all_cons]
    cases h : wordOk t
    · simp
    · simpa using badAt_all r (k + 1)
theorem badAt_step (l : List WordL) (k : Nat) (t : WordL) (h : l[k]? = some t) : badAt (l.drop k) k = if wordOk t then badAt (l.drop (k + 1)) (k + 1) else k := by
  obtain ⟨hk,rfl⟩:=List.getElem?_eq_some_iff.1 h
  rw [List.drop_eq_getElem_cons hk,badAt]
set_option maxHeartbeats 1000000 in
theorem words_indexG (ws : List WordL) (hfit : ∀ t ∈ ws,t.s.length ≤ maxLen) (hlen : ws.length ≤ maxLen) (A : Option Addr) (c : Nat) (w : World) (B : Nat) (hB : B ≤ w.heap.size) (hr : ReadsM w (· < B) 4 A ws.length (ws.flatMap WordL.cells)) :
    Calls Try.prog 84 #[.slice A ws.length c, .func (.func 71) #[] #[]] w fun e w' => e = .returned (.int .i64 (badAt ws 0)) ∧ Below w.heap.size w w':=by
  have HR:=zh hr
  have HFIT:=zh hfit
  unfold maxLen at hlen
  clear hr hfit
  go_enter Try.func84,Try.ntmps84
  go_wp2_with fail
  go_loopw [8] (fun i wr => ∃ k : Nat,k ≤ ws.length ∧ i = .int .i64 k ∧ Below w.heap.size w wr ∧ badAt ws 0 = badAt (ws.drop k) k) (fun i _ => ws.length - (intOf i).toNat)
  case atStart => exact ⟨0,Nat.zero_le _,rfl,Below.refl _ _,by simp⟩
  case round =>
    obtain ⟨k,hk,rfl,hb,hs⟩:=hrel
    have hbs:=hb.size
    by_cases hlt : k < ws.length
    · obtain ⟨t,ht⟩ : ∃ t,ws[k]? = some t := ⟨_,List.getElem?_eq_getElem hlt⟩
      have hk' : ∀ p : Addr,p.block < B → wr.cell? p = w.cell? p:=fun p hp => hb.cell (by omega)
      obtain ⟨ad,rfl,_,d0,d1,d2,d3⟩:=word_cells (HR.out.keep (fun _ h => h) hk') k t ht
      have HW:=zh (tree_within1G t (HFIT.out t (List.mem_of_getElem? ht)))
      rw [badAt_step ws k t ht] at hs
      have HB:=zh hb
      have lk : (k : Int) < ws.length:=by omega
      have lk0 : (0 : Int) ≤ k:=by omega
      have w1f : IntKind.i64.wrap ((k : Int) + 1) = (k : Int) + 1:=by rw [IntKind.wrap_i64];omega
      cases hok : wordOk t
      · rw [hok,if_neg (by simp)] at hs
        rw [hok] at HW
        have HS:=zh hs
        clear hk' hok hb hs
        go_wp2_with fail
        refine (HW.out _).mono ?_
        rintro e w2 ⟨rfl,hb2⟩
        have HB2:=zh (HB.out.trans (hb2.mono hbs))
        clear hb2
        go_wp2_with fail
        go_ret
        exact ⟨by rw [HS.out];rfl,HB2.out⟩
      · rw [hok,if_pos rfl] at hs
        rw [hok] at HW
        have HS:=zh hs
        clear hk' hok hb hs
        go_wp2_with fail
        refine (HW.out _).mono ?_
        rintro e w2 ⟨rfl,hb2⟩
        have HB2:=zh (HB.out.trans (hb2.mono hbs))
        clear hb2
        go_wp2_with fail
        exact ⟨⟨k + 1,by omega,by go_num,HB2.out,HS.out⟩,by simp [intOf];omega⟩
    · have lk : ¬ (k : Int) < ws.length := by omega
      have hs2 : badAt ws 0 = -1:=by rw [hs,List.drop_eq_nil_of_le (by omega)];rfl
      have HS2:=zh hs2
      clear hs hs2
      go_wp2_with fail
      go_ret
      exact ⟨by rw [HS2.out];rfl,hb⟩
theorem words_containsG (ws : List WordL) (hfit : ∀ t ∈ ws,t.s.length ≤ maxLen) (hlen : ws.length ≤ maxLen) (A : Option Addr) (c : Nat) (w : World) (B : Nat) (hB : B ≤ w.heap.size) (hr : ReadsM w (· < B) 4 A ws.length (ws.flatMap WordL.cells)) :
    Calls Try.prog 70 #[.slice A ws.length c, .func (.func 71) #[] #[]] w fun e w' => e = .returned (.bool (!ws.all wordOk)) ∧ Below w.heap.size w w':=by
  have H:=zh (words_indexG ws hfit hlen A c w B hB hr)
  have hbd:=badAt_all ws 0
  generalize badAt ws 0 = x at *
  generalize ws.all wordOk = y at *
  have HR:=zh hbd
  clear hr hfit hbd
  go_enter Try.func70,Try.ntmps70
  go_wp2_with fail
  refine H.out.mono ?_
  rintro e w1 ⟨rfl,hb1⟩
  go_wp2
  go_ret
  exact ⟨by first | exact ret_bool (by have:=HR.out;cases y <;> simp_all) | rfl,hb1⟩
theorem checkN_eq (d : Nat) (n : NodeL) : checkN d n = if (!n.words.all wordOk || !nameL n.name || decide (8 < n.words.length) || (!n.block && decide (0 < n.kids.length))) = true then 1 else if n.block = true ∧ d = 6 then 7 else checkL (d + 1) n.kids := by
  obtain ⟨a,b,c,e,f⟩:=n
  simp only [checkN,NodeL.words,NodeL.kids,NodeL.name,NodeL.block]
  congr 1
theorem checkL_step : ∀ (l : List NodeL) (k d : Nat) (n : NodeL),l[k]? = some n → checkL d (l.drop k) = if checkN d n ≠ 0 then checkN d n else checkL d (l.drop (k + 1))
  | [],k,d,n,h => by simp at h
  | x :: r,0,d,n,h => by
    simp only [List.getElem?_cons_zero,Option.some.injEq] at h
    subst h
    simp only [List.drop_zero,checkL,Nat.zero_add,List.drop_succ_cons]
  | x :: r,k + 1,d,n,h => by simpa using checkL_step r k d n (by simpa using h)
theorem checkL_nil (d : Nat) : checkL d [] = 0:=by simp only [checkL]
set_option maxRecDepth 100000 in
set_option maxHeartbeats 4000000 in
theorem tree_withinG : ∀ (N : Nat) (l : List NodeL) (A : Option Addr) (c : Nat) (w : World) (B d : Nat),cntL l < N → cntL l ≤ 100000 → B ≤ w.heap.size → ROk w B A l → d + N ≤ 200000 → fitNs l →
    Calls Try.prog 47 #[.slice A l.length c, .int .i64 d] w fun e w' => e = .returned (.int .i64 (checkL d l)) ∧ Below w.heap.size w w':=by
  intro N
  induction N with
  | zero => intro l A c w B d h;omega
  | succ N ih =>
    intro l A c w B d hN hsm hB hok hd100 hfit
    have hlen:=cntL_len l
    have HOK:=zh hok
    have HIH:=zh ih
    have HFIT:=zh hfit
    clear ih hok hfit
    go_enter Try.func47,Try.ntmps47
    go_wp2_with fail
    go_loopw [11] (fun i wr => ∃ k : Nat,k ≤ l.length ∧ i = .int .i64 k ∧ Below w.heap.size w wr ∧ checkL d l = checkL d (l.drop k)) (fun i _ => l.length - (intOf i).toNat)
    case atStart => exact ⟨0,Nat.zero_le _,rfl,Below.refl _ _,by simp⟩
    case round =>
      obtain ⟨k,hk,rfl,hb,hs⟩:=hrel
      have hbs:=hb.size
      by_cases hlt : k < l.length
      · obtain ⟨n,hn⟩ : ∃ n,l[k]? = some n := ⟨_,List.getElem?_eq_getElem hlt⟩
        obtain ⟨ad,Aw,cw,Ak,ck,hA,hadB,c0,c1,c2,c3,c4,hw,hkk⟩:=(HOK.out.below (hb.mono hB)).at k n hn
        subst hA
        obtain ⟨f1,f2,f3,f4,f5⟩:=fit_parts n (fit_at l k n HFIT.out hn)
        have hc1:=cntL_take_mem l k n hn
        have hc2:=cntN_eq n
        have hst:=checkL_step l k d n hn
        rw [checkN_eq] at hst
        have HNM:=zh (name_atG n.name f1)
        have HBLK:=zh (heap_alloc_new wr (.cells #[.string ⟨n.name.toArray⟩, .int .i64 n.pos, .slice Aw n.words.length cw, .bool n.block, .slice Ak n.kids.length ck] 25))
        have hW:=(Below.refl wr.heap.size wr).alloc (Nat.le_refl _) (.cells #[.string ⟨n.name.toArray⟩, .int .i64 n.pos, .slice Aw n.words.length cw, .bool n.block, .slice Ak n.kids.length ck] 25)
        have HW:=zh hW
        have HWC:=zh (words_containsG n.words f3 f2 Aw cw _ B (by simp;omega) (hw.keep (w':=wr.alloc (.cells #[.string ⟨n.name.toArray⟩, .int .i64 n.pos, .slice Aw n.words.length cw, .bool n.block, .slice Ak n.kids.length ck] 25)) (fun _ h => h) (fun p hp => hW.cell (by omega))))
        have HKK:=zh hkk
        have HB:=zh hb
        have HF5:=zh f5
        have lk : (k : Int) < l.length:=by omega
        have lk0 : (0 : Int) ≤ k:=by omega
        have w1f : IntKind.i64.wrap ((k : Int) + 1) = (k : Int) + 1:=by rw [IntKind.wrap_i64];omega
        have w2f : IntKind.i64.wrap ((d : Int) + 1) = (d : Int) + 1:=by rw [IntKind.wrap_i64];omega
        have HS:=zh hs
        have HST:=zh hst
        clear hW hw hkk hb f1 f2 f3 f4 f5 hs hst
        go_wp2_with fail
        refine HWC.out.mono ?_
        rintro e w2 ⟨rfl,hb2⟩
        have hlt2 : wr.heap.size < w2.heap.size:=by have:=hb2.size;simp at this;omega
        have hblk2 : w2.heap[wr.heap.size]? = _:=(hb2.block _ (by simp)).trans HBLK.out
        have e0:=zb hblk2 0
        have e2:=zb hblk2 2
        have e3:=zb hblk2 3
        have e4:=zb hblk2 4
        have hb3 : Below w.heap.size w w2:=HB.out.trans ((HW.out.trans (hb2.mono (by simp))).mono hbs)
        have hb32 : Below B wr w2:=(HW.out.trans (hb2.mono (by simp))).mono (by omega)
        have HB3:=zh hb3
        have HKK3:=zh (HKK.out.below hb32)
        clear hb2 hb3 hb32 hblk2 HWC HBLK HW HKK
        cases hall : n.words.all wordOk
        · have HR := zh (show checkL d l = 1 by rw [HS.out,HST.out,hall]; simp)
          clear HST HS
          go_wp2_with fail
          go_ret
          exact ⟨by rw [HR.out];rfl,HB3.out⟩
        cases hnm : nameL n.name
        · have HR := zh (show checkL d l = 1 by rw [HS.out,HST.out,hnm]; simp)
          rw [hnm] at HNM
          clear HST HS
          go_wp2_with fail
          refine (HNM.out _).mono ?_
          rintro e w3 ⟨rfl,rfl⟩
          go_wp2_with fail
          go_ret
          exact ⟨by rw [HR.out];rfl,HB3.out⟩
        rw [hnm] at HNM
        by_cases hw8 : 8 < n.words.length
        · have HR := zh (show checkL d l = 1 by rw [HS.out,HST.out]; simp [hw8])
          have hw8' : (8 : Int) < n.words.length:=by omega
          clear HST HS hw8
          go_wp2_with fail
          refine (HNM.out _).mono ?_
          rintro e w3 ⟨rfl,rfl⟩
          go_wp2_with fail
          go_ret
          exact ⟨by rw [HR.out];rfl,HB3.out⟩
        have hw8' : ¬ (8 : Int) < n.words.length:=by omega
        have hB4 : B ≤ w2.heap.size:=by omega
        cases hbl : n.block
        · rw [hbl] at e3
          by_cases hk0 : 0 < n.kids.length
          · have HR := zh (show checkL d l = 1 by rw [HS.out,HST.out,hbl]; simp [hk0])
            have hk0' : (0 : Int) < n.kids.length:=by omega
            clear HST HS hw8
            go_wp2_with fail
            refine (HNM.out _).mono ?_
            rintro e w3 ⟨rfl,rfl⟩
            go_wp2_with fail
            go_ret
            exact ⟨by rw [HR.out];rfl,HB3.out⟩
          · have hkn : n.kids = [] := List.eq_nil_of_length_eq_zero (by omega)
            have HR:=zh (show checkL d l = checkL d (l.drop (k + 1)) by rw [HS.out,HST.out,hall,hnm,hbl,hkn];simp [hw8,checkL_nil])
            have HI:=zh (HIH.out [] Ak ck w2 B (d + 1) (by simp only [cntL];omega) (by simp only [cntL];omega) hB4 (by have:=HKK3.out;rw [hkn] at this;exact this) (by omega) (by simp only [fitNs]))
            rw [checkL_nil] at HI
            have HI2:=zh (show Calls Try.prog 47 #[.slice Ak 0 ck, .int .i64 ((d : Int) + 1)] w2 fun e w' => e = .returned (.int .i64 0) ∧ Below w2.heap.size w2 w' from HI.out)
            rw [hkn] at e4
            simp only [List.length_nil] at e4
            clear HST HS hw8 HI
            go_wp2_with fail
            refine (HNM.out _).mono ?_
            rintro e w3 ⟨rfl,rfl⟩
            go_wp2_with fail
            refine HI2.out.mono ?_
            rintro e w5 ⟨rfl,hb5⟩
            have HB5:=zh (HB3.out.trans (hb5.mono HB3.out.size))
            clear hb5
            go_wp2_with fail
            exact ⟨⟨k + 1,by omega,by go_num,HB5.out,HR.out⟩,by simp [intOf];omega⟩
        · rw [hbl] at e3
          by_cases hd6 : d = 6
          · have HR := zh (show checkL d l = 7 by rw [HS.out,HST.out,hall,hnm,hbl]; simp [hw8,hd6])
            have hd6' : ((d : Int) == 6) = true:=by simp [hd6]
            clear HST HS hw8 hd6
            go_wp2_with fail
            refine (HNM.out _).mono ?_
            rintro e w3 ⟨rfl,rfl⟩
            go_wp2_with fail
            go_ret
            exact ⟨by rw [HR.out];rfl,HB3.out⟩
          · have hd6' : ((d : Int) == 6) = false := beq_false_of_ne (by omega)
            have HR:=zh (show checkL d l = if checkL (d + 1) n.kids ≠ 0 then checkL (d + 1) n.kids else checkL d (l.drop (k + 1)) by rw [HS.out,HST.out,hall,hnm,hbl];simp [hw8,hd6])
            have HI:=zh (HIH.out n.kids Ak ck w2 B (d + 1) (by omega) (by omega) hB4 HKK3.out (by omega) HF5.out)
            have HI2:=zh (show Calls Try.prog 47 #[.slice Ak n.kids.length ck, .int .i64 ((d : Int) + 1)] w2 fun e w' => e = .returned (.int .i64 (checkL (d + 1) n.kids)) ∧ Below w2.heap.size w2 w' from HI.out)
            clear HST HS hw8 HI hd6
            generalize checkL (d + 1) n.kids = y at *
            by_cases hy : y = 0
            · subst hy
              rw [if_neg (by simp)] at HR
              go_wp2_with fail
              refine (HNM.out _).mono ?_
              rintro e w3 ⟨rfl,rfl⟩
              go_wp2_with fail
              refine HI2.out.mono ?_
              rintro e w5 ⟨rfl,hb5⟩
              have HB5:=zh (HB3.out.trans (hb5.mono HB3.out.size))
              clear hb5
              go_wp2_with fail
              exact ⟨⟨k + 1,by omega,by go_num,HB5.out,HR.out⟩,by simp [intOf];omega⟩
            · rw [if_pos hy] at HR
              have hy' : (y != 0) = true:=by simpa using hy
              clear hy
              go_wp2_with fail
              refine (HNM.out _).mono ?_
              rintro e w3 ⟨rfl,rfl⟩
              go_wp2_with fail
              refine HI2.out.mono ?_
              rintro e w5 ⟨rfl,hb5⟩
              have HB5:=zh (HB3.out.trans (hb5.mono HB3.out.size))
              clear hb5
              go_wp2_with fail
              go_ret
              exact ⟨by rw [HR.out];rfl,HB5.out⟩
      · have lk : ¬ (k : Int) < l.length := by omega
        have hs2 : checkL d l = 0:=by rw [hs,List.drop_eq_nil_of_le (by omega),checkL_nil]
        have HS2:=zh hs2
        clear hs hs2
        go_wp2_with fail
        go_ret
        exact ⟨by rw [HS2.out];rfl,hb⟩
theorem tree_CheckG (l : List NodeL) (A : Option Addr) (c : Nat) (w : World) (B : Nat) (hsm : cntL l ≤ 100000) (hB : B ≤ w.heap.size) (hok : ROk w B A l) (hfit : fitNs l) :
    Calls Try.prog 18 #[.slice A l.length c] w fun e w' => e = .returned (.int .i64 (checkL 0 l)) ∧ Below w.heap.size w w':=by
  have H:=zh (tree_withinG (cntL l + 1) l A c w B 0 (by omega) hsm hB hok (by omega) hfit)
  clear hok hfit
  go_enter Try.func18,Try.ntmps18
  go_wp2_with fail
  refine H.out.mono ?_
  rintro e w1 ⟨rfl,hb1⟩
  go_wp2
  go_ret
  exact ⟨rfl,hb1⟩
end
section
set_option maxRecDepth 100000
open Go.RowKit
open Go.Lib renaming hid → zh
set_option maxHeartbeats 16000000 in
theorem check_srv (kind day month shift shape p0 p1 p2 cycle extra first last policy : Int) (nm : Bytes) (w : World) (hs : ¬ (1602 ≤ first ∧ last ≤ 9996 ∧ first ≤ last ∧ last - first < 400)) :
    Calls Try.prog 14 #[.agg #[.string ⟨nm.toArray⟩, .int .i64 kind, .int .i64 day, .int .i64 month, .int .i64 shift, .int .i64 shape, .int .i64 p0, .int .i64 p1, .int .i64 p2, .int .i64 cycle, .int .i64 extra, .int .i64 first, .int .i64 last, .int .i64 policy]] w fun e w' => e = .returned (.int .i64 1) ∧ Below w.heap.size w w':=by
  have HB0:=zh (below_cal w (.cells #[.string ⟨nm.toArray⟩, .int .i64 kind, .int .i64 day, .int .i64 month, .int .i64 shift, .int .i64 shape, .int .i64 p0, .int .i64 p1, .int .i64 p2, .int .i64 cycle, .int .i64 extra, .int .i64 first, .int .i64 last, .int .i64 policy] 30))
  obtain ⟨p,hp⟩ : ∃ b,tween policy 1 4 = b:=⟨_,rfl⟩
  obtain ⟨q1,hq1⟩ : ∃ b,(policy == 4) = b:=⟨_,rfl⟩
  obtain ⟨q2,hq2⟩ : ∃ b,(kind == 6) = b:=⟨_,rfl⟩
  by_cases a1 : 1602 ≤ first
  · by_cases a2 : last ≤ 9996
    · by_cases a3 : first ≤ last
      · have a4 : ¬ last - first < 400 := fun h => hs ⟨a1,a2,a3,h⟩
        have wf : IntKind.i64.wrap (last - first) = last - first:=by rw [IntKind.wrap_i64];omega
        cases p <;> (
          go_enter Try.func14,Try.ntmps14
          go_wp2_with (first | (go_at_call 39;refine (field_between _ _ _ _).mono ?_;rintro e w9 ⟨rfl,rfl⟩) | (go_at_call 40;refine (HN.out _).mono ?_;rintro e w7 ⟨rfl,rfl⟩) | (go_at_call 41;refine (HRU.out _).mono ?_;rintro e w8 ⟨rfl,hb8⟩))
          go_ret
          exact ⟨rfl,HB0.out⟩)
      · cases p <;> (
          go_enter Try.func14,Try.ntmps14
          go_wp2_with (first | (go_at_call 39;refine (field_between _ _ _ _).mono ?_;rintro e w9 ⟨rfl,rfl⟩) | (go_at_call 40;refine (HN.out _).mono ?_;rintro e w7 ⟨rfl,rfl⟩) | (go_at_call 41;refine (HRU.out _).mono ?_;rintro e w8 ⟨rfl,hb8⟩))
          go_ret
          exact ⟨rfl,HB0.out⟩)
    · cases p <;> (
        go_enter Try.func14,Try.ntmps14
        go_wp2_with (first | (go_at_call 39;refine (field_between _ _ _ _).mono ?_;rintro e w9 ⟨rfl,rfl⟩) | (go_at_call 40;refine (HN.out _).mono ?_;rintro e w7 ⟨rfl,rfl⟩) | (go_at_call 41;refine (HRU.out _).mono ?_;rintro e w8 ⟨rfl,hb8⟩))
        go_ret
        exact ⟨rfl,HB0.out⟩)
  · cases p <;> (
      go_enter Try.func14,Try.ntmps14
      go_wp2_with (first | (go_at_call 39;refine (field_between _ _ _ _).mono ?_;rintro e w9 ⟨rfl,rfl⟩) | (go_at_call 40;refine (HN.out _).mono ?_;rintro e w7 ⟨rfl,rfl⟩) | (go_at_call 41;refine (HRU.out _).mono ?_;rintro e w8 ⟨rfl,hb8⟩))
      go_ret
      exact ⟨rfl,HB0.out⟩)
set_option maxHeartbeats 16000000 in
theorem check_pol (kind day month shift shape p0 p1 p2 cycle extra first last policy : Int) (nm : Bytes) (w : World) (a1 : 1602 ≤ first) (a2 : last ≤ 9996) (a3 : first ≤ last) (a4 : last - first < 400) (hp : (tween policy 1 4 && ((policy == 4) == (kind == 6))) = false) :
    Calls Try.prog 14 #[.agg #[.string ⟨nm.toArray⟩, .int .i64 kind, .int .i64 day, .int .i64 month, .int .i64 shift, .int .i64 shape, .int .i64 p0, .int .i64 p1, .int .i64 p2, .int .i64 cycle, .int .i64 extra, .int .i64 first, .int .i64 last, .int .i64 policy]] w fun e w' => e = .returned (.int .i64 1) ∧ Below w.heap.size w w':=by
  have HB0:=zh (below_cal w (.cells #[.string ⟨nm.toArray⟩, .int .i64 kind, .int .i64 day, .int .i64 month, .int .i64 shift, .int .i64 shape, .int .i64 p0, .int .i64 p1, .int .i64 p2, .int .i64 cycle, .int .i64 extra, .int .i64 first, .int .i64 last, .int .i64 policy] 30))
  have wf : IntKind.i64.wrap (last - first) = last - first:=by rw [IntKind.wrap_i64];omega
  obtain ⟨p,hp'⟩ : ∃ b,tween policy 1 4 = b:=⟨_,rfl⟩
  obtain ⟨q1,hq1⟩ : ∃ b,(policy == 4) = b:=⟨_,rfl⟩
  obtain ⟨q2,hq2⟩ : ∃ b,(kind == 6) = b:=⟨_,rfl⟩
  rw [hp',hq1,hq2] at hp
  cases p
  · clear hp
    go_enter Try.func14,Try.ntmps14
    go_wp2_with (first | (go_at_call 39;refine (field_between _ _ _ _).mono ?_;rintro e w9 ⟨rfl,rfl⟩) | (go_at_call 40;refine (HN.out _).mono ?_;rintro e w7 ⟨rfl,rfl⟩) | (go_at_call 41;refine (HRU.out _).mono ?_;rintro e w8 ⟨rfl,hb8⟩))
    go_ret
    exact ⟨rfl,HB0.out⟩
  · cases q1 <;> cases q2 <;> first | exact absurd hp (by decide) | (
      clear hp
      go_enter Try.func14,Try.ntmps14
      go_wp2_with (first | (go_at_call 39;refine (field_between _ _ _ _).mono ?_;rintro e w9 ⟨rfl,rfl⟩) | (go_at_call 40;refine (HN.out _).mono ?_;rintro e w7 ⟨rfl,rfl⟩) | (go_at_call 41;refine (HRU.out _).mono ?_;rintro e w8 ⟨rfl,hb8⟩))
      go_ret
      exact ⟨rfl,HB0.out⟩)
set_option maxHeartbeats 16000000 in
theorem check_end (kind day month shift shape p0 p1 p2 cycle extra first last policy : Int) (nm : Bytes) (w : World) (a1 : 1602 ≤ first) (a2 : last ≤ 9996) (a3 : first ≤ last) (a4 : last - first < 400) (hp : (tween policy 1 4 && ((policy == 4) == (kind == 6))) = true) (hl : nm.length ≤ maxLen) :
    Calls Try.prog 14 #[.agg #[.string ⟨nm.toArray⟩, .int .i64 kind, .int .i64 day, .int .i64 month, .int .i64 shift, .int .i64 shape, .int .i64 p0, .int .i64 p1, .int .i64 p2, .int .i64 cycle, .int .i64 extra, .int .i64 first, .int .i64 last, .int .i64 policy]] w fun e w' => e = .returned (.int .i64 (if nameL nm && ruledC ⟨nm,kind,day,month,shift,shape,p0,p1,p2,cycle,extra,first,last,policy⟩ then 0 else 1)) ∧ Below w.heap.size w w':=by
  have HB0:=zh (below_cal w (.cells #[.string ⟨nm.toArray⟩, .int .i64 kind, .int .i64 day, .int .i64 month, .int .i64 shift, .int .i64 shape, .int .i64 p0, .int .i64 p1, .int .i64 p2, .int .i64 cycle, .int .i64 extra, .int .i64 first, .int .i64 last, .int .i64 policy] 30))
  have wf : IntKind.i64.wrap (last - first) = last - first:=by rw [IntKind.wrap_i64];omega
  have HN:=zh (name_atG nm hl)
  have HRU:=zh (fun W => field_ruled ⟨nm,kind,day,month,shift,shape,p0,p1,p2,cycle,extra,first,last,policy⟩ W)
  generalize ruledC ⟨nm,kind,day,month,shift,shape,p0,p1,p2,cycle,extra,first,last,policy⟩ = ru at *
  generalize nameL nm = nb at *
  dsimp only [calV] at HRU
  clear hl
  obtain ⟨p,hp'⟩ : ∃ b,tween policy 1 4 = b:=⟨_,rfl⟩
  obtain ⟨q1,hq1⟩ : ∃ b,(policy == 4) = b:=⟨_,rfl⟩
  obtain ⟨q2,hq2⟩ : ∃ b,(kind == 6) = b:=⟨_,rfl⟩
  rw [hp',hq1,hq2] at hp
  cases p
  · exact absurd hp (by simp)
  · cases q1 <;> cases q2 <;> first | exact absurd hp (by decide) | (
      clear hp
      cases nb
      · skip
        go_enter Try.func14,Try.ntmps14
        go_wp2_with (first | (go_at_call 39;refine (field_between _ _ _ _).mono ?_;rintro e w9 ⟨rfl,rfl⟩) | (go_at_call 40;refine (HN.out _).mono ?_;rintro e w7 ⟨rfl,rfl⟩) | (go_at_call 41;refine (HRU.out _).mono ?_;rintro e w8 ⟨rfl,hb8⟩))
        go_ret
        exact ⟨rfl,HB0.out⟩
      · cases ru <;> (
          go_enter Try.func14,Try.ntmps14
          go_wp2_with (first | (go_at_call 39;refine (field_between _ _ _ _).mono ?_;rintro e w9 ⟨rfl,rfl⟩) | (go_at_call 40;refine (HN.out _).mono ?_;rintro e w7 ⟨rfl,rfl⟩) | (go_at_call 41;refine (HRU.out _).mono ?_;rintro e w8 ⟨rfl,hb8⟩))
          go_ret
          exact ⟨rfl,HB0.out.trans (hb8.mono HB0.out.size)⟩))
theorem field_Check (c : CalL) (hl : c.name.length ≤ maxLen) (w : World) : Calls Try.prog 14 #[calV c] w fun e w' => e = .returned (.int .i64 (errC c)) ∧ Below w.heap.size w w' := by
  obtain ⟨nm,kind,day,month,shift,shape,p0,p1,p2,cycle,extra,first,last,policy⟩:=c
  have he : ∀ b : Bool,okC ⟨nm,kind,day,month,shift,shape,p0,p1,p2,cycle,extra,first,last,policy⟩ = b → errC ⟨nm,kind,day,month,shift,shape,p0,p1,p2,cycle,extra,first,last,policy⟩ = if b then 0 else 1:=fun b h => by unfold errC;rw [h]
  by_cases hs : 1602 ≤ first ∧ last ≤ 9996 ∧ first ≤ last ∧ last - first < 400
  · obtain ⟨a1,a2,a3,a4⟩ := hs
    have hsv : servedC ⟨nm,kind,day,month,shift,shape,p0,p1,p2,cycle,extra,first,last,policy⟩ = true:=by simp [servedC,a1,a2,a3,a4]
    have hpc : policyC ⟨nm,kind,day,month,shift,shape,p0,p1,p2,cycle,extra,first,last,policy⟩ = (tween policy 1 4 && ((policy == 4) == (kind == 6))):=rfl
    cases hp : (tween policy 1 4 && ((policy == 4) == (kind == 6)))
    · rw [he false (by unfold okC; rw [hsv,hpc,hp]; rfl)]
      exact check_pol kind day month shift shape p0 p1 p2 cycle extra first last policy nm w a1 a2 a3 a4 hp
    · rw [he (nameL nm && ruledC ⟨nm,kind,day,month,shift,shape,p0,p1,p2,cycle,extra,first,last,policy⟩) (by unfold okC; rw [hsv,hpc,hp]; rfl)]
      exact check_end kind day month shift shape p0 p1 p2 cycle extra first last policy nm w a1 a2 a3 a4 hp hl
  · rw [he false (by
      have : servedC ⟨nm,kind,day,month,shift,shape,p0,p1,p2,cycle,extra,first,last,policy⟩ = false := by
        cases h : servedC ⟨nm,kind,day,month,shift,shape,p0,p1,p2,cycle,extra,first,last,policy⟩
        · rfl
        · exact absurd (by simp [servedC] at h;omega) hs
      unfold okC;rw [this];rfl)]
    exact check_srv kind day month shift shape p0 p1 p2 cycle extra first last policy nm w hs
end
end Go.Proofs.Ytpkhocbohhpmbaa
