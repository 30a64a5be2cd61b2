/- Layer 8, the reference: the walks of letter, digit, inner, kind, Name, Same. Then: Layer 9 (tree): the reference's Check, over any items. Then: Layer 11 (field), the reference: the walk of Check, up to the kinds. -/
import Derived.Test.YtpkhocbohhpmbaaPkR3
import Derived.BigQuiet
import Derived.Deep.QuietTactic
import Derived.Test.YtpkhocbohhpmbaaPkR18
import Derived.Test.YtpkhocbohhpmbaaPkR29
namespace Go.Proofs.Ytpkhocbohhpmbaa
section
open Go.RowKit
open Go.Lib renaming hid → zh
set_option maxHeartbeats 400000 in
theorem ref8_letter (c : UInt8) (w : World) :
    Calls Try.prog 65 #[.int .u8 c.toNat] w fun e w' => e = .returned (.bool (isLetter c)) ∧ w = w':=by
  go_enter Try.func65,Try.ntmps65
  go_wp2
  all_goals (go_ret;exact ⟨ret_bool (by rw [Bool.eq_iff_iff,isLetter_iff];simp;omega),rfl⟩)
set_option maxHeartbeats 400000 in
theorem ref8_digit (c : UInt8) (w : World) :
    Calls Try.prog 79 #[.int .u8 c.toNat] w fun e w' => e = .returned (.bool (isDigit c)) ∧ w = w':=by
  go_enter Try.func79,Try.ntmps79
  go_wp2
  all_goals (go_ret;exact ⟨ret_bool (by rw [Bool.eq_iff_iff,isDigit_iff];simp;omega),rfl⟩)
set_option maxHeartbeats 400000 in
theorem ref8_inner (c : UInt8) (w : World) :
    Calls Try.prog 66 #[.int .u8 c.toNat] w fun e w' => e = .returned (.bool (isInner c)) ∧ w = w':=by
  go_enter Try.func66,Try.ntmps66
  go_wp2_with (first | (go_at_call 65;refine (ref8_letter _ _).mono ?_;rintro e w' ⟨rfl,rfl⟩) | (go_at_call 79;refine (ref8_digit _ _).mono ?_;rintro e w' ⟨rfl,rfl⟩))
  all_goals (go_ret;exact ⟨ret_bool (by simp [isInner_eq, *]),rfl⟩)
set_option maxRecDepth 100000 in
set_option maxHeartbeats 1000000 in
theorem ref8_Name (s : ByteArray) (w : World) (hs : s.size ≤ maxLen) :
    Calls Try.prog 42 #[.string s] w fun e w' => e = .returned (.bool (nameL s.data.toList)) ∧ w = w':=by
  have hs':=hs
  unfold maxLen at hs'
  have hn:=nameL_eq s
  have HN:=zh hn
  clear hn
  by_cases hA : 0 < s.size ∧ s.size ≤ 16
  · obtain ⟨h0,h16⟩ := hA
    cases hl : isLetter s[0]
    · go_enter Try.func42,Try.ntmps42
      go_wp2_with (first | (go_at_call 65;refine (ref8_letter _ _).mono ?_;rintro e w' ⟨rfl,rfl⟩))
      go_ret
      exact ⟨ret_bool (by rw [HN.out,dif_pos h0,hl];simp),rfl⟩
    · go_enter Try.func42,Try.ntmps42
      go_wp2_with (first | (go_at_call 65;refine (ref8_letter _ _).mono ?_;rintro e w' ⟨rfl,rfl⟩))
      go_loop [20] (fun i => ∃ k : Nat,k ≤ s.size ∧ i = .int .i64 k ∧ k ≤ runL isInner s.data.toList) (fun i => s.size - (intOf i).toNat)
      case atStart => exact ⟨0,Nat.zero_le _,rfl,Nat.zero_le _⟩
      case round =>
        obtain ⟨k,hk,rfl,hkr⟩:=hrel
        by_cases hlt : k < s.size
        · have hst := runL_ba isInner s k hlt hkr
          cases hi : isInner s[k]
          · have hr := hst.2 hi
            have HR:=zh hr
            clear hst hr hkr
            go_wp2_with (first | (go_at_call 66;refine (ref8_inner _ _).mono ?_;rintro e w' ⟨rfl,rfl⟩))
            go_ret
            exact ⟨ret_bool (by rw [HN.out,dif_pos h0,HR.out];simp;omega),rfl⟩
          · have hr := hst.1 hi
            clear hst
            go_wp2_with (first | (go_at_call 66;refine (ref8_inner _ _).mono ?_;rintro e w' ⟨rfl,rfl⟩))
            go_round
            case rel => exact ⟨k + 1,by omega,by go_num,hr⟩
            case measure => simp [intOf];omega
        · have hle := runL_le isInner s.data.toList
          rw [ba_len] at hle
          go_wp2_with fail
          go_ret
          exact ⟨ret_bool (by rw [HN.out,dif_pos h0,hl];simp;omega),rfl⟩
  · have hA' : s.size < 1 ∨ 16 < s.size := by omega
    have hf : nameL s.data.toList = false := by
      rw [HN.out]
      by_cases h : 0 < s.size
      · rw [dif_pos h];simp;omega
      · rw [dif_neg h]
    have HF:=zh hf
    clear hf
    rcases hA' with h | h
    · go_enter Try.func42,Try.ntmps42
      go_wp2
      go_ret
      exact ⟨ret_bool HF.out.symm,rfl⟩
    · go_enter Try.func42,Try.ntmps42
      go_wp2
      go_ret
      exact ⟨ret_bool HF.out.symm,rfl⟩
end
section
set_option linter.unusedVariables false
set_option linter.unusedSimpArgs false
open Go.RowKit
open Go.Joins renaming cell_of_block → zb, unfrozen_of_block → zu
open Go.Lib renaming hid → zh
theorem rname_atG (s : Bytes) (h : s.length ≤ maxLen) (W : World) : Calls Try.prog 42 #[.string ⟨s.toArray⟩] W fun e w' => e = .returned (.bool (nameL s)) ∧ W = w' :=
  ref8_Name ⟨s.toArray⟩ W (by show s.toArray.size ≤ _;rw [List.size_toArray];exact h)
def wordE (t : WordL) : Int:=if wordOk t then 0 else 1
theorem ref9_word (t : WordL) (ht : t.s.length ≤ maxLen) (w : World) :
    Calls Try.prog 77 #[.agg #[.bool t.num, .int .i64 t.n, .string ⟨t.s.toArray⟩, .int .i64 t.pos]] w fun e w' => e = .returned (.int .i64 (wordE t)) ∧ Below w.heap.size w w':=by
  obtain ⟨num,n,s,pos⟩:=t
  dsimp only at ht ⊢
  have hbW : Below w.heap.size w (w.alloc (.cells #[.bool num, .int .i64 n, .string ⟨s.toArray⟩, .int .i64 pos] 47)):=(Below.refl _ _).alloc (Nat.le_refl _) _
  have HB:=zh hbW
  have HN:=zh (rname_atG s ht)
  clear hbW ht
  cases num
  · have hr : wordOk ⟨false,n,s,pos⟩ = (decide (n = 0) && nameL s) := rfl
    by_cases hn : n = 0
    · subst hn
      rw [decide_eq_true rfl,Bool.true_and] at hr
      cases hnm : nameL s
      · have he : wordE ⟨false,0,s,pos⟩ = 1 := by unfold wordE; rw [hr,hnm]; rfl
        rw [he]
        rw [hnm] at HN
        clear he hnm hr
        go_enter Try.func77,Try.ntmps77
        go_wp2_with fail
        refine (HN.out _).mono ?_
        rintro e w1 ⟨rfl,rfl⟩
        go_wp2_with fail
        go_ret
        exact ⟨rfl,HB.out⟩
      · have he : wordE ⟨false,0,s,pos⟩ = 0 := by unfold wordE; rw [hr,hnm]; rfl
        rw [he]
        rw [hnm] at HN
        clear he hnm hr
        go_enter Try.func77,Try.ntmps77
        go_wp2_with fail
        refine (HN.out _).mono ?_
        rintro e w1 ⟨rfl,rfl⟩
        go_wp2_with fail
        go_ret
        exact ⟨rfl,HB.out⟩
    · rw [decide_eq_false hn,Bool.false_and] at hr
      have he : wordE ⟨false,n,s,pos⟩ = 1:=by unfold wordE;rw [hr];rfl
      rw [he]
      have hn' : (n == 0) = false:=by simpa using hn
      clear hn HN he hr
      go_enter Try.func77,Try.ntmps77
      go_wp2_with fail
      go_ret
      exact ⟨rfl,HB.out⟩
  · have hr : wordOk ⟨true,n,s,pos⟩ = (decide (s = []) && decide (0 ≤ n) && decide (n ≤ 999999999)) := rfl
    clear HN
    by_cases hs : s = []
    · subst hs
      by_cases h0 : 0 ≤ n
      · by_cases h9 : n ≤ 999999999
        · have he : wordE ⟨true,n,[],pos⟩ = 0 := by unfold wordE; rw [hr]; simp [h0,h9]
          rw [he]
          clear he hr
          go_enter Try.func77,Try.ntmps77
          go_wp2_with fail
          go_ret
          exact ⟨rfl,HB.out⟩
        · have he : wordE ⟨true,n,[],pos⟩ = 1 := by unfold wordE; rw [hr]; simp [h0,h9]
          rw [he]
          clear he hr
          go_enter Try.func77,Try.ntmps77
          go_wp2_with fail
          go_ret
          exact ⟨rfl,HB.out⟩
      · have he : wordE ⟨true,n,[],pos⟩ = 1 := by unfold wordE; rw [hr]; simp [h0]
        rw [he]
        clear he hr
        go_enter Try.func77,Try.ntmps77
        go_wp2_with fail
        go_ret
        exact ⟨rfl,HB.out⟩
    · have he : wordE ⟨true,n,s,pos⟩ = 1 := by unfold wordE; rw [hr]; simp [hs]
      rw [he]
      have hs' : (s == []) = false:=by simpa using hs
      clear he hr hs
      go_enter Try.func77,Try.ntmps77
      go_wp2_with fail
      go_ret
      exact ⟨rfl,HB.out⟩
theorem all_drop (ws : List WordL) (k : Nat) (t : WordL) (h : ws[k]? = some t) : (ws.drop k).all wordOk = (wordOk t && (ws.drop (k + 1)).all wordOk) := by
  obtain ⟨hk,rfl⟩:=List.getElem?_eq_some_iff.1 h
  rw [List.drop_eq_getElem_cons hk,List.all_cons]
set_option maxRecDepth 100000 in
set_option maxHeartbeats 4000000 in
theorem ref9_check : ∀ (N : Nat) (l : List NodeL) (A : Option Addr) (c : Nat) (w : World) (B d : Nat),cntL l < N → cntL l ≤ 100000 → B ≤ w.heap.size → ROk w B A l → d + N ≤ 200000 → fitNs l →
    Calls Try.prog 58 #[.slice A l.length c, .int .i64 d] w fun e w' => e = .returned (.int .i64 (checkL d l)) ∧ Below w.heap.size w w':=by
  intro N
  induction N with
  | zero => intro l A c w B d h;omega
  | succ N ih =>
    intro l A c w B d hN hsm hB hok hd100 hfit
    have hlen:=cntL_len l
    have HOK:=zh hok
    have HIH:=zh ih
    have HFIT:=zh hfit
    clear ih hok hfit
    go_enter Try.func58,Try.ntmps58
    go_wp2_with fail
    go_loopw [13] (fun i wr => ∃ k : Nat,k ≤ l.length ∧ i = .int .i64 k ∧ Below w.heap.size w wr ∧ checkL d l = checkL d (l.drop k)) (fun i _ => l.length - (intOf i).toNat)
    case atStart => exact ⟨0,Nat.zero_le _,rfl,Below.refl _ _,by simp⟩
    case round =>
      obtain ⟨k,hk,rfl,hb,hs⟩:=hrel
      have hbs:=hb.size
      by_cases hlt : k < l.length
      · obtain ⟨n,hn⟩ : ∃ n,l[k]? = some n := ⟨_,List.getElem?_eq_getElem hlt⟩
        obtain ⟨ad,Aw,cw,Ak,ck,hA,hadB,c0,c1,c2,c3,c4,hw,hkk⟩:=(HOK.out.below (hb.mono hB)).at k n hn
        subst hA
        obtain ⟨f1,f2,f3,f4,f5⟩:=fit_parts n (fit_at l k n HFIT.out hn)
        have hc1:=cntL_take_mem l k n hn
        have hc2:=cntN_eq n
        have hst:=checkL_step l k d n hn
        rw [checkN_eq] at hst
        have HNM:=zh (rname_atG n.name f1)
        obtain ⟨wa,hwa⟩ : ∃ wa,wa = wr.alloc (.cells #[.string ⟨n.name.toArray⟩, .int .i64 n.pos, .slice Aw n.words.length cw, .bool n.block, .slice Ak n.kids.length ck] 25):=⟨_,rfl⟩
        have hblk:=heap_alloc_new wr (.cells #[.string ⟨n.name.toArray⟩, .int .i64 n.pos, .slice Aw n.words.length cw, .bool n.block, .slice Ak n.kids.length ck] 25)
        have hW:=(Below.refl wr.heap.size wr).alloc (Nat.le_refl _) (.cells #[.string ⟨n.name.toArray⟩, .int .i64 n.pos, .slice Aw n.words.length cw, .bool n.block, .slice Ak n.kids.length ck] 25)
        have hsz : (wr.alloc (.cells #[.string ⟨n.name.toArray⟩, .int .i64 n.pos, .slice Aw n.words.length cw, .bool n.block, .slice Ak n.kids.length ck] 25)).heap.size = wr.heap.size + 1:=by simp
        have HWA:=zh hwa
        rw [← hwa] at hblk hW hsz
        have HW:=zh hW
        have HRD:=zh (hw.keep (w':=wa) (fun _ h => h) (fun p hp => hW.cell (by omega)))
        have HKK:=zh (hkk.below (hW.mono (by omega)))
        have HB:=zh (hb.trans (hW.mono hbs))
        have HF5:=zh f5
        have HF3:=zh f3
        have HBLK:=zh hblk
        have lk : (k : Int) < l.length:=by omega
        have lk0 : (0 : Int) ≤ k:=by omega
        have w1f : IntKind.i64.wrap ((k : Int) + 1) = (k : Int) + 1:=by rw [IntKind.wrap_i64];omega
        have w2f : IntKind.i64.wrap ((d : Int) + 1) = (d : Int) + 1:=by rw [IntKind.wrap_i64];omega
        have HS:=zh hs
        have HST:=zh hst
        cases hnm : nameL n.name
        · have HR := zh (show checkL d l = 1 by rw [HS.out,HST.out,hnm]; simp)
          rw [hnm] at HNM
          have HB':=HB
          rw [hwa] at HB'
          clear HST HS hW hw hkk hb f1 f2 f3 f4 f5 hs hst hwa hblk hsz
          go_wp2_with fail
          refine (HNM.out _).mono ?_
          rintro e w3 ⟨rfl,rfl⟩
          go_wp2_with fail
          go_ret
          exact ⟨by rw [HR.out];rfl,HB'.out⟩
        rw [hnm] at HNM
        have HNM1:=zh hnm
        by_cases hw8 : 8 < n.words.length
        · have HR := zh (show checkL d l = 1 by rw [HS.out,HST.out]; simp [hw8])
          have hw8' : (8 : Int) < n.words.length:=by omega
          have HB':=HB
          rw [hwa] at HB'
          clear HST HS hW hw hkk hb f1 f2 f3 f4 f5 hs hst hwa hblk hsz hw8
          go_wp2_with fail
          refine (HNM.out _).mono ?_
          rintro e w3 ⟨rfl,rfl⟩
          go_wp2_with fail
          go_ret
          exact ⟨by rw [HR.out];rfl,HB'.out⟩
        have hw8' : ¬ (8 : Int) < n.words.length:=by omega
        clear hW hw hkk hb f1 f2 f3 f4 f5 hs hst hblk
        obtain ⟨wo,hwo⟩ : ∃ wo,wo = wr:=⟨_,rfl⟩
        subst hwo
        go_wp2_with fail
        refine (HNM.out _).mono ?_
        rintro e w3 ⟨rfl,rfl⟩
        go_wp2_with fail
        rw [← hwa]
        have hwz : w.heap.size ≤ wa.heap.size:=by omega
        clear HWA hwa c0 c1 c2 c3 c4 hnm
        go_loopw [30] (fun i wr => ∃ j : Nat,j ≤ n.words.length ∧ i = .int .i64 j ∧ Below wa.heap.size wa wr ∧ n.words.all wordOk = (n.words.drop j).all wordOk) (fun i _ => n.words.length - (intOf i).toNat)
        case atStart => exact ⟨0,Nat.zero_le _,rfl,Below.refl _ _,by simp⟩
        case round =>
          obtain ⟨j,hj,rfl,hb2,ha2⟩:=hrel
          have hbs2:=hb2.size
          by_cases hjt : j < n.words.length
          · obtain ⟨t,ht⟩ : ∃ t,n.words[j]? = some t := ⟨_,List.getElem?_eq_getElem hjt⟩
            have hk' : ∀ p : Addr,p.block < B → wr.cell? p = wa.cell? p:=fun p hp => hb2.cell (by omega)
            obtain ⟨bd,rfl,hbd,d0,d1,d2,d3⟩:=word_cells (HRD.out.keep (fun _ h => h) hk') j t ht
            have HWD:=zh (ref9_word t (HF3.out t (List.mem_of_getElem? ht)))
            rw [all_drop n.words j t ht] at ha2
            have HB2:=zh hb2
            have lj : (j : Int) < n.words.length:=by omega
            have lj0 : (0 : Int) ≤ j:=by omega
            have w3f : IntKind.i64.wrap ((j : Int) + 1) = (j : Int) + 1:=by rw [IntKind.wrap_i64];omega
            unfold wordE at HWD
            cases hwk : wordOk t
            · rw [hwk,Bool.false_and] at ha2
              rw [hwk,if_neg (by simp)] at HWD
              have HR:=zh (show checkL d l = 1 by rw [HS.out,HST.out,ha2];simp)
              clear hk' hb2 ha2 hwk HST HS
              go_wp2_with fail
              refine (HWD.out _).mono ?_
              rintro e w5 ⟨rfl,hb5⟩
              have hb6 : Below w.heap.size w w5:=HB.out.trans ((HB2.out.trans (((Below.refl wr.heap.size wr).alloc (Nat.le_refl _) _ |>.trans (hb5.mono (by simp))).mono hbs2)).mono hwz)
              have HB6:=zh hb6
              clear hb5 hb6
              go_wp2_with fail
              go_ret
              exact ⟨by rw [HR.out];rfl,HB6.out⟩
            · rw [hwk,Bool.true_and] at ha2
              rw [hwk,if_pos rfl] at HWD
              have HA2:=zh ha2
              clear hk' hb2 ha2 hwk
              go_wp2_with fail
              refine (HWD.out _).mono ?_
              rintro e w5 ⟨rfl,hb5⟩
              have hb6 : Below wa.heap.size wa w5:=HB2.out.trans (((Below.refl wr.heap.size wr).alloc (Nat.le_refl _) _ |>.trans (hb5.mono (by simp))).mono hbs2)
              have HB6:=zh hb6
              clear hb5 hb6
              go_wp2_with fail
              exact ⟨⟨j + 1,by omega,by go_num,HB6.out,HA2.out⟩,by simp [intOf];omega⟩
          · have hall : n.words.all wordOk = true := by rw [ha2,List.drop_eq_nil_of_le (by omega)]; rfl
            have lj : ¬ (j : Int) < n.words.length:=by omega
            have hblk2 : wr.heap[wo.heap.size]? = _:=(hb2.block _ (by omega)).trans HBLK.out
            have e3:=zb hblk2 3
            have e4:=zb hblk2 4
            have HB3:=zh (HB.out.trans (hb2.mono hwz))
            have HKK3:=zh (HKK.out.below (hb2.mono (by omega)))
            have hB4 : B ≤ wr.heap.size:=by omega
            clear hb2 ha2 hblk2
            cases hbl : n.block
            · rw [hbl] at e3
              by_cases hk0 : 0 < n.kids.length
              · have HR := zh (show checkL d l = 1 by rw [HS.out,HST.out,hbl]; simp [hk0])
                have hk0' : (0 : Int) < n.kids.length:=by omega
                clear HST HS hw8 hall
                go_wp2_with fail
                go_ret
                exact ⟨by rw [HR.out];rfl,HB3.out⟩
              · have hkn : n.kids = [] := List.eq_nil_of_length_eq_zero (by omega)
                have HR:=zh (show checkL d l = checkL d (l.drop (k + 1)) by rw [HS.out,HST.out,hall,HNM1.out,hbl,hkn];simp [hw8,checkL_nil])
                have HI:=zh (HIH.out [] Ak ck wr B (d + 1) (by simp only [cntL];omega) (by simp only [cntL];omega) hB4 (by have:=HKK3.out;rw [hkn] at this;exact this) (by omega) (by simp only [fitNs]))
                rw [checkL_nil] at HI
                have HI2:=zh (show Calls Try.prog 58 #[.slice Ak 0 ck, .int .i64 ((d : Int) + 1)] wr fun e w' => e = .returned (.int .i64 0) ∧ Below wr.heap.size wr w' from HI.out)
                rw [hkn] at e4
                simp only [List.length_nil] at e4
                clear HST HS hw8 HI hall
                go_wp2_with fail
                refine HI2.out.mono ?_
                rintro e w5 ⟨rfl,hb5⟩
                have HB5:=zh (HB3.out.trans (hb5.mono HB3.out.size))
                clear hb5
                go_wp2_with fail
                exact ⟨⟨k + 1,by omega,by go_num,HB5.out,HR.out⟩,by simp [intOf];omega⟩
            · rw [hbl] at e3
              by_cases hd6 : d = 6
              · have HR := zh (show checkL d l = 7 by rw [HS.out,HST.out,hall,HNM1.out,hbl]; simp [hw8,hd6])
                have hd6' : ((d : Int) == 6) = true:=by simp [hd6]
                clear HST HS hw8 hd6 hall
                go_wp2_with fail
                go_ret
                exact ⟨by rw [HR.out];rfl,HB3.out⟩
              · have hd6' : ((d : Int) == 6) = false := beq_false_of_ne (by omega)
                have HR:=zh (show checkL d l = if checkL (d + 1) n.kids ≠ 0 then checkL (d + 1) n.kids else checkL d (l.drop (k + 1)) by rw [HS.out,HST.out,hall,HNM1.out,hbl];simp [hw8,hd6])
                have HI:=zh (HIH.out n.kids Ak ck wr B (d + 1) (by omega) (by omega) hB4 HKK3.out (by omega) HF5.out)
                have HI2:=zh (show Calls Try.prog 58 #[.slice Ak n.kids.length ck, .int .i64 ((d : Int) + 1)] wr fun e w' => e = .returned (.int .i64 (checkL (d + 1) n.kids)) ∧ Below wr.heap.size wr w' from HI.out)
                clear HST HS hw8 HI hd6 hall
                generalize checkL (d + 1) n.kids = y at *
                by_cases hy : y = 0
                · subst hy
                  rw [if_neg (by simp)] at HR
                  go_wp2_with fail
                  refine HI2.out.mono ?_
                  rintro e w5 ⟨rfl,hb5⟩
                  have HB5:=zh (HB3.out.trans (hb5.mono HB3.out.size))
                  clear hb5
                  go_wp2_with fail
                  exact ⟨⟨k + 1,by omega,by go_num,HB5.out,HR.out⟩,by simp [intOf];omega⟩
                · rw [if_pos hy] at HR
                  have hy' : (y != 0) = true:=by simpa using hy
                  clear hy
                  go_wp2_with fail
                  refine HI2.out.mono ?_
                  rintro e w5 ⟨rfl,hb5⟩
                  have HB5:=zh (HB3.out.trans (hb5.mono HB3.out.size))
                  clear hb5
                  go_wp2_with fail
                  go_ret
                  exact ⟨by rw [HR.out];rfl,HB5.out⟩
      · have lk : ¬ (k : Int) < l.length := by omega
        have hs2 : checkL d l = 0:=by rw [hs,List.drop_eq_nil_of_le (by omega),checkL_nil]
        have HS2:=zh hs2
        clear hs hs2
        go_wp2_with fail
        go_ret
        exact ⟨by rw [HS2.out];rfl,hb⟩
theorem ref9_Check (l : List NodeL) (A : Option Addr) (c : Nat) (w : World) (B : Nat) (hsm : cntL l ≤ 100000) (hB : B ≤ w.heap.size) (hok : ROk w B A l) (hfit : fitNs l) :
    Calls Try.prog 22 #[.slice A l.length c] w fun e w' => e = .returned (.int .i64 (checkL 0 l)) ∧ Below w.heap.size w w':=by
  have H:=zh (ref9_check (cntL l + 1) l A c w B 0 (by omega) hsm hB hok (by omega) hfit)
  clear hok hfit
  go_enter Try.func22,Try.ntmps22
  go_wp2_with fail
  refine H.out.mono ?_
  rintro e w1 ⟨rfl,hb1⟩
  go_wp2
  go_ret
  exact ⟨rfl,hb1⟩
end
section
set_option linter.unusedVariables false
set_option linter.unusedSimpArgs false
set_option maxRecDepth 100000
open Go.RowKit
open Go.Lib renaming hid → zh
/-- What the head of Check looks at. -/
structure HeadNo (nm : Bytes) (first last : Int) : Prop where
  any : nameL nm = false ∨ (nameL nm = true ∧ decide (first < 1602) = true) ∨ (nameL nm = true ∧ decide (first < 1602) = false ∧ decide (9996 < last) = true) ∨
    (nameL nm = true ∧ decide (first < 1602) = false ∧ decide (9996 < last) = false ∧ decide (last < first) = true) ∨
    (nameL nm = true ∧ decide (first < 1602) = false ∧ decide (9996 < last) = false ∧ decide (last < first) = false ∧ IntKind.i64.wrap (last - first) = last - first ∧ decide (400 ≤ last - first) = true)
theorem head_no {nm : Bytes} {first last : Int} (h : ¬ (nameL nm = true ∧ 1602 ≤ first ∧ last ≤ 9996 ∧ first ≤ last ∧ last - first < 400)) : HeadNo nm first last := by
  constructor
  cases hn : nameL nm
  · exact .inl rfl
  by_cases h1 : first < 1602
  · exact .inr (.inl ⟨rfl,decide_eq_true h1⟩)
  by_cases h2 : 9996 < last
  · exact .inr (.inr (.inl ⟨rfl,decide_eq_false h1,decide_eq_true h2⟩))
  by_cases h3 : last < first
  · exact .inr (.inr (.inr (.inl ⟨rfl,decide_eq_false h1,decide_eq_false h2,decide_eq_true h3⟩)))
  · refine .inr (.inr (.inr (.inr ⟨rfl,decide_eq_false h1,decide_eq_false h2,decide_eq_false h3,by rw [IntKind.wrap_i64]; omega,decide_eq_true ?_⟩)))
    have : ¬ (last - first < 400):=fun h4 => h ⟨hn,by omega,by omega,by omega,h4⟩
    omega
set_option maxHeartbeats 4000000 in
theorem r11_Check_head (nm : Bytes) (kind day month shift shape p0 p1 p2 cycle extra first last policy : Int) (hl : nm.length ≤ maxLen) (h : HeadNo nm first last) (w : World) :
    Calls Try.prog 15 #[.agg #[.string ⟨nm.toArray⟩, .int .i64 kind, .int .i64 day, .int .i64 month, .int .i64 shift, .int .i64 shape, .int .i64 p0, .int .i64 p1, .int .i64 p2, .int .i64 cycle, .int .i64 extra, .int .i64 first, .int .i64 last, .int .i64 policy]] w fun e w' => e = .returned (.int .i64 1) ∧ Below w.heap.size w w':=by
  have HB:=zh (below_cal w (.cells #[.string ⟨nm.toArray⟩, .int .i64 kind, .int .i64 day, .int .i64 month, .int .i64 shift, .int .i64 shape, .int .i64 p0, .int .i64 p1, .int .i64 p2, .int .i64 cycle, .int .i64 extra, .int .i64 first, .int .i64 last, .int .i64 policy] 30))
  have HN:=zh (fun W => rname_atG nm hl W)
  rcases h.any with hn | ⟨hn,h1⟩ | ⟨hn,h1,h2⟩ | ⟨hn,h1,h2,h3⟩ | ⟨hn,h1,h2,h3,h4,h5⟩ <;> (
    rw [hn] at HN
    clear hn h hl
    go_enter Try.func15,Try.ntmps15
    go_wp2_with fail
    refine (HN.out _).mono ?_
    rintro e w1 ⟨rfl,rfl⟩
    go_wp2_with fail
    go_ret
    exact ⟨rfl,HB.out⟩)
structure HeadOk (nm : Bytes) (first last : Int) : Prop where
  nam : nameL nm = true
  d1 : decide (first < 1602) = false
  d2 : decide (9996 < last) = false
  d3 : decide (last < first) = false
  d4 : IntKind.i64.wrap (last - first) = last - first
  d5 : decide (400 ≤ last - first) = false
theorem head_ok {nm : Bytes} {first last : Int} (h : nameL nm = true ∧ 1602 ≤ first ∧ last ≤ 9996 ∧ first ≤ last ∧ last - first < 400) : HeadOk nm first last :=
  ⟨h.1,decide_eq_false (by omega),decide_eq_false (by omega),decide_eq_false (by omega),by rw [IntKind.wrap_i64];omega,decide_eq_false (by omega)⟩
structure PolNo (kind policy : Int) : Prop where
  any : decide (policy < 1) = true ∨ (decide (policy < 1) = false ∧ decide (4 < policy) = true) ∨ (decide (policy < 1) = false ∧ decide (4 < policy) = false ∧ (policy == 4) = true ∧ (kind == 6) = false) ∨ (decide (policy < 1) = false ∧ decide (4 < policy) = false ∧ (policy == 4) = false ∧ (kind == 6) = true)
theorem pol_no {c : CalL} (h : policyC c = false) : PolNo c.kind c.policy := by
  constructor
  by_cases h1 : c.policy < 1
  · exact .inl (decide_eq_true h1)
  by_cases h2 : 4 < c.policy
  · exact .inr (.inl ⟨decide_eq_false h1,decide_eq_true h2⟩)
  unfold policyC tween at h
  by_cases h4 : c.policy = 4
  · by_cases h6 : c.kind = 6
    · simp [h4,h6] at h
    · exact .inr (.inr (.inl ⟨decide_eq_false h1,decide_eq_false h2,by simp [h4],by simp [h6]⟩))
  · by_cases h6 : c.kind = 6
    · exact .inr (.inr (.inr ⟨decide_eq_false h1,decide_eq_false h2,by simp [h4],by simp [h6]⟩))
    · simp [h4,h6] at h
      omega
set_option maxHeartbeats 4000000 in
theorem r11_Check_pol (nm : Bytes) (kind day month shift shape p0 p1 p2 cycle extra first last policy : Int) (hl : nm.length ≤ maxLen) (h : HeadOk nm first last) (hp : PolNo kind policy) (w : World) :
    Calls Try.prog 15 #[.agg #[.string ⟨nm.toArray⟩, .int .i64 kind, .int .i64 day, .int .i64 month, .int .i64 shift, .int .i64 shape, .int .i64 p0, .int .i64 p1, .int .i64 p2, .int .i64 cycle, .int .i64 extra, .int .i64 first, .int .i64 last, .int .i64 policy]] w fun e w' => e = .returned (.int .i64 1) ∧ Below w.heap.size w w':=by
  have HB:=zh (below_cal w (.cells #[.string ⟨nm.toArray⟩, .int .i64 kind, .int .i64 day, .int .i64 month, .int .i64 shift, .int .i64 shape, .int .i64 p0, .int .i64 p1, .int .i64 p2, .int .i64 cycle, .int .i64 extra, .int .i64 first, .int .i64 last, .int .i64 policy] 30))
  have HN:=zh (fun W => rname_atG nm hl W)
  obtain ⟨hn,h1,h2,h3,h4,h5⟩:=h
  rw [hn] at HN
  clear hn hl
  rcases hp.any with k1 | ⟨k1,k2⟩ | ⟨k1,k2,k3,k4⟩ | ⟨k1,k2,k3,k4⟩ <;> (
    clear hp
    go_enter Try.func15,Try.ntmps15
    go_wp2_with fail
    refine (HN.out _).mono ?_
    rintro e w1 ⟨rfl,rfl⟩
    go_wp2_with fail
    go_ret
    exact ⟨rfl,HB.out⟩)
end
end Go.Proofs.Ytpkhocbohhpmbaa
