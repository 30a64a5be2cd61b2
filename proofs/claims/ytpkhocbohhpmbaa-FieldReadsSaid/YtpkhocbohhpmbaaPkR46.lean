/- Layer 11 (field), the reference: the walk of Read: a key that does not stand with the end. Written by wip/gen_read.py. -/
import Derived.Test.YtpkhocbohhpmbaaPkR44
import Derived.Deep.DeepCutAuto
import Derived.BigRegion
set_option linter.unusedVariables false
set_option linter.unusedSimpArgs false
set_option maxRecDepth 100000
namespace Go.Proofs.Ytpkhocbohhpmbaa
open Go.RowKit
open Go.Joins renaming cell_of_block → zb, unfrozen_of_block → zu
open Go.Lib renaming hid → zh
set_option maxHeartbeats 16000000 in
theorem r11_Read_fits (p tn : Int) (ts : Bytes) (tp : Int) (ks : List NodeL) (ad : Addr) (cw : Nat) (Ak : Option Addr) (ck : Nat) (w : World) (B : Nat) (hB : B ≤ w.heap.size) (hn : NodeOk w (· < B) (.mk b_calendar p [⟨false,tn,ts,tp⟩] true ks) [.string ⟨b_calendar.toArray⟩, .int .i64 p, .slice (some ad) 1 cw, .bool true, .slice Ak ks.length ck]) (hsm : cntL [.mk b_calendar p [⟨false,tn,ts,tp⟩] true ks] ≤ 100000) (hfit : fitNs [.mk b_calendar p [⟨false,tn,ts,tp⟩] true ks]) (hck : checkL 0 [.mk b_calendar p [⟨false,tn,ts,tp⟩] true ks] = 0) (hcap : ks.length ≤ ck) (hp : passL ts [] ks = none) (heb : (ks.map NodeL.name).contains b_end = true) (p' er : Int) (hf : fitsL (putEnd ts (calN ts) ks).kind [] ks = some (p',er)) :
    Calls Try.prog 8 #[.agg #[.string ⟨b_calendar.toArray⟩, .int .i64 p, .slice (some ad) 1 cw, .bool true, .slice Ak ks.length ck]] w (fun e w' => e = .returned (.tuple #[calV calZ, .int .i64 p', .int .i64 er]) ∧ Below w.heap.size w w'):=by
  have hrok0 : ROk w B Ak ks := by
    simp only [NodeOk] at hn
    obtain ⟨Aw,cw',Ak',ck',kcs,he,_,_,_,h5,h6⟩:=hn
    simp only [List.cons.injEq,Value.slice.injEq,true_and,and_true] at he
    obtain ⟨_,rfl,rfl⟩:=he
    exact ⟨kcs,h5,h6⟩
  have hword : ReadsM w (· < B) 4 (some ad) 1 [.bool false, .int .i64 tn, .string ⟨ts.toArray⟩, .int .i64 tp] := by
    simp only [NodeOk] at hn
    obtain ⟨Aw,cw',Ak',ck',kcs,he,_,_,h4,_,_⟩:=hn
    simp only [List.cons.injEq,Value.slice.injEq,true_and,and_true] at he
    obtain ⟨⟨rfl,_⟩,_⟩:=he
    exact h4
  obtain ⟨ad1,had,hadb,wc⟩:=hword.2 (by decide)
  injection had with had
  subst had
  have wc0:=wc 0 _ rfl
  have wc2:=wc 2 _ rfl
  rw [show ad.add 0 = ad from rfl] at wc0
  rw [show ad.add 2 = ⟨ad.block,ad.off + 2,none⟩ from rfl] at wc2
  have hts : ts.length ≤ maxLen:=hfit.1.2.2.1 _ (List.mem_singleton.2 rfl)
  have HTS:=zh hts
  clear hts
  have HROK:=zh hrok0
  have HKL:=zh (kids_words _ p _ true ks hck)
  have hkl : ks.length ≤ 100000 := by
    have h2:=cntL_len ks
    simp only [cntL,cntN] at hsm
    omega
  have HP:=zh hp
  have HEB:=zh heb
  clear hp heb
  have HF:=zh hf
  clear hf
  generalize hQ : (fun (e : Ending) (w' : World) => e = .returned (.tuple #[calV calZ, .int .i64 p', .int .i64 er]) ∧ Below w.heap.size w w') = Q
  have HQ:=zh hQ
  have HTC : Hid (∀ (W : World) (g B' : Nat),B' ≤ W.heap.size → ROk W B' (some ⟨g,0,none⟩) [.mk b_calendar p [⟨false,tn,ts,tp⟩] true ks] → Calls Try.prog 22 #[.slice (some ⟨g,0,none⟩) 1 1] W fun e w' => e = .returned (.int .i64 0) ∧ Below W.heap.size W w') := zh (fun W g B' h1 h2 => by
    have:=ref9_Check [.mk b_calendar p [⟨false,tn,ts,tp⟩] true ks] (some ⟨g,0,none⟩) 1 W B' hsm h1 h2 hfit
    rw [hck] at this
    exact this)
  have HN:=zh hn
  have HCAP:=zh (And.intro hcap hkl)
  clear hn hsm hfit hck hQ hrok0 hword wc hcap
  rw [show (b_calendar.toArray : Array UInt8) = #[99,97,108,101,110,100,97,114] from rfl] at *
  go_enter Try.func8,Try.ntmps8
  go_wp2_with fail
  have hB3:=threeK w (.cells #[.string ⟨#[99,97,108,101,110,100,97,114]⟩, .int .i64 p, .slice (some ad) 1 cw, .bool true, .slice Ak ks.length ck] 25) (.cells #[.string ⟨#[]⟩, .int .i64 0, .int .i64 0, .int .i64 0, .int .i64 0, .int .i64 0, .int .i64 0, .int .i64 0, .int .i64 0, .int .i64 0, .int .i64 0, .int .i64 0, .int .i64 0, .int .i64 0] 30) (.cells #[.string ⟨#[99,97,108,101,110,100,97,114]⟩, .int .i64 p, .slice (some ad) 1 cw, .bool true, .slice Ak ks.length ck] 25)
  obtain ⟨W0,hW0⟩ : ∃ W0,((w.alloc (.cells #[.string ⟨#[99,97,108,101,110,100,97,114]⟩, .int .i64 p, .slice (some ad) 1 cw, .bool true, .slice Ak ks.length ck] 25)).alloc (.cells #[.string ⟨#[]⟩, .int .i64 0, .int .i64 0, .int .i64 0, .int .i64 0, .int .i64 0, .int .i64 0, .int .i64 0, .int .i64 0, .int .i64 0, .int .i64 0, .int .i64 0, .int .i64 0, .int .i64 0] 30)).alloc (.cells #[.string ⟨#[99,97,108,101,110,100,97,114]⟩, .int .i64 p, .slice (some ad) 1 cw, .bool true, .slice Ak ks.length ck] 25) = W0:=⟨_,rfl⟩
  rw [hW0] at hB3
  rw [hW0]
  obtain ⟨hb0,x0,x1,x2,z0⟩:=hB3
  have hrok : ROk W0 W0.heap.size (some ⟨w.heap.size + 1 + 1,0,none⟩) [.mk b_calendar p [⟨false,tn,ts,tp⟩] true ks] := by
    refine ⟨[.string ⟨b_calendar.toArray⟩, .int .i64 p, .slice (some ad) 1 cw, .bool true, .slice Ak ks.length ck],⟨rfl,fun _ => ⟨_,rfl,by show w.heap.size + 1 + 1 < _;omega,fun j u hu => ?_⟩⟩,NodesOk.one (NodeOk.keep (M:=(· < B)) (fun b hb => by show b < _;omega) (fun q hq => hb0.cell (by omega)) _ _ HN.out)⟩
    have : (⟨w.heap.size + 1 + 1,0,none⟩ : Addr).add j = ⟨w.heap.size + 1 + 1,j,none⟩ := by
      unfold Addr.add
      split
      · next h => subst h;rfl
      · simp
    rw [this,zb x2 j]
    have hu2 : ([.string ⟨#[99,97,108,101,110,100,97,114]⟩, .int .i64 p, .slice (some ad) 1 cw, .bool true, .slice Ak ks.length ck] : List Value)[j]? = some u:=hu
    simpa using hu2
  refine (HTC.out W0 _ _ (Nat.le_refl _) hrok).mono ?_
  rintro e w1 ⟨rfl,hb1⟩
  have hbw : Below w.heap.size w w1:=hb0.trans (hb1.mono hb0.size)
  have y0:=(hb1.block w.heap.size (by omega)).trans x0
  have y1 : CalBlk w1 (w.heap.size + 1) calZ:=(hb1.block (w.heap.size + 1) (by omega)).trans x1
  obtain ⟨br,hbr⟩ : ∃ x,x = w.heap.size + 1:=⟨_,rfl⟩
  obtain ⟨bn,hbn⟩ : ∃ x,x = w.heap.size:=⟨_,rfl⟩
  rw [← hbr] at y1
  rw [← hbn] at y0
  rw [← hbr,← hbn]
  have m0:=zb y0 0
  have m1:=zb y0 1
  have m2:=zb y0 2
  have m3:=zb y0 3
  have m4:=zb y0 4
  have v0:=(hbw.cell (p:=ad) (by omega)).trans wc0
  have v2:=(hbw.cell (p:=⟨ad.block,ad.off + 2,none⟩) (by show ad.block < _;omega)).trans wc2
  have ln:=(Array.getElem?_eq_some_iff.1 y0).1
  have hadl : ad.block < w1.heap.size:=by have:=hbw.size;omega
  have hK2 := fun (oK oC : Obj) => (show Below w1.heap.size w1 ((w1.alloc oK).alloc oC) ∧ ((w1.alloc oK).alloc oC).heap[w1.heap.size]? = some oK ∧ ((w1.alloc oK).alloc oC).heap[w1.heap.size + 1]? = some oC from by
    have z1 : (w1.alloc oK).heap.size = w1.heap.size + 1:=by simp
    exact ⟨((Below.refl _ _).alloc (Nat.le_refl _) _).alloc (by omega) _,(Go.heap_alloc_old _ _ (by omega)).trans (heap_alloc_new w1 oK),by rw [← z1];exact heap_alloc_new _ oC⟩)
  have HK2:=zh hK2
  have HY:=zh (And.intro y0 (And.intro y1 (And.intro hbw (And.intro hbn hbr))))
  have hlr:=y1.lt
  clear hW0 hb0 x0 x1 x2 z0 hrok hb1 hbw HTC y0 y1 wc0 wc2 hbr hbn hK2 HN
  go_wp2_with fail
  obtain ⟨hk1,hk2,hk3⟩:=HK2.out (.cells #[.string ⟨#[101,110,100]⟩, .string ⟨#[110,97,109,101,100]⟩, .string ⟨#[112,101,114,105,111,100,115]⟩, .string ⟨#[112,97,121]⟩, .string ⟨#[101,120,116,114,97]⟩, .string ⟨#[115,101,114,118,101]⟩, .string ⟨#[99,111,109,112,97,114,101]⟩] 9) (.cells #[.string ⟨ts.toArray⟩, .int .i64 0, .int .i64 0, .int .i64 0, .int .i64 0, .int .i64 0, .int .i64 0, .int .i64 0, .int .i64 0, .int .i64 0, .int .i64 0, .int .i64 0, .int .i64 0, .int .i64 0] 30)
  obtain ⟨bc,hbc⟩ : ∃ x,x = w1.heap.size + 1:=⟨_,rfl⟩
  obtain ⟨bk,hbk⟩ : ∃ x,x = w1.heap.size:=⟨_,rfl⟩
  rw [← hbc] at hk3
  rw [← hbk] at hk2
  rw [← hbc,← hbk]
  generalize hW2 : (w1.alloc (.cells #[.string ⟨#[101,110,100]⟩, .string ⟨#[110,97,109,101,100]⟩, .string ⟨#[112,101,114,105,111,100,115]⟩, .string ⟨#[112,97,121]⟩, .string ⟨#[101,120,116,114,97]⟩, .string ⟨#[115,101,114,118,101]⟩, .string ⟨#[99,111,109,112,97,114,101]⟩] 9)).alloc (.cells #[.string ⟨ts.toArray⟩, .int .i64 0, .int .i64 0, .int .i64 0, .int .i64 0, .int .i64 0, .int .i64 0, .int .i64 0, .int .i64 0, .int .i64 0, .int .i64 0, .int .i64 0, .int .i64 0, .int .i64 0] 30) = W2 at hk1 hk2 hk3 ⊢
  have HS : Hid (RdW w W2 bn br bk bc [99,97,108,101,110,100,97,114] p ad cw Ak ks.length ck (calN ts)) := zh (by
    obtain ⟨q0,q1,q2,q3,q4⟩:=HY.out
    have e1:=q2.size
    exact ⟨q2.trans (hk1.mono q2.size),⟨by omega,by omega,by omega,by omega⟩,⟨by omega,by omega,by omega,by omega,by omega,by omega⟩,(hk1.block bn ln).trans q0,q1.keep hk1,⟨_,hk2⟩,hk3⟩)
  clear hk1 hk2 hk3 hW2 HK2 HY v0 v2 m0 m1 m2 m3 m4 hlr ln hadl hbc hbk
  go_loopw [59] (fun i wr => ∃ k : Nat,k ≤ ks.length ∧ i = .int .i64 k ∧ RdW w wr bn br bk bc [99,97,108,101,110,100,97,114] p ad cw Ak ks.length ck (calN ts) ∧ passL ts [] ks = passL ts ((ks.map NodeL.name).take k) (ks.drop k)) (fun i _ => ks.length - (intOf i).toNat)
  case atStart => exact ⟨0,Nat.zero_le _,rfl,HS.out,by simp⟩
  case round =>
    clear HS
    obtain ⟨k,hk,rfl,hst,hpl⟩:=hrel
    have hlow:=hst.below.size
    have hcap:=HCAP.out.1
    by_cases hlt : k < ks.length
    · obtain ⟨x,hx⟩ : ∃ x,ks[k]? = some x := ⟨_,List.getElem?_eq_getElem hlt⟩
      have hrk:=HROK.out.below (hst.below.mono hB)
      obtain ⟨ad',Aw',cw',Ak',ck',rfl,hab',d0,d1,d2,d3,d4,hnx⟩:=kid_at hrk k x hx
      obtain ⟨sn,hsn⟩ : ∃ sn,((ks.take k).map NodeL.name).contains x.name = sn:=⟨_,rfl⟩
      obtain ⟨ko,hko⟩ : ∃ ko,keyOkL ts x = ko:=⟨_,rfl⟩
      have h4:=pass_four hx hpl sn ko hsn hko
      have hz:=placeR_zero x.name
      have hwl:=HKL.out x (List.mem_of_getElem? hx)
      have lk : (k : Int) < ks.length:=by omega
      have lk0 : (0 : Int) ≤ k:=by omega
      have lkc : (k : Int) ≤ ck:=by omega
      have ck0 : ¬ ck = 0:=by omega
      have w1f : IntKind.i64.wrap ((k : Int) + 1) = (k : Int) + 1:=by rw [IntKind.wrap_i64];omega
      have hhas : ∀ W,Below w.heap.size w W → Calls Try.prog 24 #[.slice (some ad') k ck, .string ⟨x.name.toArray⟩] W fun e w' => e = .returned (.bool sn) ∧ Below W.heap.size W w' := fun W hW => by
        rw [← hsn]
        exact has_take ks x.name _ k ck W B (Nat.le_trans hB hW.size) hkl (by omega) (HROK.out.below (hW.mono hB))
      have hkey : ∀ W,Below wr.heap.size wr W → keysL.contains x.name = true → Calls Try.prog 25 #[calV (calN ts), .agg (#[.string ⟨x.name.toArray⟩, .int .i64 x.pos, .slice Aw' x.words.length cw', .bool x.block, .slice Ak' x.kids.length ck'])] W (KeyPost (putK x.name (calN ts) x.words).1 ko W) := fun W hW hin => by
        rw [← hko]
        exact r11_key ts x _ (calN ts) W B (by have:=hW.size;omega) (NodeOk.keep (fun _ h => h) (fun q hq => hW.cell (by have : q.block < B:=hq;omega)) _ _ hnx) (fun _ => rfl) hin (by omega)
      have HHAS:=zh hhas
      have HKEY:=zh hkey
      have H4:=zh h4
      clear hpl hsn hko h4 hhas hkey
      obtain ⟨xn,xp,xw,xb,xk⟩:=x
      dsimp only [NodeL.name,NodeL.pos,NodeL.words,NodeL.block,NodeL.kids] at *
      have HPLC:=zh (fun W h => r11_place keysR ⟨false,0,xn,0⟩ bk 7 W (by decide) h)
      obtain ⟨v,hv⟩ : ∃ v,placeW keysR ⟨false,0,xn,0⟩ = v:=⟨_,rfl⟩
      rw [hv] at HPLC hz
      have hbx:=below_cal wr (.cells #[.string ⟨xn.toArray⟩, .int .i64 xp, .slice Aw' xw.length cw', .bool xb, .slice Ak' xk.length ck'] 25)
      have hxx:=heap_alloc_new wr (.cells #[.string ⟨xn.toArray⟩, .int .i64 xp, .slice Aw' xw.length cw', .bool xb, .slice Ak' xk.length ck'] 25)
      have hstA:=hst.keep hbx
      have HBX:=zh hbx
      have HSTA:=zh hstA
      have HXX:=zh hxx
      have HST:=zh hst
      have r0:=zb hst.node 0
      have r1:=zb hst.node 1
      have r2:=zb hst.node 2
      have r3:=zb hst.node 3
      have r4:=zb hst.node 4
      have hbrw : br < wr.heap.size:=hst.res.lt
      have hbrx : br ≠ wr.heap.size:=Nat.ne_of_lt hbrw
      clear hbx hstA hxx hv hwl hrk hnx hst hx
      cases hin : keysL.contains xn
      · exact absurd (HP.out.symm.trans (H4.out.1 hin)) (by simp)
      · have hv0 : (v == 0) = false := beq_false_of_ne (fun e => by rw [hz.1 e] at hin; cases hin)
        clear hz
        have HIN:=zh hin
        clear hin
        go_wp2_with fail
        refine (HPLC.out _ HSTA.out.keys).mono ?_
        rintro e w2 ⟨rfl,hb2⟩
        have HW:=zh (HSTA.out.keep hb2)
        have HXW:=zh (nod_keep HXX.out hb2)
        have HB2 : Hid (Below wr.heap.size wr w2):=zh (HBX.out.trans (hb2.mono HBX.out.size))
        clear hb2 r0 r1 r2 r3 r4 d0 d1 d2 d3 d4 HPLC
        have r4:=zb HW.out.node 4
        have x0:=zb HXW.out 0
        go_wp2_with fail
        go_region_with (go_at_call 24;refine (HHAS.out _ (HW.out.below.drew)).mono ?_;rintro e w3 ⟨rfl,hb3⟩)
        all_goals (
          have hb3' : Below w2.heap.size w2 w3:=⟨hb3.os,hb3.tape,hb3.output,hb3.size,hb3.block⟩
          replace HW:=zh (HW.out.keep hb3')
          replace HXW:=zh (nod_keep HXW.out hb3')
          replace HB2 : Hid (Below wr.heap.size wr w3):=zh (HB2.out.trans (hb3'.mono HB2.out.size))
          clear hb3 hb3' r4 x0
          cases sn
          · have hcal := HW.out.cal
            dsimp only [CalBlk,calN,calZ] at hcal
            obtain ⟨g0,g1,g2,g3,g4,g5,g6,g7,g8,g9,g10,g11,g12,g13⟩:=cells14 hcal
            have x0:=zb HXW.out 0
            have x1:=zb HXW.out 1
            have x2:=zb HXW.out 2
            have x3:=zb HXW.out 3
            have x4:=zb HXW.out 4
            have HK3:=zh (HKEY.out w3 HB2.out HIN.out)
            dsimp only [calV,calN,calZ] at HK3
            clear hcal HKEY HHAS
            go_wp2_with fail
            refine HK3.out.mono ?_
            intro e w4 hkp
            obtain ⟨dd,rfl,hdd,hb4⟩:=hkp
            replace HW:=zh (HW.out.keep hb4)
            replace HXW:=zh (nod_keep HXW.out hb4)
            clear hb4 hdd HK3 HB2 x0 x1 x2 x3 x4 g0 g1 g2 g3 g4 g5 g6 g7 g8 g9 g10 g11 g12 g13
            obtain ⟨b0,b1,b2,b3,b4,b5,b6,b7,b8,b9,b10,b11,b12,b13⟩:=dd
            dsimp only [calV]
            cases ko
            · exact absurd (HP.out.symm.trans (H4.out.2.2.1 HIN.out (by trivial) (by trivial))) (by simp)
            · have HG := zh (H4.out.2.2.2 HIN.out (by trivial) (by trivial))
              go_wp2_with fail
              exact ⟨⟨k + 1,by omega,by go_num,HW.out.keep (below_cal _ _),HG.out⟩,by simp [intOf];omega⟩
          · exact absurd (HP.out.symm.trans (H4.out.2.1 HIN.out (by trivial))) (by simp))
    · have hk2 : k = ks.length := by omega
      have lk : ¬ (k : Int) < ks.length:=by omega
      have HHE:=zh (fun W (hW : Below w.heap.size w W) => r11_has ks b_end Ak ck W B (Nat.le_trans hB hW.size) hkl (HROK.out.below (hW.mono hB)))
      rw [HEB.out] at HHE
      have HW:=zh hst
      have r4:=zb hst.node 4
      clear hst hpl hk2 hk hlt hlow hcap
      rw [show (b_end.toArray : Array UInt8) = #[101,110,100] from rfl] at HHE
      go_wp2_with fail
      refine (HHE.out _ HW.out.below).mono ?_
      rintro e w2 ⟨rfl,hb2⟩
      replace HW:=zh (HW.out.keep hb2)
      clear hb2 r4 HHE
      have r4:=zb HW.out.node 4
      go_wp2_with fail
      obtain ⟨k1,hk1⟩ : ∃ x,x = k:=⟨_,rfl⟩
      go_loopw [105] (fun i wr => ∃ k : Nat,k ≤ ks.length ∧ i = .int .i64 k ∧ RdW w wr bn br bk bc [99,97,108,101,110,100,97,114] p ad cw Ak ks.length ck (putEnd ts (calN ts) (ks.take k))) (fun i _ => ks.length - (intOf i).toNat)
      case atStart => exact ⟨0,Nat.zero_le _,rfl,HW.out⟩
      case round =>
        clear HW r4 lk k1 hk1
        obtain ⟨k,hk,rfl,hst⟩:=hrel
        by_cases hlt : k < ks.length
        · obtain ⟨x,hx⟩ : ∃ x,ks[k]? = some x := ⟨_,List.getElem?_eq_getElem hlt⟩
          have hrk:=HROK.out.below (hst.below.mono hB)
          obtain ⟨ad',Aw',cw',Ak',ck',rfl,hab',d0,d1,d2,d3,d4,hnx⟩:=kid_at hrk k x hx
          have hwl:=HKL.out x (List.mem_of_getElem? hx)
          have lk : (k : Int) < ks.length:=by omega
          have lk0 : (0 : Int) ≤ k:=by omega
          have hlow:=hst.below.size
          have w1f : IntKind.i64.wrap ((k : Int) + 1) = (k : Int) + 1:=by rw [IntKind.wrap_i64];omega
          have HKOK:=zh ((pass_all HP.out).2.2 x (List.mem_of_getElem? hx))
          have HKIN:=zh ((pass_all HP.out).2.1 x.name (List.mem_map.2 ⟨x,List.mem_of_getElem? hx,rfl⟩))
          have hkey : ∀ W,Below wr.heap.size wr W → (x.name = b_end → (putEnd ts (calN ts) (ks.take k)) = calN ts) → Calls Try.prog 25 #[calV (putEnd ts (calN ts) (ks.take k)), .agg (#[.string ⟨x.name.toArray⟩, .int .i64 x.pos, .slice Aw' x.words.length cw', .bool x.block, .slice Ak' x.kids.length ck'])] W (KeyPost (putK x.name (putEnd ts (calN ts) (ks.take k)) x.words).1 true W) := fun W hW hc => by
            rw [← HKOK.out]
            exact r11_key ts x _ (putEnd ts (calN ts) (ks.take k)) W B (by have:=hW.size;omega) (NodeOk.keep (fun _ h => h) (fun q hq => hW.cell (by have : q.block < B:=hq;omega)) _ _ hnx) hc HKIN.out (by omega)
          have HKEY:=zh hkey
          clear hkey
          by_cases hxe : x.name = b_end
          · have HCX := zh (show x.name = b_end → putEnd ts (calN ts) (ks.take k) = calN ts from fun _ => putEnd_ahead ts ks k x (pass_all HP.out).1 hx hxe)
            have HNX:=zh ((putEnd_take ts (calN ts) ks k x hx).trans (if_pos hxe))
            obtain ⟨xn,xp,xw,xb,xk⟩:=x
            dsimp only [NodeL.name,NodeL.pos,NodeL.words,NodeL.block,NodeL.kids] at *
            have hbx:=below_cal wr (.cells #[.string ⟨xn.toArray⟩, .int .i64 xp, .slice Aw' xw.length cw', .bool xb, .slice Ak' xk.length ck'] 25)
            have hxx:=heap_alloc_new wr (.cells #[.string ⟨xn.toArray⟩, .int .i64 xp, .slice Aw' xw.length cw', .bool xb, .slice Ak' xk.length ck'] 25)
            have hstA:=hst.keep hbx
            have HBX:=zh hbx
            have HSTA:=zh hstA
            have HXX:=zh hxx
            have HST:=zh hst
            have HX:=zh hx
            have hbrw : br < wr.heap.size:=hst.res.lt
            have hbrx : br ≠ wr.heap.size:=Nat.ne_of_lt hbrw
            have hbcw : bc < wr.heap.size:=hst.cal.lt
            have hbcx : bc ≠ wr.heap.size:=Nat.ne_of_lt hbcw
            have hbnw : bn < wr.heap.size:=(Array.getElem?_eq_some_iff.1 hst.node).1
            have hbnx : bn ≠ wr.heap.size:=Nat.ne_of_lt hbnw
            clear hbx hstA hxx hwl hrk hnx hst hx
            have hq : (xn == [101,110,100]) = true:=by rw [hxe];rfl
            have HXE:=zh hxe
            clear hxe
            obtain ⟨C,hC⟩ : ∃ C,putEnd ts (calN ts) (ks.take k) = C:=⟨_,rfl⟩
            have HC:=zh hC
            have hcal:=HSTA.out.cal
            have HK3:=HKEY
            have hcx:=HCX.out
            rw [hC] at hcal HK3 hcx
            replace HCX:=zh hcx
            clear hcx
            replace HK3:=zh (fun h => HK3.out (wr.alloc (.cells #[.string ⟨xn.toArray⟩, .int .i64 xp, .slice Aw' xw.length cw', .bool xb, .slice Ak' xk.length ck'] 25)) HBX.out h)
            clear hC HKEY
            obtain ⟨f0,f1,f2,f3,f4,f5,f6,f7,f8,f9,f10,f11,f12,f13⟩:=C
            dsimp only [CalBlk] at hcal
            dsimp only [calV] at HK3
            obtain ⟨g0,g1,g2,g3,g4,g5,g6,g7,g8,g9,g10,g11,g12,g13⟩:=cells14 hcal
            have x0:=zb HXX.out 0
            have x1:=zb HXX.out 1
            have x2:=zb HXX.out 2
            have x3:=zb HXX.out 3
            have x4:=zb HXX.out 4
            clear hcal
            go_wp2_with fail
            refine (HK3.out HCX.out).mono ?_
            intro e w4 hkp
            obtain ⟨dd,rfl,hdd,hb4⟩:=hkp
            have HW:=zh (HSTA.out.keep hb4)
            have HDD:=zh (hdd (by trivial))
            clear hb4 hdd HK3 HCX x0 x1 x2 x3 x4 g0 g1 g2 g3 g4 g5 g6 g7 g8 g9 g10 g11 g12 g13 d0 d1 d2 d3 d4
            have hcal:=HW.out.cal
            rw [HC.out] at hcal
            dsimp only [CalBlk] at hcal
            obtain ⟨g0,g1,g2,g3,g4,g5,g6,g7,g8,g9,g10,g11,g12,g13⟩:=cells14 hcal
            obtain ⟨fu0,fu1,fu2,fu3,fu4,fu5,fu6,fu7,fu8,fu9,fu10,fu11,fu12,fu13⟩:=unf14 hcal
            have ly:=(Array.getElem?_eq_some_iff.1 hcal).1
            clear hcal
            have HCD:=zh (show CalBlk w4 bc ⟨f0,f1,f2,f3,f4,f5,f6,f7,f8,f9,f10,f11,f12,f13⟩ from by have:=HW.out.cal;rw [HC.out] at this;exact this)
            obtain ⟨b0,b1,b2,b3,b4,b5,b6,b7,b8,b9,b10,b11,b12,b13⟩:=dd
            dsimp only [calV]
            go_wp2_with fail
            have hputk : putK xn (putEnd ts (calN ts) (ks.take k)) xw = endK ts xw := by
              rw [HXE.out]
              show endK (putEnd ts (calN ts) (ks.take k)).name xw = _
              rw [putEnd_name ts (fun ws => endK_name ts ws) _ _ rfl]
            have hd:=HDD.out
            rw [← HC.out,hputk] at hd
            refine ⟨⟨k + 1,by omega,by go_num,?_⟩,by simp [intOf];omega⟩
            rw [HNX.out,← hd]
            exact HW.out.put (Step.put14 (Step.refl w4 [] (some bc)) ⟨b0,b1,b2,b3,b4,b5,b6,b7,b8,b9,b10,b11,b12,b13⟩) (HCD.out.put14 ⟨b0,b1,b2,b3,b4,b5,b6,b7,b8,b9,b10,b11,b12,b13⟩)
          · have HNX := zh ((putEnd_take ts (calN ts) ks k x hx).trans (if_neg hxe))
            obtain ⟨xn,xp,xw,xb,xk⟩:=x
            dsimp only [NodeL.name,NodeL.pos,NodeL.words,NodeL.block,NodeL.kids] at *
            have hbx:=below_cal wr (.cells #[.string ⟨xn.toArray⟩, .int .i64 xp, .slice Aw' xw.length cw', .bool xb, .slice Ak' xk.length ck'] 25)
            have hxx:=heap_alloc_new wr (.cells #[.string ⟨xn.toArray⟩, .int .i64 xp, .slice Aw' xw.length cw', .bool xb, .slice Ak' xk.length ck'] 25)
            have hstA:=hst.keep hbx
            have HBX:=zh hbx
            have HSTA:=zh hstA
            have HXX:=zh hxx
            have HST:=zh hst
            have HX:=zh hx
            have hbrw : br < wr.heap.size:=hst.res.lt
            have hbrx : br ≠ wr.heap.size:=Nat.ne_of_lt hbrw
            have hbcw : bc < wr.heap.size:=hst.cal.lt
            have hbcx : bc ≠ wr.heap.size:=Nat.ne_of_lt hbcw
            have hbnw : bn < wr.heap.size:=(Array.getElem?_eq_some_iff.1 hst.node).1
            have hbnx : bn ≠ wr.heap.size:=Nat.ne_of_lt hbnw
            clear hbx hstA hxx hwl hrk hnx hst hx
            have hq : (xn == [101,110,100]) = false:=beq_false_of_ne hxe
            have HXE:=zh hxe
            have x0:=zb HXX.out 0
            clear hxe HKEY
            go_wp2_with fail
            exact ⟨⟨k + 1,by omega,by go_num,by rw [HNX.out];exact HSTA.out⟩,by simp [intOf];omega⟩
        · have hk2 : k = ks.length := by omega
          rw [hk2,List.take_length] at hst
          have lk : ¬ (k : Int) < ks.length:=by omega
          have hkd:=kind_good HP.out HEB.out
          have HW:=zh hst
          have r4:=zb hst.node 4
          clear hst hk2 hk hlt
          go_wp2_with fail
          obtain ⟨ce,hce⟩ : ∃ ce,putEnd ts (calN ts) ks = ce:=⟨_,rfl⟩
          rw [hce] at HW hkd
          have HCE:=zh hce
          rw [hce] at HF
          clear hce r4 lk
          obtain ⟨k2,hk2⟩ : ∃ x,x = k:=⟨_,rfl⟩
          go_loopw [122] (fun i wr => ∃ k : Nat,k ≤ ks.length ∧ i = .int .i64 k ∧ RdW w wr bn br bk bc [99,97,108,101,110,100,97,114] p ad cw Ak ks.length ck ce ∧ fitsL ce.kind [] ks = fitsL ce.kind ((ks.map NodeL.name).take k) (ks.drop k)) (fun i _ => ks.length - (intOf i).toNat)
          case atStart => exact ⟨0,Nat.zero_le _,rfl,HW.out,by simp⟩
          case round =>
            clear HW k2 hk2
            obtain ⟨k,hk,rfl,hst,hfl⟩:=hrel
            by_cases hlt : k < ks.length
            · obtain ⟨x,hx⟩ : ∃ x,ks[k]? = some x := ⟨_,List.getElem?_eq_getElem hlt⟩
              have hrk:=HROK.out.below (hst.below.mono hB)
              obtain ⟨ad',Aw',cw',Ak',ck',rfl,hab',d0,d1,d2,d3,d4,hnx⟩:=kid_at hrk k x hx
              have hwl:=HKL.out x (List.mem_of_getElem? hx)
              have lk : (k : Int) < ks.length:=by omega
              have lk0 : (0 : Int) ≤ k:=by omega
              have hlow:=hst.below.size
              have w1f : IntKind.i64.wrap ((k : Int) + 1) = (k : Int) + 1:=by rw [IntKind.wrap_i64];omega
              have hcap:=HCAP.out.1
              have lkc : (k : Int) ≤ ck:=by omega
              have ck0 : ¬ ck = 0:=by omega
              have HHAS:=zh (fun (s : Bytes) W (hW : Below w.heap.size w W) => has_take ks s (some ad') k ck W B (Nat.le_trans hB hW.size) hkl (by omega) (HROK.out.below (hW.mono hB)))
              obtain ⟨q1,hq1⟩ : ∃ q,(x.name == [112,101,114,105,111,100,115]) = q:=⟨_,rfl⟩
              obtain ⟨q2,hq2⟩ : ∃ q,(x.name == [112,97,121]) = q:=⟨_,rfl⟩
              obtain ⟨s1,hs1⟩ : ∃ q,((ks.take k).map NodeL.name).contains b_pay = q:=⟨_,rfl⟩
              obtain ⟨s2,hs2⟩ : ∃ q,((ks.take k).map NodeL.name).contains b_periods = q:=⟨_,rfl⟩
              obtain ⟨sd,hsd⟩ : ∃ q,standsC ce.kind x.name = q:=⟨_,rfl⟩
              have H3:=zh (fits_three hx hfl q1 q2 s1 s2 sd hq1 hq2 hs1 hs2 hsd)
              have H12 := zh (show ¬ (q1 = true ∧ q2 = true) from fun ⟨h1,h2⟩ => by
                rw [h1] at hq1;rw [h2] at hq2
                have e1:=beq_iff_eq.1 hq1
                rw [e1] at hq2
                revert hq2;decide)
              have HPAY:=zh (fun W hW => by have h:=HHAS.out b_pay W hW;rw [hs1] at h;exact h)
              have HPER:=zh (fun W hW => by have h:=HHAS.out b_periods W hW;rw [hs2] at h;exact h)
              have HWI:=zh (fun W => r11_with ce.kind x.name W hkd.1 hkd.2)
              rw [hsd] at HWI
              clear hs1 hs2 hsd hfl HHAS
              obtain ⟨xn,xp,xw,xb,xk⟩:=x
              dsimp only [NodeL.name,NodeL.pos,NodeL.words,NodeL.block,NodeL.kids] at *
              have hbx:=below_cal wr (.cells #[.string ⟨xn.toArray⟩, .int .i64 xp, .slice Aw' xw.length cw', .bool xb, .slice Ak' xk.length ck'] 25)
              have hxx:=heap_alloc_new wr (.cells #[.string ⟨xn.toArray⟩, .int .i64 xp, .slice Aw' xw.length cw', .bool xb, .slice Ak' xk.length ck'] 25)
              have hstA:=hst.keep hbx
              have HBX:=zh hbx
              have HSTA:=zh hstA
              have HXX:=zh hxx
              have HST:=zh hst
              have HX:=zh hx
              have hbrw : br < wr.heap.size:=hst.res.lt
              have hbrx : br ≠ wr.heap.size:=Nat.ne_of_lt hbrw
              have hbcw : bc < wr.heap.size:=hst.cal.lt
              have hbcx : bc ≠ wr.heap.size:=Nat.ne_of_lt hbcw
              have hbnw : bn < wr.heap.size:=(Array.getElem?_eq_some_iff.1 hst.node).1
              have hbnx : bn ≠ wr.heap.size:=Nat.ne_of_lt hbnw
              clear hbx hstA hxx hwl hrk hnx hst hx
              clear HX
              have x0:=zb HXX.out 0
              have g1:=zb HSTA.out.cal 1
              rw [show (b_pay.toArray : Array UInt8) = #[112,97,121] from rfl] at HPAY
              rw [show (b_periods.toArray : Array UInt8) = #[112,101,114,105,111,100,115] from rfl] at HPER
              go_wp2_with fail
              refine (HWI.out _).mono ?_
              rintro e w2 ⟨rfl,hw2⟩
              have HSTB:=zh (hw2 ▸ HSTA.out)
              have HXB:=zh (hw2 ▸ HXX.out)
              clear g1 x0 HWI d0 d1 d2 d3 d4 HSTA HXX HBX hw2
              have x0:=zb HXB.out 0
              cases sd
              · have HE := zh (H3.out.1 (by trivial))
                obtain ⟨rfl,rfl⟩:=Prod.mk.inj (Option.some.inj (HF.out.symm.trans HE.out))
                have HW:=HSTB
                have HXW:=HXB
                clear HPAY HPER
                go_wp2_with fail
                have hres:=HW.out.res
                have x1:=zb HXW.out 1
                dsimp only [CalBlk,calZ] at hres
                obtain ⟨n0,n1,n2,n3,n4,n5,n6,n7,n8,n9,n10,n11,n12,n13⟩:=cells14 hres
                obtain ⟨fz0,fz1,fz2,fz3,fz4,fz5,fz6,fz7,fz8,fz9,fz10,fz11,fz12,fz13⟩:=unf14 hres
                have lz:=(Array.getElem?_eq_some_iff.1 hres).1
                clear hres
                go_region
                all_goals (
                  go_wp2_with fail
                  refine bodyPost_ret (v:=.tuple #[calV calZ, .int .i64 p', .int .i64 8]) (by simp [results,calV,calZ,Try.results8,go_sem, *]) rfl ?_
                  rw [← HQ.out]
                  refine ⟨rfl,Below.drew ?_⟩
                  iterate 14 refine Below.setCell ?_ HW.out.low.2.1 _
                  exact HW.out.below)
              · have r4 := zb HSTB.out.node 4
                cases q1
                · cases q2
                  · have HG := zh (H3.out.2.2.2.2 (by trivial) (by trivial) (by trivial))
                    clear HPAY HPER r4
                    go_wp2_with fail
                    exact ⟨⟨k + 1,by omega,by go_num,HSTB.out,HG.out⟩,by simp [intOf];omega⟩
                  · clear HPAY
                    go_wp2_with fail
                    refine (HPER.out _ HSTB.out.below).mono ?_
                    rintro e w3 ⟨rfl,hb3⟩
                    have HW:=zh (HSTB.out.keep hb3)
                    have HXW:=zh (nod_keep HXB.out hb3)
                    clear hb3 x0 r4 HPER
                    cases s2
                    · have HG := zh (H3.out.2.2.2.1 (by trivial) (by trivial) (by trivial))
                      go_wp2_with fail
                      exact ⟨⟨k + 1,by omega,by go_num,HW.out,HG.out⟩,by simp [intOf];omega⟩
                    · have HE := zh (H3.out.2.1 (by trivial) (Or.inr ⟨by trivial,by trivial⟩))
                      obtain ⟨rfl,rfl⟩:=Prod.mk.inj (Option.some.inj (HF.out.symm.trans HE.out))
                      go_wp2_with fail
                      have hres:=HW.out.res
                      have x1:=zb HXW.out 1
                      dsimp only [CalBlk,calZ] at hres
                      obtain ⟨n0,n1,n2,n3,n4,n5,n6,n7,n8,n9,n10,n11,n12,n13⟩:=cells14 hres
                      obtain ⟨fz0,fz1,fz2,fz3,fz4,fz5,fz6,fz7,fz8,fz9,fz10,fz11,fz12,fz13⟩:=unf14 hres
                      have lz:=(Array.getElem?_eq_some_iff.1 hres).1
                      clear hres
                      go_region
                      all_goals (
                        go_wp2_with fail
                        refine bodyPost_ret (v:=.tuple #[calV calZ, .int .i64 p', .int .i64 9]) (by simp [results,calV,calZ,Try.results8,go_sem, *]) rfl ?_
                        rw [← HQ.out]
                        refine ⟨rfl,Below.drew ?_⟩
                        iterate 14 refine Below.setCell ?_ HW.out.low.2.1 _
                        exact HW.out.below)
                · have hq2f : q2 = false := by
                    cases hq : q2
                    · rfl
                    · exact absurd ⟨rfl,hq⟩ H12.out
                  subst hq2f
                  clear HPER
                  go_wp2_with fail
                  refine (HPAY.out _ HSTB.out.below).mono ?_
                  rintro e w3 ⟨rfl,hb3⟩
                  have HW:=zh (HSTB.out.keep hb3)
                  have HXW:=zh (nod_keep HXB.out hb3)
                  clear hb3 x0 r4 HPAY
                  have x0:=zb HXW.out 0
                  cases s1
                  · have HG := zh (H3.out.2.2.1 (by trivial) (by trivial) (by trivial))
                    go_wp2_with fail
                    exact ⟨⟨k + 1,by omega,by go_num,HW.out,HG.out⟩,by simp [intOf];omega⟩
                  · have HE := zh (H3.out.2.1 (by trivial) (Or.inl ⟨by trivial,by trivial⟩))
                    obtain ⟨rfl,rfl⟩:=Prod.mk.inj (Option.some.inj (HF.out.symm.trans HE.out))
                    go_wp2_with fail
                    have hres:=HW.out.res
                    have x1:=zb HXW.out 1
                    dsimp only [CalBlk,calZ] at hres
                    obtain ⟨n0,n1,n2,n3,n4,n5,n6,n7,n8,n9,n10,n11,n12,n13⟩:=cells14 hres
                    obtain ⟨fz0,fz1,fz2,fz3,fz4,fz5,fz6,fz7,fz8,fz9,fz10,fz11,fz12,fz13⟩:=unf14 hres
                    have lz:=(Array.getElem?_eq_some_iff.1 hres).1
                    clear hres
                    go_region
                    all_goals (
                      go_wp2_with fail
                      refine bodyPost_ret (v:=.tuple #[calV calZ, .int .i64 p', .int .i64 9]) (by simp [results,calV,calZ,Try.results8,go_sem, *]) rfl ?_
                      rw [← HQ.out]
                      refine ⟨rfl,Below.drew ?_⟩
                      iterate 14 refine Below.setCell ?_ HW.out.low.2.1 _
                      exact HW.out.below)
            · have hk2 : k = ks.length := by omega
              rw [hk2,List.drop_length,fitsL,HF.out] at hfl
              cases hfl
end Go.Proofs.Ytpkhocbohhpmbaa
