/- Layer 11 (field), the reference: the walk of has. Then: Layer 11 (field), the reference's Read: the state between its statements. Then: Layer 11 (field), the reference: the walk of Read: an item that may not be by itself. -/
import Derived.Test.YtpkhocbohhpmbaaPkR29
import Derived.Test.YtpkhocbohhpmbaaPkR43
import Derived.Test.YtpkhocbohhpmbaaPkR28
import Derived.Test.YtpkhocbohhpmbaaPkR39
import Derived.Test.YtpkhocbohhpmbaaPkR35
import Derived.Deep.DeepCutAuto
import Derived.BigRegion
set_option linter.unusedVariables false
set_option linter.unusedSimpArgs false
set_option maxRecDepth 100000
namespace Go.Proofs.Ytpkhocbohhpmbaa
section
open Go.RowKit
open Go.Lib renaming hid → zh
set_option maxHeartbeats 2000000 in
theorem r11_has (ks : List NodeL) (s : Bytes) (A : Option Addr) (c : Nat) (w : World) (B : Nat) (hB : B ≤ w.heap.size) (hlen : ks.length ≤ 100000) (hok : ROk w B A ks) :
    Calls Try.prog 24 #[.slice A ks.length c, .string ⟨s.toArray⟩] w fun e w' => e = .returned (.bool ((ks.map NodeL.name).contains s)) ∧ Below w.heap.size w w':=by
  have HOK:=zh hok
  obtain ⟨R,hR⟩ : ∃ R,(ks.map NodeL.name).contains s = R:=⟨_,rfl⟩
  rw [hR]
  have HR:=zh hR
  clear hok hR
  go_enter Try.func24,Try.ntmps24
  go_wp2_with fail
  go_loopw [9] (fun i wr => ∃ k : Nat,k ≤ ks.length ∧ i = .int .i64 k ∧ Below w.heap.size w wr ∧ R = ((ks.drop k).map NodeL.name).contains s) (fun i _ => ks.length - (intOf i).toNat)
  case atStart => exact ⟨0,Nat.zero_le _,rfl,Below.refl _ _,HR.out.symm⟩
  case round =>
    obtain ⟨k,hk,rfl,hb,hs⟩:=hrel
    have hbs:=hb.size
    by_cases hlt : k < ks.length
    · obtain ⟨x,hx⟩ : ∃ x,ks[k]? = some x := ⟨_,List.getElem?_eq_getElem hlt⟩
      have hk' : ∀ q : Addr,q.block < B → wr.cell? q = w.cell? q:=fun q hq => hb.cell (by omega)
      obtain ⟨kcs,hrk,hks⟩:=HOK.out
      obtain ⟨ad',Aw',cw',Ak',ck',kcs',rfl,hab',d0,d1,d2,d3,d4,_,_,hrw',_,_⟩:=node_cells (hrk.keep (fun _ h => h) hk') (NodesOk.keep (fun _ h => h) hk' ks kcs hks) k x hx
      have hxd : ks.drop k = x :: ks.drop (k + 1) := by
        rw [List.drop_eq_getElem_cons hlt];congr 1;exact (List.getElem?_eq_some_iff.1 hx).2
      rw [hxd,List.map_cons,List.contains_cons] at hs
      have lk : (k : Int) < ks.length:=by omega
      have lk0 : (0 : Int) ≤ k:=by omega
      have w1f : IntKind.i64.wrap ((k : Int) + 1) = (k : Int) + 1:=by rw [IntKind.wrap_i64];omega
      obtain ⟨xn,xp,xw,xb,xk⟩:=x
      dsimp only [NodeL.name,NodeL.pos,NodeL.words,NodeL.block,NodeL.kids] at *
      obtain ⟨q,hq⟩ : ∃ q,(xn == s) = q:=⟨_,rfl⟩
      have hq' : (s == xn) = q:=by rw [← hq];exact BEq.comm
      rw [hq'] at hs
      have HB:=zh (hb.alloc hbs (.cells #[.string ⟨xn.toArray⟩, .int .i64 xp, .slice Aw' xw.length cw', .bool xb, .slice Ak' xk.length ck'] 25))
      have HS:=zh hs
      clear hs hb hk' hrk hks hrw' hx hxd hq'
      cases q
      · go_wp2_with fail
        exact ⟨⟨k + 1,by omega,by go_num,HB.out,by rw [HS.out,Bool.false_or]⟩,by simp [intOf];omega⟩
      · go_wp2_with fail
        go_ret
        exact ⟨by rw [HS.out];rfl,HB.out⟩
    · have lk : ¬ (k : Int) < ks.length := by omega
      have hk2 : k = ks.length:=by omega
      rw [hk2,List.drop_length] at hs
      have HS:=zh hs
      clear hs hk2
      go_wp2_with fail
      go_ret
      exact ⟨by rw [HS.out];rfl,hb⟩
end
section
open Go.RowKit
theorem NodesOk.take {w : World} {M : Nat → Prop} : ∀ (l : List NodeL) (k : Nat) (cs : List Value),NodesOk w M l cs → NodesOk w M (l.take k) (cs.take (k * 5))
  | [],k,cs,h => by simp only [NodesOk] at h;subst h;simp [NodesOk]
  | x :: r,0,cs,h => by simp [NodesOk]
  | x :: r,k + 1,cs,h => by
    simp only [NodesOk] at h
    obtain ⟨a,b,rfl,h2,h3⟩:=h
    have ih:=NodesOk.take r k b h3
    rw [List.take_succ_cons]
    simp only [NodesOk]
    refine ⟨a,b.take (k * 5),?_,h2,ih⟩
    rw [List.take_append,h2.len,show (k + 1) * 5 - 5 = k * 5 by omega,List.take_of_length_le (by rw [h2.len];omega)]
theorem ROk.take {w : World} {B : Nat} {A : Option Addr} {l : List NodeL} (h : ROk w B A l) (k : Nat) (hk : k ≤ l.length) : ROk w B A (l.take k) := by
  obtain ⟨cs,⟨h1,h2⟩,h3⟩:=h
  refine ⟨cs.take (k * 5),⟨by rw [List.length_take,List.length_take,h1];omega,fun h0 => ?_⟩,NodesOk.take l k cs h3⟩
  rw [List.length_take] at h0
  obtain ⟨ad,e,hb,hc⟩:=h2 (by omega)
  refine ⟨ad,e,hb,fun j u hj => hc j u ?_⟩
  have hlt:=(List.getElem?_eq_some_iff.1 hj).1
  rw [List.length_take] at hlt
  rw [List.getElem?_take_of_lt (by omega)] at hj
  exact hj
/-- has,over the first items of a slice. -/
theorem has_take (ks : List NodeL) (s : Bytes) (A : Option Addr) (k c : Nat) (w : World) (B : Nat) (hB : B ≤ w.heap.size) (hlen : ks.length ≤ 100000) (hk : k ≤ ks.length) (hok : ROk w B A ks) :
    Calls Try.prog 24 #[.slice A k c, .string ⟨s.toArray⟩] w fun e w' => e = .returned (.bool (((ks.take k).map NodeL.name).contains s)) ∧ Below w.heap.size w w':=by
  have h:=r11_has (ks.take k) s A c w B hB (by rw [List.length_take];omega) (hok.take k hk)
  rwa [List.length_take,Nat.min_eq_left hk] at h
/-- The state between two statements of Read: its item,its result,the keys' names,the calendar. -/
structure RdW (w W : World) (bn br bk bc : Nat) (nm : Bytes) (p : Int) (ad : Addr) (cw : Nat) (Ak : Option Addr) (kl ck : Nat) (c : CalL) : Prop where
  below : Below w.heap.size w W
  low : w.heap.size ≤ bn ∧ w.heap.size ≤ br ∧ w.heap.size ≤ bk ∧ w.heap.size ≤ bc
  dis : bn ≠ br ∧ bn ≠ bk ∧ bn ≠ bc ∧ br ≠ bk ∧ br ≠ bc ∧ bk ≠ bc
  node : W.heap[bn]? = some (nodO nm p (some ad) 1 cw true Ak kl ck)
  res : CalBlk W br calZ
  keys : StrBlk W bk keysR
  cal : CalBlk W bc c
theorem RdW.keep {w W W' : World} {bn br bk bc : Nat} {nm : Bytes} {p : Int} {ad : Addr} {cw : Nat} {Ak : Option Addr} {kl ck : Nat} {c : CalL} (h : RdW w W bn br bk bc nm p ad cw Ak kl ck c) (hb : Below W.heap.size W W') : RdW w W' bn br bk bc nm p ad cw Ak kl ck c :=
  ⟨h.below.trans (hb.mono h.below.size),h.low,h.dis,(hb.block _ (Array.getElem?_eq_some_iff.1 h.node).1).trans h.node,h.res.keep hb,h.keys.keep hb,h.cal.keep hb⟩
theorem RdW.put {w W W' : World} {bn br bk bc : Nat} {nm : Bytes} {p : Int} {ad : Addr} {cw : Nat} {Ak : Option Addr} {kl ck : Nat} {c c' : CalL} (h : RdW w W bn br bk bc nm p ad cw Ak kl ck c) (hs : Step W W' [] (some bc)) (hc : CalBlk W' bc c') : RdW w W' bn br bk bc nm p ad cw Ak kl ck c' := by
  obtain ⟨h1,h2,h3,h4,h5,⟨T,h6⟩,h7⟩:=h
  refine ⟨Step.toBelow h1 hs h2.2.2.2 h1.size,h2,h3,?_,?_,⟨T,?_⟩,hc⟩
  · exact (hs.block bn (Array.getElem?_eq_some_iff.1 h4).1 (by simp) (by intro e;injection e with e;exact h3.2.2.1 e)).trans h4
  · exact (hs.block br h5.lt (by simp) (by intro e;injection e with e;exact h3.2.2.2.2.1 e)).trans h5
  · exact (hs.block bk (Array.getElem?_eq_some_iff.1 h6).1 (by simp) (by intro e;injection e with e;exact h3.2.2.2.2.2 e)).trans h6
theorem nod_keep {W W' : World} {bx : Nat} {o : Obj} (h : W.heap[bx]? = some o) (hb : Below W.heap.size W W') : W'.heap[bx]? = some o:=(hb.block _ (Array.getElem?_eq_some_iff.1 h).1).trans h
/-- What Read does with a kid: what the walk reads of it. -/
theorem kid_at {w : World} {B : Nat} {A : Option Addr} {l : List NodeL} (h : ROk w B A l) (i : Nat) (n : NodeL) (hi : l[i]? = some n) :
    ∃ ad Aw cw Ak ck,A = some ad ∧ ad.block < B ∧ w.cell? (ad.add (i * 5)) = some (.string ⟨n.name.toArray⟩) ∧ w.cell? ⟨(ad.add (i * 5)).block,(ad.add (i * 5)).off + 1,none⟩ = some (.int .i64 n.pos) ∧
      w.cell? ⟨(ad.add (i * 5)).block,(ad.add (i * 5)).off + 2,none⟩ = some (.slice Aw n.words.length cw) ∧ w.cell? ⟨(ad.add (i * 5)).block,(ad.add (i * 5)).off + 3,none⟩ = some (.bool n.block) ∧
      w.cell? ⟨(ad.add (i * 5)).block,(ad.add (i * 5)).off + 4,none⟩ = some (.slice Ak n.kids.length ck) ∧ NodeOk w (· < B) n [.string ⟨n.name.toArray⟩, .int .i64 n.pos, .slice Aw n.words.length cw, .bool n.block, .slice Ak n.kids.length ck]:=by
  obtain ⟨cs,h1,h2⟩:=h
  obtain ⟨ad,Aw,cw,Ak,ck,kcs,e,hM,c0,c1,c2,c3,c4,n1,n2,hw,hk,hkn⟩:=node_cells h1 h2 i n hi
  refine ⟨ad,Aw,cw,Ak,ck,e,hM,c0,c1,c2,c3,c4,?_⟩
  obtain ⟨nm,p,ws,b,ks⟩:=n
  simp only [NodeOk]
  exact ⟨Aw,cw,Ak,ck,kcs,rfl,n1,n2,hw,hk,hkn⟩
/-- The first look at an item,by its three questions. -/
theorem pass_four {nm : Bytes} {ks : List NodeL} {k : Nat} {x : NodeL} {R : Option (Int × Int)} (h : ks[k]? = some x) (hR : R = passL nm ((ks.map NodeL.name).take k) (ks.drop k)) (sn ko : Bool) (hs : ((ks.take k).map NodeL.name).contains x.name = sn) (ho : keyOkL nm x = ko) :
    (keysL.contains x.name = false → R = some (x.pos,8)) ∧ (keysL.contains x.name = true → sn = true → R = some (x.pos,9)) ∧ (keysL.contains x.name = true → sn = false → ko = false → R = some (x.pos,5)) ∧
      (keysL.contains x.name = true → sn = false → ko = true → R = passL nm ((ks.map NodeL.name).take (k + 1)) (ks.drop (k + 1))):=by
  rw [pass_step h,hs,ho] at hR
  refine ⟨fun h1 => ?_,fun h1 h2 => ?_,fun h1 h2 h3 => ?_,fun h1 h2 h3 => ?_⟩
  · rw [h1] at hR;exact hR
  · rw [h1,h2] at hR;exact hR
  · rw [h1,h2,h3] at hR;exact hR
  · rw [h1,h2,h3] at hR;exact hR
/-- The second look at an item,by its questions. -/
theorem fits_three {kind : Int} {ks : List NodeL} {k : Nat} {x : NodeL} {R : Option (Int × Int)} (h : ks[k]? = some x) (hR : R = fitsL kind ((ks.map NodeL.name).take k) (ks.drop k)) (q1 q2 s1 s2 sd : Bool)
    (h1 : (x.name == [112,101,114,105,111,100,115]) = q1) (h2 : (x.name == [112,97,121]) = q2) (hs1 : ((ks.take k).map NodeL.name).contains b_pay = s1) (hs2 : ((ks.take k).map NodeL.name).contains b_periods = s2) (hsd : standsC kind x.name = sd) :
    (sd = false → R = some (x.pos,8)) ∧ (sd = true → ((q1 = true ∧ s1 = true) ∨ (q2 = true ∧ s2 = true)) → R = some (x.pos,9)) ∧
      (sd = true → q1 = true → s1 = false → R = fitsL kind ((ks.map NodeL.name).take (k + 1)) (ks.drop (k + 1))) ∧
      (sd = true → q2 = true → s2 = false → R = fitsL kind ((ks.map NodeL.name).take (k + 1)) (ks.drop (k + 1))) ∧
      (sd = true → q1 = false → q2 = false → R = fitsL kind ((ks.map NodeL.name).take (k + 1)) (ks.drop (k + 1))):=by
  have e1 : (q1 = true) ↔ x.name = b_periods:=by rw [← h1];exact beq_iff_eq
  have e2 : (q2 = true) ↔ x.name = b_pay:=by rw [← h2];exact beq_iff_eq
  have hne : b_periods ≠ b_pay:=by decide
  rw [fits_step h,hsd,hs1,hs2] at hR
  refine ⟨fun a => ?_,fun a b => ?_,fun a b c => ?_,fun a b c => ?_,fun a b c => ?_⟩
  · rw [a] at hR;exact hR
  · rw [a] at hR
    simp only [Bool.not_true,Bool.false_eq_true,if_false] at hR
    rw [if_pos (by rcases b with b | b;exact .inl ⟨e1.1 b.1,b.2⟩;exact .inr ⟨e2.1 b.1,b.2⟩)] at hR
    exact hR
  · rw [a] at hR
    simp only [Bool.not_true,Bool.false_eq_true,if_false] at hR
    rw [if_neg (by
      rintro (d | d)
      · rw [c] at d;cases d.2
      · exact hne ((e1.1 b).symm.trans d.1))] at hR
    exact hR
  · rw [a] at hR
    simp only [Bool.not_true,Bool.false_eq_true,if_false] at hR
    rw [if_neg (by
      rintro (d | d)
      · exact hne (d.1.symm.trans (e2.1 b))
      · rw [c] at d;cases d.2)] at hR
    exact hR
  · rw [a] at hR
    simp only [Bool.not_true,Bool.false_eq_true,if_false] at hR
    rw [if_neg (by
      rintro (d | d)
      · rw [e1.2 d.1] at b;cases b
      · rw [e2.2 d.1] at c;cases c)] at hR
    exact hR
theorem dec_beq (s l : Bytes) : decide (s = l) = (s == l):=by rw [Bool.eq_iff_iff,decide_eq_true_iff,beq_iff_eq]
end
section
open Go.RowKit
open Go.Joins renaming cell_of_block → zb, unfrozen_of_block → zu
open Go.Lib renaming hid → zh
set_option maxHeartbeats 16000000 in
theorem r11_Read_pass (p tn : Int) (ts : Bytes) (tp : Int) (ks : List NodeL) (ad : Addr) (cw : Nat) (Ak : Option Addr) (ck : Nat) (w : World) (B : Nat) (hB : B ≤ w.heap.size) (hn : NodeOk w (· < B) (.mk b_calendar p [⟨false,tn,ts,tp⟩] true ks) [.string ⟨b_calendar.toArray⟩, .int .i64 p, .slice (some ad) 1 cw, .bool true, .slice Ak ks.length ck]) (hsm : cntL [.mk b_calendar p [⟨false,tn,ts,tp⟩] true ks] ≤ 100000) (hfit : fitNs [.mk b_calendar p [⟨false,tn,ts,tp⟩] true ks]) (hck : checkL 0 [.mk b_calendar p [⟨false,tn,ts,tp⟩] true ks] = 0) (hcap : ks.length ≤ ck) (p' er : Int) (hp : passL ts [] ks = some (p',er)) :
    Calls Try.prog 8 #[.agg #[.string ⟨b_calendar.toArray⟩, .int .i64 p, .slice (some ad) 1 cw, .bool true, .slice Ak ks.length ck]] w (fun e w' => e = .returned (.tuple #[calV calZ, .int .i64 p', .int .i64 er]) ∧ Below w.heap.size w w'):=by
  have hrok0 : ROk w B Ak ks := by
    simp only [NodeOk] at hn
    obtain ⟨Aw,cw',Ak',ck',kcs,he,_,_,_,h5,h6⟩:=hn
    simp only [List.cons.injEq,Value.slice.injEq,true_and,and_true] at he
    obtain ⟨_,rfl,rfl⟩:=he
    exact ⟨kcs,h5,h6⟩
  have hword : ReadsM w (· < B) 4 (some ad) 1 [.bool false, .int .i64 tn, .string ⟨ts.toArray⟩, .int .i64 tp] := by
    simp only [NodeOk] at hn
    obtain ⟨Aw,cw',Ak',ck',kcs,he,_,_,h4,_,_⟩:=hn
    simp only [List.cons.injEq,Value.slice.injEq,true_and,and_true] at he
    obtain ⟨⟨rfl,_⟩,_⟩:=he
    exact h4
  obtain ⟨ad1,had,hadb,wc⟩:=hword.2 (by decide)
  injection had with had
  subst had
  have wc0:=wc 0 _ rfl
  have wc2:=wc 2 _ rfl
  rw [show ad.add 0 = ad from rfl] at wc0
  rw [show ad.add 2 = ⟨ad.block,ad.off + 2,none⟩ from rfl] at wc2
  have hts : ts.length ≤ maxLen:=hfit.1.2.2.1 _ (List.mem_singleton.2 rfl)
  have HTS:=zh hts
  clear hts
  have HROK:=zh hrok0
  have HKL:=zh (kids_words _ p _ true ks hck)
  have hkl : ks.length ≤ 100000 := by
    have h2:=cntL_len ks
    simp only [cntL,cntN] at hsm
    omega
  have HP:=zh hp
  clear hp
  generalize hQ : (fun (e : Ending) (w' : World) => e = .returned (.tuple #[calV calZ, .int .i64 p', .int .i64 er]) ∧ Below w.heap.size w w') = Q
  have HQ:=zh hQ
  have HTC : Hid (∀ (W : World) (g B' : Nat),B' ≤ W.heap.size → ROk W B' (some ⟨g,0,none⟩) [.mk b_calendar p [⟨false,tn,ts,tp⟩] true ks] → Calls Try.prog 22 #[.slice (some ⟨g,0,none⟩) 1 1] W fun e w' => e = .returned (.int .i64 0) ∧ Below W.heap.size W w') := zh (fun W g B' h1 h2 => by
    have:=ref9_Check [.mk b_calendar p [⟨false,tn,ts,tp⟩] true ks] (some ⟨g,0,none⟩) 1 W B' hsm h1 h2 hfit
    rw [hck] at this
    exact this)
  have HN:=zh hn
  have HCAP:=zh (And.intro hcap hkl)
  clear hn hsm hfit hck hQ hrok0 hword wc hcap
  rw [show (b_calendar.toArray : Array UInt8) = #[99,97,108,101,110,100,97,114] from rfl] at *
  go_enter Try.func8,Try.ntmps8
  go_wp2_with fail
  have hB3:=threeK w (.cells #[.string ⟨#[99,97,108,101,110,100,97,114]⟩, .int .i64 p, .slice (some ad) 1 cw, .bool true, .slice Ak ks.length ck] 25) (.cells #[.string ⟨#[]⟩, .int .i64 0, .int .i64 0, .int .i64 0, .int .i64 0, .int .i64 0, .int .i64 0, .int .i64 0, .int .i64 0, .int .i64 0, .int .i64 0, .int .i64 0, .int .i64 0, .int .i64 0] 30) (.cells #[.string ⟨#[99,97,108,101,110,100,97,114]⟩, .int .i64 p, .slice (some ad) 1 cw, .bool true, .slice Ak ks.length ck] 25)
  obtain ⟨W0,hW0⟩ : ∃ W0,((w.alloc (.cells #[.string ⟨#[99,97,108,101,110,100,97,114]⟩, .int .i64 p, .slice (some ad) 1 cw, .bool true, .slice Ak ks.length ck] 25)).alloc (.cells #[.string ⟨#[]⟩, .int .i64 0, .int .i64 0, .int .i64 0, .int .i64 0, .int .i64 0, .int .i64 0, .int .i64 0, .int .i64 0, .int .i64 0, .int .i64 0, .int .i64 0, .int .i64 0, .int .i64 0] 30)).alloc (.cells #[.string ⟨#[99,97,108,101,110,100,97,114]⟩, .int .i64 p, .slice (some ad) 1 cw, .bool true, .slice Ak ks.length ck] 25) = W0:=⟨_,rfl⟩
  rw [hW0] at hB3
  rw [hW0]
  obtain ⟨hb0,x0,x1,x2,z0⟩:=hB3
  have hrok : ROk W0 W0.heap.size (some ⟨w.heap.size + 1 + 1,0,none⟩) [.mk b_calendar p [⟨false,tn,ts,tp⟩] true ks] := by
    refine ⟨[.string ⟨b_calendar.toArray⟩, .int .i64 p, .slice (some ad) 1 cw, .bool true, .slice Ak ks.length ck],⟨rfl,fun _ => ⟨_,rfl,by show w.heap.size + 1 + 1 < _;omega,fun j u hu => ?_⟩⟩,NodesOk.one (NodeOk.keep (M:=(· < B)) (fun b hb => by show b < _;omega) (fun q hq => hb0.cell (by omega)) _ _ HN.out)⟩
    have : (⟨w.heap.size + 1 + 1,0,none⟩ : Addr).add j = ⟨w.heap.size + 1 + 1,j,none⟩ := by
      unfold Addr.add
      split
      · next h => subst h;rfl
      · simp
    rw [this,zb x2 j]
    have hu2 : ([.string ⟨#[99,97,108,101,110,100,97,114]⟩, .int .i64 p, .slice (some ad) 1 cw, .bool true, .slice Ak ks.length ck] : List Value)[j]? = some u:=hu
    simpa using hu2
  refine (HTC.out W0 _ _ (Nat.le_refl _) hrok).mono ?_
  rintro e w1 ⟨rfl,hb1⟩
  have hbw : Below w.heap.size w w1:=hb0.trans (hb1.mono hb0.size)
  have y0:=(hb1.block w.heap.size (by omega)).trans x0
  have y1 : CalBlk w1 (w.heap.size + 1) calZ:=(hb1.block (w.heap.size + 1) (by omega)).trans x1
  obtain ⟨br,hbr⟩ : ∃ x,x = w.heap.size + 1:=⟨_,rfl⟩
  obtain ⟨bn,hbn⟩ : ∃ x,x = w.heap.size:=⟨_,rfl⟩
  rw [← hbr] at y1
  rw [← hbn] at y0
  rw [← hbr,← hbn]
  have m0:=zb y0 0
  have m1:=zb y0 1
  have m2:=zb y0 2
  have m3:=zb y0 3
  have m4:=zb y0 4
  have v0:=(hbw.cell (p:=ad) (by omega)).trans wc0
  have v2:=(hbw.cell (p:=⟨ad.block,ad.off + 2,none⟩) (by show ad.block < _;omega)).trans wc2
  have ln:=(Array.getElem?_eq_some_iff.1 y0).1
  have hadl : ad.block < w1.heap.size:=by have:=hbw.size;omega
  have hK2 := fun (oK oC : Obj) => (show Below w1.heap.size w1 ((w1.alloc oK).alloc oC) ∧ ((w1.alloc oK).alloc oC).heap[w1.heap.size]? = some oK ∧ ((w1.alloc oK).alloc oC).heap[w1.heap.size + 1]? = some oC from by
    have z1 : (w1.alloc oK).heap.size = w1.heap.size + 1:=by simp
    exact ⟨((Below.refl _ _).alloc (Nat.le_refl _) _).alloc (by omega) _,(Go.heap_alloc_old _ _ (by omega)).trans (heap_alloc_new w1 oK),by rw [← z1];exact heap_alloc_new _ oC⟩)
  have HK2:=zh hK2
  have HY:=zh (And.intro y0 (And.intro y1 (And.intro hbw (And.intro hbn hbr))))
  have hlr:=y1.lt
  clear hW0 hb0 x0 x1 x2 z0 hrok hb1 hbw HTC y0 y1 wc0 wc2 hbr hbn hK2 HN
  go_wp2_with fail
  obtain ⟨hk1,hk2,hk3⟩:=HK2.out (.cells #[.string ⟨#[101,110,100]⟩, .string ⟨#[110,97,109,101,100]⟩, .string ⟨#[112,101,114,105,111,100,115]⟩, .string ⟨#[112,97,121]⟩, .string ⟨#[101,120,116,114,97]⟩, .string ⟨#[115,101,114,118,101]⟩, .string ⟨#[99,111,109,112,97,114,101]⟩] 9) (.cells #[.string ⟨ts.toArray⟩, .int .i64 0, .int .i64 0, .int .i64 0, .int .i64 0, .int .i64 0, .int .i64 0, .int .i64 0, .int .i64 0, .int .i64 0, .int .i64 0, .int .i64 0, .int .i64 0, .int .i64 0] 30)
  obtain ⟨bc,hbc⟩ : ∃ x,x = w1.heap.size + 1:=⟨_,rfl⟩
  obtain ⟨bk,hbk⟩ : ∃ x,x = w1.heap.size:=⟨_,rfl⟩
  rw [← hbc] at hk3
  rw [← hbk] at hk2
  rw [← hbc,← hbk]
  generalize hW2 : (w1.alloc (.cells #[.string ⟨#[101,110,100]⟩, .string ⟨#[110,97,109,101,100]⟩, .string ⟨#[112,101,114,105,111,100,115]⟩, .string ⟨#[112,97,121]⟩, .string ⟨#[101,120,116,114,97]⟩, .string ⟨#[115,101,114,118,101]⟩, .string ⟨#[99,111,109,112,97,114,101]⟩] 9)).alloc (.cells #[.string ⟨ts.toArray⟩, .int .i64 0, .int .i64 0, .int .i64 0, .int .i64 0, .int .i64 0, .int .i64 0, .int .i64 0, .int .i64 0, .int .i64 0, .int .i64 0, .int .i64 0, .int .i64 0, .int .i64 0] 30) = W2 at hk1 hk2 hk3 ⊢
  have HS : Hid (RdW w W2 bn br bk bc [99,97,108,101,110,100,97,114] p ad cw Ak ks.length ck (calN ts)) := zh (by
    obtain ⟨q0,q1,q2,q3,q4⟩:=HY.out
    have e1:=q2.size
    exact ⟨q2.trans (hk1.mono q2.size),⟨by omega,by omega,by omega,by omega⟩,⟨by omega,by omega,by omega,by omega,by omega,by omega⟩,(hk1.block bn ln).trans q0,q1.keep hk1,⟨_,hk2⟩,hk3⟩)
  clear hk1 hk2 hk3 hW2 HK2 HY v0 v2 m0 m1 m2 m3 m4 hlr ln hadl hbc hbk
  go_loopw [59] (fun i wr => ∃ k : Nat,k ≤ ks.length ∧ i = .int .i64 k ∧ RdW w wr bn br bk bc [99,97,108,101,110,100,97,114] p ad cw Ak ks.length ck (calN ts) ∧ passL ts [] ks = passL ts ((ks.map NodeL.name).take k) (ks.drop k)) (fun i _ => ks.length - (intOf i).toNat)
  case atStart => exact ⟨0,Nat.zero_le _,rfl,HS.out,by simp⟩
  case round =>
    clear HS
    obtain ⟨k,hk,rfl,hst,hpl⟩:=hrel
    have hlow:=hst.below.size
    have hcap:=HCAP.out.1
    by_cases hlt : k < ks.length
    · obtain ⟨x,hx⟩ : ∃ x,ks[k]? = some x := ⟨_,List.getElem?_eq_getElem hlt⟩
      have hrk:=HROK.out.below (hst.below.mono hB)
      obtain ⟨ad',Aw',cw',Ak',ck',rfl,hab',d0,d1,d2,d3,d4,hnx⟩:=kid_at hrk k x hx
      obtain ⟨sn,hsn⟩ : ∃ sn,((ks.take k).map NodeL.name).contains x.name = sn:=⟨_,rfl⟩
      obtain ⟨ko,hko⟩ : ∃ ko,keyOkL ts x = ko:=⟨_,rfl⟩
      have h4:=pass_four hx hpl sn ko hsn hko
      have hz:=placeR_zero x.name
      have hwl:=HKL.out x (List.mem_of_getElem? hx)
      have lk : (k : Int) < ks.length:=by omega
      have lk0 : (0 : Int) ≤ k:=by omega
      have lkc : (k : Int) ≤ ck:=by omega
      have ck0 : ¬ ck = 0:=by omega
      have w1f : IntKind.i64.wrap ((k : Int) + 1) = (k : Int) + 1:=by rw [IntKind.wrap_i64];omega
      have hhas : ∀ W,Below w.heap.size w W → Calls Try.prog 24 #[.slice (some ad') k ck, .string ⟨x.name.toArray⟩] W fun e w' => e = .returned (.bool sn) ∧ Below W.heap.size W w' := fun W hW => by
        rw [← hsn]
        exact has_take ks x.name _ k ck W B (Nat.le_trans hB hW.size) hkl (by omega) (HROK.out.below (hW.mono hB))
      have hkey : ∀ W,Below wr.heap.size wr W → keysL.contains x.name = true → Calls Try.prog 25 #[calV (calN ts), .agg (#[.string ⟨x.name.toArray⟩, .int .i64 x.pos, .slice Aw' x.words.length cw', .bool x.block, .slice Ak' x.kids.length ck'])] W (KeyPost (putK x.name (calN ts) x.words).1 ko W) := fun W hW hin => by
        rw [← hko]
        exact r11_key ts x _ (calN ts) W B (by have:=hW.size;omega) (NodeOk.keep (fun _ h => h) (fun q hq => hW.cell (by have : q.block < B:=hq;omega)) _ _ hnx) (fun _ => rfl) hin (by omega)
      have HHAS:=zh hhas
      have HKEY:=zh hkey
      have H4:=zh h4
      clear hpl hsn hko h4 hhas hkey
      obtain ⟨xn,xp,xw,xb,xk⟩:=x
      dsimp only [NodeL.name,NodeL.pos,NodeL.words,NodeL.block,NodeL.kids] at *
      have HPLC:=zh (fun W h => r11_place keysR ⟨false,0,xn,0⟩ bk 7 W (by decide) h)
      obtain ⟨v,hv⟩ : ∃ v,placeW keysR ⟨false,0,xn,0⟩ = v:=⟨_,rfl⟩
      rw [hv] at HPLC hz
      have hbx:=below_cal wr (.cells #[.string ⟨xn.toArray⟩, .int .i64 xp, .slice Aw' xw.length cw', .bool xb, .slice Ak' xk.length ck'] 25)
      have hxx:=heap_alloc_new wr (.cells #[.string ⟨xn.toArray⟩, .int .i64 xp, .slice Aw' xw.length cw', .bool xb, .slice Ak' xk.length ck'] 25)
      have hstA:=hst.keep hbx
      have HBX:=zh hbx
      have HSTA:=zh hstA
      have HXX:=zh hxx
      have HST:=zh hst
      have r0:=zb hst.node 0
      have r1:=zb hst.node 1
      have r2:=zb hst.node 2
      have r3:=zb hst.node 3
      have r4:=zb hst.node 4
      have hbrw : br < wr.heap.size:=hst.res.lt
      have hbrx : br ≠ wr.heap.size:=Nat.ne_of_lt hbrw
      clear hbx hstA hxx hv hwl hrk hnx hst hx
      cases hin : keysL.contains xn
      · obtain rfl : v = 0 := hz.2 hin
        have HE:=zh (H4.out.1 hin)
        clear hz hin
        go_wp2_with fail
        refine (HPLC.out _ HSTA.out.keys).mono ?_
        rintro e w2 ⟨rfl,hb2⟩
        have HW:=zh (HSTA.out.keep hb2)
        have HXW:=zh (nod_keep HXX.out hb2)
        clear hb2 r0 r1 r2 r3 r4 d0 d1 d2 d3 d4 HPLC HKEY HHAS
        obtain ⟨rfl,rfl⟩:=Prod.mk.inj (Option.some.inj (HP.out.symm.trans HE.out))
        go_wp2_with fail
        have hres:=HW.out.res
        have x1:=zb HXW.out 1
        dsimp only [CalBlk,calZ] at hres
        obtain ⟨n0,n1,n2,n3,n4,n5,n6,n7,n8,n9,n10,n11,n12,n13⟩:=cells14 hres
        obtain ⟨fz0,fz1,fz2,fz3,fz4,fz5,fz6,fz7,fz8,fz9,fz10,fz11,fz12,fz13⟩:=unf14 hres
        have lz:=(Array.getElem?_eq_some_iff.1 hres).1
        clear hres
        go_region
        all_goals (
          go_wp2_with fail
          refine bodyPost_ret (v:=.tuple #[calV calZ, .int .i64 p', .int .i64 8]) (by simp [results,calV,calZ,Try.results8,go_sem, *]) rfl ?_
          rw [← HQ.out]
          refine ⟨rfl,Below.drew ?_⟩
          iterate 14 refine Below.setCell ?_ HW.out.low.2.1 _
          exact HW.out.below)
      · have hv0 : (v == 0) = false := beq_false_of_ne (fun e => by rw [hz.1 e] at hin; cases hin)
        clear hz
        have HIN:=zh hin
        clear hin
        go_wp2_with fail
        refine (HPLC.out _ HSTA.out.keys).mono ?_
        rintro e w2 ⟨rfl,hb2⟩
        have HW:=zh (HSTA.out.keep hb2)
        have HXW:=zh (nod_keep HXX.out hb2)
        have HB2 : Hid (Below wr.heap.size wr w2):=zh (HBX.out.trans (hb2.mono HBX.out.size))
        clear hb2 r0 r1 r2 r3 r4 d0 d1 d2 d3 d4 HPLC
        have r4:=zb HW.out.node 4
        have x0:=zb HXW.out 0
        go_wp2_with fail
        go_region_with (go_at_call 24;refine (HHAS.out _ (HW.out.below.drew)).mono ?_;rintro e w3 ⟨rfl,hb3⟩)
        all_goals (
          have hb3' : Below w2.heap.size w2 w3:=⟨hb3.os,hb3.tape,hb3.output,hb3.size,hb3.block⟩
          replace HW:=zh (HW.out.keep hb3')
          replace HXW:=zh (nod_keep HXW.out hb3')
          replace HB2 : Hid (Below wr.heap.size wr w3):=zh (HB2.out.trans (hb3'.mono HB2.out.size))
          clear hb3 hb3' r4 x0
          cases sn
          · have hcal := HW.out.cal
            dsimp only [CalBlk,calN,calZ] at hcal
            obtain ⟨g0,g1,g2,g3,g4,g5,g6,g7,g8,g9,g10,g11,g12,g13⟩:=cells14 hcal
            have x0:=zb HXW.out 0
            have x1:=zb HXW.out 1
            have x2:=zb HXW.out 2
            have x3:=zb HXW.out 3
            have x4:=zb HXW.out 4
            have HK3:=zh (HKEY.out w3 HB2.out HIN.out)
            dsimp only [calV,calN,calZ] at HK3
            clear hcal HKEY HHAS
            go_wp2_with fail
            refine HK3.out.mono ?_
            intro e w4 hkp
            obtain ⟨dd,rfl,hdd,hb4⟩:=hkp
            replace HW:=zh (HW.out.keep hb4)
            replace HXW:=zh (nod_keep HXW.out hb4)
            clear hb4 hdd HK3 HB2 x0 x1 x2 x3 x4 g0 g1 g2 g3 g4 g5 g6 g7 g8 g9 g10 g11 g12 g13
            obtain ⟨b0,b1,b2,b3,b4,b5,b6,b7,b8,b9,b10,b11,b12,b13⟩:=dd
            dsimp only [calV]
            cases ko
            · have HE := zh (H4.out.2.2.1 HIN.out (by trivial) (by trivial))
              have hbD:=below_cal w4 (.cells #[.string ⟨b0.toArray⟩, .int .i64 b1, .int .i64 b2, .int .i64 b3, .int .i64 b4, .int .i64 b5, .int .i64 b6, .int .i64 b7, .int .i64 b8, .int .i64 b9, .int .i64 b10, .int .i64 b11, .int .i64 b12, .int .i64 b13] 30)
              replace HW:=zh (HW.out.keep hbD)
              replace HXW:=zh (nod_keep HXW.out hbD)
              clear hbD
              obtain ⟨rfl,rfl⟩:=Prod.mk.inj (Option.some.inj (HP.out.symm.trans HE.out))
              go_wp2_with fail
              have hres:=HW.out.res
              have x1:=zb HXW.out 1
              dsimp only [CalBlk,calZ] at hres
              obtain ⟨n0,n1,n2,n3,n4,n5,n6,n7,n8,n9,n10,n11,n12,n13⟩:=cells14 hres
              obtain ⟨fz0,fz1,fz2,fz3,fz4,fz5,fz6,fz7,fz8,fz9,fz10,fz11,fz12,fz13⟩:=unf14 hres
              have lz:=(Array.getElem?_eq_some_iff.1 hres).1
              clear hres
              go_region
              all_goals (
                go_wp2_with fail
                refine bodyPost_ret (v:=.tuple #[calV calZ, .int .i64 p', .int .i64 5]) (by simp [results,calV,calZ,Try.results8,go_sem, *]) rfl ?_
                rw [← HQ.out]
                refine ⟨rfl,Below.drew ?_⟩
                iterate 14 refine Below.setCell ?_ HW.out.low.2.1 _
                exact HW.out.below)
            · have HG := zh (H4.out.2.2.2 HIN.out (by trivial) (by trivial))
              go_wp2_with fail
              exact ⟨⟨k + 1,by omega,by go_num,HW.out.keep (below_cal _ _),HG.out⟩,by simp [intOf];omega⟩
          · have HE := zh (H4.out.2.1 HIN.out (by trivial))
            clear HKEY HHAS
            obtain ⟨rfl,rfl⟩:=Prod.mk.inj (Option.some.inj (HP.out.symm.trans HE.out))
            go_wp2_with fail
            have hres:=HW.out.res
            have x1:=zb HXW.out 1
            dsimp only [CalBlk,calZ] at hres
            obtain ⟨n0,n1,n2,n3,n4,n5,n6,n7,n8,n9,n10,n11,n12,n13⟩:=cells14 hres
            obtain ⟨fz0,fz1,fz2,fz3,fz4,fz5,fz6,fz7,fz8,fz9,fz10,fz11,fz12,fz13⟩:=unf14 hres
            have lz:=(Array.getElem?_eq_some_iff.1 hres).1
            clear hres
            go_region
            all_goals (
              go_wp2_with fail
              refine bodyPost_ret (v:=.tuple #[calV calZ, .int .i64 p', .int .i64 9]) (by simp [results,calV,calZ,Try.results8,go_sem, *]) rfl ?_
              rw [← HQ.out]
              refine ⟨rfl,Below.drew ?_⟩
              iterate 14 refine Below.setCell ?_ HW.out.low.2.1 _
              exact HW.out.below))
    · have hk2 : k = ks.length := by omega
      rw [hk2,List.drop_length,passL,HP.out] at hpl
      cases hpl
end
end Go.Proofs.Ytpkhocbohhpmbaa
