/- Layer 12 (conf): the walk of Read. Then: Layer 11, the laws: live. Then: Layer 11 (field), the law FieldRight in plain Lean. -/
import Derived.Test.YtjbniichcopnlaaGreatDoorPkS19
import Derived.Test.YtjbniichcopnlaaGreatDoorPkS22
import Derived.Test.YtjbniichcopnlaaGreatDoorPkS30
import Derived.Test.YtjbniichcopnlaaGreatDoorPkS17
import Derived.Test.YtjbniichcopnlaaGreatDoorPkS13
set_option linter.unusedVariables false
namespace Go.Proofs.YtjbniichcopnlaaGreatDoor
section
set_option linter.unusedSimpArgs false
set_option maxRecDepth 100000
open Go.RowKit
open Go.Joins renaming cell_of_block → zb, unfrozen_of_block → zu
open Go.Lib renaming hid → zh
def CalL.cc (c : CalL) : List Value:=[.string ⟨c.name.toArray⟩, .int .i64 c.kind, .int .i64 c.day, .int .i64 c.month, .int .i64 c.shift, .int .i64 c.shape, .int .i64 c.p0, .int .i64 c.p1, .int .i64 c.p2, .int .i64 c.cycle, .int .i64 c.extra, .int .i64 c.first, .int .i64 c.last, .int .i64 c.policy]
theorem info_cal : (Tryz.prog.info? 37).map (fun i => (i.size,i.bytes,i.zero.map (·.cells.size))) = some (14,120,some 14):=by kernel_rfl
/-- Calendars of a row of the call's own. -/
def OwnCals (w : World) (base : Nat) (v : Value) (l : List CalL) : Prop:=w.ownsRow base 37 14 v l.length (l.flatMap CalL.cc)
theorem OwnCals.nil (w : World) (base : Nat) : OwnCals w base (.slice none 0 0) []:=World.ownsRow_nil _ _ _ _
theorem OwnCals.push {w : World} {base : Nat} {v : Value} {l : List CalL} {c : CalL} (h : w.ownsRow base 37 14 v (l.length + 1) (l.flatMap CalL.cc ++ c.cc)) : OwnCals w base v (l ++ [c]) := by
  unfold OwnCals
  rw [List.length_append,List.flatMap_append]
  simpa using h
theorem cells_one (c : CalL) : ∀ u ∈ c.cc,u.oneCell' = true := by
  intro u hu
  simp only [CalL.cc,List.mem_cons,List.not_mem_nil,or_false] at hu
  rcases hu with rfl | rfl | rfl | rfl | rfl | rfl | rfl | rfl | rfl | rfl | rfl | rfl | rfl | rfl <;> rfl
theorem own_downC {w : World} {b b' : Nat} {e : TypeId} {size n : Nat} {v : Value} {xs : List Value} (hb : b' ≤ b) (h : w.ownsRow b e size v n xs) : w.ownsRow b' e size v n xs := by
  refine ⟨h.1,?_⟩
  rcases h.2 with h2 | ⟨g,cap,cur,h1,h2,h3⟩
  · exact .inl h2
  · exact .inr ⟨g,cap,cur,h1,by omega,h3⟩
theorem own_setB {w : World} {b : Nat} {o : Obj} {e : TypeId} {size n : Nat} {v : Value} {xs : List Value} (h : w.ownsRow (b + 1) e size v n xs) : (setB w b o).ownsRow (b + 1) e size v n xs := by
  refine ⟨h.1,?_⟩
  rcases h.2 with h2 | ⟨g,cap,cur,h1,h2,h3,h4⟩
  · exact .inl h2
  · exact .inr ⟨g,cap,cur,h1,h2,(setB_other w b g o (by omega)).trans h3,h4⟩
/-- What Read leaves. -/
def ConfPost (w : World) (R : ConfR) (e : Ending) (w' : World) : Prop :=
  ∃ v,e = .returned (.tuple #[v, .int .i64 R.pos, .int .i64 R.err]) ∧ OwnCals w' w.heap.size v R.cals ∧ Below w.heap.size w w'
theorem conf_nil {w w' : World} {p e : Int} (hb : Below w.heap.size w w') : ConfPost w ⟨[],p,e⟩ (.returned (.tuple #[.slice none 0 0, .int .i64 p, .int .i64 e])) w':=⟨_,rfl,OwnCals.nil _ _,hb⟩
theorem node_at {w : World} {M : Nat → Prop} {A : Option Addr} {l : List NodeL} {cs : List Value} (h : ReadsM w M 5 A l.length cs) (hn : NodesOk w M l cs) (i : Nat) (n : NodeL) (hi : l[i]? = some n) :
    ∃ ad Aw cw Ak ck,A = some ad ∧ M ad.block ∧ w.cell? (ad.add (i * 5)) = some (.string ⟨n.name.toArray⟩) ∧ w.cell? ⟨(ad.add (i * 5)).block,(ad.add (i * 5)).off + 1,none⟩ = some (.int .i64 n.pos) ∧
      w.cell? ⟨(ad.add (i * 5)).block,(ad.add (i * 5)).off + 2,none⟩ = some (.slice Aw n.words.length cw) ∧ w.cell? ⟨(ad.add (i * 5)).block,(ad.add (i * 5)).off + 3,none⟩ = some (.bool n.block) ∧
      w.cell? ⟨(ad.add (i * 5)).block,(ad.add (i * 5)).off + 4,none⟩ = some (.slice Ak n.kids.length ck) ∧
      NodeOk w M n [.string ⟨n.name.toArray⟩, .int .i64 n.pos, .slice Aw n.words.length cw, .bool n.block, .slice Ak n.kids.length ck]:=by
  obtain ⟨ad,Aw,cw,Ak,ck,kcs,e,hM,c0,c1,c2,c3,c4,n1,n2,hw,hk,hkn⟩:=node_cells h hn i n hi
  refine ⟨ad,Aw,cw,Ak,ck,e,hM,c0,c1,c2,c3,c4,?_⟩
  obtain ⟨nm,p,ws,b,ks⟩:=n
  simp only [NodeOk]
  exact ⟨Aw,cw,Ak,ck,kcs,rfl,n1,n2,hw,hk,hkn⟩
theorem fit_one : ∀ (l : List NodeL) (i : Nat) (n : NodeL),fitNs l → l[i]? = some n → fitNs [n]:=fun l i n h hi => ⟨fit_at l i n h hi,trivial⟩
theorem cnt_one (l : List NodeL) (i : Nat) (n : NodeL) (hi : l[i]? = some n) : cntL [n] ≤ cntL l := by
  have:=cntL_take_mem l i n hi
  simp only [cntL];omega
/-- What is known ahead of each round. -/
structure ReadI (w1 : World) (mb : Nat) (nodes : List NodeL) (q : Nat) (v : Value) (out : List CalL) (wr : World) : Prop where
  same : readGo [] nodes = readGo out (nodes.drop q)
  own : OwnCals wr (mb + 1) v out
  map : wr.heap[mb]? = some (.map (atMap (out.map CalL.name)) (out.map CalL.name).length)
  below : Below mb w1 wr
  size : mb + 1 ≤ wr.heap.size
  len : out.length = q
  few : out.length ≤ 32
set_option maxHeartbeats 8000000 in
theorem conf_Read (s : ByteArray) (w : World) (hs : s.size ≤ maxLen) (hcn : cntL (treeL s.data.toList).nodes ≤ 100000) (hfit : fitNs (treeL s.data.toList).nodes) :
    Calls Tryz.prog 10 #[.string s] w (ConfPost w (confRead s.data.toList)):=by
  have HP:=zh (tree_Parse s w hs)
  have HCR:=zh (show confRead s.data.toList = if (treeL s.data.toList).err ≠ 0 then ⟨[],(treeL s.data.toList).pos,(treeL s.data.toList).err⟩ else readGo [] (treeL s.data.toList).nodes from rfl)
  have HFIT:=zh hfit
  clear hfit
  generalize confRead s.data.toList = CR at *
  generalize treeL s.data.toList = R at *
  obtain ⟨nds,pos,err⟩:=R
  simp only at hcn HCR HFIT
  obtain ⟨ic,hic,hcz⟩:=Option.map_eq_some_iff.1 info_cal
  simp only [Prod.mk.injEq] at hcz
  obtain ⟨hcs,hcby,hcz⟩:=hcz
  obtain ⟨zc,hzc,hczs⟩:=Option.map_eq_some_iff.1 hcz
  have hmm:=@run_makeMap Tryz.prog
  by_cases he : err = 0
  case neg =>
    have HR:=zh (show CR = ⟨[],pos,err⟩ by rw [HCR.out,if_pos he])
    have hne : (err == 0) = false:=beq_false_of_ne he
    have HE:=zh he
    clear he hcn hmm hcz hic hcs hcby hzc hczs
    go_enter Tryz.func10,Tryz.ntmps10
    go_wp2_with fail
    refine HP.out.mono ?_
    rintro e1 w1 ⟨A,c,kcs,rfl,_,hr,hn,hb1⟩
    have HB1:=zh hb1
    clear hr hn hb1
    go_wp2_with fail
    go_ret3
    rw [HR.out]
    exact conf_nil HB1.out
  subst he
  have HR:=zh (show CR = readGo [] nds by rw [HCR.out,if_neg (by simp)])
  have hlen:=Nat.le_trans (cntL_len nds) hcn
  go_enter Tryz.func10,Tryz.ntmps10
  go_wp2_with fail
  refine HP.out.mono ?_
  rintro e1 w1 ⟨A,c,kcs,rfl,_,hr,hn,hb1⟩
  have HB1:=zh hb1
  have HRD:=zh (And.intro hr hn)
  have hz1:=hb1.size
  clear hr hn hb1
  go_wp2_with fail
  obtain ⟨mb,hmb⟩ : ∃ g,g = w1.heap.size:=⟨_,rfl⟩
  have hstart : ReadI w1 mb nds 0 (.slice none 0 0) [] (w1.alloc (.map #[] 0)) :=
    ⟨by rw [List.drop_zero],OwnCals.nil _ _,by rw [hmb];exact heap_alloc_new w1 _,by rw [hmb];exact (Below.refl _ _).alloc (Nat.le_refl _) _,by rw [hmb];simp,rfl,Nat.zero_le _⟩
  rw [← hmb]
  have HMB:=zh hmb
  have HST:=zh hstart
  have hwm : w.heap.size ≤ mb:=by omega
  clear hmb hstart
  go_loopw [8,28] (fun v iv wr => ∃ (q : Nat) (out : List CalL),q ≤ nds.length ∧ iv = .int .i64 q ∧ ReadI w1 mb nds q v out wr) (fun _ iv _ => nds.length - (intOf iv).toNat)
  case atStart => exact ⟨0,[],Nat.zero_le _,rfl,HST.out⟩
  case round =>
    obtain ⟨q,out,hq,rfl,hi⟩:=hrel
    obtain ⟨Ao,co,hv,hco⟩:=own_form hi.own
    have HOL:=zh hi.len
    have hfew:=hi.few
    subst hv
    by_cases hlt : q < nds.length
    · obtain ⟨n,hn⟩ : ∃ n,nds[q]? = some n := ⟨_,List.getElem?_eq_getElem hlt⟩
      have hsame:=hi.same
      rw [List.drop_eq_getElem_cons hlt] at hsame
      have hnq : nds[q] = n:=Option.some.inj ((List.getElem?_eq_getElem hlt).symm.trans hn)
      rw [hnq] at hsame
      have hkeep : ∀ p : Addr,w.heap.size ≤ p.block ∧ p.block < w1.heap.size → wr.cell? p = w1.cell? p:=fun p hp => hi.below.cell (by have:=HMB.out;omega)
      obtain ⟨ad,Aw,cw,Ak,ck,hA,hM,c0,c1,c2,c3,c4,hok⟩:=node_at (HRD.out.1.keep (w':=wr) (fun _ h => h) hkeep) (NodesOk.keep (fun _ h => h) hkeep _ _ HRD.out.2) q n hn
      subst hA
      have hok1 : NodeOk wr (· < mb) n _:=NodeOk.keep (fun b h => by have:=HMB.out;omega) (fun _ _ => rfl) _ _ hok
      have hsz:=hi.size
      have lk : (q : Int) < nds.length:=by omega
      have lk0 : (0 : Int) ≤ q:=by omega
      have w1f : IntKind.i64.wrap ((q : Int) + 1) = (q : Int) + 1:=by rw [IntKind.wrap_i64];omega
      have HOK:=zh hok1
      have HI:=zh hi
      have HSM:=zh hsame
      have HNN:=zh hn
      clear hi hsame hnq hn hok hok1 hkeep hM
      by_cases h32 : out.length = 32
      · have ho : ((out.length : Int) == 32) = true := by rw [h32]; rfl
        have HX:=zh (show CR = ⟨[],n.pos,6⟩ by rw [HR.out,HSM.out,readGo_long _ _ _ h32])
        have HBX:=zh (HB1.out.trans ((HI.out.below.alloc (by omega) (.cells #[.string ⟨n.name.toArray⟩, .int .i64 n.pos, .slice Aw n.words.length cw, .bool n.block, .slice Ak n.kids.length ck] 44)).mono hwm))
        clear h32
        go_wp2_with fail
        go_region
        all_goals (
          go_wp2_with fail
          go_ret3
          rw [HX.out]
          exact conf_nil HBX.out.drew)
      · have ho : ((out.length : Int) == 32) = false := beq_false_of_ne (by omega)
        have hol32 : out.length ≤ 100000:=by have:=HOL.out;omega
        have hb2:=(Below.refl wr.heap.size wr).alloc (Nat.le_refl _) (.cells #[.string ⟨n.name.toArray⟩, .int .i64 n.pos, .slice Aw n.words.length cw, .bool n.block, .slice Ak n.kids.length ck] 44)
        have hrd := field_Read n [.string ⟨n.name.toArray⟩, .int .i64 n.pos, .slice Aw n.words.length cw, .bool n.block, .slice Ak n.kids.length ck] (wr.alloc (.cells #[.string ⟨n.name.toArray⟩, .int .i64 n.pos, .slice Aw n.words.length cw, .bool n.block, .slice Ak n.kids.length ck] 44)) mb (by simp; omega)
          (NodeOk.keep (fun _ h => h) (fun p hp => hb2.cell (by omega)) _ _ HOK.out) (Nat.le_trans (cnt_one nds q n HNN.out) hcn) (fit_one nds q n HFIT.out HNN.out)
        unfold ReadPost at hrd
        have HN0:=zh (heap_alloc_new wr (.cells #[.string ⟨n.name.toArray⟩, .int .i64 n.pos, .slice Aw n.words.length cw, .bool n.block, .slice Ak n.kids.length ck] 44))
        have HB2:=zh hb2
        have H32:=zh h32
        generalize hrc : readC n = RC at hrd
        have HRC:=zh hrc
        obtain ⟨cal,cat,cerr⟩:=RC
        obtain ⟨cal0,hcal0⟩ : ∃ x,x = cal:=⟨_,rfl⟩
        obtain ⟨nm,kind,day,month,shift,shape,p0,p1,p2,cycle,extra,first,last,policy⟩:=cal
        dsimp only [calV] at hrd
        have HRD2:=zh hrd
        have HCAL:=zh hcal0
        clear hb2 hrd h32 hrc hcal0
        by_cases hce : cerr = 0
        case neg =>
          have hne : (cerr == 0) = false:=beq_false_of_ne hce
          have HX:=zh (show CR = ⟨[],cat,cerr⟩ by rw [HR.out,HSM.out,readGo_bad _ _ _ H32.out (by rw [HRC.out];exact hce),HRC.out])
          have HCE:=zh hce
          clear hce
          go_wp2_with fail
          refine HRD2.out.mono ?_
          rintro e3 w3 ⟨rfl,hb3⟩
          have HB3:=zh (HB1.out.trans ((HI.out.below.trans ((HB2.out.trans (hb3.mono (by simp))).mono (by omega))).mono hwm))
          have hzz : w.heap.size ≤ w3.heap.size:=HB3.out.size
          have HB4:=zh (HB3.out.alloc hzz (.cells #[.string ⟨nm.toArray⟩, .int .i64 kind, .int .i64 day, .int .i64 month, .int .i64 shift, .int .i64 shape, .int .i64 p0, .int .i64 p1, .int .i64 p2, .int .i64 cycle, .int .i64 extra, .int .i64 first, .int .i64 last, .int .i64 policy] 37))
          clear hb3
          go_wp2_with fail
          go_ret3
          rw [HX.out]
          exact conf_nil HB4.out
        subst hce
        go_wp2_with fail
        refine HRD2.out.mono ?_
        rintro e3 w3 ⟨rfl,hb3⟩
        have hzr:=hb3.size
        have hzw : wr.heap.size + 1 ≤ w3.heap.size:=by simpa using hzr
        have hb23 : Below wr.heap.size wr w3:=HB2.out.trans (hb3.mono (by simp))
        have hb4:=hb23.alloc (by omega) (.cells #[.string ⟨nm.toArray⟩, .int .i64 kind, .int .i64 day, .int .i64 month, .int .i64 shift, .int .i64 shape, .int .i64 p0, .int .i64 p1, .int .i64 p2, .int .i64 cycle, .int .i64 extra, .int .i64 first, .int .i64 last, .int .i64 policy] 37)
        have hnode : w3.heap[wr.heap.size]? = _:=(hb3.block _ (by simp)).trans HN0.out
        have hcal : (w3.alloc (.cells #[.string ⟨nm.toArray⟩, .int .i64 kind, .int .i64 day, .int .i64 month, .int .i64 shift, .int .i64 shape, .int .i64 p0, .int .i64 p1, .int .i64 p2, .int .i64 cycle, .int .i64 extra, .int .i64 first, .int .i64 last, .int .i64 policy] 37)).heap[w3.heap.size]? = _:=heap_alloc_new w3 _
        obtain ⟨cb,hcb⟩ : ∃ g,g = w3.heap.size:=⟨_,rfl⟩
        obtain ⟨nb,hnb⟩ : ∃ g,g = wr.heap.size:=⟨_,rfl⟩
        have hnode4:=(heap_alloc_old w3 (.cells #[.string ⟨nm.toArray⟩, .int .i64 kind, .int .i64 day, .int .i64 month, .int .i64 shift, .int .i64 shape, .int .i64 p0, .int .i64 p1, .int .i64 p2, .int .i64 cycle, .int .i64 extra, .int .i64 first, .int .i64 last, .int .i64 policy] 37) (show wr.heap.size < w3.heap.size by omega)).trans hnode
        have hz4 : (w3.alloc (.cells #[.string ⟨nm.toArray⟩, .int .i64 kind, .int .i64 day, .int .i64 month, .int .i64 shift, .int .i64 shape, .int .i64 p0, .int .i64 p1, .int .i64 p2, .int .i64 cycle, .int .i64 extra, .int .i64 first, .int .i64 last, .int .i64 policy] 37)).heap.size = w3.heap.size + 1:=by simp
        go_wp2_with fail
        generalize hW4 : World.alloc w3 _ = W4 at *
        rw [← hcb] at hcal
        rw [← hnb] at hnode4
        rw [← hnb,← hcb]
        have hmap4:=(hb4.block mb (by omega)).trans HI.out.map
        have hmet:=names_met W4 mb (out.map CalL.name) nm hmap4 (by rw [List.length_map];omega)
        have HMET:=zh hmet
        have HNODE:=zh hnode4
        have HCB:=zh hcal
        have HB4:=zh (And.intro hb4 (And.intro hcb (And.intro hnb hz4)))
        have hmbn : mb < nb:=by omega
        have hnbc : nb < cb:=by omega
        have hwb : w.heap.size ≤ mb:=hwm
        clear hmet hnode4 hcal hb4 hcb hnb hz4 hmap4 hnode hb23 hb3 hzr hzw hW4
        refine HMET.out.mono ?_
        rintro e5 w5 ⟨rfl,o,rfl,hnew⟩
        cases hct : (out.map CalL.name).contains nm with
        | true =>
          have HX:=zh (show CR = ⟨[],n.pos,9⟩ by rw [HR.out,HSM.out,readGo_twice _ _ _ H32.out (by rw [HRC.out]) (by rw [HRC.out,← HCAL.out];exact (by rw [HCAL.out];exact hct))])
          have e1:=(setB_cell W4 mb o ⟨nb,1,none⟩ (show nb ≠ mb by omega)).trans (zb HNODE.out 1)
          have HBX:=zh (HB1.out.trans ((Below.setB (HI.out.below.trans (HB4.out.1.mono (by have:=HB4.out.2.2.1;omega))) (Nat.le_refl mb) o).mono hwm))
          clear hnew hct
          go_wp2_with fail
          go_region
          all_goals (
            go_wp2_with fail
            go_ret3
            rw [HX.out]
            exact conf_nil HBX.out.drew)
        | false =>
          have ho5:=hnew hct
          subst ho5
          have hsm5 : readGo [] nds = readGo (out ++ [cal0]) (nds.drop (q + 1)) := by
            rw [HSM.out,readGo_on _ _ _ H32.out (by rw [HRC.out]) (by rw [HRC.out];exact hct),HRC.out,HCAL.out]
          have hmbl : mb < W4.heap.size:=by have:=HB4.out.1.size;have:=HB4.out.2.2.1;omega
          have hown5:=own_setB (b:=mb) (o:=.map (atMap (out.map CalL.name ++ [nm])) (out.map CalL.name ++ [nm]).length) (own_below HI.out.own HB4.out.1)
          have hmap5:=setB_new W4 mb (.map (atMap (out.map CalL.name ++ [nm])) (out.map CalL.name ++ [nm]).length) hmbl
          have hcb5:=(setB_other W4 mb cb (.map (atMap (out.map CalL.name ++ [nm])) (out.map CalL.name ++ [nm]).length) (by omega)).trans HCB.out
          have hbl5:=Below.setB (HI.out.below.trans (HB4.out.1.mono (show mb ≤ wr.heap.size by have:=HB4.out.2.2.1;omega))) (Nat.le_refl mb) (.map (atMap (out.map CalL.name ++ [nm])) (out.map CalL.name ++ [nm]).length)
          have hsz5:=setB_size W4 mb (.map (atMap (out.map CalL.name ++ [nm])) (out.map CalL.name ++ [nm]).length)
          generalize setB W4 mb (.map (atMap (out.map CalL.name ++ [nm])) (out.map CalL.name ++ [nm]).length) = w5 at *
          have hcbl : cb < w5.heap.size:=(Array.getElem?_eq_some_iff.1 hcb5).1
          obtain ⟨g0,g1,g2,g3,g4,g5,g6,g7,g8,g9,g10,g11,g12,g13⟩:=cells14 hcb5
          have t1:=cells_new w5 cal0.cc 37 w5.heap.size rfl
          have t2:=cells_one cal0
          have t3 : out.length + 1 ≤ maxLen:=by unfold maxLen;omega
          have t4 : (out.length + 1) * 120 ≤ 140737488355328:=by omega
          have t5 : mb + 1 ≤ (w5.alloc (.cells cal0.cc.toArray 37)).heap.size:=by simp;omega
          have t6 : (w5.alloc (.cells cal0.cc.toArray 37)).ownsRow (mb + 1) 37 14 (.slice Ao out.length co) out.length (out.flatMap CalL.cc):=hown5.alloc _
          have HMP:=zh hmap5
          have HBL:=zh hbl5
          have HOW:=zh hown5
          have HSM5:=zh hsm5
          have hccs : cal0.cc = [.string ⟨nm.toArray⟩, .int .i64 kind, .int .i64 day, .int .i64 month, .int .i64 shift, .int .i64 shape, .int .i64 p0, .int .i64 p1, .int .i64 p2, .int .i64 cycle, .int .i64 extra, .int .i64 first, .int .i64 last, .int .i64 policy]:=by rw [HCAL.out];rfl
          rw [hccs] at t1 t2 t5 t6
          have HCC:=zh hccs
          clear hnew hct hmap5 hbl5 hown5 hsm5 hsz5 hccs hcb5
          go_wp2_with (first | (at_builtin;go_loud (refine wpList_append_own _ rfl _ _ 22 rfl (mb + 1) 37 ic zc 14 120 Tryz.underlying22 hic hzc hcs hcby hczs (by decide) (.slice Ao out.length co) out.length _ rfl t6 ⟨w5.heap.size,0,none⟩ 1 1 [.string ⟨nm.toArray⟩, .int .i64 kind, .int .i64 day, .int .i64 month, .int .i64 shift, .int .i64 shape, .int .i64 p0, .int .i64 p1, .int .i64 p2, .int .i64 cycle, .int .i64 extra, .int .i64 first, .int .i64 last, .int .i64 policy] rfl rfl t1 t2 t3 t4 t5 ?_);intro v6 w6 hown6 hgrow6 _;have HO6:=zh hown6;have HG6:=zh hgrow6;clear hown6 hgrow6) | fail)
          refine ⟨⟨q + 1,out ++ [cal0],by omega,by go_num,⟨HSM5.out,OwnCals.push (by rw [HCC.out];exact HO6.out),?_,?_,?_,?_,?_⟩⟩,by simp [intOf];omega⟩
          · have hnm : cal0.name = nm := by rw [HCAL.out]
            rw [List.map_append,List.map_cons,List.map_nil,hnm]
            refine (HG6.out.block mb (by simp;omega) (fun e => by have:=(HOW.out.lt mb e.symm).1;omega)).trans ?_
            refine (heap_alloc_old w5 _ (show mb < w5.heap.size by omega)).trans ?_
            exact HMP.out
          · exact (HBL.out.alloc (show mb ≤ w5.heap.size by omega) _).grown HG6.out (by simp;omega) (fun k hk => by have:=(HOW.out.lt k hk).1;omega)
          · have := HG6.out.size
            simp at this
            omega
          · rw [List.length_append,HOL.out];rfl
          · rw [List.length_append];have:=H32.out;simp only [List.length_cons,List.length_nil];omega
    · have hql : q = nds.length := by omega
      have lk : ¬ (q : Int) < nds.length:=by omega
      have HX:=zh (show CR = ⟨out,0,0⟩ by rw [HR.out,hi.same,hql,List.drop_length,readGo_done])
      have HI:=zh hi
      clear hi hql
      go_wp2_with fail
      go_ret3
      rw [HX.out]
      exact ⟨_,rfl,own_downC (by omega) HI.out.own,HB1.out.trans (HI.out.below.mono hwm)⟩
end
section
set_option linter.unusedSimpArgs false
open Go.RowKit
def exK : List NodeL:=[.mk b_end 13 [⟨false,0,[110,114,102],17⟩] false [], .mk b_serve 22 [⟨true,2000,[],28⟩,⟨true,2030,[],33⟩] false [], .mk b_compare 39 [⟨false,0,[115,104,105,102,116],47⟩] false []]
def exN : NodeL:=.mk b_calendar 0 [⟨false,0,[120],9⟩] true exK
def exT : Bytes:=[99,97,108,101,110,100,97,114,32,120,32,123,32,101,110,100,32,110,114,102,59,32,115,101,114,118,101,32,50,48,48,48,32,50,48,51,48,59,32,99,111,109,112,97,114,101,32,115,104,105,102,116,59,32,125]
theorem ex_tree : treeL exT = ⟨[exN],0,0⟩:=by kernel_rfl
theorem ex_read : readC exN = ⟨⟨[120],3,6,1,1,1,4,5,4,0,12,2000,2030,2⟩,0,0⟩:=by kernel_rfl
theorem ex_fit : fitNs [exN] := by
  unfold exN exK
  simp only [fitNs,fitN,and_true]
  decide
theorem ex_cnt : cntL [exN] = 9:=by kernel_rfl
end
section
/-- What may be has no fewer periods than its week that is added. -/
theorem ruled_extra (c : CalL) (h : ruledC c = true) : 0 ≤ c.extra ∧ c.extra ≤ manyC c.shape c.cycle := by
  unfold ruledC at h
  unfold fixedC at h
  by_cases h3 : c.kind = 3
  · rw [if_pos h3] at h
    have h':=of_decide_eq_true h
    have e1 : c.extra = 12:=by rw [h'];rfl
    have e2 : c.shape = 1:=by rw [h'];rfl
    rw [e1,e2]
    exact ⟨by decide,by unfold manyC;rw [if_neg (by decide),if_neg (by omega),if_pos (by omega)];omega⟩
  rw [if_neg h3] at h
  by_cases h4 : c.kind = 4
  · rw [if_pos h4] at h
    have h':=of_decide_eq_true h
    have e1 : c.extra = 12:=by rw [h'];rfl
    have e2 : c.shape = 4:=by rw [h'];rfl
    rw [e1,e2]
    exact ⟨by decide,by unfold manyC;rw [if_neg (by decide),if_neg (by omega),if_pos (by omega)];omega⟩
  rw [if_neg h4] at h
  have hwk : ∀ b : Bool,(b && weeksC c) = true → 0 ≤ c.extra ∧ c.extra ≤ manyC c.shape c.cycle := by
    intro b hb
    have hw : weeksC c = true:=by cases b <;> simp at hb;exact hb
    unfold weeksC tween at hw
    split at hw
    · simp at hw;omega
    · split at hw
      · simp at hw;omega
      · split at hw
        · simp at hw;omega
        · simp at hw
  dsimp only at h
  split at h
  · simp at h
  · split at h
    · exact hwk _ h
    · split at h
      · exact hwk _ h
      · split at h
        · simp at h
          obtain ⟨⟨⟨⟨_,hs⟩,_⟩,_⟩,he⟩:=h
          rw [hs,he]
          exact ⟨by decide,by unfold manyC;rw [if_neg (by decide),if_neg (by omega),if_pos (by omega)];omega⟩
        · simp at h
theorem fits_err0 (kind : Int) : ∀ (l : List NodeL) (seen : List Bytes) (p e : Int),fitsL kind seen l = some (p,e) → e ≠ 0 := by
  intro l
  induction l with
  | nil => intro seen p e h;cases h
  | cons k r ih =>
    intro seen p e h
    unfold fitsL at h
    split at h
    · cases h;decide
    · split at h
      · cases h;decide
      · exact ih _ _ _ h
/-- What a block that is read leads to. -/
theorem read_right (n : NodeL) : ((readC n).err ≠ 0 → (readC n).cal = calZ) ∧
    ((readC n).err = 0 → (readC n).at_ = 0 ∧ okC (readC n).cal = true ∧ ∃ t,n.words = [t] ∧ (readC n).cal.name = t.s):=by
  unfold readC
  by_cases h1 : checkL 0 [n] ≠ 0
  · rw [if_pos h1];exact ⟨fun _ => rfl,fun h => by simp at h⟩
  rw [if_neg h1]
  by_cases h2 : n.name ≠ b_calendar ∨ n.block = false ∨ n.words.length ≠ 1 ∨ (n.words.headD ⟨false,0,[],0⟩).num = true
  · rw [if_pos h2];exact ⟨fun _ => rfl,fun h => by simp at h⟩
  rw [if_neg h2]
  obtain ⟨t,ht⟩ : ∃ t,n.words = [t] := by
    have : n.words.length = 1 := by
      by_cases h : n.words.length = 1
      · exact h
      · exact absurd (.inr (.inr (.inl h))) h2
    match hw : n.words,this with
    | [t],_ => exact ⟨t,rfl⟩
  unfold readBlock
  rw [ht]
  dsimp only [List.headD_cons]
  split
  · next p e he =>
    have:=formed_err _ _ _ _ _ _ he
    exact ⟨fun _ => rfl,fun h => by dsimp only at h;omega⟩
  · exact ⟨fun _ => rfl,fun h => by simp at h⟩
  · next c hc =>
    have hnm : c.name = t.s:=formed_name _ _ _ _ _ hc (by intro d hd;cases hd)
    split
    · next p e he =>
      refine ⟨fun _ => rfl,fun h => ?_⟩
      dsimp only at h
      subst h
      exact absurd rfl (fits_err0 _ _ _ _ _ he)
    · split
      · exact ⟨fun _ => rfl,fun h => by simp at h⟩
      · split
        · next ho => exact ⟨fun h => absurd rfl h,fun _ => ⟨rfl,ho,t,rfl,by rw [putAll_name];exact hnm⟩⟩
        · exact ⟨fun _ => rfl,fun h => by simp at h⟩
end
end Go.Proofs.YtjbniichcopnlaaGreatDoor
