/- Layer 9 (tree): the reference's Parse. Then: Layer 12 (conf), the reference: the walks of has, Read. Then: The law ConfReads walked: it answers true at any text. -/
import Derived.Test.YtjbniichcopnlaaPkR49
import Derived.Test.YtjbniichcopnlaaPkR13
import Derived.Test.YtjbniichcopnlaaPkR50
import Derived.Test.YtjbniichcopnlaaPkR27
import Derived.Test.YtjbniichcopnlaaPkR47
set_option linter.unusedVariables false
set_option linter.unusedSimpArgs false
namespace Go.Proofs.Ytjbniichcopnlaa
section
open Go.RowKit
open Go.Joins renaming cell_of_block → zb, unfrozen_of_block → zu
open Go.Lib renaming hid → zh
attribute [local go_sem ↓] Go.wp_at_zero Go.wp_at_succ
theorem ref9_both (l : List Tok) (A : Option Addr) (c : Nat) (E : Int) (B0 rb : Nat) (hl : l.length ≤ 65536) (hB : B0 ≤ rb) :
    ∀ n k,k ≤ l.length → l.length - k ≤ n → ItemsAt l A c E B0 rb k ∧ ItemAt9 l A c E B0 rb k
  | 0,k,hk,hn => ⟨ref9_items_step l A c E B0 rb k hl hk hB (fun k' h1 h2 => by omega),ref9_item_step l A c E B0 rb k hl hk hB (fun k' h1 h2 => by omega)⟩
  | n + 1,k,hk,hn =>
    ⟨ref9_items_step l A c E B0 rb k hl hk hB (fun k' h1 h2 => (ref9_both l A c E B0 rb hl hB n k' h2 (by omega)).2),
      ref9_item_step l A c E B0 rb k hl hk hB (fun k' h1 h2 => (ref9_both l A c E B0 rb hl hB n k' h2 (by omega)).1)⟩
/-- What the reference's Parse leaves: its items' slices have room. -/
def ParsePostC (w : World) (R : ParseRes) (e : Ending) (w' : World) : Prop :=
  ∃ A c kcs,e = .returned (.tuple #[.slice A R.nodes.length c, .int .i64 R.pos, .int .i64 R.err]) ∧ ItemsCap A c R.nodes kcs ∧ ReadsM w' (fun b => w.heap.size ≤ b ∧ b < w'.heap.size) 5 A R.nodes.length kcs ∧
    NodesOk w' (fun b => w.heap.size ≤ b ∧ b < w'.heap.size) R.nodes kcs ∧ Below w.heap.size w w'
theorem parse_nilC {w w' : World} {p e : Int} (hb : Below w.heap.size w w') : ParsePostC w ⟨[],p,e⟩ (.returned (.tuple #[.slice none 0 0, .int .i64 p, .int .i64 e])) w' :=
  ⟨none,0,[],rfl,⟨fun _ => rfl,Nat.le_refl _,CapL.nil⟩,ReadsM.nil _ _ _ _,rfl,hb⟩
theorem ParsePostC.plain {w w' : World} {R : ParseRes} {e : Ending} (h : ParsePostC w R e w') : ParsePost w R e w' := by
  obtain ⟨A,c,kcs,h1,h2,h3⟩:=h
  exact ⟨A,c,kcs,h1,h2.1,h3⟩
set_option maxRecDepth 100000 in
set_option maxHeartbeats 4000000 in
theorem ref9_ParseC (s : ByteArray) (w : World) (hs : s.size ≤ maxLen) :
    Calls Try.prog 17 #[.string s] w (ParsePostC w (treeL s.data.toList)):=by
  have HC:=zh (fun W => ref8_Cut s W hs)
  have hct:=cutL_len16 s.data.toList
  unfold treeL
  rw [ba_len]
  generalize cutL s.data.toList = R at *
  obtain ⟨l,p,ce⟩:=R
  dsimp only at hct ⊢
  have HL:=zh hct
  clear hct
  by_cases hce : ce = 0
  · subst hce
    rw [if_neg (by simp)]
    go_enter Try.func17,Try.ntmps17
    go_wp2_with fail
    refine (HC.out _).mono ?_
    rintro e w1 ⟨v,rfl,hown,hb1⟩
    obtain ⟨A,c,rfl,hrd⟩:=ReadToks.of_own hown
    have HRD:=zh hrd
    have HB1:=zh hb1
    clear hown hrd hb1
    dsimp only
    go_wp2_with fail
    have hz1:=HB1.out.size
    have hrd2:=HRD.out.alloc (Nat.le_refl _) (.cells #[.slice A l.length c, .int .i64 0, .int .i64 s.size, .int .i64 0, .int .i64 0] 75)
    have hr1 : Rdr (w1.alloc (.cells #[.slice A l.length c, .int .i64 0, .int .i64 s.size, .int .i64 0, .int .i64 0] 75)) w1.heap.size (.slice A l.length c) ((0 : Nat) : Int) s.size 0 0:=heap_alloc_new w1 _
    have hc:=(ref9_both l A c s.size w1.heap.size w1.heap.size HL.out (Nat.le_refl _) l.length 0 (Nat.zero_le _) (by omega)).1 0 _ 0 (by omega) hrd2 hr1
    refine hc.mono ?_
    rintro e w2 ⟨out,A',c',kcs,κ,p',e',rfl,hnil,hrk,hnk,hr,hs2,hrel⟩
    have HP:=zh (items_parse hrel)
    have g3:=zb hr 3
    have g4:=zb hr 4
    have hz2:=hs2.size
    simp at hz2
    have hb2 : Below w.heap.size w w2:=below_of_step (HB1.out.alloc (by omega) _) hs2 (by simp;omega) (fun x hx => ⟨fun j hj => by simp [RC] at hj;omega,by simp⟩)
    have HB2:=zh hb2
    have hm : ∀ b,Fresh (w1.alloc (.cells #[.slice A l.length c, .int .i64 0, .int .i64 s.size, .int .i64 0, .int .i64 0] 75)) w2 b → w.heap.size ≤ b ∧ b < w2.heap.size:=fun b hb => ⟨by have:=hb.1;simp at this;omega,hb.2⟩
    have HRK:=zh (hrk.keep hm (fun _ _ => rfl))
    have HNK:=zh (NodesOk.keep hm (fun _ _ => rfl) _ _ hnk)
    clear hrel hb2 hs2 hr hrk hnk hm hc hr1 hrd2
    by_cases he : e' = 0
    · subst he
      go_wp2_with fail
      go_ret3
      rw [HP.out,if_pos trivial]
      exact ⟨A',c',kcs,rfl,hnil,HRK.out,HNK.out,HB2.out⟩
    · have he' : (e' != 0) = true := by simpa using he
      go_wp2_with fail
      go_quiet (fail)
      go_wp2_with fail
      go_ret3
      rw [HP.out,if_neg he]
      exact parse_nilC (below_drewN HB2.out _)
  · rw [if_pos hce]
    have he' : (ce != 0) = true:=by simpa using hce
    go_enter Try.func17,Try.ntmps17
    go_wp2_with fail
    refine (HC.out _).mono ?_
    rintro e w1 ⟨v,rfl,hown,hb1⟩
    have HB1:=zh hb1
    clear hown hb1
    dsimp only
    go_wp2_with fail
    go_ret3
    exact parse_nilC HB1.out
theorem ref9_Parse (s : ByteArray) (w : World) (hs : s.size ≤ maxLen) :
    Calls Try.prog 17 #[.string s] w (ParsePost w (treeL s.data.toList)):=(ref9_ParseC s w hs).mono fun _ _ h => h.plain
end
section
set_option maxRecDepth 100000
open Go.RowKit
open Go.Joins renaming cell_of_block → zb, unfrozen_of_block → zu
open Go.Lib renaming hid → zh
theorem ccells_keepV {w w' : World} {B B' : Nat} {A : Option Addr} {l : List CalL} (h : ReadsM w (· < B) 14 A l.length (l.flatMap CalL.cc)) (hb : Below B w w') (hB : B ≤ B') : ReadsM w' (· < B') 14 A l.length (l.flatMap CalL.cc) :=
  h.keep (fun b h => by omega) fun p hp => hb.cell hp
set_option maxHeartbeats 2000000 in
theorem ref12_has (l : List CalL) (s : Bytes) (A : Option Addr) (c : Nat) (w : World) (B : Nat) (hB : B ≤ w.heap.size) (hr : ReadsM w (· < B) 14 A l.length (l.flatMap CalL.cc)) (hl : l.length ≤ 100000) :
    Calls Try.prog 19 #[.slice A l.length c, .string ⟨s.toArray⟩] w fun e w' => e = .returned (.bool ((l.map CalL.name).contains s)) ∧ Below w.heap.size w w':=by
  have HR:=zh hr
  obtain ⟨R,hR⟩ : ∃ R,(l.map CalL.name).contains s = R:=⟨_,rfl⟩
  rw [hR]
  have HRR:=zh hR
  clear hr hR
  go_enter Try.func19,Try.ntmps19
  go_wp2_with fail
  go_loopw [9] (fun iv wr => ∃ q : Nat,q ≤ l.length ∧ iv = .int .i64 q ∧ Below w.heap.size w wr ∧ R = ((l.drop q).map CalL.name).contains s) (fun iv _ => l.length - (intOf iv).toNat)
  case atStart => exact ⟨0,Nat.zero_le _,rfl,Below.refl _ _,by rw [List.drop_zero];exact HRR.out.symm⟩
  case round =>
    obtain ⟨q,hq,rfl,hbw,hk⟩:=hrel
    have hzw:=hbw.size
    by_cases hlt : q < l.length
    · obtain ⟨t,ht⟩ : ∃ n,l[q]? = some n := ⟨_,List.getElem?_eq_getElem hlt⟩
      rw [List.drop_eq_getElem_cons hlt,show l[q] = t from Option.some.inj ((List.getElem?_eq_getElem hlt).symm.trans ht),List.map_cons,List.contains_cons] at hk
      obtain ⟨ad,hA,hM,hc14⟩:=cal_at (ccells_keepV HR.out (hbw.mono hB) (Nat.le_refl _)) q t ht
      subst hA
      obtain ⟨nm,kind,day,month,shift,shape,p0,p1,p2,cycle,extra,first,last,policy⟩:=t
      obtain ⟨x0,x1,x2,x3,x4,x5,x6,x7,x8,x9,x10,x11,x12,x13⟩:=hc14
      dsimp only at hk x0 x1 x2 x3 x4 x5 x6 x7 x8 x9 x10 x11 x12 x13
      have lk : (q : Int) < l.length:=by omega
      have lk0 : (0 : Int) ≤ q:=by omega
      have w1f : IntKind.i64.wrap ((q : Int) + 1) = (q : Int) + 1:=by rw [IntKind.wrap_i64];omega
      obtain ⟨g,hg⟩ : ∃ g,(nm == s) = g:=⟨_,rfl⟩
      have hg' : (s == nm) = g:=by rw [← hg];exact BEq.comm
      rw [hg'] at hk
      have HB:=zh hbw
      have HK:=zh hk
      clear hk ht hbw hg'
      cases g
      · go_wp2_with fail
        exact ⟨⟨q + 1,by omega,by go_num,HB.out.alloc hzw _,by rw [HK.out,Bool.false_or]⟩,by simp [intOf];omega⟩
      · go_wp2_with fail
        go_ret
        exact ⟨by rw [HK.out];rfl,HB.out.alloc hzw _⟩
    · have lk : ¬ (q : Int) < l.length := by omega
      have HB:=zh hbw
      have HK:=zh (show R = false by rw [hk,show q = l.length by omega,List.drop_length];rfl)
      clear hbw hk
      go_wp2_with fail
      go_ret
      exact ⟨by rw [HK.out];rfl,HB.out⟩
theorem node_atC {w : World} {M : Nat → Prop} {A : Option Addr} {l : List NodeL} {cs : List Value} (h : ReadsM w M 5 A l.length cs) (hn : NodesOk w M l cs) (hcap : CapL cs) (i : Nat) (n : NodeL) (hi : l[i]? = some n) :
    ∃ ad Aw cw Ak ck,A = some ad ∧ M ad.block ∧ w.cell? (ad.add (i * 5)) = some (.string ⟨n.name.toArray⟩) ∧ w.cell? ⟨(ad.add (i * 5)).block,(ad.add (i * 5)).off + 1,none⟩ = some (.int .i64 n.pos) ∧
      w.cell? ⟨(ad.add (i * 5)).block,(ad.add (i * 5)).off + 2,none⟩ = some (.slice Aw n.words.length cw) ∧ w.cell? ⟨(ad.add (i * 5)).block,(ad.add (i * 5)).off + 3,none⟩ = some (.bool n.block) ∧
      w.cell? ⟨(ad.add (i * 5)).block,(ad.add (i * 5)).off + 4,none⟩ = some (.slice Ak n.kids.length ck) ∧
      NodeOk w M n [.string ⟨n.name.toArray⟩, .int .i64 n.pos, .slice Aw n.words.length cw, .bool n.block, .slice Ak n.kids.length ck] ∧
      ∀ A m c,Value.slice A m c ∈ [.string ⟨n.name.toArray⟩, .int .i64 n.pos, .slice Aw n.words.length cw, .bool n.block, .slice Ak n.kids.length ck] → m ≤ c:=by
  have hlt : i < l.length:=(List.getElem?_eq_some_iff.1 hi).1
  obtain ⟨ad,rfl,hb,hc⟩:=h.2 (by omega)
  obtain ⟨a,ha,hg⟩:=hn.at i n hi
  have hca : ∀ j,j < 5 → ∀ A m c,a[j]? = some (Value.slice A m c) → m ≤ c:=fun j hj A m c e => hcap A m c (List.mem_of_getElem? ((hg j hj).trans e))
  obtain ⟨nm,p,ws,b,ks⟩:=n
  have ha0:=ha
  simp only [NodeOk] at ha
  obtain ⟨Aw,cw,Ak,ck,kcs,rfl,h2,h3,h4,h5,h6⟩:=ha
  have hs : ∀ j,j ≠ 0 → ad.add (i * 5 + j) = ⟨(ad.add (i * 5)).block,(ad.add (i * 5)).off + j,none⟩ := fun j hj => by
    rw [← add_of_add];unfold Addr.add;rw [if_neg hj]
  refine ⟨ad,Aw,cw,Ak,ck,rfl,hb,hc _ _ (hg 0 (by omega)),hs 1 (by omega) ▸ hc _ _ (hg 1 (by omega)),hs 2 (by omega) ▸ hc _ _ (hg 2 (by omega)),
    hs 3 (by omega) ▸ hc _ _ (hg 3 (by omega)),hs 4 (by omega) ▸ hc _ _ (hg 4 (by omega)),ha0,fun A m c hm => ?_⟩
  obtain ⟨j,hj,e⟩:=List.mem_iff_getElem.1 hm
  exact hca j (by simpa using hj) A m c (by rw [← e];exact List.getElem?_eq_getElem hj)
/-- What is known ahead of each round. -/
structure ReadJ (w1 : World) (mb : Nat) (nodes : List NodeL) (q : Nat) (v : Value) (out : List CalL) (wr : World) : Prop where
  same : readGo [] nodes = readGo out (nodes.drop q)
  own : OwnCals wr mb v out
  below : Below mb w1 wr
  size : mb ≤ wr.heap.size
  len : out.length = q
  few : out.length ≤ 32
set_option maxHeartbeats 8000000 in
theorem ref12_Read (s : ByteArray) (w : World) (hs : s.size ≤ maxLen) (hcn : cntL (treeL s.data.toList).nodes ≤ 100000) (hfit : fitNs (treeL s.data.toList).nodes) :
    Calls Try.prog 9 #[.string s] w (ConfPost w (confRead s.data.toList)):=by
  have HP:=zh (ref9_ParseC s w hs)
  have HCR:=zh (show confRead s.data.toList = if (treeL s.data.toList).err ≠ 0 then ⟨[],(treeL s.data.toList).pos,(treeL s.data.toList).err⟩ else readGo [] (treeL s.data.toList).nodes from rfl)
  have HFIT:=zh hfit
  clear hfit
  generalize confRead s.data.toList = CR at *
  generalize treeL s.data.toList = R at *
  obtain ⟨nds,pos,err⟩:=R
  simp only at hcn HCR HFIT
  obtain ⟨ic,hic,hcz⟩:=Option.map_eq_some_iff.1 info_cal
  simp only [Prod.mk.injEq] at hcz
  obtain ⟨hcs,hcby,hcz⟩:=hcz
  obtain ⟨zc,hzc,hczs⟩:=Option.map_eq_some_iff.1 hcz
  by_cases he : err = 0
  case neg =>
    have HR:=zh (show CR = ⟨[],pos,err⟩ by rw [HCR.out,if_pos he])
    have hne : (err == 0) = false:=beq_false_of_ne he
    have HE:=zh he
    clear he hcn hcz hic hcs hcby hzc hczs
    go_enter Try.func9,Try.ntmps9
    go_wp2_with fail
    refine HP.out.mono ?_
    rintro e1 w1 ⟨A,c,kcs,rfl,_,hr,hn,hb1⟩
    have HB1:=zh hb1
    clear hr hn hb1
    go_wp2_with fail
    go_ret3
    rw [HR.out]
    exact conf_nil HB1.out
  subst he
  have HR:=zh (show CR = readGo [] nds by rw [HCR.out,if_neg (by simp)])
  have hlen:=Nat.le_trans (cntL_len nds) hcn
  go_enter Try.func9,Try.ntmps9
  go_wp2_with fail
  refine HP.out.mono ?_
  rintro e1 w1 ⟨A,c,kcs,rfl,hic9,hr,hn,hb1⟩
  have HCAP:=zh hic9.2.2
  clear hic9
  have HB1:=zh hb1
  have HRD:=zh (And.intro hr hn)
  have hz1:=hb1.size
  clear hr hn hb1
  go_wp2_with fail
  obtain ⟨mb,hmb⟩ : ∃ g,g = w1.heap.size:=⟨_,rfl⟩
  have hstart : ReadJ w1 mb nds 0 (.slice none 0 0) [] w1 :=
    ⟨by rw [List.drop_zero],OwnCals.nil _ _,Below.refl _ _,by omega,rfl,Nat.zero_le _⟩
  have HMB:=zh hmb
  have HST:=zh hstart
  have hwm : w.heap.size ≤ mb:=by omega
  clear hmb hstart
  go_loopw [8,26] (fun v iv wr => ∃ (q : Nat) (out : List CalL),q ≤ nds.length ∧ iv = .int .i64 q ∧ ReadJ w1 mb nds q v out wr) (fun _ iv _ => nds.length - (intOf iv).toNat)
  case atStart => exact ⟨0,[],Nat.zero_le _,rfl,HST.out⟩
  case round =>
    obtain ⟨q,out,hq,rfl,hi⟩:=hrel
    obtain ⟨Ao,co,hv,hco⟩:=own_form hi.own
    have HOL:=zh hi.len
    have hfew:=hi.few
    subst hv
    by_cases hlt : q < nds.length
    · obtain ⟨n,hn⟩ : ∃ n,nds[q]? = some n := ⟨_,List.getElem?_eq_getElem hlt⟩
      have hsame:=hi.same
      rw [List.drop_eq_getElem_cons hlt] at hsame
      have hnq : nds[q] = n:=Option.some.inj ((List.getElem?_eq_getElem hlt).symm.trans hn)
      rw [hnq] at hsame
      have hkeep : ∀ p : Addr,w.heap.size ≤ p.block ∧ p.block < w1.heap.size → wr.cell? p = w1.cell? p:=fun p hp => hi.below.cell (by have:=HMB.out;omega)
      obtain ⟨ad,Aw,cw,Ak,ck,hA,hM,c0,c1,c2,c3,c4,hok,hcapn⟩:=node_atC (HRD.out.1.keep (w':=wr) (fun _ h => h) hkeep) (NodesOk.keep (fun _ h => h) hkeep _ _ HRD.out.2) HCAP.out q n hn
      subst hA
      have hok1 : NodeOk wr (· < mb) n _:=NodeOk.keep (fun b h => by have:=HMB.out;omega) (fun _ _ => rfl) _ _ hok
      have hsz:=hi.size
      have lk : (q : Int) < nds.length:=by omega
      have lk0 : (0 : Int) ≤ q:=by omega
      have w1f : IntKind.i64.wrap ((q : Int) + 1) = (q : Int) + 1:=by rw [IntKind.wrap_i64];omega
      have HOK:=zh hok1
      have HCN:=zh hcapn
      have HI:=zh hi
      have HSM:=zh hsame
      have HNN:=zh hn
      clear hi hsame hnq hn hok hok1 hkeep hM hcapn
      by_cases h32 : out.length = 32
      · have ho : ((out.length : Int) == 32) = true := by rw [h32]; rfl
        have HX:=zh (show CR = ⟨[],n.pos,6⟩ by rw [HR.out,HSM.out,readGo_long _ _ _ h32])
        have HBX:=zh (HB1.out.trans ((HI.out.below.alloc (by omega) (.cells #[.string ⟨n.name.toArray⟩, .int .i64 n.pos, .slice Aw n.words.length cw, .bool n.block, .slice Ak n.kids.length ck] 40)).mono hwm))
        clear h32
        go_wp2_with fail
        go_region
        all_goals (
          go_wp2_with fail
          go_ret3
          rw [HX.out]
          exact conf_nil HBX.out.drew)
      · have ho : ((out.length : Int) == 32) = false := beq_false_of_ne (by omega)
        have hol32 : out.length ≤ 100000:=by have:=HOL.out;omega
        have hb2:=(Below.refl wr.heap.size wr).alloc (Nat.le_refl _) (.cells #[.string ⟨n.name.toArray⟩, .int .i64 n.pos, .slice Aw n.words.length cw, .bool n.block, .slice Ak n.kids.length ck] 40)
        have hrd := r11_Read n [.string ⟨n.name.toArray⟩, .int .i64 n.pos, .slice Aw n.words.length cw, .bool n.block, .slice Ak n.kids.length ck] (wr.alloc (.cells #[.string ⟨n.name.toArray⟩, .int .i64 n.pos, .slice Aw n.words.length cw, .bool n.block, .slice Ak n.kids.length ck] 40)) mb (by simp; omega)
          (NodeOk.keep (fun _ h => h) (fun p hp => hb2.cell (by omega)) _ _ HOK.out) HCN.out (Nat.le_trans (cnt_one nds q n HNN.out) hcn) (fit_one nds q n HFIT.out HNN.out)
        unfold ReadPost at hrd
        have HN0:=zh (heap_alloc_new wr (.cells #[.string ⟨n.name.toArray⟩, .int .i64 n.pos, .slice Aw n.words.length cw, .bool n.block, .slice Ak n.kids.length ck] 40))
        have HB2:=zh hb2
        have H32:=zh h32
        generalize hrc : readC n = RC at hrd
        have HRC:=zh hrc
        obtain ⟨cal,cat,cerr⟩:=RC
        obtain ⟨cal0,hcal0⟩ : ∃ x,x = cal:=⟨_,rfl⟩
        obtain ⟨nm,kind,day,month,shift,shape,p0,p1,p2,cycle,extra,first,last,policy⟩:=cal
        dsimp only [calV] at hrd
        have HRD2:=zh hrd
        have HCAL:=zh hcal0
        clear hb2 hrd h32 hrc hcal0
        by_cases hce : cerr = 0
        case neg =>
          have hne : (cerr == 0) = false:=beq_false_of_ne hce
          have HX:=zh (show CR = ⟨[],cat,cerr⟩ by rw [HR.out,HSM.out,readGo_bad _ _ _ H32.out (by rw [HRC.out];exact hce),HRC.out])
          have HCE:=zh hce
          clear hce
          go_wp2_with fail
          refine HRD2.out.mono ?_
          rintro e3 w3 ⟨rfl,hb3⟩
          have HB3:=zh (HB1.out.trans ((HI.out.below.trans ((HB2.out.trans (hb3.mono (by simp))).mono (by omega))).mono hwm))
          have hzz : w.heap.size ≤ w3.heap.size:=HB3.out.size
          have HB4:=zh (HB3.out.alloc hzz (.cells #[.string ⟨nm.toArray⟩, .int .i64 kind, .int .i64 day, .int .i64 month, .int .i64 shift, .int .i64 shape, .int .i64 p0, .int .i64 p1, .int .i64 p2, .int .i64 cycle, .int .i64 extra, .int .i64 first, .int .i64 last, .int .i64 policy] 31))
          clear hb3
          go_wp2_with fail
          go_ret3
          rw [HX.out]
          exact conf_nil HB4.out
        subst hce
        go_wp2_with fail
        refine HRD2.out.mono ?_
        rintro e3 w3 ⟨rfl,hb3⟩
        have hzr:=hb3.size
        have hzw : wr.heap.size + 1 ≤ w3.heap.size:=by simpa using hzr
        have hb23 : Below wr.heap.size wr w3:=HB2.out.trans (hb3.mono (by simp))
        have hb4:=hb23.alloc (by omega) (.cells #[.string ⟨nm.toArray⟩, .int .i64 kind, .int .i64 day, .int .i64 month, .int .i64 shift, .int .i64 shape, .int .i64 p0, .int .i64 p1, .int .i64 p2, .int .i64 cycle, .int .i64 extra, .int .i64 first, .int .i64 last, .int .i64 policy] 31)
        have hnode : w3.heap[wr.heap.size]? = _:=(hb3.block _ (by simp)).trans HN0.out
        have hcal : (w3.alloc (.cells #[.string ⟨nm.toArray⟩, .int .i64 kind, .int .i64 day, .int .i64 month, .int .i64 shift, .int .i64 shape, .int .i64 p0, .int .i64 p1, .int .i64 p2, .int .i64 cycle, .int .i64 extra, .int .i64 first, .int .i64 last, .int .i64 policy] 31)).heap[w3.heap.size]? = _:=heap_alloc_new w3 _
        obtain ⟨cb,hcb⟩ : ∃ g,g = w3.heap.size:=⟨_,rfl⟩
        obtain ⟨nb,hnb⟩ : ∃ g,g = wr.heap.size:=⟨_,rfl⟩
        have hnode4:=(heap_alloc_old w3 (.cells #[.string ⟨nm.toArray⟩, .int .i64 kind, .int .i64 day, .int .i64 month, .int .i64 shift, .int .i64 shape, .int .i64 p0, .int .i64 p1, .int .i64 p2, .int .i64 cycle, .int .i64 extra, .int .i64 first, .int .i64 last, .int .i64 policy] 31) (show wr.heap.size < w3.heap.size by omega)).trans hnode
        have hz4 : (w3.alloc (.cells #[.string ⟨nm.toArray⟩, .int .i64 kind, .int .i64 day, .int .i64 month, .int .i64 shift, .int .i64 shape, .int .i64 p0, .int .i64 p1, .int .i64 p2, .int .i64 cycle, .int .i64 extra, .int .i64 first, .int .i64 last, .int .i64 policy] 31)).heap.size = w3.heap.size + 1:=by simp
        go_wp2_with fail
        generalize hW4 : World.alloc w3 _ = W4 at *
        rw [← hcb] at hcal
        rw [← hnb] at hnode4
        rw [← hnb,← hcb]
        have hown4:=own_below HI.out.own hb4
        obtain ⟨Ao',co',hvo,hro⟩:=own_readsC hown4
        have hhas:=ref12_has out nm Ao' co' W4 W4.heap.size (Nat.le_refl _) hro hol32
        rw [← hvo] at hhas
        have HMET:=zh hhas
        have HOWN4:=zh hown4
        have HNODE:=zh hnode4
        have HCB:=zh hcal
        have HB4:=zh (And.intro hb4 (And.intro hcb (And.intro hnb hz4)))
        have hmbn : mb ≤ nb:=by omega
        have hnbc : nb < cb:=by omega
        have hwb : w.heap.size ≤ mb:=hwm
        clear hhas hvo hro hown4 hnode4 hcal hb4 hcb hnb hz4 hnode hb23 hb3 hzr hzw hW4
        have g0:=zb HCB.out 0
        go_wp2_with fail
        refine HMET.out.mono ?_
        rintro e5 w5 ⟨rfl,hb5⟩
        have HB5:=zh hb5
        have hz5:=hb5.size
        clear hb5 g0
        cases hct : (out.map CalL.name).contains nm with
        | true =>
          have HX:=zh (show CR = ⟨[],n.pos,9⟩ by rw [HR.out,HSM.out,readGo_twice _ _ _ H32.out (by rw [HRC.out]) (by rw [HRC.out,← HCAL.out];exact (by rw [HCAL.out];exact hct))])
          have e1:=(HB5.out.cell (p:=⟨nb,1,none⟩) (Array.getElem?_eq_some_iff.1 HNODE.out).1).trans (zb HNODE.out 1)
          have HBX:=zh (HB1.out.trans (((HI.out.below.trans (HB4.out.1.mono (by have:=HB4.out.2.2.1;omega))).trans (HB5.out.mono (by have a:=HB4.out.1.size;have b:=HI.out.size;omega))).mono hwm))
          clear hct
          go_wp2_with fail
          go_region
          all_goals (
            go_wp2_with fail
            go_ret3
            rw [HX.out]
            exact conf_nil HBX.out.drew)
        | false =>
          have hsm5 : readGo [] nds = readGo (out ++ [cal0]) (nds.drop (q + 1)) := by
            rw [HSM.out,readGo_on _ _ _ H32.out (by rw [HRC.out]) (by rw [HRC.out];exact hct),HRC.out,HCAL.out]
          have hmbl : mb ≤ W4.heap.size:=by have a:=HB4.out.1.size;have b:=HI.out.size;omega
          have hown5:=own_below HOWN4.out HB5.out
          have hcb5:=(HB5.out.block cb (Array.getElem?_eq_some_iff.1 HCB.out).1).trans HCB.out
          have hbl5:=(HI.out.below.trans (HB4.out.1.mono (show mb ≤ wr.heap.size by have:=HB4.out.2.2.1;omega))).trans (HB5.out.mono hmbl)
          have hcbl : cb < w5.heap.size:=(Array.getElem?_eq_some_iff.1 hcb5).1
          obtain ⟨g0,g1,g2,g3,g4,g5,g6,g7,g8,g9,g10,g11,g12,g13⟩:=cells14 hcb5
          have t1:=cells_new w5 cal0.cc 31 w5.heap.size rfl
          have t2:=cells_one cal0
          have t3 : out.length + 1 ≤ maxLen:=by unfold maxLen;omega
          have t4 : (out.length + 1) * 120 ≤ 140737488355328:=by omega
          have t5 : mb ≤ (w5.alloc (.cells cal0.cc.toArray 31)).heap.size:=by simp;omega
          have t6 : (w5.alloc (.cells cal0.cc.toArray 31)).ownsRow mb 31 14 (.slice Ao out.length co) out.length (out.flatMap CalL.cc):=hown5.alloc _
          have HBL:=zh hbl5
          have HOW:=zh hown5
          have HSM5:=zh hsm5
          have hccs : cal0.cc = [.string ⟨nm.toArray⟩, .int .i64 kind, .int .i64 day, .int .i64 month, .int .i64 shift, .int .i64 shape, .int .i64 p0, .int .i64 p1, .int .i64 p2, .int .i64 cycle, .int .i64 extra, .int .i64 first, .int .i64 last, .int .i64 policy]:=by rw [HCAL.out];rfl
          rw [hccs] at t1 t2 t5 t6
          have HCC:=zh hccs
          clear hct hbl5 hown5 hsm5 hccs hcb5
          go_wp2_with (first | (at_builtin;go_loud (refine wpList_append_own _ rfl _ _ 23 rfl mb 31 ic zc 14 120 Try.underlying23 hic hzc hcs hcby hczs (by decide) (.slice Ao out.length co) out.length _ rfl t6 ⟨w5.heap.size,0,none⟩ 1 1 [.string ⟨nm.toArray⟩, .int .i64 kind, .int .i64 day, .int .i64 month, .int .i64 shift, .int .i64 shape, .int .i64 p0, .int .i64 p1, .int .i64 p2, .int .i64 cycle, .int .i64 extra, .int .i64 first, .int .i64 last, .int .i64 policy] rfl rfl t1 t2 t3 t4 t5 ?_);intro v6 w6 hown6 hgrow6 _;have HO6:=zh hown6;have HG6:=zh hgrow6;clear hown6 hgrow6) | fail)
          refine ⟨⟨q + 1,out ++ [cal0],by omega,by go_num,⟨HSM5.out,OwnCals.push (by rw [HCC.out];exact HO6.out),?_,?_,?_,?_⟩⟩,by simp [intOf];omega⟩
          · exact (HBL.out.alloc (show mb ≤ w5.heap.size by omega) _).grown HG6.out (by simp;omega) (fun k hk => by have:=(HOW.out.lt k hk).1;omega)
          · have := HG6.out.size
            simp at this
            omega
          · rw [List.length_append,HOL.out];rfl
          · rw [List.length_append];have:=H32.out;simp only [List.length_cons,List.length_nil];omega
    · have hql : q = nds.length := by omega
      have lk : ¬ (q : Int) < nds.length:=by omega
      have HX:=zh (show CR = ⟨out,0,0⟩ by rw [HR.out,hi.same,hql,List.drop_length,readGo_done])
      have HI:=zh hi
      clear hi hql
      go_wp2_with fail
      go_ret3
      rw [HX.out]
      exact ⟨_,rfl,own_downC hwm HI.out.own,HB1.out.trans (HI.out.below.mono hwm)⟩
end
section
open Go.RowKit
open Go.Lib renaming hid → zh
set_option maxRecDepth 100000 in
set_option maxHeartbeats 4000000 in
theorem walk_ConfReads (s : ByteArray) (w : World) (hs : s.size ≤ maxLen) :
    Calls Try.prog 3 #[.string s] w fun e w' => e = .returned (.bool true) ∧ Below w.heap.size w w':=by
  have hs':=hs
  unfold maxLen at hs'
  have HV:=zh (law12_live w)
  by_cases hbig : 2000 < s.size
  · go_enter Try.func3,Try.ntmps3
    go_wp2_with fail
    refine HV.out.mono ?_
    rintro e w1 ⟨rfl,hb1⟩
    go_wp2_with fail
    go_ret
    exact ⟨rfl,hb1⟩
  obtain ⟨ti1,ti2⟩:=text_in s.data.toList (by rw [ba_len];omega)
  have HR:=zh (fun W => conf_Read s W hs ti1 ti2)
  have HF:=zh (fun W => ref12_Read s W hs ti1 ti2)
  obtain ⟨cf1,cf2⟩:=conf_facts s.data.toList
  have hlen : (confRead s.data.toList).cals.length ≤ 32 := by
    by_cases he : (confRead s.data.toList).err = 0
    · obtain ⟨_,_,d3,_,d5⟩ := cf2 he
      rw [d3,List.length_map];exact d5
    · rw [cf1 he];simp
  clear ti1 ti2 cf1 cf2
  generalize confRead s.data.toList = C at *
  obtain ⟨L,cp,ce⟩:=C
  simp only at hlen HR HF
  go_enter Try.func3,Try.ntmps3
  go_wp2_with fail
  refine HV.out.mono ?_
  rintro e w1 ⟨rfl,hb1⟩
  have HB1:=zh hb1
  clear hb1
  go_wp2_with fail
  refine (HR.out w1).mono ?_
  rintro e w2 ⟨v2,rfl,hown2,hb2⟩
  obtain ⟨A2,c2,rfl,_,hr2⟩:=own_cals_reads hown2
  have HR2:=zh hr2
  have HB2:=zh (HB1.out.trans (hb2.mono HB1.out.size))
  clear hown2 hb2 hr2
  dsimp only
  go_wp2_with fail
  refine (HF.out w2).mono ?_
  rintro e w3 ⟨v3,rfl,hown3,hb3⟩
  obtain ⟨A3,c3,rfl,_,hr3⟩:=own_cals_reads hown3
  have HR3:=zh hr3
  have HR23:=zh (ccells_keepV HR2.out hb3 hb3.size)
  have HB3:=zh (HB2.out.trans (hb3.mono HB2.out.size))
  clear hown3 hb3 hr3
  dsimp only
  go_wp2_with fail
  have hsame:=ref12_Same A2 A3 c2 c3 L L w3 HR23.out HR3.out (by unfold maxLen;omega)
  rw [decide_eq_true rfl] at hsame
  refine hsame.mono ?_
  rintro e w4 ⟨rfl,hb4⟩
  have HB4:=zh (HB3.out.trans (hb4.mono HB3.out.size))
  clear hb4 hsame
  go_wp2_with fail
  go_ret
  exact ⟨by first | rfl | exact ret_bool (by simp),HB4.out⟩
end
end Go.Proofs.Ytjbniichcopnlaa
