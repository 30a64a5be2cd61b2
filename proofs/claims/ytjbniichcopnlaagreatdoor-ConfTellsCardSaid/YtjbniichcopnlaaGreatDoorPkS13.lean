/- Layer 9 (tree): the walk of Parse. Then: Layer 9 (tree): items that are read: the walks of Deep, and of Few. Then: append onto a row of the call's own, from a slice that reads as a list. -/
import Derived.Test.YtjbniichcopnlaaGreatDoorPkS12
import Derived.LaidEqlPtr
import Derived.Lib.Builder
import Derived.Test.YtjbniichcopnlaaGreatDoorPkS6
import Derived.Test.YtjbniichcopnlaaGreatDoorPkS2
namespace Go.Proofs.YtjbniichcopnlaaGreatDoor
section
set_option linter.unusedVariables false
set_option linter.unusedSimpArgs false
open Go.RowKit
open Go.Joins renaming cell_of_block → zb, unfrozen_of_block → zu
open Go.Lib renaming hid → zh
theorem PI.step0 {w0 w w' : World} {M : Nat → Prop} {B0 r rb k : Nat} {st : List Fr} {io : Option It} (h : PI w0 w M B0 r rb k st io) (hs : Step w w' [] none) : PI w0 w' M B0 r rb k st io := by
  have lr:=(h.bd r (by simp)).2.1
  have hz:=hs.size
  have hsz:=h.size
  exact
    { below := h.bad hs
      stack:=h.stack.keep hs (fun x hx => ⟨(h.mb x hx).2,safe_nil x⟩) (fun _ hx => hx) (fun x _ => safe_nil x)
      item:=fun x hx => (h.item x hx).keep hs (fun y _ => safe_nil y)
      r0:=(hs.cell r lr (by simp) 0 (by simp)).trans h.r0
      r1:=(hs.cell r lr (by simp) 1 (by simp)).trans h.r1
      r2:=(hs.cell r lr (by simp) 2 (by simp)).trans h.r2
      rf:=fun j => (hs.froz r lr (by simp) j).trans (h.rf j)
      nd:=h.nd
      bd:=fun x hx => by obtain ⟨a,b,c⟩:=h.bd x hx;exact ⟨a,by omega,c⟩
      mb:=fun x hx => by obtain ⟨a,b⟩:=h.mb x hx;exact ⟨a,by omega⟩
      last:=h.last
      kids:=h.kids
      size:=by omega
      words:=h.words
      len:=h.len
      shp:=fun x hx => shape_keep hs (h.shp x hx) (by simp)
      ish:=fun x hx => shape_keep hs (h.ish x hx) (by simp) }
theorem PInv.step0 {w0 w w' : World} {B0 r rb k : Nat} {fs : List FrameL} {it : Option ItemL} (h : PInv w0 w B0 r rb k fs it) (hs : Step w w' [] none) : PInv w0 w' B0 r rb k fs it := by
  obtain ⟨M,st,io,a,b,hp⟩:=h
  exact ⟨M,st,io,a,b,hp.step0 hs⟩
theorem pinv_start (w1 : World) : PInv w1 ((w1.alloc (.cells #[.string ⟨#[]⟩, .int .i64 0, .slice none 0 0, .bool false, .slice none 0 0, .pointer none] 81)).alloc (.cells #[.pointer (some ⟨w1.heap.size,0,none⟩), .pointer none, .int .i64 0] 84))
    w1.heap.size (w1.heap.size + 1) w1.heap.size 0 [rootF] none:=by
  obtain ⟨W,hW⟩ : ∃ W,W = (w1.alloc (.cells #[.string ⟨#[]⟩, .int .i64 0, .slice none 0 0, .bool false, .slice none 0 0, .pointer none] 81)).alloc (.cells #[.pointer (some ⟨w1.heap.size,0,none⟩), .pointer none, .int .i64 0] 84):=⟨_,rfl⟩
  rw [← hW]
  have b0 : W.heap[w1.heap.size]? = some (.cells #[.string ⟨#[]⟩, .int .i64 0, .slice none 0 0, .bool false, .slice none 0 0, .pointer none] 81) := by
    rw [hW];exact (heap_alloc_old _ _ (by simp)).trans (heap_alloc_new _ _)
  have b1 : W.heap[w1.heap.size + 1]? = some (.cells #[.pointer (some ⟨w1.heap.size,0,none⟩), .pointer none, .int .i64 0] 84) := by
    rw [hW];exact alloc_at _ _ (by simp)
  have hsz : W.heap.size = w1.heap.size + 2:=by rw [hW];simp
  have hbl : Below w1.heap.size w1 W:=by rw [hW];exact ((Below.refl _ _).alloc (Nat.le_refl _) _).alloc (by simp) _
  refine ⟨fun _ => False,[⟨w1.heap.size,rootF,none,0⟩],none,rfl,rfl,?_⟩
  exact
    { below := hbl
      stack:=⟨⟨none,0,false,[],open6_of_block (up:=none) b0,fun h => absurd rfl h,fun _ => rfl,ReadsM.nil _ _ _ _,⟨rfl, .inl ⟨rfl,rfl⟩⟩,rfl⟩,trivial⟩
      item:=fun x hx => by cases hx
      r0:=zb b1 0
      r1:=zb b1 1
      r2:=zb b1 2
      rf:=zu b1
      nd:=by simp [stM,Fr.ms,ownB,ioM]
      bd := fun x hx => by
        simp [stM,Fr.ms,ownB,ioM] at hx
        rcases hx with rfl | rfl <;> exact ⟨by omega,by omega,fun h => h⟩
      mb:=fun x hx => hx.elim
      last:=rfl
      kids:=fun x hx => by simp at hx;subst hx;simp [rootF]
      size:=by omega
      words:=fun x hx => by cases hx
      len:=by simp
      shp:=fun x hx => by simp at hx;subst hx;exact ⟨_,_,b0⟩
      ish:=fun x hx => by cases hx }
theorem info_open : (Tryz.prog.info? 81).map (fun i => (i.zero,i.size,i.bytes)) = some (some (.agg #[.string ⟨#[]⟩, .int .i64 0, .slice none 0 0, .bool false, .slice none 0 0, .pointer none]),6,88):=by kernel_rfl
theorem run_neq_open_same (w : World) (a : Addr) : (binOp .neq 79 (.pointer (some a)) (.pointer (some a))).run Tryz.prog w = .ok (.bool false) w := by
  obtain ⟨j,hj,_⟩:=info_parts info_open
  exact Lib.run_neq_ptr_same w a Tryz.underlying79 hj
theorem run_neq_open_other (w : World) {a b : Addr} {ca cb : Array Value} {ta tb : TypeId} (hne : a ≠ b) (ha : w.heap[a.block]? = some (.cells ca ta (0,0))) (hb : w.heap[b.block]? = some (.cells cb tb (0,0))) :
    (binOp .neq 79 (.pointer (some a)) (.pointer (some b))).run Tryz.prog w = .ok (.bool true) w:=by
  obtain ⟨j,hj,_,hsz,_⟩:=info_parts info_open
  have h : ∀ d : Nat,(Op.equalIn (d + 1) 79 (.pointer (some a)) (.pointer (some b))).run Tryz.prog w = .ok false w := fun d => by
    simp [Op.equalIn,run_underlying Tryz.underlying79,sizeOf,typeInfo,hj,hsz,run_sameAddr_other w hne ha hb]
  simp only [binOp]
  simp [Op.equal,Op.maxDepth,h 9999]
/-- What Parse leaves. -/
def ParsePost (w : World) (R : ParseRes) (e : Ending) (w' : World) : Prop :=
  ∃ A c kcs,e = .returned (.tuple #[.slice A R.nodes.length c, .int .i64 R.pos, .int .i64 R.err]) ∧ NilOk A c ∧ ReadsM w' (fun b => w.heap.size ≤ b ∧ b < w'.heap.size) 5 A R.nodes.length kcs ∧
    NodesOk w' (fun b => w.heap.size ≤ b ∧ b < w'.heap.size) R.nodes kcs ∧ Below w.heap.size w w'
theorem parse_nil {w w' : World} {p e : Int} (hb : Below w.heap.size w w') : ParsePost w ⟨[],p,e⟩ (.returned (.tuple #[.slice none 0 0, .int .i64 p, .int .i64 e])) w' :=
  ⟨none,0,[],rfl,fun _ => rfl,ReadsM.nil _ _ _ _,rfl,hb⟩
theorem cutL_len16 (s : Bytes) : (cutL s).toks.length ≤ 65536 := by
  unfold cutL
  split
  · simp
  · have := cutM_len false 0 0 0 s
    omega
set_option maxRecDepth 100000 in
set_option maxHeartbeats 4000000 in
theorem tree_Parse (s : ByteArray) (w : World) (hs : s.size ≤ maxLen) :
    Calls Tryz.prog 21 #[.string s] w (ParsePost w (treeL s.data.toList)):=by
  have HC:=zh (fun W => lex_Cut s W hs)
  have hct:=cutL_len16 s.data.toList
  unfold treeL
  rw [ba_len]
  generalize cutL s.data.toList = R at *
  obtain ⟨l,p,ce⟩:=R
  dsimp only at hct ⊢
  by_cases hce : ce = 0
  · subst hce
    rw [if_neg (by simp)]
    have HL:=zh hct
    go_enter Tryz.func21,Tryz.ntmps21
    go_wp2_with fail
    refine (HC.out _).mono ?_
    rintro e w1 ⟨v,rfl,hown,hb1⟩
    have hrt:=ReadToks.of_own hown
    obtain ⟨A,c,rfl,hrd⟩:=hrt
    have HRD:=zh hrd
    have HB1:=zh hb1
    have hinv:=pinv_start w1
    have HI:=zh hinv
    clear hown hrd hb1 hinv hct
    dsimp only
    go_wp2_with fail
    go_loopw [31] (fun i wr => ∃ (k : Nat) (fs : List FrameL) (it : Option ItemL),k ≤ l.length ∧ i = .int .i64 k ∧ PInv w1 wr w1.heap.size (w1.heap.size + 1) w1.heap.size k fs it ∧ parseT s.size [rootF] none l = parseT s.size fs it (l.drop k)) (fun i _ => l.length - (intOf i).toNat)
    case atStart => exact ⟨0,[rootF],none,Nat.zero_le _,rfl,HI.out,by rw [List.drop_zero]⟩
    case round =>
      obtain ⟨k,fs,it,hk,rfl,hinv,hp⟩:=hrel
      by_cases hlt : k < l.length
      · obtain ⟨t,ht⟩ : ∃ t,l[k]? = some t := ⟨_,List.getElem?_eq_getElem hlt⟩
        have hdr : l.drop k = t :: l.drop (k + 1) := by
          obtain ⟨h1,rfl⟩:=List.getElem?_eq_some_iff.1 ht
          exact List.drop_eq_getElem_cons h1
        rw [hdr] at hp
        have hinv2:=hinv
        obtain ⟨M,st,io,hfs,hit,hpi⟩:=hinv2
        obtain ⟨ad,hA,hadb,t0,t1,t2,t3⟩:=tok_cells (HRD.out.below (hpi.below.mono (Nat.le_refl _))) k t ht
        subst hA
        have q1:=hpi.r1
        have lr:=(hpi.bd (w1.heap.size + 1) (by simp)).2.1
        have HT:=zh ht
        have HPI:=zh hinv
        have HP:=zh hp
        clear hp hdr ht hinv hpi
        have hl65:=HL.out
        have w1f : IntKind.i64.wrap ((k : Int) + 1) = (k : Int) + 1:=by rw [IntKind.wrap_i64];omega
        have lk : (k : Int) < l.length:=by omega
        have lk0 : (0 : Int) ≤ k:=by omega
        cases it with
        | none =>
          obtain rfl : io = none := by cases io with
            | none => rfl
            | some x => simp at hit
          simp only [Option.map_none] at q1
          go_wp2_with fail
          refine (begins_step (HPI.out.step0 ((Step.refl wr [] none).alloc (.cells #[.int .i64 t.kind, .int .i64 t.pos, .int .i64 t.n, .string ⟨t.s.toArray⟩] 86))) t (by have:=HL.out;omega)).mono ?_
          intro e w' hpost
          have hp:=HP.out
          have hcell0:=zb (heap_alloc_new wr (.cells #[.int .i64 t.kind, .int .i64 t.pos, .int .i64 t.n, .string ⟨t.s.toArray⟩] 86)) 1
          have HPI2:=zh (HPI.out.step0 ((Step.refl wr [] none).alloc (.cells #[.int .i64 t.kind, .int .i64 t.pos, .int .i64 t.n, .string ⟨t.s.toArray⟩] 86)))
          rw [parseT,stepT] at hp
          try dsimp only at hp
          cases hst : beginT fs t with
          | bad ec =>
            rw [hst] at hpost hp
            obtain ⟨hc0,rfl,hS⟩:=hpost
            have hcell : w'.cell? ⟨wr.heap.size,1,none⟩ = some (.int .i64 t.pos):=(hS.cell wr.heap.size (by simp) (by simp) 1 (by simp)).trans hcell0
            have hlw : wr.heap.size < w'.heap.size:=by have:=hS.size;simp at this;omega
            have hnc : (ec != 0) = true:=by simpa using hc0
            have hbw : Below w.heap.size w w' := by
              obtain ⟨M2,st2,io2,_,_,hpi2⟩:=HPI2.out
              exact HB1.out.trans ((hpi2.bad hS).mono HB1.out.size)
            have HBW:=zh hbw
            have HPR:=zh (show parseT s.size [rootF] none l = ⟨[],t.pos,ec⟩ from hp)
            clear hp hcell0 hS hbw hst hc0 q1 t0 t1 t2 t3
            go_wp2_with fail
            go_quiet (fail)
            go_wp2
            go_ret3
            rw [HPR.out]
            exact parse_nil (below_drewN HBW.out _)
          | fine fs' it' =>
            rw [hst] at hpost hp
            obtain ⟨rfl,hinv'⟩:=hpost
            have HI2:=zh hinv'
            have HP2:=zh (show parseT s.size [rootF] none l = parseT s.size fs' it' (l.drop (k + 1)) from hp)
            clear hp hcell0 hinv' hst q1 t0 t1 t2 t3
            go_wp2_with fail
            exact ⟨⟨k + 1,fs',it',by omega,by go_num,HI2.out,HP2.out⟩,by simp [intOf];omega⟩
        | some i =>
          obtain ⟨x,rfl⟩ : ∃ x,io = some x := by
            cases io with
            | none => simp at hit
            | some x => exact ⟨x,rfl⟩
          simp only [Option.map_some] at q1
          go_wp2_with fail
          refine (goes_step (HPI.out.step0 ((Step.refl wr [] none).alloc (.cells #[.int .i64 t.kind, .int .i64 t.pos, .int .i64 t.n, .string ⟨t.s.toArray⟩] 86))) t (by have:=HL.out;omega)).mono ?_
          intro e w' hpost
          have hp:=HP.out
          have hcell0:=zb (heap_alloc_new wr (.cells #[.int .i64 t.kind, .int .i64 t.pos, .int .i64 t.n, .string ⟨t.s.toArray⟩] 86)) 1
          have HPI2:=zh (HPI.out.step0 ((Step.refl wr [] none).alloc (.cells #[.int .i64 t.kind, .int .i64 t.pos, .int .i64 t.n, .string ⟨t.s.toArray⟩] 86)))
          rw [parseT,stepT] at hp
          try dsimp only at hp
          cases hst : goT fs i t with
          | bad ec =>
            rw [hst] at hpost hp
            obtain ⟨hc0,rfl,hS⟩:=hpost
            have hcell : w'.cell? ⟨wr.heap.size,1,none⟩ = some (.int .i64 t.pos):=(hS.cell wr.heap.size (by simp) (by simp) 1 (by simp)).trans hcell0
            have hlw : wr.heap.size < w'.heap.size:=by have:=hS.size;simp at this;omega
            have hnc : (ec != 0) = true:=by simpa using hc0
            have hbw : Below w.heap.size w w' := by
              obtain ⟨M2,st2,io2,_,_,hpi2⟩:=HPI2.out
              exact HB1.out.trans ((hpi2.bad hS).mono HB1.out.size)
            have HBW:=zh hbw
            have HPR:=zh (show parseT s.size [rootF] none l = ⟨[],t.pos,ec⟩ from hp)
            clear hp hcell0 hS hbw hst hc0 q1 t0 t1 t2 t3
            go_wp2_with fail
            go_quiet (fail)
            go_wp2
            go_ret3
            rw [HPR.out]
            exact parse_nil (below_drewN HBW.out _)
          | fine fs' it' =>
            rw [hst] at hpost hp
            obtain ⟨rfl,hinv'⟩:=hpost
            have HI2:=zh hinv'
            have HP2:=zh (show parseT s.size [rootF] none l = parseT s.size fs' it' (l.drop (k + 1)) from hp)
            clear hp hcell0 hinv' hst q1 t0 t1 t2 t3
            go_wp2_with fail
            exact ⟨⟨k + 1,fs',it',by omega,by go_num,HI2.out,HP2.out⟩,by simp [intOf];omega⟩
      · have hkl : k = l.length := by omega
        have hnil : l.drop k = []:=List.drop_eq_nil_of_le (by omega)
        rw [hnil,parseT] at hp
        obtain ⟨M,st,io,rfl,rfl,hpi⟩:=hinv
        have lk : ¬ (k : Int) < l.length:=by omega
        have hbw : Below w.heap.size w wr:=HB1.out.trans (hpi.below.mono HB1.out.size)
        have HBW:=zh hbw
        have q1:=hpi.r1
        have q0:=hpi.r0
        have HP:=zh hp
        have HPI:=zh hpi
        clear hp hpi hbw hnil hlt hk
        cases io with
        | some x =>
          simp only [Option.map_some] at q1
          have HE:=zh (show endT s.size (st.map Fr.f) ((some x).map It.i) = ⟨[],s.size,5⟩ by rcases st with _ | ⟨a,_ | ⟨b,c⟩⟩ <;> rfl)
          go_wp2_with fail
          go_ret3
          rw [HP.out,HE.out]
          exact parse_nil HBW.out
        | none =>
          simp only [Option.map_none] at q1
          obtain ⟨x,rest,rfl⟩:=HPI.out.top
          simp only [List.head?_cons,Option.map_some] at q0
          obtain ⟨hx,hrest⟩:=HPI.out.stack
          obtain ⟨Aw,cw,bl,kcs,hO,_,_,_,hox,hnx⟩:=hx
          cases rest with
          | nil =>
            have hxb : x.b = w1.heap.size:=by have:=HPI.out.last;simpa using this
            have h4:=hO.2.2.2.2.1
            rw [hxb] at q0 h4
            have HX:=zh hox
            have HN:=zh hnx
            have HE:=zh (show endT s.size ([x].map Fr.f) (none : Option ItemL) = ⟨x.f.kids,0,0⟩ by rfl)
            have hpp:=run_neq_open_same wr ⟨w1.heap.size,0,none⟩
            clear hO hox hnx
            go_wp2_with fail
            go_ret3
            rw [HP.out]
            show ParsePost w (endT s.size ([x].map Fr.f) none) _ _
            rw [HE.out]
            have hmm : ∀ z,M z → w.heap.size ≤ z ∧ z < wr.heap.size := fun z hz => by
              obtain ⟨a,b⟩:=HPI.out.mb z hz
              have:=HB1.out.size
              exact ⟨by omega,b⟩
            obtain ⟨hr1,hr2⟩ := reads_of_own HX.out (fun z => w.heap.size ≤ z ∧ z < wr.heap.size) (fun z hz => by
              obtain ⟨a,b,_⟩:=HPI.out.bd z (by simp [stM,Fr.ms,hz])
              have:=HB1.out.size
              exact ⟨by omega,b⟩)
            exact ⟨x.A,x.c,kcs,rfl,hr2,hr1,NodesOk.keep hmm (fun _ _ => rfl) _ _ HN.out,HBW.out⟩
          | cons y rest =>
            have hne : x.b ≠ w1.heap.size := fun e => by
              have hl:=HPI.out.last
              have hnd:=HPI.out.nd
              have hmem : w1.heap.size ∈ stM (y :: rest) := by
                have : ∃ z ∈ y :: rest,z.b = w1.heap.size := by
                  rw [List.getLast?_cons_cons,Option.map_eq_some_iff] at hl
                  obtain ⟨z,hz,hzb⟩:=hl
                  exact ⟨z,List.mem_of_getLast? hz,hzb⟩
                obtain ⟨z,hz,hzb⟩:=this
                exact List.mem_flatMap.2 ⟨z,hz,by rw [← hzb];simp [Fr.ms]⟩
              rw [stM_cons,Fr.ms,e] at hnd
              have h2:=(List.nodup_cons.1 hnd).2
              rw [List.cons_append,List.cons_append,List.nodup_cons] at h2
              exact h2.1 (by simp [hmem])
            have HE:=zh (show endT s.size ((x :: y :: rest).map Fr.f) (none : Option ItemL) = ⟨[],s.size,5⟩ by rfl)
            obtain ⟨ca,ta,hca⟩:=HPI.out.shp x (by simp)
            obtain ⟨cb,tb,hcb⟩ : ∃ cs t,wr.heap[w1.heap.size]? = some (.cells cs t (0,0)) := by
              have hl:=HPI.out.last
              rw [Option.map_eq_some_iff] at hl
              obtain ⟨z,hz,hzb⟩:=hl
              have:=HPI.out.shp z (List.mem_of_getLast? hz)
              rwa [hzb] at this
            have hpp:=run_neq_open_other wr (a:=⟨x.b,0,none⟩) (b:=⟨w1.heap.size,0,none⟩) (fun e => hne (by injection e)) hca hcb
            clear hO hox hnx hca hcb
            go_wp2_with fail
            go_ret3
            rw [HP.out]
            show ParsePost w (endT s.size ((x :: y :: rest).map Fr.f) none) _ _
            rw [HE.out]
            exact parse_nil HBW.out
  · rw [if_pos hce]
    have hne : (ce != 0) = true:=by simpa using hce
    go_enter Tryz.func21,Tryz.ntmps21
    go_wp2_with fail
    refine (HC.out _).mono ?_
    rintro e w1 ⟨v,rfl,hown,hb1⟩
    dsimp only
    go_wp2
    go_ret3
    exact parse_nil hb1
end
section
set_option linter.unusedVariables false
set_option linter.unusedSimpArgs false
open Go.RowKit
/-- The slice reads as items,all they lead to below block B. -/
def ROk (w : World) (B : Nat) (A : Option Addr) (l : List NodeL) : Prop:=∃ cs,ReadsM w (· < B) 5 A l.length cs ∧ NodesOk w (· < B) l cs
theorem ROk.below {w w' : World} {B : Nat} {A : Option Addr} {l : List NodeL} (h : ROk w B A l) (hb : Below B w w') : ROk w' B A l := by
  obtain ⟨cs,h1,h2⟩:=h
  have hk : ∀ p : Addr,p.block < B → w'.cell? p = w.cell? p:=fun p hp => hb.cell hp
  exact ⟨cs,h1.keep (fun _ h => h) hk,NodesOk.keep (fun _ h => h) hk _ _ h2⟩
theorem ROk.of_parse {w w' : World} {A : Option Addr} {l : List NodeL} {kcs : List Value} (h1 : ReadsM w' (fun b => w.heap.size ≤ b ∧ b < w'.heap.size) 5 A l.length kcs) (h2 : NodesOk w' (fun b => w.heap.size ≤ b ∧ b < w'.heap.size) l kcs) : ROk w' w'.heap.size A l :=
  ⟨kcs,h1.keep (fun _ h => h.2) (fun _ _ => rfl),NodesOk.keep (fun _ h => h.2) (fun _ _ => rfl) _ _ h2⟩
/-- The cells of item i,as a walk reads them. -/
theorem ROk.at {w : World} {B : Nat} {A : Option Addr} {l : List NodeL} (h : ROk w B A l) (i : Nat) (n : NodeL) (hi : l[i]? = some n) :
    ∃ ad Aw cw Ak ck,A = some ad ∧ ad.block < B ∧ w.cell? (ad.add (i * 5)) = some (.string ⟨n.name.toArray⟩) ∧ w.cell? ⟨(ad.add (i * 5)).block,(ad.add (i * 5)).off + 1,none⟩ = some (.int .i64 n.pos) ∧
      w.cell? ⟨(ad.add (i * 5)).block,(ad.add (i * 5)).off + 2,none⟩ = some (.slice Aw n.words.length cw) ∧ w.cell? ⟨(ad.add (i * 5)).block,(ad.add (i * 5)).off + 3,none⟩ = some (.bool n.block) ∧
      w.cell? ⟨(ad.add (i * 5)).block,(ad.add (i * 5)).off + 4,none⟩ = some (.slice Ak n.kids.length ck) ∧ ReadsM w (· < B) 4 Aw n.words.length (n.words.flatMap WordL.cells) ∧ ROk w B Ak n.kids:=by
  obtain ⟨cs,h1,h2⟩:=h
  obtain ⟨ad,Aw,cw,Ak,ck,kcs,e,hM,c0,c1,c2,c3,c4,_,_,hw,hk,hkn⟩:=node_cells h1 h2 i n hi
  exact ⟨ad,Aw,cw,Ak,ck,e,hM,c0,c1,c2,c3,c4,hw,kcs,hk,hkn⟩
theorem deepL_cnt : ∀ l : List NodeL,deepL l ≤ cntL l
  | [] => Nat.le_refl _
  | .mk nm p ws b ks :: r => by
    have h1:=deepL_cnt ks
    have h2:=deepL_cnt r
    simp only [deepL,deepN,cntL,cntN]
    split <;> omega
theorem cntL_take : ∀ (l : List NodeL) (k : Nat),cntL (l.take k) ≤ cntL l
  | [],k => by simp [cntL]
  | x :: r,0 => by simp [cntL]
  | x :: r,k + 1 => by
    have:=cntL_take r k
    simp only [List.take_succ_cons,cntL];omega
theorem deepN_eq (n : NodeL) : deepN n = deepL n.kids + (if n.block then 1 else 0):=by obtain ⟨nm,p,ws,b,ks⟩:=n;rfl
theorem deepL_take (l : List NodeL) (k : Nat) (n : NodeL) (h : l[k]? = some n) : deepL (l.take (k + 1)) = max (deepL (l.take k)) (deepN n) := by
  induction l generalizing k with
  | nil => simp at h
  | cons x r ih =>
    cases k with
    | zero =>
      simp only [List.getElem?_cons_zero,Option.some.injEq] at h
      subst h
      simp [deepL]
    | succ k =>
      have:=ih k (by simpa using h)
      simp only [List.take_succ_cons,deepL,this]
      omega
mutual
/-- How many items. -/
def ndN : NodeL → Nat
  | .mk _ _ _ _ ks => 1 + ndL ks
def ndL : List NodeL → Nat
  | [] => 0
  | n :: r => ndN n + ndL r
end
theorem ndN_eq (n : NodeL) : ndN n = 1 + ndL n.kids:=by obtain ⟨nm,p,ws,b,ks⟩:=n;rfl
theorem ndL_take (l : List NodeL) (k : Nat) (n : NodeL) (h : l[k]? = some n) : ndL (l.take (k + 1)) = ndL (l.take k) + ndN n := by
  induction l generalizing k with
  | nil => simp at h
  | cons x r ih =>
    cases k with
    | zero =>
      simp only [List.getElem?_cons_zero,Option.some.injEq] at h
      subst h
      simp [ndL]
    | succ k =>
      have:=ih k (by simpa using h)
      simp only [List.take_succ_cons,ndL,this]
      omega
theorem ndL_cnt : ∀ l : List NodeL,ndL l ≤ cntL l
  | [] => Nat.le_refl _
  | .mk nm p ws b ks :: r => by
    have h1:=ndL_cnt ks
    have h2:=ndL_cnt r
    simp only [ndL,ndN,cntL,cntN];omega
theorem cntL_take_mem (l : List NodeL) (k : Nat) (n : NodeL) (h : l[k]? = some n) : cntL (l.take k) + cntN n ≤ cntL l := by
  induction l generalizing k with
  | nil => simp at h
  | cons x r ih =>
    cases k with
    | zero =>
      simp only [List.getElem?_cons_zero,Option.some.injEq] at h
      subst h
      simp [cntL]
    | succ k =>
      have:=ih k (by simpa using h)
      simp only [List.take_succ_cons,cntL]
      omega
theorem cntN_eq (n : NodeL) : cntN n = 1 + n.words.length + cntL n.kids:=by obtain ⟨nm,p,ws,b,ks⟩:=n;rfl
/-- What is known of each item of a list that may be. -/
theorem check_at : ∀ (l : List NodeL) (d i : Nat) (n : NodeL),checkL d l = 0 → l[i]? = some n → n.words.length ≤ 8 ∧ n.words.all wordOk = true ∧ nameL n.name = true ∧ (n.block = false → n.kids = []) ∧ (n.block = true → d ≠ 6) ∧ checkL (d + 1) n.kids = 0
  | [],d,i,n,_,h => by simp at h
  | x :: r,d,0,n,hl,h => by
    simp only [List.getElem?_cons_zero,Option.some.injEq] at h
    subst h
    obtain ⟨h1,_⟩:=checkL_cons d _ _ hl
    obtain ⟨nm,p,ws,b,ks⟩:=x
    obtain ⟨p1,p2,p3,p4⟩:=check_parts d nm p ws b ks h1
    refine ⟨p1,?_,?_,p2,p3,p4⟩
    · simp only [checkN] at h1
      show ws.all wordOk = true
      cases hw : ws.all wordOk
      · rw [hw] at h1;simp at h1
      · rfl
    · simp only [checkN] at h1
      show nameL nm = true
      cases hw : nameL nm
      · rw [hw] at h1;simp at h1
      · rfl
  | x :: r,d,i + 1,n,hl,h => by
    obtain ⟨_,h2⟩:=checkL_cons d _ _ hl
    exact check_at r d i n h2 (by simpa using h)
theorem name16 (s : Bytes) (h : nameL s = true) : s.length ≤ 16 := by
  unfold nameL at h
  cases s with
  | nil => simp
  | cons c r => simp only [Bool.and_eq_true,decide_eq_true_eq] at h;exact h.1.1
end
section
open Go.RowKit
theorem run_append_reads {P : Program} {w : World} (base : Nat) (t ty e : TypeId) (i : TypeInfo) (z : Value) (size bytes : Nat) (ht : P.underlying t = some (.slice e)) (hi : P.info? e = some i) (hz : i.zero = some z)
    (hsize : i.size = size) (hby : i.bytes = bytes) (hzs : z.cells.size = size) (hsz : 0 < size)
    (v : Value) (n : Nat) (xs : List Value) (hown : w.ownsRow base e size v n xs)
    (A : Option Addr) (m c B : Nat) (news : List Value) (hr : Reads w B size A m news) (hnil : A = none → c = 0) (h1 : ∀ u ∈ news,u.oneCell' = true)
    (h63 : n + m ≤ maxLen) (hbytes : (n + m) * bytes ≤ 140737488355328) (hbase : base ≤ w.heap.size) :
    ∃ v' w',(Builtin.append_ #[t,t] ty #[v, .slice A m c]).run P w = .ok v' w' ∧ w'.ownsRow base e size v' (n + m) (xs ++ news) ∧ w.grownBy w' v.ownBlock:=by
  cases A with
  | some ad =>
    have hnews : ∀ j u,news[j]? = some u → w.cell? (ad.add j) = some u := by
      intro j u hu
      by_cases hm : 0 < m
      · obtain ⟨ad',h,_,hc⟩ := hr.2 hm
        cases h
        exact hc j u hu
      · have : news = [] := List.eq_nil_of_length_eq_zero (by rw [hr.1,Nat.eq_zero_of_not_pos hm,Nat.zero_mul])
        subst this;simp at hu
    obtain ⟨v',w',h,ho,hg,_⟩:=run_append_own (P:=P) w base t ty e i z size bytes ht hi hz hsize hby hzs hsz v n xs hown ad m c news hr.1 hnews h1 h63 hbytes hbase
    exact ⟨v',w',h,ho,hg⟩
  | none =>
    have hm : m = 0 := by
      rcases Nat.eq_zero_or_pos m with h | h
      · exact h
      · obtain ⟨_,h',_⟩:=hr.2 h;cases h'
    subst hm
    have : news = []:=List.eq_nil_of_length_eq_zero (by rw [hr.1];simp)
    subst this
    obtain rfl:=hnil rfl
    refine ⟨v,w,run_append_owned_none w base t ty e i size ht hi v n xs hown,by simpa using hown,rfl,rfl,rfl,Nat.le_refl _,fun _ _ _ => rfl⟩
/-- An append whose run is known,guarded or not. -/
theorem wpList_append_run {P : Program} {w : World} {ops : Array Oper} {rest : List Oper} {o : Oper} {a : Act} {Q : Exit → Act → World → Prop} (s x : Operand) (t : TypeId)
    (ho : o.op = .call { callee:=.builtin .append,args:=#[s,x],argTypes:=#[t,t] }) (hg : Region.wanted o (yielded ops a.tmps) = true) (v1 v2 : Value) (hs : a.eval s = v1) (hx : a.eval x = v2)
    (ty : TypeId) (hty : o.type = ty) (v' : Value) (w' : World) (hrun : (Builtin.append_ #[t,t] ty #[v1,v2]).run P w = .ok v' w') (h : wpList P ops Q rest (a.put o.dst v') w') : wpList P ops Q (o :: rest) a w:=by
  refine wpList_step fun K hK => ?_
  simp only [hg,if_true]
  unfold Oper.wp execOp
  simp only [ho,resolve,invoke,builtin,Sem.run_bind,Sem.run_pure,Result.andThen_ok,List.map_toArray,List.map_cons,List.map_nil,hs,hx,hty,hrun]
  exact hK _ _ h
end
end Go.Proofs.YtjbniichcopnlaaGreatDoor
