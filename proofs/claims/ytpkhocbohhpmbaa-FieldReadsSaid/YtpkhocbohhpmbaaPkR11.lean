/- Layer 9 (tree): the walk of Parse. Then: Layer 9 (tree), plain laws. -/
import Derived.Test.YtpkhocbohhpmbaaPkR10
import Derived.LaidEqlPtr
import Derived.Lib.Builder
import Derived.Test.YtpkhocbohhpmbaaPkR3
namespace Go.Proofs.Ytpkhocbohhpmbaa
section
set_option linter.unusedVariables false
set_option linter.unusedSimpArgs false
open Go.RowKit
open Go.Joins renaming cell_of_block → zb, unfrozen_of_block → zu
open Go.Lib renaming hid → zh
theorem PI.step0 {w0 w w' : World} {M : Nat → Prop} {B0 r rb k : Nat} {st : List Fr} {io : Option It} (h : PI w0 w M B0 r rb k st io) (hs : Step w w' [] none) : PI w0 w' M B0 r rb k st io := by
  have lr:=(h.bd r (by simp)).2.1
  have hz:=hs.size
  have hsz:=h.size
  exact
    { below := h.bad hs
      stack:=h.stack.keep hs (fun x hx => ⟨(h.mb x hx).2,safe_nil x⟩) (fun _ hx => hx) (fun x _ => safe_nil x)
      item:=fun x hx => (h.item x hx).keep hs (fun y _ => safe_nil y)
      r0:=(hs.cell r lr (by simp) 0 (by simp)).trans h.r0
      r1:=(hs.cell r lr (by simp) 1 (by simp)).trans h.r1
      r2:=(hs.cell r lr (by simp) 2 (by simp)).trans h.r2
      rf:=fun j => (hs.froz r lr (by simp) j).trans (h.rf j)
      nd:=h.nd
      bd:=fun x hx => by obtain ⟨a,b,c⟩:=h.bd x hx;exact ⟨a,by omega,c⟩
      mb:=fun x hx => by obtain ⟨a,b⟩:=h.mb x hx;exact ⟨a,by omega⟩
      last:=h.last
      kids:=h.kids
      size:=by omega
      words:=h.words
      len:=h.len
      shp:=fun x hx => shape_keep hs (h.shp x hx) (by simp)
      ish:=fun x hx => shape_keep hs (h.ish x hx) (by simp) }
theorem PInv.step0 {w0 w w' : World} {B0 r rb k : Nat} {fs : List FrameL} {it : Option ItemL} (h : PInv w0 w B0 r rb k fs it) (hs : Step w w' [] none) : PInv w0 w' B0 r rb k fs it := by
  obtain ⟨M,st,io,a,b,hp⟩:=h
  exact ⟨M,st,io,a,b,hp.step0 hs⟩
theorem pinv_start (w1 : World) : PInv w1 ((w1.alloc (.cells #[.string ⟨#[]⟩, .int .i64 0, .slice none 0 0, .bool false, .slice none 0 0, .pointer none] 74)).alloc (.cells #[.pointer (some ⟨w1.heap.size,0,none⟩), .pointer none, .int .i64 0] 77))
    w1.heap.size (w1.heap.size + 1) w1.heap.size 0 [rootF] none:=by
  obtain ⟨W,hW⟩ : ∃ W,W = (w1.alloc (.cells #[.string ⟨#[]⟩, .int .i64 0, .slice none 0 0, .bool false, .slice none 0 0, .pointer none] 74)).alloc (.cells #[.pointer (some ⟨w1.heap.size,0,none⟩), .pointer none, .int .i64 0] 77):=⟨_,rfl⟩
  rw [← hW]
  have b0 : W.heap[w1.heap.size]? = some (.cells #[.string ⟨#[]⟩, .int .i64 0, .slice none 0 0, .bool false, .slice none 0 0, .pointer none] 74) := by
    rw [hW];exact (heap_alloc_old _ _ (by simp)).trans (heap_alloc_new _ _)
  have b1 : W.heap[w1.heap.size + 1]? = some (.cells #[.pointer (some ⟨w1.heap.size,0,none⟩), .pointer none, .int .i64 0] 77) := by
    rw [hW];exact alloc_at _ _ (by simp)
  have hsz : W.heap.size = w1.heap.size + 2:=by rw [hW];simp
  have hbl : Below w1.heap.size w1 W:=by rw [hW];exact ((Below.refl _ _).alloc (Nat.le_refl _) _).alloc (by simp) _
  refine ⟨fun _ => False,[⟨w1.heap.size,rootF,none,0⟩],none,rfl,rfl,?_⟩
  exact
    { below := hbl
      stack:=⟨⟨none,0,false,[],open6_of_block (up:=none) b0,fun h => absurd rfl h,fun _ => rfl,ReadsM.nil _ _ _ _,⟨rfl, .inl ⟨rfl,rfl⟩⟩,rfl⟩,trivial⟩
      item:=fun x hx => by cases hx
      r0:=zb b1 0
      r1:=zb b1 1
      r2:=zb b1 2
      rf:=zu b1
      nd:=by simp [stM,Fr.ms,ownB,ioM]
      bd := fun x hx => by
        simp [stM,Fr.ms,ownB,ioM] at hx
        rcases hx with rfl | rfl <;> exact ⟨by omega,by omega,fun h => h⟩
      mb:=fun x hx => hx.elim
      last:=rfl
      kids:=fun x hx => by simp at hx;subst hx;simp [rootF]
      size:=by omega
      words:=fun x hx => by cases hx
      len:=by simp
      shp:=fun x hx => by simp at hx;subst hx;exact ⟨_,_,b0⟩
      ish:=fun x hx => by cases hx }
theorem info_open : (Try.prog.info? 74).map (fun i => (i.zero,i.size,i.bytes)) = some (some (.agg #[.string ⟨#[]⟩, .int .i64 0, .slice none 0 0, .bool false, .slice none 0 0, .pointer none]),6,88):=by kernel_rfl
theorem run_neq_open_same (w : World) (a : Addr) : (binOp .neq 72 (.pointer (some a)) (.pointer (some a))).run Try.prog w = .ok (.bool false) w := by
  obtain ⟨j,hj,_⟩:=info_parts info_open
  exact Lib.run_neq_ptr_same w a Try.underlying72 hj
theorem run_neq_open_other (w : World) {a b : Addr} {ca cb : Array Value} {ta tb : TypeId} (hne : a ≠ b) (ha : w.heap[a.block]? = some (.cells ca ta (0,0))) (hb : w.heap[b.block]? = some (.cells cb tb (0,0))) :
    (binOp .neq 72 (.pointer (some a)) (.pointer (some b))).run Try.prog w = .ok (.bool true) w:=by
  obtain ⟨j,hj,_,hsz,_⟩:=info_parts info_open
  have h : ∀ d : Nat,(Op.equalIn (d + 1) 72 (.pointer (some a)) (.pointer (some b))).run Try.prog w = .ok false w := fun d => by
    simp [Op.equalIn,run_underlying Try.underlying72,sizeOf,typeInfo,hj,hsz,run_sameAddr_other w hne ha hb]
  simp only [binOp]
  simp [Op.equal,Op.maxDepth,h 9999]
/-- What Parse leaves. -/
def ParsePost (w : World) (R : ParseRes) (e : Ending) (w' : World) : Prop :=
  ∃ A c kcs,e = .returned (.tuple #[.slice A R.nodes.length c, .int .i64 R.pos, .int .i64 R.err]) ∧ NilOk A c ∧ ReadsM w' (fun b => w.heap.size ≤ b ∧ b < w'.heap.size) 5 A R.nodes.length kcs ∧
    NodesOk w' (fun b => w.heap.size ≤ b ∧ b < w'.heap.size) R.nodes kcs ∧ Below w.heap.size w w'
theorem parse_nil {w w' : World} {p e : Int} (hb : Below w.heap.size w w') : ParsePost w ⟨[],p,e⟩ (.returned (.tuple #[.slice none 0 0, .int .i64 p, .int .i64 e])) w' :=
  ⟨none,0,[],rfl,fun _ => rfl,ReadsM.nil _ _ _ _,rfl,hb⟩
theorem cutL_len16 (s : Bytes) : (cutL s).toks.length ≤ 65536 := by
  unfold cutL
  split
  · simp
  · have := cutM_len false 0 0 0 s
    omega
set_option maxRecDepth 100000 in
set_option maxHeartbeats 4000000 in
theorem tree_Parse (s : ByteArray) (w : World) (hs : s.size ≤ maxLen) :
    Calls Try.prog 16 #[.string s] w (ParsePost w (treeL s.data.toList)):=by
  have HC:=zh (fun W => lex_Cut s W hs)
  have hct:=cutL_len16 s.data.toList
  unfold treeL
  rw [ba_len]
  generalize cutL s.data.toList = R at *
  obtain ⟨l,p,ce⟩:=R
  dsimp only at hct ⊢
  by_cases hce : ce = 0
  · subst hce
    rw [if_neg (by simp)]
    have HL:=zh hct
    go_enter Try.func16,Try.ntmps16
    go_wp2_with fail
    refine (HC.out _).mono ?_
    rintro e w1 ⟨v,rfl,hown,hb1⟩
    have hrt:=ReadToks.of_own hown
    obtain ⟨A,c,rfl,hrd⟩:=hrt
    have HRD:=zh hrd
    have HB1:=zh hb1
    have hinv:=pinv_start w1
    have HI:=zh hinv
    clear hown hrd hb1 hinv hct
    dsimp only
    go_wp2_with fail
    go_loopw [31] (fun i wr => ∃ (k : Nat) (fs : List FrameL) (it : Option ItemL),k ≤ l.length ∧ i = .int .i64 k ∧ PInv w1 wr w1.heap.size (w1.heap.size + 1) w1.heap.size k fs it ∧ parseT s.size [rootF] none l = parseT s.size fs it (l.drop k)) (fun i _ => l.length - (intOf i).toNat)
    case atStart => exact ⟨0,[rootF],none,Nat.zero_le _,rfl,HI.out,by rw [List.drop_zero]⟩
    case round =>
      obtain ⟨k,fs,it,hk,rfl,hinv,hp⟩:=hrel
      by_cases hlt : k < l.length
      · obtain ⟨t,ht⟩ : ∃ t,l[k]? = some t := ⟨_,List.getElem?_eq_getElem hlt⟩
        have hdr : l.drop k = t :: l.drop (k + 1) := by
          obtain ⟨h1,rfl⟩:=List.getElem?_eq_some_iff.1 ht
          exact List.drop_eq_getElem_cons h1
        rw [hdr] at hp
        have hinv2:=hinv
        obtain ⟨M,st,io,hfs,hit,hpi⟩:=hinv2
        obtain ⟨ad,hA,hadb,t0,t1,t2,t3⟩:=tok_cells (HRD.out.below (hpi.below.mono (Nat.le_refl _))) k t ht
        subst hA
        have q1:=hpi.r1
        have lr:=(hpi.bd (w1.heap.size + 1) (by simp)).2.1
        have HT:=zh ht
        have HPI:=zh hinv
        have HP:=zh hp
        clear hp hdr ht hinv hpi
        have hl65:=HL.out
        have w1f : IntKind.i64.wrap ((k : Int) + 1) = (k : Int) + 1:=by rw [IntKind.wrap_i64];omega
        have lk : (k : Int) < l.length:=by omega
        have lk0 : (0 : Int) ≤ k:=by omega
        cases it with
        | none =>
          obtain rfl : io = none := by cases io with
            | none => rfl
            | some x => simp at hit
          simp only [Option.map_none] at q1
          go_wp2_with fail
          refine (begins_step (HPI.out.step0 ((Step.refl wr [] none).alloc (.cells #[.int .i64 t.kind, .int .i64 t.pos, .int .i64 t.n, .string ⟨t.s.toArray⟩] 79))) t (by have:=HL.out;omega)).mono ?_
          intro e w' hpost
          have hp:=HP.out
          have hcell0:=zb (heap_alloc_new wr (.cells #[.int .i64 t.kind, .int .i64 t.pos, .int .i64 t.n, .string ⟨t.s.toArray⟩] 79)) 1
          have HPI2:=zh (HPI.out.step0 ((Step.refl wr [] none).alloc (.cells #[.int .i64 t.kind, .int .i64 t.pos, .int .i64 t.n, .string ⟨t.s.toArray⟩] 79)))
          rw [parseT,stepT] at hp
          try dsimp only at hp
          cases hst : beginT fs t with
          | bad ec =>
            rw [hst] at hpost hp
            obtain ⟨hc0,rfl,hS⟩:=hpost
            have hcell : w'.cell? ⟨wr.heap.size,1,none⟩ = some (.int .i64 t.pos):=(hS.cell wr.heap.size (by simp) (by simp) 1 (by simp)).trans hcell0
            have hlw : wr.heap.size < w'.heap.size:=by have:=hS.size;simp at this;omega
            have hnc : (ec != 0) = true:=by simpa using hc0
            have hbw : Below w.heap.size w w' := by
              obtain ⟨M2,st2,io2,_,_,hpi2⟩:=HPI2.out
              exact HB1.out.trans ((hpi2.bad hS).mono HB1.out.size)
            have HBW:=zh hbw
            have HPR:=zh (show parseT s.size [rootF] none l = ⟨[],t.pos,ec⟩ from hp)
            clear hp hcell0 hS hbw hst hc0 q1 t0 t1 t2 t3
            go_wp2_with fail
            go_quiet (fail)
            go_wp2
            go_ret3
            rw [HPR.out]
            exact parse_nil (below_drewN HBW.out _)
          | fine fs' it' =>
            rw [hst] at hpost hp
            obtain ⟨rfl,hinv'⟩:=hpost
            have HI2:=zh hinv'
            have HP2:=zh (show parseT s.size [rootF] none l = parseT s.size fs' it' (l.drop (k + 1)) from hp)
            clear hp hcell0 hinv' hst q1 t0 t1 t2 t3
            go_wp2_with fail
            exact ⟨⟨k + 1,fs',it',by omega,by go_num,HI2.out,HP2.out⟩,by simp [intOf];omega⟩
        | some i =>
          obtain ⟨x,rfl⟩ : ∃ x,io = some x := by
            cases io with
            | none => simp at hit
            | some x => exact ⟨x,rfl⟩
          simp only [Option.map_some] at q1
          go_wp2_with fail
          refine (goes_step (HPI.out.step0 ((Step.refl wr [] none).alloc (.cells #[.int .i64 t.kind, .int .i64 t.pos, .int .i64 t.n, .string ⟨t.s.toArray⟩] 79))) t (by have:=HL.out;omega)).mono ?_
          intro e w' hpost
          have hp:=HP.out
          have hcell0:=zb (heap_alloc_new wr (.cells #[.int .i64 t.kind, .int .i64 t.pos, .int .i64 t.n, .string ⟨t.s.toArray⟩] 79)) 1
          have HPI2:=zh (HPI.out.step0 ((Step.refl wr [] none).alloc (.cells #[.int .i64 t.kind, .int .i64 t.pos, .int .i64 t.n, .string ⟨t.s.toArray⟩] 79)))
          rw [parseT,stepT] at hp
          try dsimp only at hp
          cases hst : goT fs i t with
          | bad ec =>
            rw [hst] at hpost hp
            obtain ⟨hc0,rfl,hS⟩:=hpost
            have hcell : w'.cell? ⟨wr.heap.size,1,none⟩ = some (.int .i64 t.pos):=(hS.cell wr.heap.size (by simp) (by simp) 1 (by simp)).trans hcell0
            have hlw : wr.heap.size < w'.heap.size:=by have:=hS.size;simp at this;omega
            have hnc : (ec != 0) = true:=by simpa using hc0
            have hbw : Below w.heap.size w w' := by
              obtain ⟨M2,st2,io2,_,_,hpi2⟩:=HPI2.out
              exact HB1.out.trans ((hpi2.bad hS).mono HB1.out.size)
            have HBW:=zh hbw
            have HPR:=zh (show parseT s.size [rootF] none l = ⟨[],t.pos,ec⟩ from hp)
            clear hp hcell0 hS hbw hst hc0 q1 t0 t1 t2 t3
            go_wp2_with fail
            go_quiet (fail)
            go_wp2
            go_ret3
            rw [HPR.out]
            exact parse_nil (below_drewN HBW.out _)
          | fine fs' it' =>
            rw [hst] at hpost hp
            obtain ⟨rfl,hinv'⟩:=hpost
            have HI2:=zh hinv'
            have HP2:=zh (show parseT s.size [rootF] none l = parseT s.size fs' it' (l.drop (k + 1)) from hp)
            clear hp hcell0 hinv' hst q1 t0 t1 t2 t3
            go_wp2_with fail
            exact ⟨⟨k + 1,fs',it',by omega,by go_num,HI2.out,HP2.out⟩,by simp [intOf];omega⟩
      · have hkl : k = l.length := by omega
        have hnil : l.drop k = []:=List.drop_eq_nil_of_le (by omega)
        rw [hnil,parseT] at hp
        obtain ⟨M,st,io,rfl,rfl,hpi⟩:=hinv
        have lk : ¬ (k : Int) < l.length:=by omega
        have hbw : Below w.heap.size w wr:=HB1.out.trans (hpi.below.mono HB1.out.size)
        have HBW:=zh hbw
        have q1:=hpi.r1
        have q0:=hpi.r0
        have HP:=zh hp
        have HPI:=zh hpi
        clear hp hpi hbw hnil hlt hk
        cases io with
        | some x =>
          simp only [Option.map_some] at q1
          have HE:=zh (show endT s.size (st.map Fr.f) ((some x).map It.i) = ⟨[],s.size,5⟩ by rcases st with _ | ⟨a,_ | ⟨b,c⟩⟩ <;> rfl)
          go_wp2_with fail
          go_ret3
          rw [HP.out,HE.out]
          exact parse_nil HBW.out
        | none =>
          simp only [Option.map_none] at q1
          obtain ⟨x,rest,rfl⟩:=HPI.out.top
          simp only [List.head?_cons,Option.map_some] at q0
          obtain ⟨hx,hrest⟩:=HPI.out.stack
          obtain ⟨Aw,cw,bl,kcs,hO,_,_,_,hox,hnx⟩:=hx
          cases rest with
          | nil =>
            have hxb : x.b = w1.heap.size:=by have:=HPI.out.last;simpa using this
            have h4:=hO.2.2.2.2.1
            rw [hxb] at q0 h4
            have HX:=zh hox
            have HN:=zh hnx
            have HE:=zh (show endT s.size ([x].map Fr.f) (none : Option ItemL) = ⟨x.f.kids,0,0⟩ by rfl)
            have hpp:=run_neq_open_same wr ⟨w1.heap.size,0,none⟩
            clear hO hox hnx
            go_wp2_with fail
            go_ret3
            rw [HP.out]
            show ParsePost w (endT s.size ([x].map Fr.f) none) _ _
            rw [HE.out]
            have hmm : ∀ z,M z → w.heap.size ≤ z ∧ z < wr.heap.size := fun z hz => by
              obtain ⟨a,b⟩:=HPI.out.mb z hz
              have:=HB1.out.size
              exact ⟨by omega,b⟩
            obtain ⟨hr1,hr2⟩ := reads_of_own HX.out (fun z => w.heap.size ≤ z ∧ z < wr.heap.size) (fun z hz => by
              obtain ⟨a,b,_⟩:=HPI.out.bd z (by simp [stM,Fr.ms,hz])
              have:=HB1.out.size
              exact ⟨by omega,b⟩)
            exact ⟨x.A,x.c,kcs,rfl,hr2,hr1,NodesOk.keep hmm (fun _ _ => rfl) _ _ HN.out,HBW.out⟩
          | cons y rest =>
            have hne : x.b ≠ w1.heap.size := fun e => by
              have hl:=HPI.out.last
              have hnd:=HPI.out.nd
              have hmem : w1.heap.size ∈ stM (y :: rest) := by
                have : ∃ z ∈ y :: rest,z.b = w1.heap.size := by
                  rw [List.getLast?_cons_cons,Option.map_eq_some_iff] at hl
                  obtain ⟨z,hz,hzb⟩:=hl
                  exact ⟨z,List.mem_of_getLast? hz,hzb⟩
                obtain ⟨z,hz,hzb⟩:=this
                exact List.mem_flatMap.2 ⟨z,hz,by rw [← hzb];simp [Fr.ms]⟩
              rw [stM_cons,Fr.ms,e] at hnd
              have h2:=(List.nodup_cons.1 hnd).2
              rw [List.cons_append,List.cons_append,List.nodup_cons] at h2
              exact h2.1 (by simp [hmem])
            have HE:=zh (show endT s.size ((x :: y :: rest).map Fr.f) (none : Option ItemL) = ⟨[],s.size,5⟩ by rfl)
            obtain ⟨ca,ta,hca⟩:=HPI.out.shp x (by simp)
            obtain ⟨cb,tb,hcb⟩ : ∃ cs t,wr.heap[w1.heap.size]? = some (.cells cs t (0,0)) := by
              have hl:=HPI.out.last
              rw [Option.map_eq_some_iff] at hl
              obtain ⟨z,hz,hzb⟩:=hl
              have:=HPI.out.shp z (List.mem_of_getLast? hz)
              rwa [hzb] at this
            have hpp:=run_neq_open_other wr (a:=⟨x.b,0,none⟩) (b:=⟨w1.heap.size,0,none⟩) (fun e => hne (by injection e)) hca hcb
            clear hO hox hnx hca hcb
            go_wp2_with fail
            go_ret3
            rw [HP.out]
            show ParsePost w (endT s.size ((x :: y :: rest).map Fr.f) none) _ _
            rw [HE.out]
            exact parse_nil HBW.out
  · rw [if_pos hce]
    have hne : (ce != 0) = true:=by simpa using hce
    go_enter Try.func16,Try.ntmps16
    go_wp2_with fail
    refine (HC.out _).mono ?_
    rintro e w1 ⟨v,rfl,hown,hb1⟩
    dsimp only
    go_wp2
    go_ret3
    exact parse_nil hb1
end
section
/-! ### What Cut tells -/
/-- A token that Cut could tell,its place aside. -/
def tokOk (t : Tok) : Bool :=
  if t.kind = 1 then nameL t.s && decide (t.n = 0)
  else if t.kind = 2 then decide (0 ≤ t.n) && decide (t.n ≤ 999999999) && decide (t.s = [])
  else (decide (t.kind = 3) || decide (t.kind = 4) || decide (t.kind = 5)) && decide (t.n = 0) && decide (t.s = [])
theorem numberL_ok (u : Bytes) (h : (numberL u).2.2 = 0) : 0 ≤ (numberL u).1 ∧ (numberL u).1 ≤ 999999999 := by
  unfold numberL at h ⊢
  dsimp only at h ⊢
  split at h
  · simp at h
  split at h
  · simp at h
  split at h
  · simp at h
  rename_i a1 a2 a3
  rw [if_neg a1,if_neg a2,if_neg a3]
  have hall:=runL_all isDigit u
  have hb:=numL_lt (u.take (runL isDigit u)) (runL isDigit u) hall (by rw [List.length_take];omega)
  rw [List.take_take,Nat.min_self] at hb
  exact hb
theorem tokenL_ok (l : Bytes) (cnt : Nat) (hl : l ≠ []) (he : (tokenL l cnt).2.2 = 0) (p : Int) : tokOk { (tokenL l cnt).1 with pos := p } = true := by
  cases l with
  | nil => exact absurd rfl hl
  | cons c r =>
    rw [tokenL_def] at he ⊢
    split at he
    · simp at he
    rename_i a1
    rw [if_neg a1]
    split at he
    · simp at he
    rename_i a2
    rw [if_neg a2]
    split at he
    · rename_i a3
      rw [if_pos a3]
      unfold signK at a3 ⊢
      by_cases h1 : c = 123
      · subst h1;rfl
      by_cases h2 : c = 125
      · subst h2;rfl
      by_cases h3 : c = 59
      · subst h3;rfl
      rw [if_neg h1,if_neg h2,if_neg h3] at a3
      exact absurd rfl a3
    rename_i a3
    rw [if_neg a3]
    split at he
    · rename_i a4
      rw [if_pos a4]
      obtain ⟨h1,h2⟩:=numberL_ok (c :: r) he
      simp [tokOk,h1,h2]
    rename_i a4
    rw [if_neg a4]
    split at he
    · simp at he
    rename_i a5
    rw [if_neg a5]
    have hlt : isLetter c = true := by
      cases hl : isLetter c
      · exact absurd ⟨by simpa using a3,hl,by simpa using a4⟩ a1
      · rfl
    have hin : isInner c = true:=by simp [isInner,hlt]
    have hall:=runL_all isInner (c :: r)
    have hlen : ((c :: r).take (runL isInner (c :: r))).length ≤ 16:=by rw [List.length_take];omega
    obtain ⟨m,hm⟩ : ∃ m,runL isInner (c :: r) = m + 1:=⟨runL isInner (c :: r) - 1,by have:=runL_head isInner c r hin;omega⟩
    rw [hm] at hall hlen ⊢
    rw [List.take_succ_cons] at hall hlen ⊢
    simp only [tokOk,if_true,nameL,decide_true,Bool.and_true,hlt,hall,Bool.and_self,decide_eq_true hlen]
theorem cutM_tokOk : ∀ (b : Bool) (j pos cnt : Nat) (l : Bytes),∀ t ∈ (cutM b j pos cnt l).toks,tokOk t = true
  | b,j,pos,cnt,[],t,h => by rw [cutM_nil] at h;simp at h
  | b,j + 1,pos,cnt,c :: r,t,h => by
    have e1 : cutM b (j + 1) pos cnt (c :: r) = cutM b j (pos + 1) cnt r:=by cases b <;> rfl
    rw [e1] at h
    exact cutM_tokOk b j (pos + 1) cnt r t h
  | true,0,pos,cnt,c :: r,t,h => cutM_tokOk (notEol c) 0 (pos + 1) cnt r t h
  | false,0,pos,cnt,c :: r,t,h => by
    rw [cutM] at h
    split at h
    · exact cutM_tokOk false 0 (pos + 1) cnt r t h
    split at h
    · exact cutM_tokOk true 0 (pos + 1) cnt r t h
    dsimp only at h
    split at h
    · simp at h
    · rename_i he
      have he0 : (tokenL (c :: r) cnt).2.2 = 0:=by simpa using he
      unfold CutRes.cons at h
      split at h
      · simp only [List.mem_cons] at h
        rcases h with rfl | h
        · exact tokenL_ok (c :: r) cnt (by simp) he0 _
        · exact cutM_tokOk false _ (pos + 1) (cnt + 1) r t h
      · exact cutM_tokOk false _ (pos + 1) (cnt + 1) r t h
theorem cutL_tokOk (s : Bytes) : ∀ t ∈ (cutL s).toks,tokOk t = true := by
  unfold cutL
  split
  · intro t h;simp at h
  · exact cutM_tokOk _ _ _ _ _
/-- Each token's place lies within the text. -/
theorem cutM_posLt : ∀ (b : Bool) (j pos cnt : Nat) (l : Bytes),∀ t ∈ (cutM b j pos cnt l).toks,(pos : Int) ≤ t.pos ∧ t.pos < pos + l.length
  | b,j,pos,cnt,[],t,h => by rw [cutM_nil] at h;simp at h
  | b,j + 1,pos,cnt,c :: r,t,h => by
    have e1 : cutM b (j + 1) pos cnt (c :: r) = cutM b j (pos + 1) cnt r:=by cases b <;> rfl
    rw [e1] at h
    have:=cutM_posLt b j (pos + 1) cnt r t h
    rw [List.length_cons];omega
  | true,0,pos,cnt,c :: r,t,h => by
    have:=cutM_posLt (notEol c) 0 (pos + 1) cnt r t h
    rw [List.length_cons];omega
  | false,0,pos,cnt,c :: r,t,h => by
    rw [cutM] at h
    split at h
    · have := cutM_posLt false 0 (pos + 1) cnt r t h
      rw [List.length_cons];omega
    split at h
    · have := cutM_posLt true 0 (pos + 1) cnt r t h
      rw [List.length_cons];omega
    dsimp only at h
    split at h
    · simp at h
    · unfold CutRes.cons at h
      split at h
      · simp only [List.mem_cons] at h
        rcases h with rfl | h
        · simp only [List.length_cons];omega
        · have := cutM_posLt false _ (pos + 1) (cnt + 1) r t h
          rw [List.length_cons];omega
      · have := cutM_posLt false _ (pos + 1) (cnt + 1) r t h
        rw [List.length_cons];omega
theorem cutL_posLt (s : Bytes) : ∀ t ∈ (cutL s).toks,0 ≤ t.pos ∧ t.pos < s.length := by
  unfold cutL
  split
  · intro t h;simp at h
  · intro t h;have:=cutM_posLt _ _ _ _ _ t h;omega
/-! ### The tokens of items -/
/-- A token without its place. -/
def Tok.bare0 (t : Tok) : Tok:={ t with pos:=0 }
def wordT (w : WordL) : Tok:=if w.num then ⟨2,0,w.n,[]⟩ else ⟨1,0,0,w.s⟩
mutual
def flatN : NodeL → List Tok
  | .mk nm _ ws b ks => ⟨1,0,0,nm⟩ :: (ws.map wordT ++ (if b then ⟨3,0,0,[]⟩ :: (flatL ks ++ [⟨4,0,0,[]⟩]) else [⟨5,0,0,[]⟩]))
def flatL : List NodeL → List Tok
  | [] => []
  | n :: r => flatN n ++ flatL r
end
theorem flatL_append : ∀ (l m : List NodeL),flatL (l ++ m) = flatL l ++ flatL m
  | [],m => by simp [flatL]
  | n :: r,m => by simp only [List.cons_append,flatL,flatL_append r m,List.append_assoc]
/-- The tokens that open a block,and those that stand in it so far. -/
def flatF : List FrameL → List Tok
  | [] => []
  | [f] => flatL f.kids
  | f :: g :: r => flatF (g :: r) ++ (⟨1,0,0,f.name⟩ :: (f.words.map wordT ++ [⟨3,0,0,[]⟩])) ++ flatL f.kids
def flatI : Option ItemL → List Tok
  | none => []
  | some i => ⟨1,0,0,i.name⟩ :: i.words.map wordT
theorem flatF_add (f : FrameL) (r : List FrameL) (n : NodeL) : flatF (f.add n :: r) = flatF (f :: r) ++ flatN n := by
  cases r with
  | nil => simp [flatF,FrameL.add,flatL_append,flatL]
  | cons g r => simp [flatF,FrameL.add,flatL_append,flatL]
/-- A token that is read is told by what is read. -/
theorem step_flat (fs : List FrameL) (it : Option ItemL) (t : Tok) (fs' : List FrameL) (it' : Option ItemL) (hne : fs ≠ []) (ht : tokOk t = true) (h : stepT fs it t = .fine fs' it') :
    flatF fs' ++ flatI it' = flatF fs ++ flatI it ++ [t.bare0] ∧ fs' ≠ []:=by
  obtain ⟨K,P,N,S⟩:=t
  cases it with
  | none =>
    simp only [stepT,beginT] at h
    split at h
    · rename_i h1
      simp only [StepR.fine.injEq] at h
      obtain ⟨rfl,rfl⟩:=h
      subst h1
      simp only [tokOk,if_true,Bool.and_eq_true,decide_eq_true_eq] at ht
      obtain ⟨_,rfl⟩:=ht
      exact ⟨by simp [flatI,Tok.bare0],hne⟩
    split at h
    · rename_i h1
      subst h1
      split at h
      · rename_i f g r
        simp only [StepR.fine.injEq] at h
        obtain ⟨rfl,rfl⟩:=h
        simp only [tokOk] at ht
        simp at ht
        obtain ⟨rfl,rfl⟩:=ht
        refine ⟨?_,by simp⟩
        rw [flatF_add]
        simp [flatF,flatI,FrameL.node,flatN,Tok.bare0]
      · cases h
    · cases h
  | some i =>
    simp only [stepT,goT] at h
    split at h
    · rename_i h1
      split at h
      · cases h
      simp only [StepR.fine.injEq] at h
      obtain ⟨rfl,rfl⟩:=h
      refine ⟨?_,hne⟩
      rcases h1 with h1 | h1
      · have h1 : K = 1 := h1
        subst h1
        simp only [tokOk,if_true,Bool.and_eq_true,decide_eq_true_eq] at ht
        obtain ⟨_,rfl⟩:=ht
        simp [flatI,Tok.bare0,wordT]
      · have h1 : K = 2 := h1
        subst h1
        simp only [tokOk] at ht
        simp at ht
        obtain ⟨_,rfl⟩:=ht
        simp [flatI,Tok.bare0,wordT]
    rename_i h12
    split at h
    · rename_i h1
      have h1 : K = 5:=h1
      subst h1
      simp only [tokOk] at ht
      simp at ht
      obtain ⟨rfl,rfl⟩:=ht
      split at h
      · simp only [StepR.fine.injEq] at h
        obtain ⟨rfl,rfl⟩:=h
        refine ⟨?_,by simp⟩
        rw [flatF_add]
        simp [flatI,ItemL.node,flatN,Tok.bare0]
      · cases h
    split at h
    · rename_i h1
      have h1 : K = 3:=h1
      subst h1
      simp only [tokOk] at ht
      simp at ht
      obtain ⟨rfl,rfl⟩:=ht
      split at h
      · cases h
      simp only [StepR.fine.injEq] at h
      obtain ⟨rfl,rfl⟩:=h
      refine ⟨?_,by simp⟩
      cases fs with
      | nil => exact absurd rfl hne
      | cons g r => simp [flatF,flatI,flatL,Tok.bare0]
    · cases h
theorem parse_flat (E : Int) (hE : 0 ≤ E) : ∀ (ts : List Tok) (fs : List FrameL) (it : Option ItemL),fs ≠ [] → (∀ t ∈ ts,tokOk t = true) → (parseT E fs it ts).err = 0 → (∀ e,∀ f i t,stepT f i t = .bad e → e ≠ 0) →
    flatL (parseT E fs it ts).nodes = flatF fs ++ flatI it ++ ts.map Tok.bare0 ∧ (parseT E fs it ts).pos = 0
  | [],fs,it,hne,_,h,_ => by
    unfold parseT at h ⊢
    unfold endT at h ⊢
    split at h
    · simp [flatF,flatI]
    · simp at h
  | t :: ts,fs,it,hne,hok,h,hbad => by
    unfold parseT at h ⊢
    split at h
    · rename_i e he
      exact absurd h (hbad e _ _ _ he)
    · rename_i fs' it' he
      obtain ⟨h1,h2⟩:=step_flat fs it t fs' it' hne (hok t (by simp)) he
      obtain ⟨h3,h4⟩:=parse_flat E hE ts fs' it' h2 (fun t ht => hok t (by simp [ht])) h hbad
      refine ⟨?_,h4⟩
      rw [h3,h1]
      simp
theorem step_bad (e : Int) (fs : List FrameL) (it : Option ItemL) (t : Tok) (h : stepT fs it t = .bad e) : e = 5 ∨ e = 6 ∨ e = 7 := by
  cases it with
  | none =>
    simp only [stepT,beginT] at h
    repeat' split at h
    all_goals first | (cases h;simp;done) | cases h
  | some i =>
    simp only [stepT,goT] at h
    repeat' split at h
    all_goals first | (cases h;simp;done) | cases h
theorem step_bad0 (e : Int) (fs : List FrameL) (it : Option ItemL) (t : Tok) (h : stepT fs it t = .bad e) : e ≠ 0 := by
  have:=step_bad e fs it t h;omega
theorem treeL_err0 (s : Bytes) (h : (treeL s).err = 0) : (cutL s).err = 0 ∧ treeL s = parseT s.length [rootF] none (cutL s).toks := by
  unfold treeL at h ⊢
  split at h
  · rename_i he;exact absurd h he
  · rename_i he;rw [if_neg he];exact ⟨by simpa using he,rfl⟩
/-- The tokens of what is told are those of the text. -/
theorem tokens_law (s : Bytes) (h : (treeL s).err = 0) : (cutL s).err = 0 ∧ (treeL s).pos = 0 ∧ flatL (treeL s).nodes = (cutL s).toks.map Tok.bare0 := by
  obtain ⟨h1,h2⟩:=treeL_err0 s h
  rw [h2] at h ⊢
  obtain ⟨h3,h4⟩:=parse_flat s.length (by omega) (cutL s).toks [rootF] none (by simp) (cutL_tokOk s) h step_bad0
  refine ⟨h1,h4,?_⟩
  rw [h3]
  simp [flatF,flatI,rootF,flatL]
/-- An error is told within the text,and nothing else. -/
theorem parse_err (E : Int) : ∀ (ts : List Tok) (fs : List FrameL) (it : Option ItemL),(parseT E fs it ts).err ≠ 0 → (parseT E fs it ts).nodes = [] ∧ ((parseT E fs it ts).pos = E ∨ ∃ t ∈ ts,(parseT E fs it ts).pos = t.pos)
  | [],fs,it,h => by
    unfold parseT at h ⊢
    unfold endT at h ⊢
    split at h
    · simp at h
    · exact ⟨rfl, .inl rfl⟩
  | t :: ts,fs,it,h => by
    unfold parseT at h ⊢
    split at h
    · exact ⟨rfl, .inr ⟨t,by simp,rfl⟩⟩
    · obtain ⟨h1,h2⟩ := parse_err E ts _ _ h
      refine ⟨h1,?_⟩
      rcases h2 with h2 | ⟨u,hu,h2⟩
      · exact .inl h2
      · exact .inr ⟨u,by simp [hu],h2⟩
theorem tree_err (s : Bytes) (hs : s.length ≤ 65536) (h : (treeL s).err ≠ 0) : (treeL s).nodes = [] ∧ 0 ≤ (treeL s).pos ∧ (treeL s).pos ≤ s.length := by
  unfold treeL at h ⊢
  by_cases he : (cutL s).err ≠ 0
  · rw [if_pos he]
    unfold cutL at he ⊢
    rw [if_neg (by omega)] at he ⊢
    obtain ⟨q,h1,_,h3,_⟩:=cutM_before false 0 0 0 s he
    exact ⟨rfl,by simp only;omega,by simp only;omega⟩
  · rw [if_neg he] at h ⊢
    obtain ⟨h1,h2⟩:=parse_err s.length _ _ _ h
    refine ⟨h1,?_⟩
    rcases h2 with h2 | ⟨u,hu,h2⟩
    · omega
    · have:=cutL_posLt s u hu;omega
end
end Go.Proofs.Ytpkhocbohhpmbaa
