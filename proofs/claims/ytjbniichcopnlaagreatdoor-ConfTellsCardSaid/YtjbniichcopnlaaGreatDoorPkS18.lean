/- Layer 10 (layout), the laws: what their walks share; live. Then: What the rows of this seat list: the tables that they lay, as a walk wants them; a world for the witness. Then: The row's last step over a walk that tells 'Below' alone. Then: The row's last step: the arguments read behind the call as they did, unopened, whatever their types. Then: An argument that is a slice of items, opened. Then: Layer 11 (field), in plain Lean: calendars, what may be, and how a block is read. -/
import Derived.Test.YtjbniichcopnlaaGreatDoorPkS17
import Derived.Test.YtjbniichcopnlaaGreatDoorRows
import Derived.ProofKit
import Derived.Lib.LaidTab
import Derived.Lib.LaidU8
import Derived.Stop.LaidErr
import Derived.Deep.DeepWitnessRowRef
import Derived.Deep.DeepLaidRun
import Derived.Below
import Derived.ChangeSame
import Derived.WideKeyArgs
import Derived.OpenVars
import Derived.OpenShut
import Derived.ShutString
import Derived.Test.YtjbniichcopnlaaGreatDoorPkS16
import Derived.Deep.Slices
import Derived.Deep.Fields
import Derived.DataShut
import Derived.Test.YtjbniichcopnlaaGreatDoorPkS5
section
set_option linter.unusedVariables false
set_option linter.unusedSimpArgs false
namespace Go.Proofs.YtjbniichcopnlaaGreatDoor
open Go.RowKit
theorem tab_lt {P : Program} {w : World} {n : String} {k : IntKind} {zs : List Int} {g : Nat} (hg : P.globalNamed n = some g) (h : Lib.TabIs P w n k zs) : g < w.heap.size := by
  unfold Lib.TabIs World.var? at h
  rw [hg] at h
  simp only [Option.bind_some] at h
  rcases Nat.lt_or_ge g w.heap.size with h1 | h1
  · exact h1
  · rw [Array.getElem?_eq_none h1] at h
    cases h
theorem Tab.lt {w : World} (h : Tab w) : 2 < w.heap.size:=tab_lt (by kernel_rfl) h
theorem SpaceTab.lt {w : World} (h : SpaceTab w) : 0 < w.heap.size:=tab_lt (by kernel_rfl) h
mutual
theorem cnt_zN : ∀ (n : NodeL),cntN (zN n) = cntN n
  | .mk nm p ws b ks => by simp only [zN,cntN,List.length_map,cnt_z ks]
theorem cnt_z : ∀ (l : List NodeL),cntL (zNs l) = cntL l
  | [] => rfl
  | n :: r => by simp only [zNs,cntL,cnt_zN n,cnt_z r]
end
mutual
theorem nd_zN : ∀ (n : NodeL),ndN (zN n) = ndN n
  | .mk nm p ws b ks => by simp only [zN,ndN,nd_z ks]
theorem nd_z : ∀ (l : List NodeL),ndL (zNs l) = ndL l
  | [] => rfl
  | n :: r => by simp only [zNs,ndL,nd_zN n,nd_z r]
end
theorem sameL_eq : ∀ l m : List Tok,l.map Tok.bare0 = m.map Tok.bare0 → sameL l m = true
  | [],[],_ => rfl
  | [],_ :: _,h => by simp at h
  | _ :: _,[],h => by simp at h
  | a :: l,b :: m,h => by
    simp only [List.map_cons,List.cons.injEq] at h
    rw [sameL,sameL_eq l m h.2]
    obtain ⟨a1,a2,a3,a4⟩:=a
    obtain ⟨b1,b2,b3,b4⟩:=b
    have h1:=h.1
    simp only [Tok.bare0,Tok.mk.injEq] at h1
    obtain ⟨rfl,_,rfl,rfl⟩:=h1
    simp [sameTok]
theorem canon_err (s : Bytes) (h : (canonL s).2.2 ≠ 0) : (canonL s).1 = [] := by
  unfold canonL at h ⊢
  by_cases he : (treeL s).err ≠ 0
  · rw [if_pos he]
  · rw [if_neg he] at h ⊢
    simp only at h ⊢
    unfold layL at h ⊢
    by_cases hc : checkL 0 (treeL s).nodes ≠ 0
    · rw [if_pos hc]
    · rw [if_neg hc] at h ⊢
      by_cases hl : 8192 < (flatL (treeL s).nodes).length ∨ 65536 < (printL 0 (treeL s).nodes).length
      · rw [if_pos hl]
      · rw [if_neg hl] at h;exact absurd rfl h
theorem canon_in (s : Bytes) (hs : s.length ≤ 400) : (treeL s).err = 0 → checkL 0 (treeL s).nodes = 0 ∧ cntL (treeL s).nodes ≤ 100000 := fun he => by
  obtain ⟨h1,_,_,h4⟩:=right_law s hs he
  exact ⟨h1,by omega⟩
/-- What was written anew is read,and is small. -/
theorem canon_out (s : Bytes) (hs : s.length ≤ 400) (h : (canonL s).2.2 = 0) :
    (canonL s).1.length ≤ 65536 ∧ ((treeL (canonL s).1).err = 0 → checkL 0 (treeL (canonL s).1).nodes = 0 ∧ cntL (treeL (canonL s).1).nodes ≤ 100000):=by
  unfold canonL at h ⊢
  by_cases he : (treeL s).err ≠ 0
  · rw [if_pos he] at h;exact absurd h he
  rw [if_neg he] at h ⊢
  simp only at h ⊢
  obtain ⟨h1,h2,h3,h4⟩:=lay_ok _ h
  obtain ⟨p1,p2,p3⟩:=print_tree _ h
  obtain ⟨_,_,_,r4⟩:=right_law s hs (by simpa using he)
  refine ⟨by rw [h4];exact h3,fun _ => ⟨?_,?_⟩⟩
  · rw [← check_z,p3,check_z];exact h1
  · rw [← cnt_z,p3,cnt_z];omega
theorem cut_err_nil (s : Bytes) (h : (cutL s).err ≠ 0) : (cutL s).toks = [] := by
  unfold cutL at h ⊢
  by_cases hl : s.length > 65536
  · rw [if_pos hl]
  · rw [if_neg hl] at h ⊢
    exact (cutM_err false 0 0 0 s).2 h
theorem ROk.wide {w : World} {B B' : Nat} {A : Option Addr} {l : List NodeL} (h : ROk w B A l) (hB : B ≤ B') : ROk w B' A l := by
  obtain ⟨cs,h1,h2⟩:=h
  exact ⟨cs,h1.keep (fun _ h => Nat.lt_of_lt_of_le h hB) (fun _ _ => rfl),NodesOk.keep (fun _ h => Nat.lt_of_lt_of_le h hB) (fun _ _ => rfl) _ _ h2⟩
theorem live_tree10 : treeL [97,32,49,123,98,59,125] = ⟨[.mk [97] 0 [⟨true,1,[],2⟩] true [.mk [98] 4 [] false []]],0,0⟩:=by kernel_rfl
theorem live_canon : canonL [97,32,49,123,98,59,125] = ([97,32,49,32,123,10,32,32,98,59,10,125,10],0,0) := by
  unfold canonL
  rw [live_tree10]
  simp [layL,checkL,checkN,wordOk,nameL,isLetter,isInner,flatL,flatN,printL,printN,lineB,wordB,Lib.itoa,Lib.decDigits_one,Lib.join_cons,Lib.join_nil,Lib.joinTail,List.replicate_succ,wordT]
end Go.Proofs.YtjbniichcopnlaaGreatDoor
end
section
set_option linter.unusedVariables false
set_option maxRecDepth 100000
open Go.RowKit
namespace Go.Proofs.YtjbniichcopnlaaGreatDoor.tabs
theorem own : ownKnob Tryz.prog.godebug = none:=by kernel_rfl
theorem pow10 {W : World} (h : laidMet Tryz.prog Rows.confBackRow.laid W) : Tab W :=
  Lib.tabIs_of_head (g:=2) (t:=179) (e:=151) (n:=20) (k:=.u64) (rest:=[("unicode/utf8.acceptRanges",Rows.laid_unicode_utf8_acceptRanges),("unicode.White_Space",Rows.laid_unicode_White_Space),("strings.asciiSpace",Rows.laid_strings_asciiSpace),("unicode/utf8.first",Rows.laid_unicode_utf8_first)]) (by kernel_rfl) (by kernel_rfl) (by kernel_rfl) (by kernel_rfl) (by kernel_rfl) (by kernel_rfl) h.tail.tail
theorem space {W : World} (h : laidMet Tryz.prog Rows.confBackRow.laid W) : SpaceTab W :=
  Lib.tabIs_of_head (g:=0) (t:=132) (e:=5) (n:=256) (k:=.u8) (rest:=[("unicode/utf8.first",Rows.laid_unicode_utf8_first)]) (by kernel_rfl) (by kernel_rfl) (by kernel_rfl) (by kernel_rfl) (by kernel_rfl) (by kernel_rfl) h.tail.tail.tail.tail.tail
/-- A world for the witness: the settled one,with the listed variables holding what their initialisers lay. -/
noncomputable def laidWorld (os : Os) : World :=
  let N:=(World.settled Tryz.prog os).heap.size
  let w0:=World.holding Tryz.prog os ⟨#[.cells (Lib.whiteT.map fun (z : Nat) => Value.int .u16 (z : Int)).toArray 172, .cells #[.slice (some ⟨N,0,none⟩) 7 7, .slice none 0 0, .int .i64 2] 169],#[],[]⟩
  let put (h : Array Obj) (g : Nat) (cs : Array Value) : Array Obj := h.modify g fun
    | .cells _ t frozen => .cells cs t frozen
    | o => o
  { w0 with heap:=put (put (put (put (put (put (put (w0.heap) 6 #[.int .u8 0, .int .u8 1, .int .u8 28, .int .u8 2, .int .u8 29, .int .u8 14, .int .u8 24, .int .u8 3, .int .u8 30, .int .u8 22, .int .u8 20, .int .u8 15, .int .u8 25, .int .u8 17, .int .u8 4, .int .u8 8, .int .u8 31, .int .u8 27, .int .u8 13, .int .u8 23, .int .u8 21, .int .u8 19, .int .u8 16, .int .u8 7, .int .u8 26, .int .u8 12, .int .u8 18, .int .u8 6, .int .u8 11, .int .u8 5, .int .u8 10, .int .u8 9]) 7 #[.int .u8 0, .int .u8 1, .int .u8 56, .int .u8 2, .int .u8 57, .int .u8 49, .int .u8 28, .int .u8 3, .int .u8 61, .int .u8 58, .int .u8 42, .int .u8 50, .int .u8 38, .int .u8 29, .int .u8 17, .int .u8 4, .int .u8 62, .int .u8 47, .int .u8 59, .int .u8 36, .int .u8 45, .int .u8 43, .int .u8 51, .int .u8 22, .int .u8 53, .int .u8 39, .int .u8 33, .int .u8 30, .int .u8 24, .int .u8 18, .int .u8 12, .int .u8 5, .int .u8 63, .int .u8 55, .int .u8 48, .int .u8 27, .int .u8 60, .int .u8 41, .int .u8 37, .int .u8 16, .int .u8 46, .int .u8 35, .int .u8 44, .int .u8 21, .int .u8 52, .int .u8 32, .int .u8 23, .int .u8 11, .int .u8 54, .int .u8 26, .int .u8 40, .int .u8 15, .int .u8 34, .int .u8 20, .int .u8 31, .int .u8 10, .int .u8 25, .int .u8 14, .int .u8 19, .int .u8 9, .int .u8 13, .int .u8 8, .int .u8 7, .int .u8 6]) 2 #[.int .u64 1, .int .u64 10, .int .u64 100, .int .u64 1000, .int .u64 10000, .int .u64 100000, .int .u64 1000000, .int .u64 10000000, .int .u64 100000000, .int .u64 1000000000, .int .u64 10000000000, .int .u64 100000000000, .int .u64 1000000000000, .int .u64 10000000000000, .int .u64 100000000000000, .int .u64 1000000000000000, .int .u64 10000000000000000, .int .u64 100000000000000000, .int .u64 1000000000000000000, .int .u64 10000000000000000000]) 5 ((List.range 16).flatMap fun i => [Value.int .u8 (Lib.accLo i),Value.int .u8 (Lib.accHi i)]).toArray) 1 #[.pointer (some ⟨N + 1,0,none⟩)]) 0 (Lib.asciiSpaceTab.map fun z => Value.int .u8 z).toArray) 4 (Lib.firstTab.map fun z => Value.int .u8 z).toArray }
theorem laid_met (os : Os) (args : Array Value) : laidMet Tryz.prog Rows.confBackRow.laid ((laidWorld os).forCall (fun _ _ => 0) ⟨#[],args,[]⟩).memory :=
  laidMet_of_run3 10 (by kernel_rfl) (by kernel_rfl) (by kernel_rfl)
end Go.Proofs.YtjbniichcopnlaaGreatDoor.tabs
end
section
namespace Go.Proofs.YtjbniichcopnlaaGreatDoor
open Go.RowKit Go.WideShapes Go.ChangeShapes
section
variable {H : Type} {enc : TypeId × Value → H} {P : Program}
theorem post_of_below {f : Func} {s : ChangeSpec} {apart fresh handsOn again : Bool} {W W' : World} {args : Array Value} {v : Value} {ds gs : List (DataW H)} {before pa pv : List MemPlace}
    (hW : DataW.Whole enc P f.params.toList s.vars apart W args.toList ds gs before)
    (hres : ∀ (b : Nat) (sp : Nat → Bool) (hd : Bool),DataW.TrodAll enc P W' b sp hd f.resultTypes.toList (v.resultList f.resultTypes.size) (s.fn H (ds ++ gs)).results [])
    (hargs : ∀ sp : Nat → Bool,(∀ p ∈ before,sp p.block = true) → DataW.TrodAll enc P W' 0 sp true f.params.toList args.toList (s.fn H (ds ++ gs)).args pa)
    (hvars : ∀ sp : Nat → Bool,(∀ p ∈ before,sp p.block = true) → DataW.TrodVars enc P W' sp s.vars (s.fn H (ds ++ gs)).vars pv)
    (hps : before = pa ++ pv) (hb : Below W.heap.size W W')
    (hok : ∀ (j : Nat) (t : TypeId) (r : Value),f.resultTypes[j]? = some t → (v.resultList f.resultTypes.size)[j]? = some r → Value.okWide P W' .any 0 t r) :
    s.post enc P f apart fresh handsOn again W args v W':=by
  have hlt : ∀ p ∈ before,p.block < W.heap.size:=fun p hp => hW.lt p hp
  have hold : ∀ p ∈ before,(fun b => decide (b < W.heap.size)) p.block = true:=fun p hp => by simpa using hlt p hp
  refine ⟨ds,gs,before,[],pa,pv,hW,hres _ _ _,hargs _ hold,hvars _ hold,World.keptBut_mono (fun p hp => ⟨hp,?_⟩) (hb.frame (· ∈ before)),fun _ => ?_⟩
  · rw [hps,List.mem_append] at hp
    exact Or.inr hp
  · obtain ⟨_,_,_,_,_,hz,hn⟩ := hW
    refine ⟨hok,_,_,([] ++ pa) ++ pv,⟨[] ++ pa,pv,trodAll_append (hargs _ (fun _ _ => rfl)) (hres _ _ _),hvars _ (fun _ _ => rfl),rfl,?_,?_⟩,?_⟩
    · intro b off hp
      have hin : MemPlace.cell b off ∈ before:=by rw [hps];simpa using hp
      rw [hb.frozen (hlt _ hin)]
      exact hz b off hin
    · intro ha
      have:=hn ha
      rw [hps] at this
      simpa using this
    · intro p hp _
      rw [hps]
      simpa using hp
end
end Go.Proofs.YtjbniichcopnlaaGreatDoor
end
section
namespace Go.Proofs.YtjbniichcopnlaaGreatDoor
open Go.RowKit Go.WideShapes Go.ChangeShapes Go.WideElems Go.ChangeAt
section
variable {H : Type} {enc : TypeId × Value → H} {P : Program}
/-- One closed fact: each parameter's type can be read and is a row of the table. -/
def paramsRowed (P : Program) (ts : List TypeId) : Bool:=ts.all fun t => P.readableRec t && decide (t < P.types.size)
theorem trodAll_stay (hl : laidOutB P = true) {W W' : World} (hb : Below W.heap.size W W') : ∀ {ts : List TypeId} {vs : List Value} {ds : List (DataW H)} {ps : List MemPlace},paramsRowed P ts = true →
    (∀ p ∈ ps,p.block < W.heap.size) → DataW.TrodAll enc P W 0 (fun _ => true) true ts vs ds ps →
    ∀ sp : Nat → Bool,(∀ p ∈ ps,sp p.block = true) → DataW.TrodAll enc P W' 0 sp true ts vs ds ps:=by
  intro ts
  induction ts with
  | nil =>
    intro vs ds ps _ _ h sp _
    obtain ⟨rfl,rfl,rfl⟩:=trodAll_nil h
    exact trodAll_mk0
  | cons t ts ih =>
    intro vs ds ps hp hlt h sp hsp
    obtain ⟨v0,vs0,d0,ds0,p0,q0,rfl,rfl,rfl,h0,r0⟩:=trodAll_cons h
    simp only [paramsRowed,List.all_cons,Bool.and_eq_true,decide_eq_true_eq] at hp
    refine trodAll_cons_mk (Trod_stays hl hp.1.1 hp.1.2 h0 (fun p hx => hb.same (hlt p (by simp [hx]))) (fun p hx => hsp p (by simp [hx]))) (ih (by simpa [paramsRowed] using hp.2) (fun p hx => hlt p (by simp [hx])) r0 sp (fun p hx => hsp p (by simp [hx])))
end
end Go.Proofs.YtjbniichcopnlaaGreatDoor
end
section
set_option maxRecDepth 100000
namespace Go.Proofs.YtjbniichcopnlaaGreatDoor
open Go.RowKit Go.WideShapes Go.ChangeShapes Go.WideElems Go.Deep
section
variable {H : Type} {enc : TypeId × Value → H} {P : Program} {w : World} {base : Nat} {spare : Nat → Bool} {held : Bool}
/-- A slice of structs whose fields are one cell each,opened;each field is read with less fuel. -/
theorem open_slice_less {t e : TypeId} {fs : Array Field} {fuel : Nat} {cs : List Value} {x : DataW H × List MemPlace} (ht : P.underlying t = some (.slice e)) (he : P.underlying e = some (.struct fs))
    (hone : oneCellFields P fs = true) (hC : P.cellsOf e = fs.size) (h : DataW.trod enc P w base spare held fuel t cs = some x) :
    cs = [.slice none 0 0] ∨
    ∃ (a : Addr) (len cap : Nat),cs = [.slice (some a) len cap] ∧ len ≤ cap ∧ cap ≤ maxLen ∧
      ∀ i,i < len → ∀ (j : Nat) (f : Field),fs[j]? = some f → ∃ (v : Value) (y : DataW H × List MemPlace) (n : Nat),n < fuel ∧ w.cell? (a.add (i * fs.size + j)) = some v ∧ DataW.trod enc P w base spare held n f.type [v] = some y:=by
  rcases DataW.trod_slice ht h with h0 | ⟨a,len,cap,elems,rest,n,hfu,hcs,hx,hb,hl,hm,hlen,hel,_,_⟩
  · exact .inl h0.1
  · refine .inr ⟨a,len,cap,hcs,hl,hm,fun i him j f hj => ?_⟩
    have hi:=hel i him
    rw [List.getElem?_eq_getElem (by omega)] at hi
    obtain ⟨cs',hc,ht'⟩:=Option.bind_eq_some_iff.1 hi
    rw [hC] at hc
    obtain ⟨ys,n',hn',hy,hlen',hyl,hf⟩:=DataW.trod_struct he ht'
    obtain ⟨_,hcl,hat⟩:=World.cells?_some hc
    obtain ⟨ho,hk⟩:=hone_of hone j f hj
    have hjl : j < fs.size:=(Array.getElem?_eq_some_iff.1 hj).1
    have hcell:=hat j hjl
    have hv : cs'[j]? = some (cs'[j]'(by omega)):=List.getElem?_eq_getElem (by omega)
    have h1:=hf j f hj
    rw [ho,hk] at h1
    have hone' : (cs'.drop j).take 1 = [cs'[j]'(by omega)] := by
      rw [List.drop_eq_getElem_cons (by omega)]
      rfl
    rw [hone'] at h1
    have hys : ys[j]? = some (ys[j]'(by omega)):=List.getElem?_eq_getElem (by omega)
    refine ⟨_,_,n',by omega,?_,h1.trans hys⟩
    rw [← Go.Deep.add_add,hcell,hv]
end
theorem exists_list {α : Type} (n : Nat) (p : Nat → α → Prop) (h : ∀ i,i < n → ∃ a,p i a) : ∃ l : List α,l.length = n ∧ ∀ i a,l[i]? = some a → p i a := by
  induction n with
  | zero => exact ⟨[],rfl,fun i a h => by simp at h⟩
  | succ n ih =>
    obtain ⟨l,hl,hp⟩:=ih fun i hi => h i (by omega)
    obtain ⟨a,ha⟩:=h n (by omega)
    refine ⟨l ++ [a],by simp [hl],fun i b hb => ?_⟩
    by_cases hi : i < l.length
    · rw [List.getElem?_append_left hi] at hb
      exact hp i b hb
    · rw [List.getElem?_append_right (by omega)] at hb
      have h0 : i - l.length = 0 := by
        have:=(List.getElem?_eq_some_iff.1 hb).1
        simp at this
        omega
      rw [h0] at hb
      simp at hb
      subst hb
      rw [show i = n by omega]
      exact ha
theorem cell_lt {w : World} {p : Addr} {v : Value} (h : w.cell? p = some v) : p.block < w.heap.size := by
  rcases Nat.lt_or_ge p.block w.heap.size with hlt | hge
  · exact hlt
  · exfalso
    unfold World.cell? at h
    rw [Array.getElem?_eq_none hge] at h
    simp at h
theorem open_words {H : Type} {enc : TypeId × Value → H} {w : World} {base : Nat} {spare : Nat → Bool} {held : Bool} {fuel : Nat} {cs : List Value} {x : DataW H × List MemPlace}
    (h : DataW.trod enc Tryz.prog w base spare held fuel 42 cs = some x) :
    ∃ (A : Option Addr) (c : Nat) (l : List WordL),cs = [.slice A l.length c] ∧ NilOk A c ∧ ReadsM w (· < w.heap.size) 4 A l.length (l.flatMap WordL.cells) ∧ l.length ≤ maxLen ∧ ∀ t ∈ l,t.s.length ≤ maxLen:=by
  rcases open_slice_less Tryz.underlying42 Tryz.underlying61 (by kernel_rfl) (by kernel_rfl) h with rfl | ⟨a,len,cap,rfl,hl,hm,hi⟩
  · exact ⟨none,0,[],rfl,fun _ => rfl,ReadsM.nil _ _ _ _,by simp,by simp⟩
  · obtain ⟨l,hlen,hp⟩ := exists_list len (fun (i : Nat) (t : WordL) => t.s.length ≤ maxLen ∧ w.cell? (a.add (i * 4)) = some (.bool t.num) ∧ w.cell? (a.add (i * 4 + 1)) = some (.int .i64 t.n) ∧ w.cell? (a.add (i * 4 + 2)) = some (.string ⟨t.s.toArray⟩) ∧ w.cell? (a.add (i * 4 + 3)) = some (.int .i64 t.pos)) (fun i him => by
      obtain ⟨v0,y0,n0,_,c0,t0⟩:=hi i him 0 _ rfl
      obtain ⟨v1,y1,n1,_,c1,t1⟩:=hi i him 1 _ rfl
      obtain ⟨v2,y2,n2,_,c2,t2⟩:=hi i him 2 _ rfl
      obtain ⟨v3,y3,n3,_,c3,t3⟩:=hi i him 3 _ rfl
      obtain ⟨k0,h0,_⟩:=DataW.trod_bool Tryz.underlying4 t0
      obtain ⟨k1,h1,_,w1⟩:=DataW.trod_int (k:=.i64) Tryz.underlying3 t1
      obtain ⟨k2,h2,_,w2⟩:=DataW.trod_string Tryz.underlying9 t2
      obtain ⟨k3,h3,_,w3⟩:=DataW.trod_int (k:=.i64) Tryz.underlying3 t3
      simp only [List.cons.injEq,and_true] at h0 h1 h2 h3
      subst h0 h1 h2 h3
      exact ⟨⟨k0,k1,k2.data.toList,k3⟩,by rw [ba_len];exact w2,c0,c1,by simpa using c2,c3⟩)
    subst hlen
    refine ⟨some a,cap,l,rfl,fun h => by simp at h,⟨wcells_length l,fun h0 => ⟨a,rfl,?_,fun j u hj => ?_⟩⟩,by omega,fun t ht => ?_⟩
    · have h1 := (hp 0 _ (List.getElem?_eq_getElem h0)).2.1
      have:=cell_lt h1
      rwa [block_of_add] at this
    · have hj4 : j < l.length * 4 := by
        have:=(List.getElem?_eq_some_iff.1 hj).1
        rwa [wcells_length] at this
      have hi4 : j / 4 < l.length:=by omega
      have hg:=wflat_get l (j / 4) _ (List.getElem?_eq_getElem hi4) (j % 4) (by omega)
      rw [show j / 4 * 4 + j % 4 = j by omega,hj] at hg
      obtain ⟨_,q0,q1,q2,q3⟩:=hp (j / 4) _ (List.getElem?_eq_getElem hi4)
      have hm4 : j % 4 = 0 ∨ j % 4 = 1 ∨ j % 4 = 2 ∨ j % 4 = 3:=by omega
      rcases hm4 with h4 | h4 | h4 | h4
      · rw [h4] at hg;simp [WordL.cells] at hg;rw [show j = j / 4 * 4 by omega,hg];exact q0
      · rw [h4] at hg;simp [WordL.cells] at hg;rw [show j = j / 4 * 4 + 1 by omega,hg];exact q1
      · rw [h4] at hg;simp [WordL.cells] at hg;rw [show j = j / 4 * 4 + 2 by omega,hg];exact q2
      · rw [h4] at hg;simp [WordL.cells] at hg;rw [show j = j / 4 * 4 + 3 by omega,hg];exact q3
    · obtain ⟨i,hi,rfl⟩ := List.mem_iff_getElem.1 ht
      exact (hp i _ (List.getElem?_eq_getElem hi)).1
/-- Five cells from an address on. -/
def At5 (w : World) (a : Addr) (i : Nat) (cs : List Value) : Prop:=cs.length = 5 ∧ ∀ j u,cs[j]? = some u → w.cell? (a.add (i * 5 + j)) = some u
theorem nodes_ok {w : World} {M : Nat → Prop} {a : Addr} : ∀ (l : List NodeL) (i : Nat),(∀ (j : Nat) (n : NodeL),l[j]? = some n → ∃ cs,At5 w a (i + j) cs ∧ NodeOk w M n cs) →
    ∃ kcs,kcs.length = l.length * 5 ∧ (∀ j u,kcs[j]? = some u → w.cell? (a.add (i * 5 + j)) = some u) ∧ NodesOk w M l kcs
  | [],i,_ => ⟨[],rfl,fun j u h => by simp at h,by simp only [NodesOk]⟩
  | n :: r,i,h => by
    obtain ⟨cs,⟨h1,h2⟩,h3⟩:=h 0 n rfl
    obtain ⟨kcs,k1,k2,k3⟩ := nodes_ok r (i + 1) (fun j m hj => by
      have:=h (j + 1) m (by simpa using hj)
      rwa [show i + (j + 1) = i + 1 + j by omega] at this)
    refine ⟨cs ++ kcs,by rw [List.length_append,h1,k1,List.length_cons];omega,fun j u hj => ?_,by simp only [NodesOk];exact ⟨cs,kcs,rfl,h3,k3⟩⟩
    by_cases hj5 : j < 5
    · rw [List.getElem?_append_left (by omega)] at hj
      simpa using h2 j u hj
    · rw [List.getElem?_append_right (by omega),h1] at hj
      have:=k2 (j - 5) u hj
      rwa [show (i + 1) * 5 + (j - 5) = i * 5 + j by omega] at this
theorem fitNs_of : ∀ (l : List NodeL),(∀ (j : Nat) (n : NodeL),l[j]? = some n → fitN n) → fitNs l
  | [],_ => trivial
  | n :: r,h => ⟨h 0 n rfl,fitNs_of r fun j m hj => h (j + 1) m (by simpa using hj)⟩
theorem open_nodes_fuel {H : Type} {enc : TypeId × Value → H} {w : World} {base : Nat} {spare : Nat → Bool} {held : Bool} : ∀ (N fuel : Nat),fuel < N → ∀ {cs : List Value} {x : DataW H × List MemPlace},
    DataW.trod enc Tryz.prog w base spare held fuel 41 cs = some x →
    ∃ (A : Option Addr) (c : Nat) (l : List NodeL),cs = [.slice A l.length c] ∧ NilOk A c ∧ ROk w w.heap.size A l ∧ l.length ≤ maxLen ∧ fitNs l
  | 0,fuel,hf,_,_,_ => by omega
  | N + 1,fuel,hf,cs,x,h => by
    rcases open_slice_less Tryz.underlying41 Tryz.underlying44 (by kernel_rfl) (by kernel_rfl) h with rfl | ⟨a,len,cap,rfl,hl,hm,hi⟩
    · exact ⟨none,0,[],rfl,fun _ => rfl,⟨[],ReadsM.nil _ _ _ _,by simp only [NodesOk]⟩,by simp,trivial⟩
    · obtain ⟨l,hlen,hp⟩ := exists_list len (fun (i : Nat) (n : NodeL) => fitN n ∧ ∃ cs,At5 w a i cs ∧ NodeOk w (· < w.heap.size) n cs) (fun i him => by
        obtain ⟨v0,y0,n0,_,c0,t0⟩:=hi i him 0 _ rfl
        obtain ⟨v1,y1,n1,_,c1,t1⟩:=hi i him 1 _ rfl
        obtain ⟨v2,y2,n2,_,c2,t2⟩:=hi i him 2 _ rfl
        obtain ⟨v3,y3,n3,_,c3,t3⟩:=hi i him 3 _ rfl
        obtain ⟨v4,y4,n4,l4,c4,t4⟩:=hi i him 4 _ rfl
        obtain ⟨k0,h0,_,w0⟩:=DataW.trod_string Tryz.underlying9 t0
        obtain ⟨k1,h1,_,w1⟩:=DataW.trod_int (k:=.i64) Tryz.underlying3 t1
        obtain ⟨Aw,cw,ws,h2,g1,g2,g3,g4⟩:=open_words t2
        obtain ⟨k3,h3,_⟩:=DataW.trod_bool Tryz.underlying4 t3
        obtain ⟨Ak,ck,ks,h4,g5,⟨kcs,g6,g7⟩,g8,g9⟩:=open_nodes_fuel N n4 (by omega) t4
        simp only [List.cons.injEq,and_true] at h0 h1 h2 h3 h4
        subst h0 h1 h2 h3 h4
        refine ⟨.mk k0.data.toList k1 ws k3 ks,⟨by rw [ba_len];exact w0,g3,g4,g8,g9⟩,[.string k0, .int .i64 k1, .slice Aw ws.length cw, .bool k3, .slice Ak ks.length ck],⟨rfl,fun j u hj => ?_⟩,?_⟩
        · have hj5 : j < 5 := (List.getElem?_eq_some_iff.1 hj).1
          have hm5 : j = 0 ∨ j = 1 ∨ j = 2 ∨ j = 3 ∨ j = 4:=by omega
          rcases hm5 with rfl | rfl | rfl | rfl | rfl <;> (simp only [List.getElem?_cons_zero,List.getElem?_cons_succ,Option.some.injEq] at hj;subst hj;assumption)
        · simp only [NodeOk]
          exact ⟨Aw,cw,Ak,ck,kcs,by simp,g1,g5,g2,g6,g7⟩)
      subst hlen
      obtain ⟨kcs,k1,k2,k3⟩ := nodes_ok l 0 (fun j n hj => by
        have:=(hp j n hj).2
        rwa [Nat.zero_add])
      refine ⟨some a,cap,l,rfl,fun h => by simp at h,⟨kcs,⟨k1,fun h0 => ⟨a,rfl,?_,fun j u hj => by simpa using k2 j u hj⟩⟩,k3⟩,by omega,fitNs_of l fun j n hj => (hp j n hj).1⟩
      have hk0 : 0 < kcs.length:=by omega
      have:=cell_lt (k2 0 _ (List.getElem?_eq_getElem hk0))
      rwa [block_of_add] at this
theorem open_nodes {H : Type} {enc : TypeId × Value → H} {w : World} {base : Nat} {spare : Nat → Bool} {held : Bool} {v : Value} {d : DataW H} {ps : List MemPlace} {r : Reach} {b0 : Nat}
    (hval : Value.okWide Tryz.prog w r b0 41 v) (hd : DataW.Trod enc Tryz.prog w base spare held 41 v d ps) :
    ∃ (A : Option Addr) (c : Nat) (l : List NodeL),v = .slice A l.length c ∧ NilOk A c ∧ ROk w w.heap.size A l ∧ l.length ≤ maxLen ∧ fitNs l:=by
  obtain ⟨A,n,c,rfl⟩:=okWide_slice Tryz.underlying41 hval
  obtain ⟨fuel,hf⟩:=hd
  obtain ⟨A',c',l,h1,h2⟩:=open_nodes_fuel (fuel + 1) fuel (by omega) hf
  simp only [Value.cells] at h1
  refine ⟨A',c',l,?_,h2⟩
  simpa using h1
end Go.Proofs.YtjbniichcopnlaaGreatDoor
end
section
namespace Go.Proofs.YtjbniichcopnlaaGreatDoor
structure CalL where
  name : Bytes
  kind : Int
  day : Int
  month : Int
  shift : Int
  shape : Int
  p0 : Int
  p1 : Int
  p2 : Int
  cycle : Int
  extra : Int
  first : Int
  last : Int
  policy : Int
  deriving DecidableEq
def calZ : CalL:=⟨[],0,0,0,0,0,0,0,0,0,0,0,0,0⟩
def days : List Bytes:=[[109,111,110],[116,117,101],[119,101,100],[116,104,117],[102,114,105],[115,97,116],[115,117,110]]
def mons : List Bytes:=[[106,97,110],[102,101,98],[109,97,114],[97,112,114],[109,97,121],[106,117,110],[106,117,108],[97,117,103],[115,101,112],[111,99,116],[110,111,118],[100,101,99]]
def endsL : List Bytes:=[[108,97,115,116],[110,101,97,114],[110,114,102],[98,114,111,97,100,99,97,115,116],[105,115,111],[109,111,110,116,104]]
def pols : List Bytes:=[[115,116,97,114,116],[115,104,105,102,116],[100,114,111,112],[99,108,97,109,112]]
def shifts : List Bytes:=[[108,97,115,116],[102,105,114,115,116]]
def keysL : List Bytes:=[[101,110,100],[112,101,114,105,111,100,115],[110,97,109,101,100],[112,97,121],[101,120,116,114,97],[115,101,114,118,101],[99,111,109,112,97,114,101]]
def b_end : Bytes:=[101,110,100]
def b_periods : Bytes:=[112,101,114,105,111,100,115]
def b_named : Bytes:=[110,97,109,101,100]
def b_pay : Bytes:=[112,97,121]
def b_extra : Bytes:=[101,120,116,114,97]
def b_serve : Bytes:=[115,101,114,118,101]
def b_compare : Bytes:=[99,111,109,112,97,114,101]
def b_calendar : Bytes:=[99,97,108,101,110,100,97,114]
/-- Where a word stands among names,from 1 on;0: nowhere. -/
def posL : List Bytes → Bytes → Int
  | [],_ => 0
  | a :: r,s => if a = s then 1 else if posL r s = 0 then 0 else posL r s + 1
def placeW (l : List Bytes) (w : WordL) : Int:=if w.num then 0 else posL l w.s
def tween (n a b : Int) : Bool:=decide (a ≤ n) && decide (n ≤ b)
def manyC (shape cycle : Int) : Int:=if shape = 2 then 13 else if shape = 3 ∧ 0 < cycle then 52 / cycle else if 1 ≤ shape ∧ shape ≤ 5 then 12 else 0
def patOk (a b c : Int) : Bool:=(decide (a = 4) && decide (b = 4) && decide (c = 5)) || (decide (a = 4) && decide (b = 5) && decide (c = 4)) || (decide (a = 5) && decide (b = 4) && decide (c = 4))
def patZ (c : CalL) : Bool:=decide (c.p0 = 0) && decide (c.p1 = 0) && decide (c.p2 = 0)
def cycOk (n : Int) : Bool:=decide (n = 1) || decide (n = 2) || decide (n = 4)
/-- Whether a shape of weeks may be. -/
def weeksC (c : CalL) : Bool :=
  if c.shape = 1 then patOk c.p0 c.p1 c.p2 && decide (c.cycle = 0) && tween c.extra 1 (manyC c.shape c.cycle)
  else if c.shape = 2 then patZ c && decide (c.cycle = 0) && tween c.extra 1 (manyC c.shape c.cycle)
  else if c.shape = 3 then patZ c && cycOk c.cycle && tween c.extra 1 (manyC c.shape c.cycle)
  else false
def nrfC : CalL:=⟨[],3,6,1,1,1,4,5,4,0,12,0,0,0⟩
def broadC : CalL:=⟨[],4,7,12,0,4,0,0,0,0,12,0,0,0⟩
def fixedC (kind : Int) : Option CalL:=if kind = 3 then some nrfC else if kind = 4 then some broadC else none
/-- Whether the rule,and the shape,may be. -/
def ruledC (c : CalL) : Bool :=
  match fixedC c.kind with
  | some f => decide (c = { f with name:=c.name,first:=c.first,last:=c.last,policy:=c.policy })
  | none =>
    if !tween c.month 1 12 || !tween c.shift 0 1 then false
    else if c.kind = 1 ∨ c.kind = 2 then tween c.day 1 7 && weeksC c
    else if c.kind = 5 then decide (c.day = 7) && decide (c.month = 12) && decide (c.shift = 0) && weeksC c
    else if c.kind = 6 then decide (c.day = 0) && decide (c.shape = 5) && patZ c && decide (c.cycle = 0) && decide (c.extra = 0)
    else false
def servedC (c : CalL) : Bool:=decide (1602 ≤ c.first) && decide (c.last ≤ 9996) && decide (c.first ≤ c.last) && decide (c.last - c.first < 400)
def policyC (c : CalL) : Bool:=tween c.policy 1 4 && (decide (c.policy = 4) == decide (c.kind = 6))
/-- Whether a calendar may be. -/
def okC (c : CalL) : Bool:=servedC c && policyC c && nameL c.name && ruledC c
def periodsC (c : CalL) : Int:=if okC c then manyC c.shape c.cycle else 0
def errC (c : CalL) : Int:=if okC c then 0 else 1
/-! ### A block read -/
/-- What an end's words say;whether they may be. -/
def endK (nm : Bytes) (w : List WordL) : CalL × Bool :=
  let k:=placeW endsL (w.headD ⟨false,0,[],0⟩)
  match fixedC k with
  | some f => ({ f with name:=nm },decide (w.length = 1))
  | none =>
    if k = 5 then ({ calZ with name:=nm,kind:=k,day:=7,month:=12 },decide (w.length = 1))
    else if k = 6 ∧ w.length = 2 then
      let m:=placeW mons (w.getD 1 ⟨false,0,[],0⟩)
      ({ calZ with name:=nm,kind:=k,shape:=5,month:=m },decide (0 < m))
    else if 0 < k ∧ k < 3 ∧ w.length = 3 then
      let d:=placeW days (w.getD 1 ⟨false,0,[],0⟩)
      let m:=placeW mons (w.getD 2 ⟨false,0,[],0⟩)
      ({ calZ with name:=nm,kind:=k,day:=d,month:=m },decide (0 < d) && decide (0 < m))
    else ({ calZ with name:=nm,kind:=k },false)
/-- What another key's words say;whether they may be. -/
def keyK (key : Bytes) (c : CalL) (w : List WordL) : CalL × Bool :=
  let w0:=w.headD ⟨false,0,[],0⟩
  if key = b_periods then
    if w.all (·.num) then
      (if w.length = 1 then ({ c with shape := 2 },decide (w0.n = 4))
       else if w.length = 3 then
         let b:=(w.getD 1 ⟨false,0,[],0⟩).n
         let d:=(w.getD 2 ⟨false,0,[],0⟩).n
         ({ c with shape:=1,p0:=w0.n,p1:=b,p2:=d },patOk w0.n b d)
       else (c,false))
    else (c,false)
  else if key = b_named then
    let k:=placeW shifts w0
    ({ c with shift:=k - 1 },decide (0 < k) && decide (w.length = 1))
  else if key = b_pay then ({ c with shape:=3,cycle:=w0.n },decide (w.length = 1) && w0.num && cycOk w0.n)
  else if key = b_extra then ({ c with extra:=w0.n },decide (w.length = 1) && w0.num && tween w0.n 1 52)
  else if key = b_serve then
    (if w.all (·.num) ∧ w.length = 2 then ({ c with first:=w0.n,last:=(w.getD 1 ⟨false,0,[],0⟩).n },true) else (c,false))
  else
    let p:=placeW pols w0
    ({ c with policy:=p },decide (0 < p) && decide (w.length = 1))
def putK (key : Bytes) (c : CalL) (w : List WordL) : CalL × Bool:=if key = b_end then endK c.name w else keyK key c w
/-- Whether a key stands with an end. -/
def standsC (kind : Int) (key : Bytes) : Bool :=
  if key = b_named then decide (kind ≠ 3) && decide (kind ≠ 4) && decide (kind ≠ 5)
  else if key = b_periods ∨ key = b_pay ∨ key = b_extra then decide (kind ≠ 3) && decide (kind ≠ 4) && decide (kind ≠ 6)
  else true
structure CalR where
  cal : CalL
  at_ : Int
  err : Int
/-- Each item looked at by itself: the first that may not be;else what the end says,if there is one. -/
def formedL (nm : Bytes) : List Bytes → Option CalL → List NodeL → (Int × Int) ⊕ (Option CalL)
  | _,c,[] => .inr c
  | seen,c,k :: r =>
    if !keysL.contains k.name then .inl (k.pos,8)
    else if seen.contains k.name then .inl (k.pos,9)
    else if k.block || k.words.isEmpty || !(putK k.name { calZ with name:=nm } k.words).2 then .inl (k.pos,5)
    else formedL nm (seen ++ [k.name]) (if k.name = b_end then some (putK k.name { calZ with name:=nm } k.words).1 else c) r
/-- The first key that does not stand with the end,or is the second shape. -/
def fitsL (kind : Int) : List Bytes → List NodeL → Option (Int × Int)
  | _,[] => none
  | seen,k :: r =>
    if !standsC kind k.name then some (k.pos,8)
    else if (k.name = b_periods ∧ b_pay ∈ seen) ∨ (k.name = b_pay ∧ b_periods ∈ seen) then some (k.pos,9)
    else fitsL kind (seen ++ [k.name]) r
def missL (kind : Int) (have_ : List Bytes) : Bool :=
  [b_named,b_periods,b_extra,b_serve,b_compare].any fun k => standsC kind k && !(have_.contains k || (decide (k = b_periods) && have_.contains b_pay))
def putAll (c : CalL) (l : List NodeL) : CalL:=l.foldl (fun c k => if k.name = b_end then c else (keyK k.name c k.words).1) c
def readBlock (n : NodeL) : CalR :=
  let nm:=(n.words.headD ⟨false,0,[],0⟩).s
  match formedL nm [] none n.kids with
  | .inl (p,e) => ⟨calZ,p,e⟩
  | .inr none => ⟨calZ,n.pos,10⟩
  | .inr (some c) =>
    match fitsL c.kind [] n.kids with
    | some (p,e) => ⟨calZ,p,e⟩
    | none =>
      if missL c.kind (n.kids.map NodeL.name) then ⟨calZ,n.pos,10⟩
      else if okC (putAll c n.kids) then ⟨putAll c n.kids,0,0⟩ else ⟨calZ,n.pos,1⟩
def readC (n : NodeL) : CalR :=
  if checkL 0 [n] ≠ 0 then ⟨calZ,0,1⟩
  else if n.name ≠ b_calendar ∨ n.block = false ∨ n.words.length ≠ 1 ∨ (n.words.headD ⟨false,0,[],0⟩).num = true then ⟨calZ,n.pos,5⟩
  else readBlock n
end Go.Proofs.YtjbniichcopnlaaGreatDoor
end
