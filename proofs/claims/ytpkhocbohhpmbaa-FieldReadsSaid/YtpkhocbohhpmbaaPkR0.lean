/- The row's last step over a walk that tells 'Below' alone. Over any program. Then: The row's last step: the arguments read behind the call as they did, unopened, whatever their types. Then: Laws for maps with integer or string keys whose entries are known whole: a map literal that is looked up at once, a map that the call fills. Then: Layer 8 (lex), in plain Lean: names, numbers, tokens, cutting. -/
import Derived.Below
import Derived.ChangeSame
import Derived.ProofKit
import Derived.WideKeyArgs
import Derived.OpenVars
import Derived.OpenShut
import Derived.ShutString
import Derived.WalkKit
namespace Go.Proofs.Ytpkhocbohhpmbaa
section
open Go.RowKit Go.WideShapes Go.ChangeShapes
section
variable {H : Type} {enc : TypeId × Value → H} {P : Program}
theorem post_of_below {f : Func} {s : ChangeSpec} {apart fresh handsOn again : Bool} {W W' : World} {args : Array Value} {v : Value} {ds gs : List (DataW H)} {before pa pv : List MemPlace}
    (hW : DataW.Whole enc P f.params.toList s.vars apart W args.toList ds gs before)
    (hres : ∀ (b : Nat) (sp : Nat → Bool) (hd : Bool),DataW.TrodAll enc P W' b sp hd f.resultTypes.toList (v.resultList f.resultTypes.size) (s.fn H (ds ++ gs)).results [])
    (hargs : ∀ sp : Nat → Bool,(∀ p ∈ before,sp p.block = true) → DataW.TrodAll enc P W' 0 sp true f.params.toList args.toList (s.fn H (ds ++ gs)).args pa)
    (hvars : ∀ sp : Nat → Bool,(∀ p ∈ before,sp p.block = true) → DataW.TrodVars enc P W' sp s.vars (s.fn H (ds ++ gs)).vars pv)
    (hps : before = pa ++ pv) (hb : Below W.heap.size W W')
    (hok : ∀ (j : Nat) (t : TypeId) (r : Value),f.resultTypes[j]? = some t → (v.resultList f.resultTypes.size)[j]? = some r → Value.okWide P W' .any 0 t r) :
    s.post enc P f apart fresh handsOn again W args v W':=by
  have hlt : ∀ p ∈ before,p.block < W.heap.size:=fun p hp => hW.lt p hp
  have hold : ∀ p ∈ before,(fun b => decide (b < W.heap.size)) p.block = true:=fun p hp => by simpa using hlt p hp
  refine ⟨ds,gs,before,[],pa,pv,hW,hres _ _ _,hargs _ hold,hvars _ hold,World.keptBut_mono (fun p hp => ⟨hp,?_⟩) (hb.frame (· ∈ before)),fun _ => ?_⟩
  · rw [hps,List.mem_append] at hp
    exact Or.inr hp
  · obtain ⟨_,_,_,_,_,hz,hn⟩ := hW
    refine ⟨hok,_,_,([] ++ pa) ++ pv,⟨[] ++ pa,pv,trodAll_append (hargs _ (fun _ _ => rfl)) (hres _ _ _),hvars _ (fun _ _ => rfl),rfl,?_,?_⟩,?_⟩
    · intro b off hp
      have hin : MemPlace.cell b off ∈ before:=by rw [hps];simpa using hp
      rw [hb.frozen (hlt _ hin)]
      exact hz b off hin
    · intro ha
      have:=hn ha
      rw [hps] at this
      simpa using this
    · intro p hp _
      rw [hps]
      simpa using hp
end
end
section
open Go.RowKit Go.WideShapes Go.ChangeShapes Go.WideElems Go.ChangeAt
section
variable {H : Type} {enc : TypeId × Value → H} {P : Program}
/-- One closed fact: each parameter's type can be read and is a row of the table. -/
def paramsRowed (P : Program) (ts : List TypeId) : Bool:=ts.all fun t => P.readableRec t && decide (t < P.types.size)
theorem trodAll_stay (hl : laidOutB P = true) {W W' : World} (hb : Below W.heap.size W W') : ∀ {ts : List TypeId} {vs : List Value} {ds : List (DataW H)} {ps : List MemPlace},paramsRowed P ts = true →
    (∀ p ∈ ps,p.block < W.heap.size) → DataW.TrodAll enc P W 0 (fun _ => true) true ts vs ds ps →
    ∀ sp : Nat → Bool,(∀ p ∈ ps,sp p.block = true) → DataW.TrodAll enc P W' 0 sp true ts vs ds ps:=by
  intro ts
  induction ts with
  | nil =>
    intro vs ds ps _ _ h sp _
    obtain ⟨rfl,rfl,rfl⟩:=trodAll_nil h
    exact trodAll_mk0
  | cons t ts ih =>
    intro vs ds ps hp hlt h sp hsp
    obtain ⟨v0,vs0,d0,ds0,p0,q0,rfl,rfl,rfl,h0,r0⟩:=trodAll_cons h
    simp only [paramsRowed,List.all_cons,Bool.and_eq_true,decide_eq_true_eq] at hp
    refine trodAll_cons_mk (Trod_stays hl hp.1.1 hp.1.2 h0 (fun p hx => hb.same (hlt p (by simp [hx]))) (fun p hx => hsp p (by simp [hx]))) (ih (by simpa [paramsRowed] using hp.2) (fun p hx => hlt p (by simp [hx])) r0 sp (fun p hx => hsp p (by simp [hx])))
end
end
section
open Go.RowKit
/-- The keys that the laws know: integers of one kind,or strings. -/
inductive KeyOk : TypeDesc → Value → Prop where
  | int (q : IntKind) (n : Int) : KeyOk (.int q) (.int q n)
  | str (s : ByteArray) : KeyOk .string (.string s)
/-- Whether two keys are the same one. -/
def sameKey : Value → Value → Bool
  | .int _ a, .int _ b => a == b
  | .string a, .string b => a == b
  | _,_ => false
/-- The entry of a key,and its place. -/
def findE (k : Value) : List MapEntry → Nat → Option (Nat × Value)
  | [],_ => none
  | e :: es,i => if sameKey k e.key then some (i,e.val) else findE k es (i + 1)
theorem sameNow_ok {d : TypeDesc} {a b : Value} (ha : KeyOk d a) (hb : KeyOk d b) : Instr.sameNow d a b = some (sameKey a b) := by
  cases ha <;> cases hb <;> simp [Instr.sameNow,sameKey]
theorem findNow_ok {d : TypeDesc} {k : Value} (hk : KeyOk d k) : ∀ (es : List MapEntry) (i : Nat),(∀ e ∈ es,KeyOk d e.key) → Instr.findNow d k es i = some (findE k es i)
  | [],_,_ => rfl
  | e :: es,i,h => by
    have h1:=sameNow_ok hk (h e (by simp))
    have h2:=findNow_ok hk es (i + 1) (fun e he => h e (by simp [he]))
    unfold Instr.findNow findE
    rw [h1]
    cases sameKey k e.key <;> simp [h2]
theorem KeyOk.isKey {d : TypeDesc} {k : Value} (h : KeyOk d k) : MapKept.IsKey d k:=by cases h <;> simp [MapKept.IsKey]
section
variable {P : Program} {T K E : TypeId} {d : TypeDesc} {w : World} {b : Nat} {es : Array MapEntry} {clock : Nat} {k v : Value}
theorem run_checkKey_ok (hK : P.underlying K = some d) (hk : KeyOk d k) (em : Bool) : (Instr.checkKey em 10000 K k).run P w = .ok () w :=
  MapKept.run_checkKey hK hk.isKey em 9999
theorem run_findKey_ok (hK : P.underlying K = some d) (hk : KeyOk d k) (l : List MapEntry) (hes : ∀ e ∈ l,KeyOk d e.key) : (Instr.findKey K k l).run P w = .ok (findE k l 0) w := by
  simp [Instr.findKey,run_underlying hK,findNow_ok hk l 0 hes]
theorem run_getMap (hb : w.heap[b]? = some (.map es clock)) : (getObj b).run P w = .ok (.map es clock) w := by
  simp [getObj,Sem.run,hb]
theorem run_setMap (hb : w.heap[b]? = some (.map es clock)) (o : Obj) : (setObj b o).run P w = .ok () { w with heap := w.heap.setIfInBounds b o } := by
  simp [setObj,Sem.run,hb]
/-- A new key into a map. -/
theorem run_mapUpdate_new (hT : P.underlying T = some (.map K E)) (hK : P.underlying K = some d) (hk : KeyOk d k) (hes : ∀ e ∈ es.toList,KeyOk d e.key) (hnew : findE k es.toList 0 = none) (hb : w.heap[b]? = some (.map es clock)) :
    (Instr.mapUpdate T (.map (some b)) k v).run P w = .ok () { w with heap:=w.heap.setIfInBounds b (.map (es.push { key:=k,val:=v,born:=clock }) (clock + 1)) }:=by
  simp [Instr.mapUpdate,run_underlying hT,run_getMap hb,run_checkKey_ok hK hk,run_findKey_ok hK hk es.toList hes,hnew,run_setMap hb,Result.andThen]
/-- The same,the map being the block that was laid last. -/
theorem run_mapUpdate_last (hT : P.underlying T = some (.map K E)) (hK : P.underlying K = some d) (hk : KeyOk d k) (hes : ∀ e ∈ es.toList,KeyOk d e.key) (hnew : findE k es.toList 0 = none) :
    (Instr.mapUpdate T (.map (some w.heap.size)) k v).run P (w.alloc (.map es clock)) = .ok () (w.alloc (.map (es.push { key:=k,val:=v,born:=clock }) (clock + 1))):=by
  rw [run_mapUpdate_new hT hK hk hes hnew (heap_alloc_new w _)]
  show Result.ok () { w.alloc (.map es clock) with heap:=(w.heap.push (.map es clock)).setIfInBounds w.heap.size _ } = _
  simp only [World.alloc]
  congr 2
  apply Array.ext'
  simp [Array.setIfInBounds,Array.toList_push]
/-- A look-up that asks whether the key is there. -/
theorem run_lookup_ok (hT : P.underlying T = some (.map K E)) (hK : P.underlying K = some d) (hk : KeyOk d k) (hes : ∀ e ∈ es.toList,KeyOk d e.key) {z : Value} (hz : (zeroValue E).run P w = .ok z w) (hb : w.heap[b]? = some (.map es clock)) :
    (Instr.lookup T (.map (some b)) k true).run P w = .ok (.tuple #[((findE k es.toList 0).map (·.2)).getD z, .bool (findE k es.toList 0).isSome]) w:=by
  cases hf : findE k es.toList 0 <;>
    simp [Instr.lookup,run_underlying hT,run_getMap hb,run_checkKey_ok hK hk,run_findKey_ok hK hk es.toList hes,hf,hz,Result.andThen]
/-- A look-up that does not ask. -/
theorem run_lookup_plain (hT : P.underlying T = some (.map K E)) (hK : P.underlying K = some d) (hk : KeyOk d k) (hes : ∀ e ∈ es.toList,KeyOk d e.key) {z : Value} (hz : (zeroValue E).run P w = .ok z w) (hb : w.heap[b]? = some (.map es clock)) :
    (Instr.lookup T (.map (some b)) k false).run P w = .ok (((findE k es.toList 0).map (·.2)).getD z) w:=by
  cases hf : findE k es.toList 0 <;>
    simp [Instr.lookup,run_underlying hT,run_getMap hb,run_checkKey_ok hK hk,run_findKey_ok hK hk es.toList hes,hf,hz,Result.andThen]
end
end
section
abbrev Bytes:=List UInt8
def isLetter (c : UInt8) : Bool:=97 ≤ c && c ≤ 122
def isDigit (c : UInt8) : Bool:=48 ≤ c && c ≤ 57
def isInner (c : UInt8) : Bool:=isLetter c || isDigit c || c == 45
def isBlank (c : UInt8) : Bool:=c == 32 || c == 9 || c == 10
def notEol (c : UInt8) : Bool:=c != 10
/-- How many bytes from the first one on are such. -/
def runL (p : UInt8 → Bool) (l : Bytes) : Nat:=(l.takeWhile p).length
/-- A sign's kind;0: it is none. -/
def signK (c : UInt8) : Int:=if c = 123 then 3 else if c = 125 then 4 else if c = 59 then 5 else 0
/-- A name. -/
def nameL (l : Bytes) : Bool :=
  match l with
  | [] => false
  | c :: _ => decide (l.length ≤ 16) && isLetter c && l.all isInner
structure Tok where
  kind : Int
  pos : Int
  n : Int
  s : Bytes
  deriving DecidableEq,Repr
def numL (l : Bytes) : Int:=l.foldl (fun n c => n * 10 + ((c.toNat : Int) - 48)) 0
/-- What a number that stands first is: how far,and why not;or it,and how long. -/
def numberL (l : Bytes) : Int × Nat × Int :=
  let many:=runL isDigit l
  if many > 9 then (0,0,6)
  else if l.head? = some 48 ∧ many > 1 then (0,0,5)
  else if (l[many]?).any isInner then (0,many,5)
  else (numL (l.take many),many,0)
/-- The token that stands first (its place aside),how long,or how far,and the error. -/
def tokenL (l : Bytes) (cnt : Nat) : Tok × Nat × Int :=
  match l with
  | [] => (⟨0,0,0,[]⟩,0,5)
  | c :: _ =>
    if signK c = 0 ∧ isLetter c = false ∧ isDigit c = false then (⟨0,0,0,[]⟩,0,5)
    else if cnt = 8192 then (⟨0,0,0,[]⟩,0,6)
    else if signK c ≠ 0 then (⟨signK c,0,0,[]⟩,1,0)
    else if isDigit c then (⟨2,0,(numberL l).1,[]⟩,(numberL l).2.1,(numberL l).2.2)
    else if runL isInner l > 16 then (⟨0,0,0,[]⟩,0,6)
    else (⟨1,0,0,l.take (runL isInner l)⟩,runL isInner l,0)
structure CutRes where
  toks : List Tok
  pos : Nat
  err : Int
  deriving DecidableEq,Repr
def CutRes.cons (t : Tok) (r : CutRes) : CutRes:=if r.err = 0 then ⟨t :: r.toks,0,0⟩ else r
/-- The text from 'pos' on,'cnt' tokens ahead of it;in a remark;'j' bytes to be passed over. -/
def cutM : Bool → Nat → Nat → Nat → Bytes → CutRes
  | _,_,_,_,[] => ⟨[],0,0⟩
  | rem,j + 1,pos,cnt,_ :: r => cutM rem j (pos + 1) cnt r
  | true,0,pos,cnt,c :: r => cutM (notEol c) 0 (pos + 1) cnt r
  | false,0,pos,cnt,c :: r =>
    if isBlank c then cutM false 0 (pos + 1) cnt r
    else if c = 35 then cutM true 0 (pos + 1) cnt r
    else
      let t:=tokenL (c :: r) cnt
      if t.2.2 ≠ 0 then ⟨[],pos + t.2.1,t.2.2⟩
      else .cons { t.1 with pos:=pos } (cutM false (t.2.1 - 1) (pos + 1) (cnt + 1) r)
def cutL (l : Bytes) : CutRes:=if l.length > 65536 then ⟨[],0,6⟩ else cutM false 0 0 0 l
example : cutL [97,32,49,50,59] = ⟨[⟨1,0,0,[97]⟩,⟨2,2,12,[]⟩,⟨5,4,0,[]⟩],0,0⟩:=by decide
end
end Go.Proofs.Ytpkhocbohhpmbaa
