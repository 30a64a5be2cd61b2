/- Laws for maps with integer or string keys whose entries are known whole: a map literal that is looked up at once, a map that the call fills. Over any program. Then: Layer 8 (lex), in plain Lean: names, numbers, tokens, cutting. Then: Layer 8 (lex): small facts on bytes, in plain Lean. -/
import Derived.WalkKit
import Derived.Below
import Derived.Laws.StructEq
namespace Go.Proofs.YtjbniichcopnlaaGreatDoor
section
open Go.RowKit
/-- The keys that the laws know: integers of one kind,or strings. -/
inductive KeyOk : TypeDesc → Value → Prop where
  | int (q : IntKind) (n : Int) : KeyOk (.int q) (.int q n)
  | str (s : ByteArray) : KeyOk .string (.string s)
/-- Whether two keys are the same one. -/
def sameKey : Value → Value → Bool
  | .int _ a, .int _ b => a == b
  | .string a, .string b => a == b
  | _,_ => false
/-- The entry of a key,and its place. -/
def findE (k : Value) : List MapEntry → Nat → Option (Nat × Value)
  | [],_ => none
  | e :: es,i => if sameKey k e.key then some (i,e.val) else findE k es (i + 1)
theorem sameNow_ok {d : TypeDesc} {a b : Value} (ha : KeyOk d a) (hb : KeyOk d b) : Instr.sameNow d a b = some (sameKey a b) := by
  cases ha <;> cases hb <;> simp [Instr.sameNow,sameKey]
theorem findNow_ok {d : TypeDesc} {k : Value} (hk : KeyOk d k) : ∀ (es : List MapEntry) (i : Nat),(∀ e ∈ es,KeyOk d e.key) → Instr.findNow d k es i = some (findE k es i)
  | [],_,_ => rfl
  | e :: es,i,h => by
    have h1:=sameNow_ok hk (h e (by simp))
    have h2:=findNow_ok hk es (i + 1) (fun e he => h e (by simp [he]))
    unfold Instr.findNow findE
    rw [h1]
    cases sameKey k e.key <;> simp [h2]
theorem KeyOk.isKey {d : TypeDesc} {k : Value} (h : KeyOk d k) : MapKept.IsKey d k:=by cases h <;> simp [MapKept.IsKey]
section
variable {P : Program} {T K E : TypeId} {d : TypeDesc} {w : World} {b : Nat} {es : Array MapEntry} {clock : Nat} {k v : Value}
theorem run_checkKey_ok (hK : P.underlying K = some d) (hk : KeyOk d k) (em : Bool) : (Instr.checkKey em 10000 K k).run P w = .ok () w :=
  MapKept.run_checkKey hK hk.isKey em 9999
theorem run_findKey_ok (hK : P.underlying K = some d) (hk : KeyOk d k) (l : List MapEntry) (hes : ∀ e ∈ l,KeyOk d e.key) : (Instr.findKey K k l).run P w = .ok (findE k l 0) w := by
  simp [Instr.findKey,run_underlying hK,findNow_ok hk l 0 hes]
theorem run_getMap (hb : w.heap[b]? = some (.map es clock)) : (getObj b).run P w = .ok (.map es clock) w := by
  simp [getObj,Sem.run,hb]
theorem run_setMap (hb : w.heap[b]? = some (.map es clock)) (o : Obj) : (setObj b o).run P w = .ok () { w with heap := w.heap.setIfInBounds b o } := by
  simp [setObj,Sem.run,hb]
/-- A new key into a map. -/
theorem run_mapUpdate_new (hT : P.underlying T = some (.map K E)) (hK : P.underlying K = some d) (hk : KeyOk d k) (hes : ∀ e ∈ es.toList,KeyOk d e.key) (hnew : findE k es.toList 0 = none) (hb : w.heap[b]? = some (.map es clock)) :
    (Instr.mapUpdate T (.map (some b)) k v).run P w = .ok () { w with heap:=w.heap.setIfInBounds b (.map (es.push { key:=k,val:=v,born:=clock }) (clock + 1)) }:=by
  simp [Instr.mapUpdate,run_underlying hT,run_getMap hb,run_checkKey_ok hK hk,run_findKey_ok hK hk es.toList hes,hnew,run_setMap hb,Result.andThen]
/-- The same,the map being the block that was laid last. -/
theorem run_mapUpdate_last (hT : P.underlying T = some (.map K E)) (hK : P.underlying K = some d) (hk : KeyOk d k) (hes : ∀ e ∈ es.toList,KeyOk d e.key) (hnew : findE k es.toList 0 = none) :
    (Instr.mapUpdate T (.map (some w.heap.size)) k v).run P (w.alloc (.map es clock)) = .ok () (w.alloc (.map (es.push { key:=k,val:=v,born:=clock }) (clock + 1))):=by
  rw [run_mapUpdate_new hT hK hk hes hnew (heap_alloc_new w _)]
  show Result.ok () { w.alloc (.map es clock) with heap:=(w.heap.push (.map es clock)).setIfInBounds w.heap.size _ } = _
  simp only [World.alloc]
  congr 2
  apply Array.ext'
  simp [Array.setIfInBounds,Array.toList_push]
/-- A look-up that asks whether the key is there. -/
theorem run_lookup_ok (hT : P.underlying T = some (.map K E)) (hK : P.underlying K = some d) (hk : KeyOk d k) (hes : ∀ e ∈ es.toList,KeyOk d e.key) {z : Value} (hz : (zeroValue E).run P w = .ok z w) (hb : w.heap[b]? = some (.map es clock)) :
    (Instr.lookup T (.map (some b)) k true).run P w = .ok (.tuple #[((findE k es.toList 0).map (·.2)).getD z, .bool (findE k es.toList 0).isSome]) w:=by
  cases hf : findE k es.toList 0 <;>
    simp [Instr.lookup,run_underlying hT,run_getMap hb,run_checkKey_ok hK hk,run_findKey_ok hK hk es.toList hes,hf,hz,Result.andThen]
/-- A look-up that does not ask. -/
theorem run_lookup_plain (hT : P.underlying T = some (.map K E)) (hK : P.underlying K = some d) (hk : KeyOk d k) (hes : ∀ e ∈ es.toList,KeyOk d e.key) {z : Value} (hz : (zeroValue E).run P w = .ok z w) (hb : w.heap[b]? = some (.map es clock)) :
    (Instr.lookup T (.map (some b)) k false).run P w = .ok (((findE k es.toList 0).map (·.2)).getD z) w:=by
  cases hf : findE k es.toList 0 <;>
    simp [Instr.lookup,run_underlying hT,run_getMap hb,run_checkKey_ok hK hk,run_findKey_ok hK hk es.toList hes,hf,hz,Result.andThen]
end
end
section
abbrev Bytes:=List UInt8
def isLetter (c : UInt8) : Bool:=97 ≤ c && c ≤ 122
def isDigit (c : UInt8) : Bool:=48 ≤ c && c ≤ 57
def isInner (c : UInt8) : Bool:=isLetter c || isDigit c || c == 45
def isBlank (c : UInt8) : Bool:=c == 32 || c == 9 || c == 10
def notEol (c : UInt8) : Bool:=c != 10
/-- How many bytes from the first one on are such. -/
def runL (p : UInt8 → Bool) (l : Bytes) : Nat:=(l.takeWhile p).length
/-- A sign's kind;0: it is none. -/
def signK (c : UInt8) : Int:=if c = 123 then 3 else if c = 125 then 4 else if c = 59 then 5 else 0
/-- A name. -/
def nameL (l : Bytes) : Bool :=
  match l with
  | [] => false
  | c :: _ => decide (l.length ≤ 16) && isLetter c && l.all isInner
structure Tok where
  kind : Int
  pos : Int
  n : Int
  s : Bytes
  deriving DecidableEq,Repr
def numL (l : Bytes) : Int:=l.foldl (fun n c => n * 10 + ((c.toNat : Int) - 48)) 0
/-- What a number that stands first is: how far,and why not;or it,and how long. -/
def numberL (l : Bytes) : Int × Nat × Int :=
  let many:=runL isDigit l
  if many > 9 then (0,0,6)
  else if l.head? = some 48 ∧ many > 1 then (0,0,5)
  else if (l[many]?).any isInner then (0,many,5)
  else (numL (l.take many),many,0)
/-- The token that stands first (its place aside),how long,or how far,and the error. -/
def tokenL (l : Bytes) (cnt : Nat) : Tok × Nat × Int :=
  match l with
  | [] => (⟨0,0,0,[]⟩,0,5)
  | c :: _ =>
    if signK c = 0 ∧ isLetter c = false ∧ isDigit c = false then (⟨0,0,0,[]⟩,0,5)
    else if cnt = 8192 then (⟨0,0,0,[]⟩,0,6)
    else if signK c ≠ 0 then (⟨signK c,0,0,[]⟩,1,0)
    else if isDigit c then (⟨2,0,(numberL l).1,[]⟩,(numberL l).2.1,(numberL l).2.2)
    else if runL isInner l > 16 then (⟨0,0,0,[]⟩,0,6)
    else (⟨1,0,0,l.take (runL isInner l)⟩,runL isInner l,0)
structure CutRes where
  toks : List Tok
  pos : Nat
  err : Int
  deriving DecidableEq,Repr
def CutRes.cons (t : Tok) (r : CutRes) : CutRes:=if r.err = 0 then ⟨t :: r.toks,0,0⟩ else r
/-- The text from 'pos' on,'cnt' tokens ahead of it;in a remark;'j' bytes to be passed over. -/
def cutM : Bool → Nat → Nat → Nat → Bytes → CutRes
  | _,_,_,_,[] => ⟨[],0,0⟩
  | rem,j + 1,pos,cnt,_ :: r => cutM rem j (pos + 1) cnt r
  | true,0,pos,cnt,c :: r => cutM (notEol c) 0 (pos + 1) cnt r
  | false,0,pos,cnt,c :: r =>
    if isBlank c then cutM false 0 (pos + 1) cnt r
    else if c = 35 then cutM true 0 (pos + 1) cnt r
    else
      let t:=tokenL (c :: r) cnt
      if t.2.2 ≠ 0 then ⟨[],pos + t.2.1,t.2.2⟩
      else .cons { t.1 with pos:=pos } (cutM false (t.2.1 - 1) (pos + 1) (cnt + 1) r)
def cutL (l : Bytes) : CutRes:=if l.length > 65536 then ⟨[],0,6⟩ else cutM false 0 0 0 l
example : cutL [97,32,49,50,59] = ⟨[⟨1,0,0,[97]⟩,⟨2,2,12,[]⟩,⟨5,4,0,[]⟩],0,0⟩:=by decide
end
section
theorem ba_ext {a b : ByteArray} (h : a.data.toList = b.data.toList) : a = b := by
  cases a;cases b;simp only at h;congr;exact Array.toList_inj.1 h
theorem ba_toList (s : ByteArray) : s.toList = s.data.toList:=ByteArray.toList_eq s
theorem ba_len (s : ByteArray) : s.data.toList.length = s.size:=by simp
theorem ba_get (s : ByteArray) (k : Nat) (h : k < s.size) : s.data.toList[k]'(by simpa using h) = s[k]:=rfl
theorem ba_get? (s : ByteArray) (k : Nat) (h : k < s.size) : s.data.toList[k]? = some s[k] := by
  rw [List.getElem?_eq_getElem (by simpa using h)];rfl
theorem ba_extract (s : ByteArray) (a b : Nat) : (s.extract a b).data.toList = (s.data.toList.take b).drop a := by
  simp [ByteArray.data_extract,Array.toList_extract,List.drop_take]
theorem ba_from (s : ByteArray) (a : Nat) : (s.extract a s.size).data.toList = s.data.toList.drop a := by
  rw [ba_extract,List.take_of_length_le (by simp)]
theorem ba_to (s : ByteArray) (b : Nat) : (s.extract 0 b).data.toList = s.data.toList.take b := by
  rw [ba_extract,List.drop_zero]
theorem ba_mk (l : Bytes) : (ByteArray.mk l.toArray).data.toList = l:=by simp
theorem ba_mk_toList (s : ByteArray) : ByteArray.mk s.data.toList.toArray = s:=by cases s;simp
theorem ba_drop_cons (s : ByteArray) (k : Nat) (h : k < s.size) : s.data.toList.drop k = s[k] :: s.data.toList.drop (k + 1) := by
  rw [List.drop_eq_getElem_cons (by simpa using h)];rfl
theorem ba_drop_nil (s : ByteArray) (k : Nat) (h : s.size ≤ k) : s.data.toList.drop k = []:=List.drop_eq_nil_of_le (by simpa using h)
theorem ba_take_snoc (s : ByteArray) (k : Nat) (h : k < s.size) : s.data.toList.take (k + 1) = s.data.toList.take k ++ [s[k]] := by
  rw [List.take_succ_eq_append_getElem (by simpa using h)];rfl
theorem runL_le (p : UInt8 → Bool) (l : Bytes) : runL p l ≤ l.length:=(List.takeWhile_sublist _).length_le
theorem runL_cons (p : UInt8 → Bool) (c : UInt8) (l : Bytes) : runL p (c :: l) = if p c then runL p l + 1 else 0 := by
  unfold runL;by_cases h : p c <;> simp [h]
theorem runL_step (p : UInt8 → Bool) : ∀ (l : Bytes) (k : Nat) (h : k < l.length),k ≤ runL p l →
    (p l[k] = true → k + 1 ≤ runL p l) ∧ (p l[k] = false → runL p l = k)
  | [],k,h,_ => absurd h (by simp)
  | c :: l,0,h,_ => by rw [runL_cons];by_cases hc : p c <;> simp [hc]
  | c :: l,k + 1,h,hk => by
    rw [runL_cons] at hk ⊢
    by_cases hc : p c
    · simp only [hc,if_true] at hk ⊢
      have:=runL_step p l k (by simpa using h) (by omega)
      simp only [List.getElem_cons_succ]
      exact ⟨fun h => by have:=this.1 h;omega,fun h => by have:=this.2 h;omega⟩
    · simp [hc] at hk
theorem runL_ba (p : UInt8 → Bool) (s : ByteArray) (k : Nat) (h : k < s.size) (hk : k ≤ runL p s.data.toList) :
    (p s[k] = true → k + 1 ≤ runL p s.data.toList) ∧ (p s[k] = false → runL p s.data.toList = k) :=
  runL_step p s.data.toList k (by simpa using h) hk
theorem runL_all (p : UInt8 → Bool) : ∀ (l : Bytes),(l.take (runL p l)).all p = true
  | [] => rfl
  | c :: l => by
    rw [runL_cons]
    by_cases hc : p c
    · simp [hc]
      have:=runL_all p l
      simpa using this
    · simp [hc]
theorem runL_head (p : UInt8 → Bool) (c : UInt8) (l : Bytes) (h : p c = true) : 0 < runL p (c :: l):=by rw [runL_cons,if_pos h];omega
theorem runL_mem (p : UInt8 → Bool) (l : Bytes) (i : Nat) (h : i < runL p l) : p (l[i]'(Nat.lt_of_lt_of_le h (runL_le p l))) = true := by
  have h1:=runL_all p l
  rw [List.all_eq_true] at h1
  refine h1 _ ?_
  rw [List.mem_take_iff_getElem]
  exact ⟨i,by have:=runL_le p l;omega,rfl⟩
theorem isDigit_iff (c : UInt8) : isDigit c = true ↔ 48 ≤ c.toNat ∧ c.toNat ≤ 57 := by
  simp [isDigit,UInt8.le_iff_toNat_le]
theorem isLetter_iff (c : UInt8) : isLetter c = true ↔ 97 ≤ c.toNat ∧ c.toNat ≤ 122 := by
  simp [isLetter,UInt8.le_iff_toNat_le]
theorem u8_eq (c d : UInt8) : (c == d) = decide (c.toNat = d.toNat) := by
  rw [Bool.eq_iff_iff];simp [UInt8.toNat_inj]
theorem u8_eq' (c d : UInt8) : (c == d) = ((c.toNat : Int) == (d.toNat : Int)) := by
  rw [Bool.eq_iff_iff];simp [← UInt8.toNat_inj];omega
theorem numL_snoc (l : Bytes) (c : UInt8) : numL (l ++ [c]) = numL l * 10 + ((c.toNat : Int) - 48):=by simp [numL,List.foldl_append]
theorem numL_go (l : Bytes) : ∀ a : Int,0 ≤ a → l.all isDigit = true →
    0 ≤ l.foldl (fun n c => n * 10 + ((c.toNat : Int) - 48)) a ∧ l.foldl (fun n c => n * 10 + ((c.toNat : Int) - 48)) a < (a + 1) * 10 ^ l.length:=by
  induction l with
  | nil => intro a ha _;simp;omega
  | cons c l ih =>
    intro a ha h
    simp only [List.all_cons,Bool.and_eq_true] at h
    have h3:=(isDigit_iff c).1 h.1
    obtain ⟨h1,h2⟩:=ih (a * 10 + ((c.toNat : Int) - 48)) (by omega) h.2
    simp only [List.foldl_cons,List.length_cons]
    refine ⟨h1,Int.lt_of_lt_of_le h2 ?_⟩
    rw [Int.pow_succ,Int.mul_comm (10 ^ l.length) 10,← Int.mul_assoc]
    refine Int.mul_le_mul_of_nonneg_right (by omega) (Int.pow_nonneg (by omega))
theorem numL_bound (l : Bytes) (h : l.all isDigit = true) : 0 ≤ numL l ∧ numL l < 10 ^ l.length := by
  have:=numL_go l 0 (by omega) h
  simpa [numL] using this
/-- How many blanks,and bytes of remarks,stand first. -/
def freeM : Bool → Bytes → Nat
  | _,[] => 0
  | true,c :: r => 1 + freeM (notEol c) r
  | false,c :: r => if isBlank c then 1 + freeM false r else if c = 35 then 1 + freeM true r else 0
theorem freeM_le : ∀ (b : Bool) (l : Bytes),freeM b l ≤ l.length
  | _,[] => by simp [freeM]
  | true,c :: r => by have:=freeM_le (notEol c) r;simp only [freeM,List.length_cons];omega
  | false,c :: r => by
    have h1:=freeM_le false r
    have h2:=freeM_le true r
    simp only [freeM,List.length_cons]
    repeat' split
    all_goals omega
/-- A remark ends at a line's end,or the text's. -/
theorem freeM_true : ∀ (l : Bytes),freeM true l = runL notEol l + freeM false (l.drop (runL notEol l))
  | [] => by simp [freeM,runL]
  | c :: r => by
    rw [runL_cons,freeM]
    by_cases h : notEol c = true
    · rw [if_pos h,h,List.drop_succ_cons,freeM_true r];omega
    · have hb : isBlank c = true := by
        simp only [notEol,bne_iff_ne,ne_eq,Classical.not_not] at h
        subst h;rfl
      simp only [h]
      simp [freeM,hb]
theorem freeM_hash (r : Bytes) : freeM false (35 :: r) = runL notEol (35 :: r) + freeM false ((35 :: r).drop (runL notEol (35 :: r))) := by
  have h1 : isBlank 35 = false:=rfl
  have h2 : notEol 35 = true:=rfl
  rw [runL_cons,if_pos h2,List.drop_succ_cons]
  show (if isBlank 35 then 1 + freeM false r else if (35 : UInt8) = 35 then 1 + freeM true r else 0) = _
  rw [h1,if_neg (by simp),if_pos rfl,freeM_true]
  omega
theorem freeM_free : ∀ (b : Bool) (l : Bytes),freeM false (l.drop (freeM b l)) = 0
  | _,[] => by simp [freeM]
  | true,c :: r => by simp only [freeM];rw [Nat.add_comm,List.drop_succ_cons];exact freeM_free _ r
  | false,c :: r => by
    simp only [freeM]
    split
    · rw [Nat.add_comm,List.drop_succ_cons];exact freeM_free _ r
    · split
      · rw [Nat.add_comm,List.drop_succ_cons];exact freeM_free _ r
      · rename_i h1 h2
        simp [freeM,h1,h2]
theorem free_head (c : UInt8) (r : Bytes) (h : freeM false (c :: r) = 0) : isBlank c = false ∧ c ≠ 35 := by
  simp only [freeM] at h
  split at h
  · omega
  · split at h
    · omega
    · rename_i h1 h2;exact ⟨by simpa using h1,h2⟩
theorem cutM_nil (b : Bool) (j pos cnt : Nat) : cutM b j pos cnt [] = ⟨[],0,0⟩:=by cases b <;> cases j <;> rfl
theorem cutM_free : ∀ (b : Bool) (pos cnt : Nat) (l : Bytes),cutM b 0 pos cnt l = cutM false 0 (pos + freeM b l) cnt (l.drop (freeM b l))
  | _,pos,cnt,[] => by rw [cutM_nil];simp [freeM,cutM_nil]
  | true,pos,cnt,c :: r => by
    have ih:=cutM_free (notEol c) (pos + 1) cnt r
    simp only [freeM]
    rw [Nat.add_comm 1,List.drop_succ_cons]
    show cutM (notEol c) 0 (pos + 1) cnt r = _
    rw [ih,Nat.add_assoc,Nat.add_comm 1]
  | false,pos,cnt,c :: r => by
    by_cases h1 : isBlank c = true
    · have ih := cutM_free false (pos + 1) cnt r
      have e1 : freeM false (c :: r) = 1 + freeM false r:=by simp [freeM,h1]
      have e2 : cutM false 0 pos cnt (c :: r) = cutM false 0 (pos + 1) cnt r:=by simp [cutM,h1]
      rw [e1,e2,ih,Nat.add_comm 1,List.drop_succ_cons,Nat.add_assoc,Nat.add_comm 1]
    · by_cases h2 : c = 35
      · have ih := cutM_free true (pos + 1) cnt r
        have e1 : freeM false (c :: r) = 1 + freeM true r:=by rw [freeM,if_neg h1,if_pos h2]
        have e2 : cutM false 0 pos cnt (c :: r) = cutM true 0 (pos + 1) cnt r:=by rw [cutM,if_neg h1,if_pos h2]
        rw [e1,e2,ih,Nat.add_comm 1,List.drop_succ_cons,Nat.add_assoc,Nat.add_comm 1]
      · have e1 : freeM false (c :: r) = 0 := by simp [freeM,h1,h2]
        rw [e1];rfl
theorem cutM_skip : ∀ (j pos cnt : Nat) (l : Bytes),j ≤ l.length → cutM false j pos cnt l = cutM false 0 (pos + j) cnt (l.drop j)
  | 0,pos,cnt,l,_ => rfl
  | j + 1,pos,cnt,[],h => absurd h (by simp)
  | j + 1,pos,cnt,c :: r,h => by
    show cutM false j (pos + 1) cnt r = _
    rw [cutM_skip j (pos + 1) cnt r (by simpa using h),List.drop_succ_cons,Nat.add_assoc,Nat.add_comm 1]
theorem numberL_len (l : Bytes) : (numberL l).2.1 ≤ l.length := by
  unfold numberL
  have:=runL_le isDigit l
  dsimp only
  repeat' split
  all_goals simp
  all_goals omega
theorem tokenL_len (l : Bytes) (cnt : Nat) (h : l ≠ []) : (tokenL l cnt).2.1 ≤ l.length ∧ ((tokenL l cnt).2.2 = 0 → 1 ≤ (tokenL l cnt).2.1) ∧ (tokenL l cnt).1.pos = 0 := by
  cases l with
  | nil => exact absurd rfl h
  | cons c r =>
    have h1:=numberL_len (c :: r)
    have h2:=runL_le isInner (c :: r)
    unfold tokenL
    dsimp only
    split
    · simp
    split
    · simp
    split
    · simp
    split
    · rename_i hd
      refine ⟨h1,fun he => ?_,rfl⟩
      have hm : 0 < runL isDigit (c :: r):=runL_head _ _ _ hd
      unfold numberL at he ⊢
      dsimp only at he ⊢
      split at he
      · simp at he
      split at he
      · simp at he
      split at he
      · simp at he
      rename_i a1 a2 a3
      rw [if_neg a1,if_neg a2,if_neg a3]
      exact hm
    · split
      · simp
      · rename_i a1 a2 a3 a4 a5
        refine ⟨h2,fun _ => ?_,rfl⟩
        have hl : isLetter c = true := by
          cases hl : isLetter c
          · exact absurd ⟨by simpa using a3,hl,by simpa using a4⟩ a1
          · rfl
        exact runL_head _ _ _ (by simp [isInner,hl])
theorem cutM_tok (pos cnt : Nat) (l : Bytes) (h : l ≠ []) (hf : freeM false l = 0) : cutM false 0 pos cnt l =
    if (tokenL l cnt).2.2 ≠ 0 then ⟨[],pos + (tokenL l cnt).2.1,(tokenL l cnt).2.2⟩
    else .cons { (tokenL l cnt).1 with pos:=pos } (cutM false 0 (pos + (tokenL l cnt).2.1) (cnt + 1) (l.drop (tokenL l cnt).2.1)):=by
  obtain ⟨hlen,h1,_⟩:=tokenL_len l cnt h
  cases l with
  | nil => exact absurd rfl h
  | cons c r =>
    obtain ⟨hb,h35⟩:=free_head c r hf
    show (if isBlank c then _ else if c = 35 then _ else _) = _
    rw [hb,if_neg (by simp),if_neg h35]
    dsimp only
    split
    · rfl
    · rename_i he
      have h1':=h1 (by simpa using he)
      obtain ⟨j,hj⟩ : ∃ j,(tokenL (c :: r) cnt).2.1 = j + 1:=⟨_,(Nat.sub_add_cancel h1').symm⟩
      rw [hj,Nat.add_sub_cancel,List.drop_succ_cons,cutM_skip j (pos + 1) (cnt + 1) r (by rw [hj] at hlen;simpa using hlen),Nat.add_assoc,Nat.add_comm 1]
def CutRes.pre (acc : List Tok) (r : CutRes) : CutRes:=if r.err = 0 then ⟨acc ++ r.toks,0,0⟩ else r
theorem CutRes.pre_cons (acc : List Tok) (t : Tok) (r : CutRes) : (CutRes.cons t r).pre acc = r.pre (acc ++ [t]) := by
  unfold CutRes.cons CutRes.pre
  by_cases h : r.err = 0 <;> simp [h]
theorem cutM_err : ∀ (b : Bool) (j pos cnt : Nat) (l : Bytes),((cutM b j pos cnt l).err = 0 → (cutM b j pos cnt l).pos = 0) ∧ ((cutM b j pos cnt l).err ≠ 0 → (cutM b j pos cnt l).toks = [])
  | _,_,_,_,[] => by simp [cutM_nil]
  | b,j + 1,pos,cnt,c :: r => by cases b <;> exact cutM_err _ j (pos + 1) cnt r
  | true,0,pos,cnt,c :: r => cutM_err (notEol c) 0 (pos + 1) cnt r
  | false,0,pos,cnt,c :: r => by
    have h1:=cutM_err false 0 (pos + 1) cnt r
    have h2:=cutM_err true 0 (pos + 1) cnt r
    have h3:=cutM_err false ((tokenL (c :: r) cnt).2.1 - 1) (pos + 1) (cnt + 1) r
    simp only [cutM]
    split
    · exact h1
    split
    · exact h2
    split
    · rename_i h;simp [h]
    · unfold CutRes.cons
      split
      · simp
      · exact h3
theorem cutM_pre_nil (b : Bool) (j pos cnt : Nat) (l : Bytes) : (cutM b j pos cnt l).pre [] = cutM b j pos cnt l := by
  unfold CutRes.pre
  have:=cutM_err b j pos cnt l
  split
  · rename_i h
    have h2:=this.1 h
    cases hc : cutM b j pos cnt l
    rw [hc] at h h2
    simp only at h h2
    subst h;subst h2
    rfl
  · rfl
theorem tokenL_def (c : UInt8) (r : Bytes) (cnt : Nat) : tokenL (c :: r) cnt =
    (if signK c = 0 ∧ isLetter c = false ∧ isDigit c = false then (⟨0,0,0,[]⟩,0,5)
    else if cnt = 8192 then (⟨0,0,0,[]⟩,0,6)
    else if signK c ≠ 0 then (⟨signK c,0,0,[]⟩,1,0)
    else if isDigit c then (⟨2,0,(numberL (c :: r)).1,[]⟩,(numberL (c :: r)).2.1,(numberL (c :: r)).2.2)
    else if runL isInner (c :: r) > 16 then (⟨0,0,0,[]⟩,0,6)
    else (⟨1,0,0,(c :: r).take (runL isInner (c :: r))⟩,runL isInner (c :: r),0) : Tok × Nat × Int):=rfl
theorem sign_other (c : UInt8) (h : signK c ≠ 0) : isLetter c = false ∧ isDigit c = false := by
  unfold signK at h
  split at h
  · rename_i e;subst e;exact ⟨rfl,rfl⟩
  split at h
  · rename_i e;subst e;exact ⟨rfl,rfl⟩
  split at h
  · rename_i e;subst e;exact ⟨rfl,rfl⟩
  · exact absurd rfl h
theorem letter_digit (c : UInt8) (h : isLetter c = true) : isDigit c = false := by
  have h1:=(isLetter_iff c).1 h
  cases hd : isDigit c
  · rfl
  · have:=(isDigit_iff c).1 hd;omega
theorem runL_at (p : UInt8 → Bool) (s : ByteArray) (k j : Nat) (h : k + j < s.size) (hj : j ≤ runL p (s.data.toList.drop k)) :
    (p s[k + j] = true → j + 1 ≤ runL p (s.data.toList.drop k)) ∧ (p s[k + j] = false → runL p (s.data.toList.drop k) = j):=by
  have hl : j < (s.data.toList.drop k).length:=by rw [List.length_drop,ba_len];omega
  have:=runL_step p (s.data.toList.drop k) j hl hj
  rw [List.getElem_drop] at this
  exact this
theorem blank_iff (c : UInt8) : isBlank c = true ↔ (c.toNat : Int) = 32 ∨ (c.toNat : Int) = 9 ∨ (c.toNat : Int) = 10 := by
  simp only [isBlank,u8_eq',Bool.or_eq_true,beq_iff_eq]
  have e1 : ((32 : UInt8).toNat : Int) = 32:=rfl
  have e2 : ((9 : UInt8).toNat : Int) = 9:=rfl
  have e3 : ((10 : UInt8).toNat : Int) = 10:=rfl
  rw [e1,e2,e3]
  omega
theorem hash_iff (c : UInt8) : c = 35 ↔ (c.toNat : Int) = 35 := by
  rw [← UInt8.toNat_inj]
  have e1 : (35 : UInt8).toNat = 35:=rfl
  omega
theorem eol_iff (c : UInt8) : notEol c = false ↔ (c.toNat : Int) = 10 := by
  have e3 : ((10 : UInt8).toNat : Int) = 10:=rfl
  simp only [notEol,bne_eq_false_iff_eq,← UInt8.toNat_inj]
  have e1 : (10 : UInt8).toNat = 10:=rfl
  omega
theorem cutM_blank (s : ByteArray) (k cnt : Nat) (h : k < s.size) (hb : isBlank s[k] = true) : cutM false 0 k cnt (s.data.toList.drop k) = cutM false 0 (k + 1) cnt (s.data.toList.drop (k + 1)) := by
  rw [ba_drop_cons s k h,cutM,if_pos hb]
theorem cutM_hash (s : ByteArray) (k cnt : Nat) (h : k < s.size) (hb : s[k] = 35) : cutM false 0 k cnt (s.data.toList.drop k) = cutM true 0 k cnt (s.data.toList.drop k) := by
  rw [ba_drop_cons s k h,hb]
  rfl
theorem cutM_rem (s : ByteArray) (k cnt : Nat) (h : k < s.size) : cutM true 0 k cnt (s.data.toList.drop k) = cutM (notEol s[k]) 0 (k + 1) cnt (s.data.toList.drop (k + 1)) := by
  rw [ba_drop_cons s k h]
  rfl
theorem cutM_eol (s : ByteArray) (k cnt : Nat) (h : k < s.size) (he : notEol s[k] = false) : cutM true 0 k cnt (s.data.toList.drop k) = cutM false 0 k cnt (s.data.toList.drop k) := by
  rw [cutM_rem s k cnt h,he,cutM_blank s k cnt h]
  rw [blank_iff];exact .inr (.inr ((eol_iff _).1 he))
theorem cutM_end (b : Bool) (s : ByteArray) (k cnt : Nat) (h : s.size ≤ k) : cutM b 0 k cnt (s.data.toList.drop k) = ⟨[],0,0⟩ := by
  rw [ba_drop_nil s k h,cutM_nil]
theorem tokenL_at (s : ByteArray) (k cnt : Nat) (h : k < s.size) : tokenL (s.data.toList.drop k) cnt =
    (if signK s[k] = 0 ∧ isLetter s[k] = false ∧ isDigit s[k] = false then (⟨0,0,0,[]⟩,0,5)
    else if cnt = 8192 then (⟨0,0,0,[]⟩,0,6)
    else if signK s[k] ≠ 0 then (⟨signK s[k],0,0,[]⟩,1,0)
    else if isDigit s[k] then (⟨2,0,(numberL (s.data.toList.drop k)).1,[]⟩,(numberL (s.data.toList.drop k)).2.1,(numberL (s.data.toList.drop k)).2.2)
    else if runL isInner (s.data.toList.drop k) > 16 then (⟨0,0,0,[]⟩,0,6)
    else (⟨1,0,0,(s.data.toList.drop k).take (runL isInner (s.data.toList.drop k))⟩,runL isInner (s.data.toList.drop k),0) : Tok × Nat × Int):=by
  rw [ba_drop_cons s k h]
  exact tokenL_def _ _ _
theorem free0 (s : ByteArray) (k : Nat) (h : k < s.size) (hb : ¬ isBlank s[k] = true) (h35 : ¬ s[k] = 35) : freeM false (s.data.toList.drop k) = 0 := by
  rw [ba_drop_cons s k h,freeM,if_neg hb,if_neg h35]
theorem class3 (c : UInt8) (h : ¬ (signK c = 0 ∧ isLetter c = false ∧ isDigit c = false)) :
    (signK c ≠ 0 ∧ isLetter c = false ∧ isDigit c = false) ∨ (signK c = 0 ∧ isLetter c = true ∧ isDigit c = false) ∨ (signK c = 0 ∧ isLetter c = false ∧ isDigit c = true):=by
  by_cases hK : signK c = 0
  · cases hL : isLetter c
    · cases hD : isDigit c
      · exact absurd ⟨hK,hL,hD⟩ h
      · exact .inr (.inr ⟨hK,rfl,rfl⟩)
    · exact .inr (.inl ⟨hK,rfl,letter_digit c hL⟩)
  · have := sign_other c hK
    exact .inl ⟨hK,this⟩
theorem CutRes.pre_err (acc : List Tok) (p : Nat) (e : Int) (h : e ≠ 0) : (CutRes.mk [] p e).pre acc = ⟨[],p,e⟩ := by
  unfold CutRes.pre;rw [if_neg h]
theorem numL_lt (l : Bytes) (k : Nat) (h : l.all isDigit = true) (h9 : l.length ≤ 9) : 0 ≤ numL (l.take k) ∧ numL (l.take k) ≤ 999999999 := by
  have h1 := numL_bound (l.take k) (by
    rw [List.all_eq_true] at h ⊢
    exact fun x hx => h x (List.mem_of_mem_take hx))
  have h2 : (l.take k).length ≤ 9:=by rw [List.length_take];omega
  have h3 : (10 : Int) ^ (l.take k).length ≤ 10 ^ 9 := by
    have : ∀ n : Nat,n ≤ 9 → (10 : Int) ^ n ≤ 10 ^ 9:=by decide
    exact this _ h2
  omega
theorem num_at (s : ByteArray) (k m : Nat) (hm : m = runL isDigit (s.data.toList.drop k)) (h9 : m ≤ 9) :
    ∃ N : Nat → Int,N 0 = 0 ∧ N m = numL ((s.data.toList.drop k).take m) ∧ (∀ q,0 ≤ N q ∧ N q ≤ 999999999) ∧
      ∀ q (h : k + q < s.size),q < m → 48 ≤ (s[k + q].toNat : Int) ∧ (s[k + q].toNat : Int) ≤ 57 ∧ N (q + 1) = N q * 10 + ((s[k + q].toNat : Int) - 48):=by
  have hall:=runL_all isDigit (s.data.toList.drop k)
  rw [← hm] at hall
  obtain ⟨t,ht⟩ : ∃ t,t = (s.data.toList.drop k).take m:=⟨_,rfl⟩
  rw [← ht] at hall
  have htl : t.length ≤ m:=by rw [ht,List.length_take];omega
  refine ⟨fun q => numL (t.take q),by simp [numL],?_,fun q => numL_lt t q hall (by omega),fun q h hq => ?_⟩
  · dsimp only;rw [← ht,List.take_of_length_le htl]
  · have hlen : q < t.length := by rw [ht,List.length_take,List.length_drop,ba_len]; omega
    have hg : t[q] = s[k + q] := by
      subst ht
      rw [List.getElem_take,List.getElem_drop];rfl
    have hd:=(isDigit_iff _).1 ((List.all_eq_true.1 hall) (t[q]) (List.getElem_mem _))
    rw [hg] at hd
    refine ⟨by omega,by omega,?_⟩
    show numL (t.take (q + 1)) = numL (t.take q) * 10 + _
    rw [List.take_succ_eq_append_getElem hlen,numL_snoc,hg]
theorem extract_at (s : ByteArray) (k m : Nat) : s.extract k (k + m) = ⟨((s.data.toList.drop k).take m).toArray⟩ := by
  apply ba_ext
  rw [ba_extract,List.drop_take,Nat.add_sub_cancel_left]
theorem numberL_at (s : ByteArray) (k m : Nat) (h : k < s.size) (hm : m = runL isDigit (s.data.toList.drop k)) : numberL (s.data.toList.drop k) =
    if m > 9 then (0,0,6) else if (s[k].toNat : Int) = 48 ∧ m > 1 then (0,0,5)
    else if (if h : k + m < s.size then isInner s[k + m] else false) then (0,m,5) else (numL ((s.data.toList.drop k).take m),m,0):=by
  have h1 : ((s.data.toList.drop k).head? = some 48) ↔ (s[k].toNat : Int) = 48 := by
    rw [ba_drop_cons s k h]
    simp only [List.head?_cons,Option.some.injEq,← UInt8.toNat_inj]
    have : (48 : UInt8).toNat = 48:=rfl
    omega
  have h2 : (((s.data.toList.drop k)[m]?).any isInner) = if h : k + m < s.size then isInner s[k + m] else false := by
    rw [List.getElem?_drop]
    by_cases hh : k + m < s.size
    · rw [dif_pos hh,ba_get? s _ hh];rfl
    · rw [dif_neg hh,List.getElem?_eq_none (by rw [ba_len];omega)];rfl
  unfold numberL
  rw [← hm]
  simp only [h1,h2]
theorem cutM_digit (s : ByteArray) (k cnt m : Nat) (h : k < s.size) (hb : ¬ isBlank s[k] = true) (h35 : ¬ s[k] = 35) (hK : signK s[k] = 0) (hD : isDigit s[k] = true) (hc : cnt ≠ 8192) (hm : m = runL isDigit (s.data.toList.drop k)) :
    cutM false 0 k cnt (s.data.toList.drop k) = if m > 9 then ⟨[],k,6⟩ else if (s[k].toNat : Int) = 48 ∧ m > 1 then ⟨[],k,5⟩
      else if (if h : k + m < s.size then isInner s[k + m] else false) then ⟨[],k + m,5⟩
      else .cons ⟨2,k,numL ((s.data.toList.drop k).take m),[]⟩ (cutM false 0 (k + m) (cnt + 1) (s.data.toList.drop (k + m))):=by
  have hne : s.data.toList.drop k ≠ []:=by rw [ba_drop_cons s k h];simp
  have htd:=tokenL_at s k cnt h
  rw [if_neg (by simp [hD]),if_neg hc,if_neg (by simp [hK]),if_pos hD,numberL_at s k m h hm] at htd
  rw [cutM_tok k cnt _ hne (free0 s k h hb h35),htd,List.drop_drop]
  by_cases h9 : m > 9
  · simp [h9]
  by_cases hz : (s[k].toNat : Int) = 48 ∧ m > 1
  · simp only [h9,hz,if_false];simp
  by_cases hi : (if h : k + m < s.size then isInner s[k + m] else false) = true
  · simp only [h9,hz,hi,if_true,if_false];simp
  · simp only [h9,hz,hi,if_false];simp
theorem cutM_len : ∀ (b : Bool) (j pos cnt : Nat) (l : Bytes),(cutM b j pos cnt l).toks.length ≤ l.length
  | _,_,_,_,[] => by simp [cutM_nil]
  | b,j + 1,pos,cnt,c :: r => by
    have:=cutM_len b j (pos + 1) cnt r
    cases b <;> (show (cutM _ j (pos + 1) cnt r).toks.length ≤ _;simp only [List.length_cons];omega)
  | true,0,pos,cnt,c :: r => by
    have:=cutM_len (notEol c) 0 (pos + 1) cnt r
    show (cutM _ 0 (pos + 1) cnt r).toks.length ≤ _
    simp only [List.length_cons];omega
  | false,0,pos,cnt,c :: r => by
    have h1:=cutM_len false 0 (pos + 1) cnt r
    have h2:=cutM_len true 0 (pos + 1) cnt r
    have h3:=cutM_len false ((tokenL (c :: r) cnt).2.1 - 1) (pos + 1) (cnt + 1) r
    simp only [cutM,List.length_cons]
    split
    · omega
    split
    · omega
    split
    · simp
    · unfold CutRes.cons
      split
      · simp only [List.length_cons];omega
      · omega
theorem cutL_len (l : Bytes) : (cutL l).toks.length ≤ l.length := by
  unfold cutL
  split
  · simp
  · exact cutM_len _ _ _ _ _
end
end Go.Proofs.YtjbniichcopnlaaGreatDoor
