/- Layer 8 (lex), in plain Lean: where a text that is wrong is wrong. No program in sight. Then: Layer 9 (tree), in plain Lean: items, and how tokens are read as items. Then: Layer 11 (field), in plain Lean: calendars, what may be, and how a block is read. Then: Layer 12 (conf), in plain Lean: calendars that may be, a text read as calendars, one looked up. Then: Laws for maps with integer or string keys whose entries are known whole: a map literal that is looked up at once, a map that the call fills. -/
import Derived.Test.YtjbniichcopnlaaPkR0
import Derived.WalkKit
import Derived.Below
namespace Go.Proofs.Ytjbniichcopnlaa
section
theorem runL_take (p : UInt8 → Bool) : ∀ (l : Bytes) (q : Nat),runL p l ≤ q → runL p (l.take q) = runL p l
  | [],q,_ => by simp
  | c :: l,q,h => by
    rw [runL_cons] at h ⊢
    cases hc : p c
    · cases q with
      | zero => simp [runL]
      | succ q => rw [List.take_succ_cons,runL_cons,hc];rfl
    · rw [hc,if_pos rfl] at h
      cases q with
      | zero => omega
      | succ q => rw [List.take_succ_cons,runL_cons,hc,if_pos rfl,if_pos rfl,runL_take p l q (by omega)]
theorem getElem?_take (l : Bytes) (q m : Nat) : (l.take q)[m]? = if m < q then l[m]? else none := by
  rw [List.getElem?_take]
theorem numberL_take (l : Bytes) (q : Nat) (hq : runL isDigit l ≤ q) (h0 : 0 < q) (h : (numberL l).2.2 = 0) : numberL (l.take q) = numberL l := by
  have h1:=runL_take isDigit l q hq
  have h2 : (l.take q).head? = l.head? := by
    cases l with
    | nil => simp
    | cons c l => cases q with
      | zero => omega
      | succ q => simp
  unfold numberL at h ⊢
  rw [h1,h2]
  dsimp only at h ⊢
  split at h
  · simp at h
  split at h
  · simp at h
  split at h
  · simp at h
  rename_i a1 a2 a3
  rw [if_neg a1,if_neg a2,if_neg a1,if_neg a2,if_neg a3,if_neg ?_,List.take_take,Nat.min_eq_left hq]
  rw [getElem?_take]
  split
  · exact a3
  · simp
theorem tokenL_take (l : Bytes) (cnt q : Nat) (hl : l ≠ []) (he : (tokenL l cnt).2.2 = 0) (hq : (tokenL l cnt).2.1 ≤ q) : tokenL (l.take q) cnt = tokenL l cnt := by
  have hlen:=tokenL_len l cnt hl
  have h1:=hlen.2.1 he
  cases l with
  | nil => exact absurd rfl hl
  | cons c l =>
    cases q with
    | zero => omega
    | succ q =>
      rw [List.take_succ_cons,tokenL_def,tokenL_def,← List.take_succ_cons]
      rw [tokenL_def] at he hq
      split
      · rfl
      rename_i a1
      rw [if_neg a1] at he hq
      split
      · rfl
      rename_i a2
      rw [if_neg a2] at he hq
      split
      · rfl
      rename_i a3
      rw [if_neg a3] at he hq
      split
      · rename_i a4
        rw [if_pos a4] at he hq
        have hr : runL isDigit (c :: l) ≤ q + 1 := by
          have : (numberL (c :: l)).2.1 = runL isDigit (c :: l) := by
            unfold numberL at he ⊢
            dsimp only at he ⊢
            split at he
            · simp at he
            split at he
            · simp at he
            split at he
            · simp at he
            rename_i b1 b2 b3
            rw [if_neg b1,if_neg b2,if_neg b3]
          rw [← this];exact hq
        rw [numberL_take (c :: l) (q + 1) hr (by omega) he]
      · rename_i a4
        rw [if_neg a4] at he hq
        split at he
        · simp at he
        rename_i a5
        rw [if_neg a5] at hq
        have h2:=runL_take isInner (c :: l) (q + 1) hq
        rw [h2,if_neg a5,if_neg a5,List.take_take,Nat.min_eq_left hq]
theorem cutM_all : ∀ (b : Bool) (j pos cnt : Nat) (l : Bytes),l.length ≤ j → cutM b j pos cnt l = ⟨[],0,0⟩
  | b,j,pos,cnt,[],_ => cutM_nil b j pos cnt
  | b,0,pos,cnt,c :: r,h => by simp at h
  | b,j + 1,pos,cnt,c :: r,h => by
    have:=cutM_all b j (pos + 1) cnt r (by simpa using h)
    cases b <;> exact this
/-! ### What stands ahead of an error -/
theorem cutM_before : ∀ (b : Bool) (j pos cnt : Nat) (l : Bytes),(cutM b j pos cnt l).err ≠ 0 →
    ∃ q,(cutM b j pos cnt l).pos = pos + q ∧ j ≤ q ∧ q < l.length ∧ (cutM b j pos cnt (l.take q)).err = 0
  | b,j,pos,cnt,[],h => by rw [cutM_nil] at h;exact absurd rfl h
  | b,j + 1,pos,cnt,c :: r,h => by
    have e1 : ∀ l,cutM b (j + 1) pos cnt (c :: l) = cutM b j (pos + 1) cnt l:=fun l => by cases b <;> rfl
    rw [e1] at h
    obtain ⟨q,h1,h2,h3,h4⟩:=cutM_before b j (pos + 1) cnt r h
    exact ⟨q + 1,by rw [e1,h1];omega,by omega,by simpa using h3,by rw [List.take_succ_cons,e1];exact h4⟩
  | true,0,pos,cnt,c :: r,h => by
    obtain ⟨q,h1,h2,h3,h4⟩:=cutM_before (notEol c) 0 (pos + 1) cnt r h
    exact ⟨q + 1,by show (cutM (notEol c) 0 (pos + 1) cnt r).pos = _;rw [h1];omega,by omega,by simpa using h3,by rw [List.take_succ_cons];exact h4⟩
  | false,0,pos,cnt,c :: r,h => by
    by_cases hb : isBlank c = true
    · have e1 : ∀ l,cutM false 0 pos cnt (c :: l) = cutM false 0 (pos + 1) cnt l := fun l => by rw [cutM,if_pos hb]
      rw [e1] at h
      obtain ⟨q,h1,h2,h3,h4⟩:=cutM_before false 0 (pos + 1) cnt r h
      exact ⟨q + 1,by rw [e1,h1];omega,by omega,by simpa using h3,by rw [List.take_succ_cons,e1];exact h4⟩
    by_cases h35 : c = 35
    · have e1 : ∀ l,cutM false 0 pos cnt (c :: l) = cutM true 0 (pos + 1) cnt l := fun l => by rw [cutM,if_neg hb,if_pos h35]
      rw [e1] at h
      obtain ⟨q,h1,h2,h3,h4⟩:=cutM_before true 0 (pos + 1) cnt r h
      exact ⟨q + 1,by rw [e1,h1];omega,by omega,by simpa using h3,by rw [List.take_succ_cons,e1];exact h4⟩
    have e1 : ∀ l,cutM false 0 pos cnt (c :: l) = if (tokenL (c :: l) cnt).2.2 ≠ 0 then ⟨[],pos + (tokenL (c :: l) cnt).2.1,(tokenL (c :: l) cnt).2.2⟩
        else .cons { (tokenL (c :: l) cnt).1 with pos:=pos } (cutM false ((tokenL (c :: l) cnt).2.1 - 1) (pos + 1) (cnt + 1) l):=fun l => by rw [cutM,if_neg hb,if_neg h35]
    by_cases he : (tokenL (c :: r) cnt).2.2 ≠ 0
    · rw [e1,if_pos he]
      by_cases h0 : (tokenL (c :: r) cnt).2.1 = 0
      · exact ⟨0,by rw [h0],Nat.le_refl _,by simp,by rw [List.take_zero,cutM_nil]⟩
      · -- a number with a letter behind it
        rw [tokenL_def] at he h0
        have hx : ¬(signK c = 0 ∧ isLetter c = false ∧ isDigit c = false) ∧ cnt ≠ 8192 ∧ signK c = 0 ∧ isDigit c = true := by
          split at he
          · rename_i a;rw [if_pos a] at h0;exact absurd rfl h0
          rename_i a1
          rw [if_neg a1] at h0
          split at he
          · rename_i a;rw [if_pos a] at h0;exact absurd rfl h0
          rename_i a2
          rw [if_neg a2] at h0
          split at he
          · rename_i a;exact absurd rfl he
          rename_i a3
          rw [if_neg a3] at h0
          split at he
          · rename_i a4;exact ⟨a1,a2,by simpa using a3,a4⟩
          rename_i a4
          rw [if_neg a4] at h0
          split at he
          · rename_i a;rw [if_pos a] at h0;exact absurd rfl h0
          · exact absurd rfl he
        obtain ⟨a1,a2,a3,a4⟩:=hx
        have htd : ∀ l,tokenL (c :: l) cnt = (⟨2,0,(numberL (c :: l)).1,[]⟩,(numberL (c :: l)).2.1,(numberL (c :: l)).2.2) := fun l => by
          rw [tokenL_def,if_neg a1,if_neg a2,if_neg (by simp [a3]),if_pos a4]
        rw [← tokenL_def,htd] at he h0
        dsimp only at he h0
        obtain ⟨m,hm⟩ : ∃ m,m = runL isDigit (c :: r):=⟨_,rfl⟩
        have hnum : m ≤ 9 ∧ ¬((c :: r).head? = some 48 ∧ m > 1) ∧ ((c :: r)[m]?).any isInner = true ∧ (numberL (c :: r)).2.1 = m := by
          unfold numberL at h0 he ⊢
          rw [← hm] at h0 he ⊢
          dsimp only at h0 he ⊢
          split at h0
          · exact absurd rfl h0
          rename_i b1
          rw [if_neg b1] at he
          split at h0
          · exact absurd rfl h0
          rename_i b2
          rw [if_neg b2] at he
          split at he
          · rename_i b3
            exact ⟨by omega,b2,b3,by rw [if_neg b1,if_neg b2,if_pos b3]⟩
          · exact absurd rfl he
        obtain ⟨b1,b2,b3,b4⟩:=hnum
        have hml : m < (c :: r).length := by
          rcases Nat.lt_or_ge m (c :: r).length with h | h
          · exact h
          · rw [List.getElem?_eq_none h] at b3;cases b3
        have hm0 : 0 < m:=by rw [hm];exact runL_head _ _ _ a4
        have hrt : runL isDigit ((c :: r).take m) = m:=by rw [runL_take _ _ _ (by omega),← hm]
        obtain ⟨m',rfl⟩ : ∃ m',m = m' + 1:=⟨m - 1,by omega⟩
        have hnt : (numberL ((c :: r).take (m' + 1))).2 = (m' + 1,0) := by
          unfold numberL
          rw [hrt]
          dsimp only
          rw [if_neg (by omega),if_neg ?_,if_neg ?_]
          · rw [List.getElem?_eq_none (by rw [List.length_take];omega)];simp
          · rw [List.take_succ_cons];exact b2
        refine ⟨m' + 1,by rw [htd];dsimp only;rw [b4],by omega,hml,?_⟩
        rw [List.take_succ_cons,e1,htd,← List.take_succ_cons]
        dsimp only
        rw [hnt]
        dsimp only
        rw [if_neg (by simp),cutM_all false _ _ _ _ (by rw [List.length_take];omega)]
        rfl
    · have hl := tokenL_len (c :: r) cnt (by simp)
      rw [e1,if_neg he] at h ⊢
      have he0 : (tokenL (c :: r) cnt).2.2 = 0:=by simpa using he
      have hw:=hl.2.1 he0
      have hr : (cutM false ((tokenL (c :: r) cnt).2.1 - 1) (pos + 1) (cnt + 1) r).err ≠ 0 := by
        unfold CutRes.cons at h
        split at h
        · exact absurd rfl h
        · exact h
      obtain ⟨q,h1,h2,h3,h4⟩:=cutM_before false ((tokenL (c :: r) cnt).2.1 - 1) (pos + 1) (cnt + 1) r hr
      have htk:=tokenL_take (c :: r) cnt (q + 1) (by simp) he0 (by omega)
      rw [List.take_succ_cons] at htk
      refine ⟨q + 1,?_,by omega,by simpa using h3,?_⟩
      · unfold CutRes.cons;rw [if_neg hr,h1];omega
      · rw [List.take_succ_cons,e1,htk,if_neg he]
        unfold CutRes.cons
        rw [h4];rfl
end
section
structure WordL where
  num : Bool
  n : Int
  s : Bytes
  pos : Int
  deriving DecidableEq,Repr
inductive NodeL where
  | mk (name : Bytes) (pos : Int) (words : List WordL) (block : Bool) (kids : List NodeL)
def NodeL.name : NodeL → Bytes | .mk n _ _ _ _ => n
def NodeL.pos : NodeL → Int | .mk _ p _ _ _ => p
def NodeL.words : NodeL → List WordL | .mk _ _ w _ _ => w
def NodeL.block : NodeL → Bool | .mk _ _ _ b _ => b
def NodeL.kids : NodeL → List NodeL | .mk _ _ _ _ k => k
/-- A block that is open: its name,place,words,and what stands in it so far. -/
structure FrameL where
  name : Bytes
  pos : Int
  words : List WordL
  kids : List NodeL
/-- An item that is read. -/
structure ItemL where
  name : Bytes
  pos : Int
  words : List WordL
def FrameL.add (f : FrameL) (n : NodeL) : FrameL:={ f with kids:=f.kids ++ [n] }
def FrameL.node (f : FrameL) : NodeL:=.mk f.name f.pos f.words true f.kids
def ItemL.node (i : ItemL) : NodeL:=.mk i.name i.pos i.words false []
inductive StepR where
  | bad (e : Int)
  | fine (fs : List FrameL) (it : Option ItemL)
/-- A token where an item begins,or a block ends. -/
def beginT (fs : List FrameL) (t : Tok) : StepR :=
  if t.kind = 1 then .fine fs (some ⟨t.s,t.pos,[]⟩)
  else if t.kind = 4 then (match fs with | f :: g :: r => .fine (g.add f.node :: r) none | _ => .bad 5)
  else .bad 5
/-- A token within an item. -/
def goT (fs : List FrameL) (i : ItemL) (t : Tok) : StepR :=
  if t.kind = 1 ∨ t.kind = 2 then (if i.words.length = 8 then .bad 6 else .fine fs (some { i with words:=i.words ++ [⟨decide (t.kind = 2),t.n,t.s,t.pos⟩] }))
  else if t.kind = 5 then (match fs with | f :: r => .fine (f.add i.node :: r) none | [] => .bad 5)
  else if t.kind = 3 then (if fs.length = 7 then .bad 7 else .fine (⟨i.name,i.pos,i.words,[]⟩ :: fs) none)
  else .bad 5
def stepT (fs : List FrameL) (it : Option ItemL) (t : Tok) : StepR :=
  match it with
  | none => beginT fs t
  | some i => goT fs i t
structure ParseRes where
  nodes : List NodeL
  pos : Int
  err : Int
def endT (E : Int) : List FrameL → Option ItemL → ParseRes
  | [f],none => ⟨f.kids,0,0⟩
  | _,_ => ⟨[],E,5⟩
def parseT (E : Int) : List FrameL → Option ItemL → List Tok → ParseRes
  | fs,it,[] => endT E fs it
  | fs,it,t :: ts =>
    match stepT fs it t with
    | .bad e => ⟨[],t.pos,e⟩
    | .fine fs' it' => parseT E fs' it' ts
def rootF : FrameL:=⟨[],0,[],[]⟩
def treeL (s : Bytes) : ParseRes :=
  if (cutL s).err ≠ 0 then ⟨[],(cutL s).pos,(cutL s).err⟩ else parseT s.length [rootF] none (cutL s).toks
/-! ### What may be;how deep;the same;few -/
def wordOk (w : WordL) : Bool:=if w.num then decide (w.s = []) && decide (0 ≤ w.n) && decide (w.n ≤ 999999999) else decide (w.n = 0) && nameL w.s
mutual
def checkN (d : Nat) : NodeL → Int
  | .mk nm _ ws b ks => if (!ws.all wordOk || !nameL nm || decide (8 < ws.length) || (!b && decide (0 < ks.length))) = true then 1 else if b = true ∧ d = 6 then 7 else checkL (d + 1) ks
def checkL (d : Nat) : List NodeL → Int
  | [] => 0
  | n :: r => if checkN d n ≠ 0 then checkN d n else checkL d r
end
mutual
def deepN : NodeL → Nat
  | .mk _ _ _ b ks => deepL ks + (if b then 1 else 0)
def deepL : List NodeL → Nat
  | [] => 0
  | n :: r => max (deepN n) (deepL r)
end
def sameW (v w : WordL) : Bool:=(v.num == w.num) && decide (v.n = w.n) && decide (v.s = w.s)
def sameWs : List WordL → List WordL → Bool
  | [],[] => true
  | v :: l,w :: m => sameW v w && sameWs l m
  | _,_ => false
mutual
def sameN : NodeL → NodeL → Bool
  | .mk n1 _ w1 b1 k1, .mk n2 _ w2 b2 k2 => sameWs w1 w2 && decide (n1 = n2) && (b1 == b2) && sameNs k1 k2
def sameNs : List NodeL → List NodeL → Bool
  | [],[] => true
  | x :: l,y :: m => sameN x y && sameNs l m
  | _,_ => false
end
mutual
def leftN (most : Int) (deep : Int) : NodeL → Int
  | .mk _ _ ws _ ks => if most < 0 ∨ 20 < ws.length then -1 else leftL (most - 1) (deep - 1) ks
def leftL (most : Int) (deep : Int) : List NodeL → Int
  | [] => most
  | n :: r => if deep = 0 then -1 else leftGo most deep (n :: r)
def leftGo (most : Int) (deep : Int) : List NodeL → Int
  | [] => most
  | n :: r => leftGo (leftN most deep n) deep r
end
end
section
structure CalL where
  name : Bytes
  kind : Int
  day : Int
  month : Int
  shift : Int
  shape : Int
  p0 : Int
  p1 : Int
  p2 : Int
  cycle : Int
  extra : Int
  first : Int
  last : Int
  policy : Int
  deriving DecidableEq
def calZ : CalL:=⟨[],0,0,0,0,0,0,0,0,0,0,0,0,0⟩
def days : List Bytes:=[[109,111,110],[116,117,101],[119,101,100],[116,104,117],[102,114,105],[115,97,116],[115,117,110]]
def mons : List Bytes:=[[106,97,110],[102,101,98],[109,97,114],[97,112,114],[109,97,121],[106,117,110],[106,117,108],[97,117,103],[115,101,112],[111,99,116],[110,111,118],[100,101,99]]
def endsL : List Bytes:=[[108,97,115,116],[110,101,97,114],[110,114,102],[98,114,111,97,100,99,97,115,116],[105,115,111],[109,111,110,116,104]]
def pols : List Bytes:=[[115,116,97,114,116],[115,104,105,102,116],[100,114,111,112],[99,108,97,109,112]]
def shifts : List Bytes:=[[108,97,115,116],[102,105,114,115,116]]
def keysL : List Bytes:=[[101,110,100],[112,101,114,105,111,100,115],[110,97,109,101,100],[112,97,121],[101,120,116,114,97],[115,101,114,118,101],[99,111,109,112,97,114,101]]
def b_end : Bytes:=[101,110,100]
def b_periods : Bytes:=[112,101,114,105,111,100,115]
def b_named : Bytes:=[110,97,109,101,100]
def b_pay : Bytes:=[112,97,121]
def b_extra : Bytes:=[101,120,116,114,97]
def b_serve : Bytes:=[115,101,114,118,101]
def b_compare : Bytes:=[99,111,109,112,97,114,101]
def b_calendar : Bytes:=[99,97,108,101,110,100,97,114]
/-- Where a word stands among names,from 1 on;0: nowhere. -/
def posL : List Bytes → Bytes → Int
  | [],_ => 0
  | a :: r,s => if a = s then 1 else if posL r s = 0 then 0 else posL r s + 1
def placeW (l : List Bytes) (w : WordL) : Int:=if w.num then 0 else posL l w.s
def tween (n a b : Int) : Bool:=decide (a ≤ n) && decide (n ≤ b)
def manyC (shape cycle : Int) : Int:=if shape = 2 then 13 else if shape = 3 ∧ 0 < cycle then 52 / cycle else if 1 ≤ shape ∧ shape ≤ 5 then 12 else 0
def patOk (a b c : Int) : Bool:=(decide (a = 4) && decide (b = 4) && decide (c = 5)) || (decide (a = 4) && decide (b = 5) && decide (c = 4)) || (decide (a = 5) && decide (b = 4) && decide (c = 4))
def patZ (c : CalL) : Bool:=decide (c.p0 = 0) && decide (c.p1 = 0) && decide (c.p2 = 0)
def cycOk (n : Int) : Bool:=decide (n = 1) || decide (n = 2) || decide (n = 4)
/-- Whether a shape of weeks may be. -/
def weeksC (c : CalL) : Bool :=
  if c.shape = 1 then patOk c.p0 c.p1 c.p2 && decide (c.cycle = 0) && tween c.extra 1 (manyC c.shape c.cycle)
  else if c.shape = 2 then patZ c && decide (c.cycle = 0) && tween c.extra 1 (manyC c.shape c.cycle)
  else if c.shape = 3 then patZ c && cycOk c.cycle && tween c.extra 1 (manyC c.shape c.cycle)
  else false
def nrfC : CalL:=⟨[],3,6,1,1,1,4,5,4,0,12,0,0,0⟩
def broadC : CalL:=⟨[],4,7,12,0,4,0,0,0,0,12,0,0,0⟩
def fixedC (kind : Int) : Option CalL:=if kind = 3 then some nrfC else if kind = 4 then some broadC else none
/-- Whether the rule,and the shape,may be. -/
def ruledC (c : CalL) : Bool :=
  match fixedC c.kind with
  | some f => decide (c = { f with name:=c.name,first:=c.first,last:=c.last,policy:=c.policy })
  | none =>
    if !tween c.month 1 12 || !tween c.shift 0 1 then false
    else if c.kind = 1 ∨ c.kind = 2 then tween c.day 1 7 && weeksC c
    else if c.kind = 5 then decide (c.day = 7) && decide (c.month = 12) && decide (c.shift = 0) && weeksC c
    else if c.kind = 6 then decide (c.day = 0) && decide (c.shape = 5) && patZ c && decide (c.cycle = 0) && decide (c.extra = 0)
    else false
def servedC (c : CalL) : Bool:=decide (1602 ≤ c.first) && decide (c.last ≤ 9996) && decide (c.first ≤ c.last) && decide (c.last - c.first < 400)
def policyC (c : CalL) : Bool:=tween c.policy 1 4 && (decide (c.policy = 4) == decide (c.kind = 6))
/-- Whether a calendar may be. -/
def okC (c : CalL) : Bool:=servedC c && policyC c && nameL c.name && ruledC c
def periodsC (c : CalL) : Int:=if okC c then manyC c.shape c.cycle else 0
def errC (c : CalL) : Int:=if okC c then 0 else 1
/-! ### A block read -/
/-- What an end's words say;whether they may be. -/
def endK (nm : Bytes) (w : List WordL) : CalL × Bool :=
  let k:=placeW endsL (w.headD ⟨false,0,[],0⟩)
  match fixedC k with
  | some f => ({ f with name:=nm },decide (w.length = 1))
  | none =>
    if k = 5 then ({ calZ with name:=nm,kind:=k,day:=7,month:=12 },decide (w.length = 1))
    else if k = 6 ∧ w.length = 2 then
      let m:=placeW mons (w.getD 1 ⟨false,0,[],0⟩)
      ({ calZ with name:=nm,kind:=k,shape:=5,month:=m },decide (0 < m))
    else if 0 < k ∧ k < 3 ∧ w.length = 3 then
      let d:=placeW days (w.getD 1 ⟨false,0,[],0⟩)
      let m:=placeW mons (w.getD 2 ⟨false,0,[],0⟩)
      ({ calZ with name:=nm,kind:=k,day:=d,month:=m },decide (0 < d) && decide (0 < m))
    else ({ calZ with name:=nm,kind:=k },false)
/-- What another key's words say;whether they may be. -/
def keyK (key : Bytes) (c : CalL) (w : List WordL) : CalL × Bool :=
  let w0:=w.headD ⟨false,0,[],0⟩
  if key = b_periods then
    if w.all (·.num) then
      (if w.length = 1 then ({ c with shape := 2 },decide (w0.n = 4))
       else if w.length = 3 then
         let b:=(w.getD 1 ⟨false,0,[],0⟩).n
         let d:=(w.getD 2 ⟨false,0,[],0⟩).n
         ({ c with shape:=1,p0:=w0.n,p1:=b,p2:=d },patOk w0.n b d)
       else (c,false))
    else (c,false)
  else if key = b_named then
    let k:=placeW shifts w0
    ({ c with shift:=k - 1 },decide (0 < k) && decide (w.length = 1))
  else if key = b_pay then ({ c with shape:=3,cycle:=w0.n },decide (w.length = 1) && w0.num && cycOk w0.n)
  else if key = b_extra then ({ c with extra:=w0.n },decide (w.length = 1) && w0.num && tween w0.n 1 52)
  else if key = b_serve then
    (if w.all (·.num) ∧ w.length = 2 then ({ c with first:=w0.n,last:=(w.getD 1 ⟨false,0,[],0⟩).n },true) else (c,false))
  else
    let p:=placeW pols w0
    ({ c with policy:=p },decide (0 < p) && decide (w.length = 1))
def putK (key : Bytes) (c : CalL) (w : List WordL) : CalL × Bool:=if key = b_end then endK c.name w else keyK key c w
/-- Whether a key stands with an end. -/
def standsC (kind : Int) (key : Bytes) : Bool :=
  if key = b_named then decide (kind ≠ 3) && decide (kind ≠ 4) && decide (kind ≠ 5)
  else if key = b_periods ∨ key = b_pay ∨ key = b_extra then decide (kind ≠ 3) && decide (kind ≠ 4) && decide (kind ≠ 6)
  else true
structure CalR where
  cal : CalL
  at_ : Int
  err : Int
/-- Each item looked at by itself: the first that may not be;else what the end says,if there is one. -/
def formedL (nm : Bytes) : List Bytes → Option CalL → List NodeL → (Int × Int) ⊕ (Option CalL)
  | _,c,[] => .inr c
  | seen,c,k :: r =>
    if !keysL.contains k.name then .inl (k.pos,8)
    else if seen.contains k.name then .inl (k.pos,9)
    else if k.block || k.words.isEmpty || !(putK k.name { calZ with name:=nm } k.words).2 then .inl (k.pos,5)
    else formedL nm (seen ++ [k.name]) (if k.name = b_end then some (putK k.name { calZ with name:=nm } k.words).1 else c) r
/-- The first key that does not stand with the end,or is the second shape. -/
def fitsL (kind : Int) : List Bytes → List NodeL → Option (Int × Int)
  | _,[] => none
  | seen,k :: r =>
    if !standsC kind k.name then some (k.pos,8)
    else if (k.name = b_periods ∧ b_pay ∈ seen) ∨ (k.name = b_pay ∧ b_periods ∈ seen) then some (k.pos,9)
    else fitsL kind (seen ++ [k.name]) r
def missL (kind : Int) (have_ : List Bytes) : Bool :=
  [b_named,b_periods,b_extra,b_serve,b_compare].any fun k => standsC kind k && !(have_.contains k || (decide (k = b_periods) && have_.contains b_pay))
def putAll (c : CalL) (l : List NodeL) : CalL:=l.foldl (fun c k => if k.name = b_end then c else (keyK k.name c k.words).1) c
def readBlock (n : NodeL) : CalR :=
  let nm:=(n.words.headD ⟨false,0,[],0⟩).s
  match formedL nm [] none n.kids with
  | .inl (p,e) => ⟨calZ,p,e⟩
  | .inr none => ⟨calZ,n.pos,10⟩
  | .inr (some c) =>
    match fitsL c.kind [] n.kids with
    | some (p,e) => ⟨calZ,p,e⟩
    | none =>
      if missL c.kind (n.kids.map NodeL.name) then ⟨calZ,n.pos,10⟩
      else if okC (putAll c n.kids) then ⟨putAll c n.kids,0,0⟩ else ⟨calZ,n.pos,1⟩
def readC (n : NodeL) : CalR :=
  if checkL 0 [n] ≠ 0 then ⟨calZ,0,1⟩
  else if n.name ≠ b_calendar ∨ n.block = false ∨ n.words.length ≠ 1 ∨ (n.words.headD ⟨false,0,[],0⟩).num = true then ⟨calZ,n.pos,5⟩
  else readBlock n
end
section
/-- Calendars that may be,behind those of the names seen. -/
def confGo : List Bytes → List CalL → Int
  | _,[] => 0
  | seen,c :: r => if errC c ≠ 0 then errC c else if seen.contains c.name then 9 else confGo (seen ++ [c.name]) r
def confC (l : List CalL) : Int:=if 32 < l.length then 6 else confGo [] l
structure ConfR where
  cals : List CalL
  pos : Int
  err : Int
/-- Items read as calendars,behind those that were read. -/
def readGo : List CalL → List NodeL → ConfR
  | out,[] => ⟨out,0,0⟩
  | out,n :: r =>
    if out.length = 32 then ⟨[],n.pos,6⟩
    else if (readC n).err ≠ 0 then ⟨[],(readC n).at_,(readC n).err⟩
    else if (out.map CalL.name).contains (readC n).cal.name then ⟨[],n.pos,9⟩
    else readGo (out ++ [(readC n).cal]) r
def confRead (s : Bytes) : ConfR:=if (treeL s).err ≠ 0 then ⟨[],(treeL s).pos,(treeL s).err⟩ else readGo [] (treeL s).nodes
def findGo (name : Bytes) : List CalL → CalL × Int
  | [] => (calZ,13)
  | c :: r => if c.name = name then (c,0) else findGo name r
def findC (l : List CalL) (name : Bytes) : CalL × Int:=if confC l ≠ 0 then (calZ,confC l) else findGo name l
theorem readGo_done (out : List CalL) : readGo out [] = ⟨out,0,0⟩:=rfl
theorem readGo_long (out : List CalL) (n : NodeL) (r : List NodeL) (h : out.length = 32) : readGo out (n :: r) = ⟨[],n.pos,6⟩:=by rw [readGo,if_pos h]
theorem readGo_bad (out : List CalL) (n : NodeL) (r : List NodeL) (h : out.length ≠ 32) (h1 : (readC n).err ≠ 0) : readGo out (n :: r) = ⟨[],(readC n).at_,(readC n).err⟩:=by rw [readGo,if_neg h,if_pos h1]
theorem readGo_twice (out : List CalL) (n : NodeL) (r : List NodeL) (h : out.length ≠ 32) (h1 : (readC n).err = 0) (h2 : (out.map CalL.name).contains (readC n).cal.name = true) : readGo out (n :: r) = ⟨[],n.pos,9⟩ := by
  rw [readGo,if_neg h,if_neg (by simp [h1]),if_pos h2]
theorem readGo_on (out : List CalL) (n : NodeL) (r : List NodeL) (h : out.length ≠ 32) (h1 : (readC n).err = 0) (h2 : (out.map CalL.name).contains (readC n).cal.name = false) : readGo out (n :: r) = readGo (out ++ [(readC n).cal]) r := by
  rw [readGo,if_neg h,if_neg (by simp [h1]),if_neg (by rw [h2];decide)]
end
section
open Go.RowKit
/-- The keys that the laws know: integers of one kind,or strings. -/
inductive KeyOk : TypeDesc → Value → Prop where
  | int (q : IntKind) (n : Int) : KeyOk (.int q) (.int q n)
  | str (s : ByteArray) : KeyOk .string (.string s)
/-- Whether two keys are the same one. -/
def sameKey : Value → Value → Bool
  | .int _ a, .int _ b => a == b
  | .string a, .string b => a == b
  | _,_ => false
/-- The entry of a key,and its place. -/
def findE (k : Value) : List MapEntry → Nat → Option (Nat × Value)
  | [],_ => none
  | e :: es,i => if sameKey k e.key then some (i,e.val) else findE k es (i + 1)
theorem sameNow_ok {d : TypeDesc} {a b : Value} (ha : KeyOk d a) (hb : KeyOk d b) : Instr.sameNow d a b = some (sameKey a b) := by
  cases ha <;> cases hb <;> simp [Instr.sameNow,sameKey]
theorem findNow_ok {d : TypeDesc} {k : Value} (hk : KeyOk d k) : ∀ (es : List MapEntry) (i : Nat),(∀ e ∈ es,KeyOk d e.key) → Instr.findNow d k es i = some (findE k es i)
  | [],_,_ => rfl
  | e :: es,i,h => by
    have h1:=sameNow_ok hk (h e (by simp))
    have h2:=findNow_ok hk es (i + 1) (fun e he => h e (by simp [he]))
    unfold Instr.findNow findE
    rw [h1]
    cases sameKey k e.key <;> simp [h2]
theorem KeyOk.isKey {d : TypeDesc} {k : Value} (h : KeyOk d k) : MapKept.IsKey d k:=by cases h <;> simp [MapKept.IsKey]
section
variable {P : Program} {T K E : TypeId} {d : TypeDesc} {w : World} {b : Nat} {es : Array MapEntry} {clock : Nat} {k v : Value}
theorem run_checkKey_ok (hK : P.underlying K = some d) (hk : KeyOk d k) (em : Bool) : (Instr.checkKey em 10000 K k).run P w = .ok () w :=
  MapKept.run_checkKey hK hk.isKey em 9999
theorem run_findKey_ok (hK : P.underlying K = some d) (hk : KeyOk d k) (l : List MapEntry) (hes : ∀ e ∈ l,KeyOk d e.key) : (Instr.findKey K k l).run P w = .ok (findE k l 0) w := by
  simp [Instr.findKey,run_underlying hK,findNow_ok hk l 0 hes]
theorem run_getMap (hb : w.heap[b]? = some (.map es clock)) : (getObj b).run P w = .ok (.map es clock) w := by
  simp [getObj,Sem.run,hb]
theorem run_setMap (hb : w.heap[b]? = some (.map es clock)) (o : Obj) : (setObj b o).run P w = .ok () { w with heap := w.heap.setIfInBounds b o } := by
  simp [setObj,Sem.run,hb]
/-- A new key into a map. -/
theorem run_mapUpdate_new (hT : P.underlying T = some (.map K E)) (hK : P.underlying K = some d) (hk : KeyOk d k) (hes : ∀ e ∈ es.toList,KeyOk d e.key) (hnew : findE k es.toList 0 = none) (hb : w.heap[b]? = some (.map es clock)) :
    (Instr.mapUpdate T (.map (some b)) k v).run P w = .ok () { w with heap:=w.heap.setIfInBounds b (.map (es.push { key:=k,val:=v,born:=clock }) (clock + 1)) }:=by
  simp [Instr.mapUpdate,run_underlying hT,run_getMap hb,run_checkKey_ok hK hk,run_findKey_ok hK hk es.toList hes,hnew,run_setMap hb,Result.andThen]
/-- The same,the map being the block that was laid last. -/
theorem run_mapUpdate_last (hT : P.underlying T = some (.map K E)) (hK : P.underlying K = some d) (hk : KeyOk d k) (hes : ∀ e ∈ es.toList,KeyOk d e.key) (hnew : findE k es.toList 0 = none) :
    (Instr.mapUpdate T (.map (some w.heap.size)) k v).run P (w.alloc (.map es clock)) = .ok () (w.alloc (.map (es.push { key:=k,val:=v,born:=clock }) (clock + 1))):=by
  rw [run_mapUpdate_new hT hK hk hes hnew (heap_alloc_new w _)]
  show Result.ok () { w.alloc (.map es clock) with heap:=(w.heap.push (.map es clock)).setIfInBounds w.heap.size _ } = _
  simp only [World.alloc]
  congr 2
  apply Array.ext'
  simp [Array.setIfInBounds,Array.toList_push]
/-- A look-up that asks whether the key is there. -/
theorem run_lookup_ok (hT : P.underlying T = some (.map K E)) (hK : P.underlying K = some d) (hk : KeyOk d k) (hes : ∀ e ∈ es.toList,KeyOk d e.key) {z : Value} (hz : (zeroValue E).run P w = .ok z w) (hb : w.heap[b]? = some (.map es clock)) :
    (Instr.lookup T (.map (some b)) k true).run P w = .ok (.tuple #[((findE k es.toList 0).map (·.2)).getD z, .bool (findE k es.toList 0).isSome]) w:=by
  cases hf : findE k es.toList 0 <;>
    simp [Instr.lookup,run_underlying hT,run_getMap hb,run_checkKey_ok hK hk,run_findKey_ok hK hk es.toList hes,hf,hz,Result.andThen]
/-- A look-up that does not ask. -/
theorem run_lookup_plain (hT : P.underlying T = some (.map K E)) (hK : P.underlying K = some d) (hk : KeyOk d k) (hes : ∀ e ∈ es.toList,KeyOk d e.key) {z : Value} (hz : (zeroValue E).run P w = .ok z w) (hb : w.heap[b]? = some (.map es clock)) :
    (Instr.lookup T (.map (some b)) k false).run P w = .ok (((findE k es.toList 0).map (·.2)).getD z) w:=by
  cases hf : findE k es.toList 0 <;>
    simp [Instr.lookup,run_underlying hT,run_getMap hb,run_checkKey_ok hK hk,run_findKey_ok hK hk es.toList hes,hf,hz,Result.andThen]
end
end
end Go.Proofs.Ytjbniichcopnlaa
