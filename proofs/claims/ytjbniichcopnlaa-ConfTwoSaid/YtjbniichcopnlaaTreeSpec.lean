/- Layer 9 (tree), in plain Lean: items, and how tokens are read as items. No program in sight. -/
import Derived.Test.YtjbniichcopnlaaLexPlain
namespace Go.Proofs.Ytjbniichcopnlaa

structure WordL where
  num : Bool
  n : Int
  s : Bytes
  pos : Int
  deriving DecidableEq, Repr

inductive NodeL where
  | mk (name : Bytes) (pos : Int) (words : List WordL) (block : Bool) (kids : List NodeL)

def NodeL.name : NodeL → Bytes | .mk n _ _ _ _ => n
def NodeL.pos : NodeL → Int | .mk _ p _ _ _ => p
def NodeL.words : NodeL → List WordL | .mk _ _ w _ _ => w
def NodeL.block : NodeL → Bool | .mk _ _ _ b _ => b
def NodeL.kids : NodeL → List NodeL | .mk _ _ _ _ k => k

/-- A block that is open: its name, place, words, and what stands in it so far. -/
structure FrameL where
  name : Bytes
  pos : Int
  words : List WordL
  kids : List NodeL
/-- An item that is read. -/
structure ItemL where
  name : Bytes
  pos : Int
  words : List WordL

def FrameL.add (f : FrameL) (n : NodeL) : FrameL := { f with kids := f.kids ++ [n] }
def FrameL.node (f : FrameL) : NodeL := .mk f.name f.pos f.words true f.kids
def ItemL.node (i : ItemL) : NodeL := .mk i.name i.pos i.words false []

inductive StepR where
  | bad (e : Int)
  | fine (fs : List FrameL) (it : Option ItemL)

/-- A token where an item begins, or a block ends. -/
def beginT (fs : List FrameL) (t : Tok) : StepR :=
  if t.kind = 1 then .fine fs (some ⟨t.s, t.pos, []⟩)
  else if t.kind = 4 then (match fs with | f :: g :: r => .fine (g.add f.node :: r) none | _ => .bad 5)
  else .bad 5

/-- A token within an item. -/
def goT (fs : List FrameL) (i : ItemL) (t : Tok) : StepR :=
  if t.kind = 1 ∨ t.kind = 2 then (if i.words.length = 8 then .bad 6 else .fine fs (some { i with words := i.words ++ [⟨decide (t.kind = 2), t.n, t.s, t.pos⟩] }))
  else if t.kind = 5 then (match fs with | f :: r => .fine (f.add i.node :: r) none | [] => .bad 5)
  else if t.kind = 3 then (if fs.length = 7 then .bad 7 else .fine (⟨i.name, i.pos, i.words, []⟩ :: fs) none)
  else .bad 5

def stepT (fs : List FrameL) (it : Option ItemL) (t : Tok) : StepR :=
  match it with
  | none => beginT fs t
  | some i => goT fs i t

structure ParseRes where
  nodes : List NodeL
  pos : Int
  err : Int

def endT (E : Int) : List FrameL → Option ItemL → ParseRes
  | [f], none => ⟨f.kids, 0, 0⟩
  | _, _ => ⟨[], E, 5⟩

def parseT (E : Int) : List FrameL → Option ItemL → List Tok → ParseRes
  | fs, it, [] => endT E fs it
  | fs, it, t :: ts =>
    match stepT fs it t with
    | .bad e => ⟨[], t.pos, e⟩
    | .fine fs' it' => parseT E fs' it' ts

def rootF : FrameL := ⟨[], 0, [], []⟩
def treeL (s : Bytes) : ParseRes :=
  if (cutL s).err ≠ 0 then ⟨[], (cutL s).pos, (cutL s).err⟩ else parseT s.length [rootF] none (cutL s).toks

/-! ### What may be; how deep; the same; few -/
def wordOk (w : WordL) : Bool := if w.num then decide (w.s = []) && decide (0 ≤ w.n) && decide (w.n ≤ 999999999) else decide (w.n = 0) && nameL w.s

mutual
def checkN (d : Nat) : NodeL → Int
  | .mk nm _ ws b ks => if (!ws.all wordOk || !nameL nm || decide (8 < ws.length) || (!b && decide (0 < ks.length))) = true then 1 else if b = true ∧ d = 6 then 7 else checkL (d + 1) ks
def checkL (d : Nat) : List NodeL → Int
  | [] => 0
  | n :: r => if checkN d n ≠ 0 then checkN d n else checkL d r
end

mutual
def deepN : NodeL → Nat
  | .mk _ _ _ b ks => deepL ks + (if b then 1 else 0)
def deepL : List NodeL → Nat
  | [] => 0
  | n :: r => max (deepN n) (deepL r)
end

def sameW (v w : WordL) : Bool := (v.num == w.num) && decide (v.n = w.n) && decide (v.s = w.s)
def sameWs : List WordL → List WordL → Bool
  | [], [] => true
  | v :: l, w :: m => sameW v w && sameWs l m
  | _, _ => false

mutual
def sameN : NodeL → NodeL → Bool
  | .mk n1 _ w1 b1 k1, .mk n2 _ w2 b2 k2 => sameWs w1 w2 && decide (n1 = n2) && (b1 == b2) && sameNs k1 k2
def sameNs : List NodeL → List NodeL → Bool
  | [], [] => true
  | x :: l, y :: m => sameN x y && sameNs l m
  | _, _ => false
end

mutual
def leftN (most : Int) (deep : Int) : NodeL → Int
  | .mk _ _ ws _ ks => if most < 0 ∨ 20 < ws.length then -1 else leftL (most - 1) (deep - 1) ks
def leftL (most : Int) (deep : Int) : List NodeL → Int
  | [] => most
  | n :: r => if deep = 0 then -1 else leftGo most deep (n :: r)
def leftGo (most : Int) (deep : Int) : List NodeL → Int
  | [] => most
  | n :: r => leftGo (leftN most deep n) deep r
end

end Go.Proofs.Ytjbniichcopnlaa
