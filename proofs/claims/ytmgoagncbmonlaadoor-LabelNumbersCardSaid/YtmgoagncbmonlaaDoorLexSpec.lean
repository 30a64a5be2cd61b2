/- Layer 8 (lex), in plain Lean: names, numbers, tokens, cutting. No program in sight. -/
namespace Go.Proofs.YtmgoagncbmonlaaDoor

abbrev Bytes := List UInt8

def isLetter (c : UInt8) : Bool := 97 ≤ c && c ≤ 122
def isDigit (c : UInt8) : Bool := 48 ≤ c && c ≤ 57
def isInner (c : UInt8) : Bool := isLetter c || isDigit c || c == 45
def isBlank (c : UInt8) : Bool := c == 32 || c == 9 || c == 10
def notEol (c : UInt8) : Bool := c != 10

/-- How many bytes from the first one on are such. -/
def runL (p : UInt8 → Bool) (l : Bytes) : Nat := (l.takeWhile p).length

/-- A sign's kind; 0: it is none. -/
def signK (c : UInt8) : Int := if c = 123 then 3 else if c = 125 then 4 else if c = 59 then 5 else 0

/-- A name. -/
def nameL (l : Bytes) : Bool :=
  match l with
  | [] => false
  | c :: _ => decide (l.length ≤ 16) && isLetter c && l.all isInner

structure Tok where
  kind : Int
  pos : Int
  n : Int
  s : Bytes
  deriving DecidableEq, Repr

def numL (l : Bytes) : Int := l.foldl (fun n c => n * 10 + ((c.toNat : Int) - 48)) 0

/-- What a number that stands first is: how far, and why not; or it, and how long. -/
def numberL (l : Bytes) : Int × Nat × Int :=
  let many := runL isDigit l
  if many > 9 then (0, 0, 6)
  else if l.head? = some 48 ∧ many > 1 then (0, 0, 5)
  else if (l[many]?).any isInner then (0, many, 5)
  else (numL (l.take many), many, 0)

/-- The token that stands first (its place aside), how long, or how far, and the error. -/
def tokenL (l : Bytes) (cnt : Nat) : Tok × Nat × Int :=
  match l with
  | [] => (⟨0, 0, 0, []⟩, 0, 5)
  | c :: _ =>
    if signK c = 0 ∧ isLetter c = false ∧ isDigit c = false then (⟨0, 0, 0, []⟩, 0, 5)
    else if cnt = 8192 then (⟨0, 0, 0, []⟩, 0, 6)
    else if signK c ≠ 0 then (⟨signK c, 0, 0, []⟩, 1, 0)
    else if isDigit c then (⟨2, 0, (numberL l).1, []⟩, (numberL l).2.1, (numberL l).2.2)
    else if runL isInner l > 16 then (⟨0, 0, 0, []⟩, 0, 6)
    else (⟨1, 0, 0, l.take (runL isInner l)⟩, runL isInner l, 0)

structure CutRes where
  toks : List Tok
  pos : Nat
  err : Int
  deriving DecidableEq, Repr

def CutRes.cons (t : Tok) (r : CutRes) : CutRes := if r.err = 0 then ⟨t :: r.toks, 0, 0⟩ else r

/-- The text from 'pos' on, 'cnt' tokens ahead of it; in a remark; 'j' bytes to be passed over. -/
def cutM : Bool → Nat → Nat → Nat → Bytes → CutRes
  | _, _, _, _, [] => ⟨[], 0, 0⟩
  | rem, j + 1, pos, cnt, _ :: r => cutM rem j (pos + 1) cnt r
  | true, 0, pos, cnt, c :: r => cutM (notEol c) 0 (pos + 1) cnt r
  | false, 0, pos, cnt, c :: r =>
    if isBlank c then cutM false 0 (pos + 1) cnt r
    else if c = 35 then cutM true 0 (pos + 1) cnt r
    else
      let t := tokenL (c :: r) cnt
      if t.2.2 ≠ 0 then ⟨[], pos + t.2.1, t.2.2⟩
      else .cons { t.1 with pos := pos } (cutM false (t.2.1 - 1) (pos + 1) (cnt + 1) r)

def cutL (l : Bytes) : CutRes := if l.length > 65536 then ⟨[], 0, 6⟩ else cutM false 0 0 0 l

example : cutL [97, 32, 49, 50, 59] = ⟨[⟨1, 0, 0, [97]⟩, ⟨2, 2, 12, []⟩, ⟨5, 4, 0, []⟩], 0, 0⟩ := by decide
end Go.Proofs.YtmgoagncbmonlaaDoor
