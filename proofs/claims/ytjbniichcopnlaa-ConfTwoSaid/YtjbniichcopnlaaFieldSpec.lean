/- Layer 11 (field), in plain Lean: calendars, what may be, and how a block is read. No program in sight. -/
import Derived.Test.YtjbniichcopnlaaTreeSpec
namespace Go.Proofs.Ytjbniichcopnlaa

structure CalL where
  name : Bytes
  kind : Int
  day : Int
  month : Int
  shift : Int
  shape : Int
  p0 : Int
  p1 : Int
  p2 : Int
  cycle : Int
  extra : Int
  first : Int
  last : Int
  policy : Int
  deriving DecidableEq
def calZ : CalL := ⟨[], 0, 0, 0, 0, 0, 0, 0, 0, 0, 0, 0, 0, 0⟩

def days : List Bytes := [[109, 111, 110], [116, 117, 101], [119, 101, 100], [116, 104, 117], [102, 114, 105], [115, 97, 116], [115, 117, 110]]
def mons : List Bytes := [[106, 97, 110], [102, 101, 98], [109, 97, 114], [97, 112, 114], [109, 97, 121], [106, 117, 110], [106, 117, 108], [97, 117, 103], [115, 101, 112], [111, 99, 116], [110, 111, 118], [100, 101, 99]]
def endsL : List Bytes := [[108, 97, 115, 116], [110, 101, 97, 114], [110, 114, 102], [98, 114, 111, 97, 100, 99, 97, 115, 116], [105, 115, 111], [109, 111, 110, 116, 104]]
def pols : List Bytes := [[115, 116, 97, 114, 116], [115, 104, 105, 102, 116], [100, 114, 111, 112], [99, 108, 97, 109, 112]]
def shifts : List Bytes := [[108, 97, 115, 116], [102, 105, 114, 115, 116]]
def keysL : List Bytes := [[101, 110, 100], [112, 101, 114, 105, 111, 100, 115], [110, 97, 109, 101, 100], [112, 97, 121], [101, 120, 116, 114, 97], [115, 101, 114, 118, 101], [99, 111, 109, 112, 97, 114, 101]]
def b_end : Bytes := [101, 110, 100]
def b_periods : Bytes := [112, 101, 114, 105, 111, 100, 115]
def b_named : Bytes := [110, 97, 109, 101, 100]
def b_pay : Bytes := [112, 97, 121]
def b_extra : Bytes := [101, 120, 116, 114, 97]
def b_serve : Bytes := [115, 101, 114, 118, 101]
def b_compare : Bytes := [99, 111, 109, 112, 97, 114, 101]
def b_calendar : Bytes := [99, 97, 108, 101, 110, 100, 97, 114]

/-- Where a word stands among names, from 1 on; 0: nowhere. -/
def posL : List Bytes → Bytes → Int
  | [], _ => 0
  | a :: r, s => if a = s then 1 else if posL r s = 0 then 0 else posL r s + 1
def placeW (l : List Bytes) (w : WordL) : Int := if w.num then 0 else posL l w.s

def tween (n a b : Int) : Bool := decide (a ≤ n) && decide (n ≤ b)
def manyC (shape cycle : Int) : Int := if shape = 2 then 13 else if shape = 3 ∧ 0 < cycle then 52 / cycle else if 1 ≤ shape ∧ shape ≤ 5 then 12 else 0
def patOk (a b c : Int) : Bool := (decide (a = 4) && decide (b = 4) && decide (c = 5)) || (decide (a = 4) && decide (b = 5) && decide (c = 4)) || (decide (a = 5) && decide (b = 4) && decide (c = 4))
def patZ (c : CalL) : Bool := decide (c.p0 = 0) && decide (c.p1 = 0) && decide (c.p2 = 0)
def cycOk (n : Int) : Bool := decide (n = 1) || decide (n = 2) || decide (n = 4)
/-- Whether a shape of weeks may be. -/
def weeksC (c : CalL) : Bool :=
  if c.shape = 1 then patOk c.p0 c.p1 c.p2 && decide (c.cycle = 0) && tween c.extra 1 (manyC c.shape c.cycle)
  else if c.shape = 2 then patZ c && decide (c.cycle = 0) && tween c.extra 1 (manyC c.shape c.cycle)
  else if c.shape = 3 then patZ c && cycOk c.cycle && tween c.extra 1 (manyC c.shape c.cycle)
  else false
def nrfC : CalL := ⟨[], 3, 6, 1, 1, 1, 4, 5, 4, 0, 12, 0, 0, 0⟩
def broadC : CalL := ⟨[], 4, 7, 12, 0, 4, 0, 0, 0, 0, 12, 0, 0, 0⟩
def fixedC (kind : Int) : Option CalL := if kind = 3 then some nrfC else if kind = 4 then some broadC else none
/-- Whether the rule, and the shape, may be. -/
def ruledC (c : CalL) : Bool :=
  match fixedC c.kind with
  | some f => decide (c = { f with name := c.name, first := c.first, last := c.last, policy := c.policy })
  | none =>
    if !tween c.month 1 12 || !tween c.shift 0 1 then false
    else if c.kind = 1 ∨ c.kind = 2 then tween c.day 1 7 && weeksC c
    else if c.kind = 5 then decide (c.day = 7) && decide (c.month = 12) && decide (c.shift = 0) && weeksC c
    else if c.kind = 6 then decide (c.day = 0) && decide (c.shape = 5) && patZ c && decide (c.cycle = 0) && decide (c.extra = 0)
    else false
def servedC (c : CalL) : Bool := decide (1602 ≤ c.first) && decide (c.last ≤ 9996) && decide (c.first ≤ c.last) && decide (c.last - c.first < 400)
def policyC (c : CalL) : Bool := tween c.policy 1 4 && (decide (c.policy = 4) == decide (c.kind = 6))
/-- Whether a calendar may be. -/
def okC (c : CalL) : Bool := servedC c && policyC c && nameL c.name && ruledC c
def periodsC (c : CalL) : Int := if okC c then manyC c.shape c.cycle else 0
def errC (c : CalL) : Int := if okC c then 0 else 1

/-! ### A block read -/
/-- What an end's words say; whether they may be. -/
def endK (nm : Bytes) (w : List WordL) : CalL × Bool :=
  let k := placeW endsL (w.headD ⟨false, 0, [], 0⟩)
  match fixedC k with
  | some f => ({ f with name := nm }, decide (w.length = 1))
  | none =>
    if k = 5 then ({ calZ with name := nm, kind := k, day := 7, month := 12 }, decide (w.length = 1))
    else if k = 6 ∧ w.length = 2 then
      let m := placeW mons (w.getD 1 ⟨false, 0, [], 0⟩)
      ({ calZ with name := nm, kind := k, shape := 5, month := m }, decide (0 < m))
    else if 0 < k ∧ k < 3 ∧ w.length = 3 then
      let d := placeW days (w.getD 1 ⟨false, 0, [], 0⟩)
      let m := placeW mons (w.getD 2 ⟨false, 0, [], 0⟩)
      ({ calZ with name := nm, kind := k, day := d, month := m }, decide (0 < d) && decide (0 < m))
    else ({ calZ with name := nm, kind := k }, false)
/-- What another key's words say; whether they may be. -/
def keyK (key : Bytes) (c : CalL) (w : List WordL) : CalL × Bool :=
  let w0 := w.headD ⟨false, 0, [], 0⟩
  if key = b_periods then
    if w.all (·.num) then
      (if w.length = 1 then ({ c with shape := 2 }, decide (w0.n = 4))
       else if w.length = 3 then
         let b := (w.getD 1 ⟨false, 0, [], 0⟩).n
         let d := (w.getD 2 ⟨false, 0, [], 0⟩).n
         ({ c with shape := 1, p0 := w0.n, p1 := b, p2 := d }, patOk w0.n b d)
       else (c, false))
    else (c, false)
  else if key = b_named then
    let k := placeW shifts w0
    ({ c with shift := k - 1 }, decide (0 < k) && decide (w.length = 1))
  else if key = b_pay then ({ c with shape := 3, cycle := w0.n }, decide (w.length = 1) && w0.num && cycOk w0.n)
  else if key = b_extra then ({ c with extra := w0.n }, decide (w.length = 1) && w0.num && tween w0.n 1 52)
  else if key = b_serve then
    (if w.all (·.num) ∧ w.length = 2 then ({ c with first := w0.n, last := (w.getD 1 ⟨false, 0, [], 0⟩).n }, true) else (c, false))
  else
    let p := placeW pols w0
    ({ c with policy := p }, decide (0 < p) && decide (w.length = 1))
def putK (key : Bytes) (c : CalL) (w : List WordL) : CalL × Bool := if key = b_end then endK c.name w else keyK key c w

/-- Whether a key stands with an end. -/
def standsC (kind : Int) (key : Bytes) : Bool :=
  if key = b_named then decide (kind ≠ 3) && decide (kind ≠ 4) && decide (kind ≠ 5)
  else if key = b_periods ∨ key = b_pay ∨ key = b_extra then decide (kind ≠ 3) && decide (kind ≠ 4) && decide (kind ≠ 6)
  else true

structure CalR where
  cal : CalL
  at_ : Int
  err : Int
/-- Each item looked at by itself: the first that may not be; else what the end says, if there is one. -/
def formedL (nm : Bytes) : List Bytes → Option CalL → List NodeL → (Int × Int) ⊕ (Option CalL)
  | _, c, [] => .inr c
  | seen, c, k :: r =>
    if !keysL.contains k.name then .inl (k.pos, 8)
    else if seen.contains k.name then .inl (k.pos, 9)
    else if k.block || k.words.isEmpty || !(putK k.name { calZ with name := nm } k.words).2 then .inl (k.pos, 5)
    else formedL nm (seen ++ [k.name]) (if k.name = b_end then some (putK k.name { calZ with name := nm } k.words).1 else c) r
/-- The first key that does not stand with the end, or is the second shape. -/
def fitsL (kind : Int) : List Bytes → List NodeL → Option (Int × Int)
  | _, [] => none
  | seen, k :: r =>
    if !standsC kind k.name then some (k.pos, 8)
    else if (k.name = b_periods ∧ b_pay ∈ seen) ∨ (k.name = b_pay ∧ b_periods ∈ seen) then some (k.pos, 9)
    else fitsL kind (seen ++ [k.name]) r
def missL (kind : Int) (have_ : List Bytes) : Bool :=
  [b_named, b_periods, b_extra, b_serve, b_compare].any fun k => standsC kind k && !(have_.contains k || (decide (k = b_periods) && have_.contains b_pay))
def putAll (c : CalL) (l : List NodeL) : CalL := l.foldl (fun c k => if k.name = b_end then c else (keyK k.name c k.words).1) c
def readBlock (n : NodeL) : CalR :=
  let nm := (n.words.headD ⟨false, 0, [], 0⟩).s
  match formedL nm [] none n.kids with
  | .inl (p, e) => ⟨calZ, p, e⟩
  | .inr none => ⟨calZ, n.pos, 10⟩
  | .inr (some c) =>
    match fitsL c.kind [] n.kids with
    | some (p, e) => ⟨calZ, p, e⟩
    | none =>
      if missL c.kind (n.kids.map NodeL.name) then ⟨calZ, n.pos, 10⟩
      else if okC (putAll c n.kids) then ⟨putAll c n.kids, 0, 0⟩ else ⟨calZ, n.pos, 1⟩
def readC (n : NodeL) : CalR :=
  if checkL 0 [n] ≠ 0 then ⟨calZ, 0, 1⟩
  else if n.name ≠ b_calendar ∨ n.block = false ∨ n.words.length ≠ 1 ∨ (n.words.headD ⟨false, 0, [], 0⟩).num = true then ⟨calZ, n.pos, 5⟩
  else readBlock n

end Go.Proofs.Ytjbniichcopnlaa
