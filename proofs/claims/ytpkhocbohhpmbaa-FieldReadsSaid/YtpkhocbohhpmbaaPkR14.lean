/- Layer 11 (field), in plain Lean: calendars, what may be, and how a block is read. No program in sight. Then: Layer 11 (field): the walks of many, between, fixed, weeks. Then: Arguments that are an item, a calendar, opened. Then: An argument that is an item: its slices have room. Then: Layer 11 (field): the walks of place of patterns, weeks. -/
import Derived.Test.YtpkhocbohhpmbaaPkR3
import Derived.Test.YtpkhocbohhpmbaaPkR4
import Derived.Laws.Closers25
import Derived.BigQuiet
import Derived.Lib.SmallJoins
import Derived.ChangeKeysEq
import Derived.Test.YtpkhocbohhpmbaaPkR13
import Derived.Laws.IdiomArrays
import Derived.Deep.RegionWith
namespace Go.Proofs.Ytpkhocbohhpmbaa
section
structure CalL where
  name : Bytes
  kind : Int
  day : Int
  month : Int
  shift : Int
  shape : Int
  p0 : Int
  p1 : Int
  p2 : Int
  cycle : Int
  extra : Int
  first : Int
  last : Int
  policy : Int
  deriving DecidableEq
def calZ : CalL:=⟨[],0,0,0,0,0,0,0,0,0,0,0,0,0⟩
def days : List Bytes:=[[109,111,110],[116,117,101],[119,101,100],[116,104,117],[102,114,105],[115,97,116],[115,117,110]]
def mons : List Bytes:=[[106,97,110],[102,101,98],[109,97,114],[97,112,114],[109,97,121],[106,117,110],[106,117,108],[97,117,103],[115,101,112],[111,99,116],[110,111,118],[100,101,99]]
def endsL : List Bytes:=[[108,97,115,116],[110,101,97,114],[110,114,102],[98,114,111,97,100,99,97,115,116],[105,115,111],[109,111,110,116,104]]
def pols : List Bytes:=[[115,116,97,114,116],[115,104,105,102,116],[100,114,111,112],[99,108,97,109,112]]
def shifts : List Bytes:=[[108,97,115,116],[102,105,114,115,116]]
def keysL : List Bytes:=[[101,110,100],[112,101,114,105,111,100,115],[110,97,109,101,100],[112,97,121],[101,120,116,114,97],[115,101,114,118,101],[99,111,109,112,97,114,101]]
def b_end : Bytes:=[101,110,100]
def b_periods : Bytes:=[112,101,114,105,111,100,115]
def b_named : Bytes:=[110,97,109,101,100]
def b_pay : Bytes:=[112,97,121]
def b_extra : Bytes:=[101,120,116,114,97]
def b_serve : Bytes:=[115,101,114,118,101]
def b_compare : Bytes:=[99,111,109,112,97,114,101]
def b_calendar : Bytes:=[99,97,108,101,110,100,97,114]
/-- Where a word stands among names,from 1 on;0: nowhere. -/
def posL : List Bytes → Bytes → Int
  | [],_ => 0
  | a :: r,s => if a = s then 1 else if posL r s = 0 then 0 else posL r s + 1
def placeW (l : List Bytes) (w : WordL) : Int:=if w.num then 0 else posL l w.s
def tween (n a b : Int) : Bool:=decide (a ≤ n) && decide (n ≤ b)
def manyC (shape cycle : Int) : Int:=if shape = 2 then 13 else if shape = 3 ∧ 0 < cycle then 52 / cycle else if 1 ≤ shape ∧ shape ≤ 5 then 12 else 0
def patOk (a b c : Int) : Bool:=(decide (a = 4) && decide (b = 4) && decide (c = 5)) || (decide (a = 4) && decide (b = 5) && decide (c = 4)) || (decide (a = 5) && decide (b = 4) && decide (c = 4))
def patZ (c : CalL) : Bool:=decide (c.p0 = 0) && decide (c.p1 = 0) && decide (c.p2 = 0)
def cycOk (n : Int) : Bool:=decide (n = 1) || decide (n = 2) || decide (n = 4)
/-- Whether a shape of weeks may be. -/
def weeksC (c : CalL) : Bool :=
  if c.shape = 1 then patOk c.p0 c.p1 c.p2 && decide (c.cycle = 0) && tween c.extra 1 (manyC c.shape c.cycle)
  else if c.shape = 2 then patZ c && decide (c.cycle = 0) && tween c.extra 1 (manyC c.shape c.cycle)
  else if c.shape = 3 then patZ c && cycOk c.cycle && tween c.extra 1 (manyC c.shape c.cycle)
  else false
def nrfC : CalL:=⟨[],3,6,1,1,1,4,5,4,0,12,0,0,0⟩
def broadC : CalL:=⟨[],4,7,12,0,4,0,0,0,0,12,0,0,0⟩
def fixedC (kind : Int) : Option CalL:=if kind = 3 then some nrfC else if kind = 4 then some broadC else none
/-- Whether the rule,and the shape,may be. -/
def ruledC (c : CalL) : Bool :=
  match fixedC c.kind with
  | some f => decide (c = { f with name:=c.name,first:=c.first,last:=c.last,policy:=c.policy })
  | none =>
    if !tween c.month 1 12 || !tween c.shift 0 1 then false
    else if c.kind = 1 ∨ c.kind = 2 then tween c.day 1 7 && weeksC c
    else if c.kind = 5 then decide (c.day = 7) && decide (c.month = 12) && decide (c.shift = 0) && weeksC c
    else if c.kind = 6 then decide (c.day = 0) && decide (c.shape = 5) && patZ c && decide (c.cycle = 0) && decide (c.extra = 0)
    else false
def servedC (c : CalL) : Bool:=decide (1602 ≤ c.first) && decide (c.last ≤ 9996) && decide (c.first ≤ c.last) && decide (c.last - c.first < 400)
def policyC (c : CalL) : Bool:=tween c.policy 1 4 && (decide (c.policy = 4) == decide (c.kind = 6))
/-- Whether a calendar may be. -/
def okC (c : CalL) : Bool:=servedC c && policyC c && nameL c.name && ruledC c
def periodsC (c : CalL) : Int:=if okC c then manyC c.shape c.cycle else 0
def errC (c : CalL) : Int:=if okC c then 0 else 1
/-! ### A block read -/
/-- What an end's words say;whether they may be. -/
def endK (nm : Bytes) (w : List WordL) : CalL × Bool :=
  let k:=placeW endsL (w.headD ⟨false,0,[],0⟩)
  match fixedC k with
  | some f => ({ f with name:=nm },decide (w.length = 1))
  | none =>
    if k = 5 then ({ calZ with name:=nm,kind:=k,day:=7,month:=12 },decide (w.length = 1))
    else if k = 6 ∧ w.length = 2 then
      let m:=placeW mons (w.getD 1 ⟨false,0,[],0⟩)
      ({ calZ with name:=nm,kind:=k,shape:=5,month:=m },decide (0 < m))
    else if 0 < k ∧ k < 3 ∧ w.length = 3 then
      let d:=placeW days (w.getD 1 ⟨false,0,[],0⟩)
      let m:=placeW mons (w.getD 2 ⟨false,0,[],0⟩)
      ({ calZ with name:=nm,kind:=k,day:=d,month:=m },decide (0 < d) && decide (0 < m))
    else ({ calZ with name:=nm,kind:=k },false)
/-- What another key's words say;whether they may be. -/
def keyK (key : Bytes) (c : CalL) (w : List WordL) : CalL × Bool :=
  let w0:=w.headD ⟨false,0,[],0⟩
  if key = b_periods then
    if w.all (·.num) then
      (if w.length = 1 then ({ c with shape := 2 },decide (w0.n = 4))
       else if w.length = 3 then
         let b:=(w.getD 1 ⟨false,0,[],0⟩).n
         let d:=(w.getD 2 ⟨false,0,[],0⟩).n
         ({ c with shape:=1,p0:=w0.n,p1:=b,p2:=d },patOk w0.n b d)
       else (c,false))
    else (c,false)
  else if key = b_named then
    let k:=placeW shifts w0
    ({ c with shift:=k - 1 },decide (0 < k) && decide (w.length = 1))
  else if key = b_pay then ({ c with shape:=3,cycle:=w0.n },decide (w.length = 1) && w0.num && cycOk w0.n)
  else if key = b_extra then ({ c with extra:=w0.n },decide (w.length = 1) && w0.num && tween w0.n 1 52)
  else if key = b_serve then
    (if w.all (·.num) ∧ w.length = 2 then ({ c with first:=w0.n,last:=(w.getD 1 ⟨false,0,[],0⟩).n },true) else (c,false))
  else
    let p:=placeW pols w0
    ({ c with policy:=p },decide (0 < p) && decide (w.length = 1))
def putK (key : Bytes) (c : CalL) (w : List WordL) : CalL × Bool:=if key = b_end then endK c.name w else keyK key c w
/-- Whether a key stands with an end. -/
def standsC (kind : Int) (key : Bytes) : Bool :=
  if key = b_named then decide (kind ≠ 3) && decide (kind ≠ 4) && decide (kind ≠ 5)
  else if key = b_periods ∨ key = b_pay ∨ key = b_extra then decide (kind ≠ 3) && decide (kind ≠ 4) && decide (kind ≠ 6)
  else true
structure CalR where
  cal : CalL
  at_ : Int
  err : Int
/-- Each item looked at by itself: the first that may not be;else what the end says,if there is one. -/
def formedL (nm : Bytes) : List Bytes → Option CalL → List NodeL → (Int × Int) ⊕ (Option CalL)
  | _,c,[] => .inr c
  | seen,c,k :: r =>
    if !keysL.contains k.name then .inl (k.pos,8)
    else if seen.contains k.name then .inl (k.pos,9)
    else if k.block || k.words.isEmpty || !(putK k.name { calZ with name:=nm } k.words).2 then .inl (k.pos,5)
    else formedL nm (seen ++ [k.name]) (if k.name = b_end then some (putK k.name { calZ with name:=nm } k.words).1 else c) r
/-- The first key that does not stand with the end,or is the second shape. -/
def fitsL (kind : Int) : List Bytes → List NodeL → Option (Int × Int)
  | _,[] => none
  | seen,k :: r =>
    if !standsC kind k.name then some (k.pos,8)
    else if (k.name = b_periods ∧ b_pay ∈ seen) ∨ (k.name = b_pay ∧ b_periods ∈ seen) then some (k.pos,9)
    else fitsL kind (seen ++ [k.name]) r
def missL (kind : Int) (have_ : List Bytes) : Bool :=
  [b_named,b_periods,b_extra,b_serve,b_compare].any fun k => standsC kind k && !(have_.contains k || (decide (k = b_periods) && have_.contains b_pay))
def putAll (c : CalL) (l : List NodeL) : CalL:=l.foldl (fun c k => if k.name = b_end then c else (keyK k.name c k.words).1) c
def readBlock (n : NodeL) : CalR :=
  let nm:=(n.words.headD ⟨false,0,[],0⟩).s
  match formedL nm [] none n.kids with
  | .inl (p,e) => ⟨calZ,p,e⟩
  | .inr none => ⟨calZ,n.pos,10⟩
  | .inr (some c) =>
    match fitsL c.kind [] n.kids with
    | some (p,e) => ⟨calZ,p,e⟩
    | none =>
      if missL c.kind (n.kids.map NodeL.name) then ⟨calZ,n.pos,10⟩
      else if okC (putAll c n.kids) then ⟨putAll c n.kids,0,0⟩ else ⟨calZ,n.pos,1⟩
def readC (n : NodeL) : CalR :=
  if checkL 0 [n] ≠ 0 then ⟨calZ,0,1⟩
  else if n.name ≠ b_calendar ∨ n.block = false ∨ n.words.length ≠ 1 ∨ (n.words.headD ⟨false,0,[],0⟩).num = true then ⟨calZ,n.pos,5⟩
  else readBlock n
end
section
set_option linter.unusedVariables false
set_option linter.unusedSimpArgs false
set_option maxRecDepth 100000
open Go.RowKit
def CalL.cells (c : CalL) : List Value:=[.string ⟨c.name.toArray⟩, .int .i64 c.kind, .int .i64 c.day, .int .i64 c.month, .int .i64 c.shift, .int .i64 c.shape, .int .i64 c.p0, .int .i64 c.p1, .int .i64 c.p2, .int .i64 c.cycle, .int .i64 c.extra, .int .i64 c.first, .int .i64 c.last, .int .i64 c.policy]
def calV (c : CalL) : Value:=.agg #[.string ⟨c.name.toArray⟩, .int .i64 c.kind, .int .i64 c.day, .int .i64 c.month, .int .i64 c.shift, .int .i64 c.shape, .int .i64 c.p0, .int .i64 c.p1, .int .i64 c.p2, .int .i64 c.cycle, .int .i64 c.extra, .int .i64 c.first, .int .i64 c.last, .int .i64 c.policy]
theorem field_between (n a b : Int) (w : World) : Calls Try.prog 39 #[.int .i64 n, .int .i64 a, .int .i64 b] w fun e w' => e = .returned (.bool (tween n a b)) ∧ w = w' := by
  unfold tween
  by_cases h1 : a ≤ n
  · by_cases h2 : n ≤ b
    · rw [decide_eq_true h1,decide_eq_true h2]
      go_enter Try.func39,Try.ntmps39
      go_wp2_with fail
      go_ret
      exact ⟨rfl,rfl⟩
    · rw [decide_eq_true h1,decide_eq_false h2]
      go_enter Try.func39,Try.ntmps39
      go_wp2_with fail
      go_ret
      exact ⟨rfl,rfl⟩
  · rw [decide_eq_false h1]
    go_enter Try.func39,Try.ntmps39
    go_wp2_with fail
    go_ret
    exact ⟨rfl,rfl⟩
theorem quo52 (c : Int) (h : 0 < c) : IntKind.i64.wrap (Int.tdiv 52 c) = 52 / c := by
  rw [wrap_i64_tdiv 52 c (by omega) (by omega) (by omega),Int.tdiv_eq_ediv_of_nonneg (by omega)]
theorem field_many (s c : Int) (w : World) : Calls Try.prog 36 #[.int .i64 s, .int .i64 c] w fun e w' => e = .returned (.int .i64 (manyC s c)) ∧ w = w' := by
  unfold manyC
  by_cases h2 : s = 2
  · subst h2
    rw [if_pos rfl]
    go_enter Try.func36,Try.ntmps36
    go_wp2_with fail
    go_ret
    exact ⟨rfl,rfl⟩
  rw [if_neg h2]
  have k2 : (s == 2) = false:=beq_false_of_ne h2
  by_cases h3 : s = 3
  · subst h3
    by_cases hc : 0 < c
    · rw [if_pos ⟨rfl,hc⟩]
      have q:=quo52 c hc
      have c0 : (c == 0) = false:=beq_false_of_ne (by omega)
      have c1 : c ≠ 0:=by omega
      go_enter Try.func36,Try.ntmps36
      go_wp2_with fail
      go_ret
      exact ⟨rfl,rfl⟩
    · rw [if_neg (fun h => hc h.2),if_pos (by omega)]
      go_enter Try.func36,Try.ntmps36
      go_wp2_with fail
      go_ret
      exact ⟨rfl,rfl⟩
  · rw [if_neg (fun h => h3 h.1)]
    have k3 : (s == 3) = false:=beq_false_of_ne h3
    by_cases h1 : 1 ≤ s
    · by_cases h5 : s ≤ 5
      · rw [if_pos ⟨h1,h5⟩]
        go_enter Try.func36,Try.ntmps36
        go_wp2_with fail
        go_ret
        exact ⟨rfl,rfl⟩
      · rw [if_neg (fun h => h5 h.2)]
        go_enter Try.func36,Try.ntmps36
        go_wp2_with fail
        go_ret
        exact ⟨rfl,rfl⟩
    · rw [if_neg (fun h => h1 h.1)]
      go_enter Try.func36,Try.ntmps36
      go_wp2_with fail
      go_ret
      exact ⟨rfl,rfl⟩
/-- What fixed tells. -/
def fixedR (k : Int) : CalL × Bool:=if k = 3 then (nrfC,true) else if k = 4 then (broadC,true) else (calZ,false)
theorem field_fixed (k : Int) (w : World) : Calls Try.prog 60 #[.int .i64 k] w fun e w' => e = .returned (.tuple #[calV (fixedR k).1, .bool (fixedR k).2]) ∧ Below w.heap.size w w' := by
  unfold fixedR
  by_cases h3 : k = 3
  · subst h3
    rw [if_pos rfl]
    go_enter Try.func60,Try.ntmps60
    go_wp2_with fail
    refine bodyPost_ret (v:=.tuple #[calV nrfC, .bool true]) (by simp [results,calV,nrfC,Try.results60,go_sem, *]) rfl ⟨rfl,?_⟩
    (repeat (first | exact Below.refl _ _ | assumption | refine Below.setCell ?_ (by first | (simp;done) | (simp;omega) | omega) _ | refine Below.alloc ?_ (by first | (simp;done) | (simp;omega) | omega) _ | refine Below.drew ?_ | refine below_drewN ?_ _ | refine Below.trans ?_ (Below.mono (by assumption) (by first | (simp;done) | (simp;omega) | omega))))
  rw [if_neg h3]
  have k3 : (k == 3) = false:=beq_false_of_ne h3
  by_cases h4 : k = 4
  · subst h4
    rw [if_pos rfl]
    go_enter Try.func60,Try.ntmps60
    go_wp2_with fail
    refine bodyPost_ret (v:=.tuple #[calV broadC, .bool true]) (by simp [results,calV,broadC,Try.results60,go_sem, *]) rfl ⟨rfl,?_⟩
    (repeat (first | exact Below.refl _ _ | assumption | refine Below.setCell ?_ (by first | (simp;done) | (simp;omega) | omega) _ | refine Below.alloc ?_ (by first | (simp;done) | (simp;omega) | omega) _ | refine Below.drew ?_ | refine below_drewN ?_ _ | refine Below.trans ?_ (Below.mono (by assumption) (by first | (simp;done) | (simp;omega) | omega))))
  rw [if_neg h4]
  have k4 : (k == 4) = false:=beq_false_of_ne h4
  go_enter Try.func60,Try.ntmps60
  go_wp2_with fail
  refine bodyPost_ret (v:=.tuple #[calV calZ, .bool false]) (by simp [results,calV,calZ,Try.results60,go_sem, *]) rfl ⟨rfl,?_⟩
  (repeat (first | exact Below.refl _ _ | assumption | refine Below.setCell ?_ (by first | (simp;done) | (simp;omega) | omega) _ | refine Below.alloc ?_ (by first | (simp;done) | (simp;omega) | omega) _ | refine Below.drew ?_ | refine below_drewN ?_ _ | refine Below.trans ?_ (Below.mono (by assumption) (by first | (simp;done) | (simp;omega) | omega))))
theorem und_pat : Try.prog.underlying 28 = some (.array 3 3):=by kernel_rfl
theorem info_int : ∃ i,Try.prog.info? 3 = some i := by
  have h : (Try.prog.info? 3).isSome = true:=by kernel_rfl
  exact Option.isSome_iff_exists.1 h
theorem cells_int : Try.prog.cellsOf 3 = 1:=by kernel_rfl
theorem run_eqPat (W : World) (a b c d e f : Int) : (binOp .eql 28 (.agg #[.int .i64 a, .int .i64 b, .int .i64 c]) (.agg #[.int .i64 d, .int .i64 e, .int .i64 f])).run Try.prog W = .ok (.bool (decide (a = d) && decide (b = e) && decide (c = f))) W := by
  obtain ⟨i,hi⟩:=info_int
  rw [run_eql_struct,run_equalIn_array W 9999 _ _ und_pat hi,cells_int]
  have h3 : List.range 3 = [0,1,2]:=rfl
  rw [h3]
  by_cases h1 : a = d <;> by_cases h2 : b = e <;> by_cases h3 : c = f <;> simp [go_sem,h1,h2,h3,Op.eqItems]
end
section
set_option maxRecDepth 100000
open Go.RowKit Go.WideShapes Go.ChangeShapes Go.WideElems Go.Deep
theorem cells_string : Try.prog.cellsOf 9 = 1:=by kernel_rfl
theorem cells_bool : Try.prog.cellsOf 4 = 1:=by kernel_rfl
theorem cells_pat : Try.prog.cellsOf 28 = 3:=by kernel_rfl
theorem cells_words : Try.prog.cellsOf 22 = 1:=by kernel_rfl
theorem cells_nodes : Try.prog.cellsOf 23 = 1:=by kernel_rfl
theorem arr5 {α : Type} (cs : Array α) (h : cs.size = 5) : ∃ a b c d e,cs = #[a,b,c,d,e] := by
  obtain ⟨l⟩:=cs
  match l,h with
  | [a,b,c,d,e],_ => exact ⟨a,b,c,d,e,rfl⟩
theorem arr14 {α : Type} (cs : Array α) (h : cs.size = 14) : ∃ a b c d e f g i j k l m n o,cs = #[a,b,c,d,e,f,g,i,j,k,l,m,n,o] := by
  obtain ⟨x⟩:=cs
  match x,h with
  | [a,b,c,d,e,f,g,i,j,k,l,m,n,o],_ => exact ⟨a,b,c,d,e,f,g,i,j,k,l,m,n,o,rfl⟩
theorem open_node {H : Type} {enc : TypeId × Value → H} {w : World} {base : Nat} {spare : Nat → Bool} {held : Bool} {v : Value} {d : DataW H} {ps : List MemPlace} {r : Reach} {b0 : Nat}
    (hval : Value.okWide Try.prog w r b0 25 v) (hd : DataW.Trod enc Try.prog w base spare held 25 v d ps) :
    ∃ (cs : List Value) (n : NodeL),v = .agg cs.toArray ∧ NodeOk w (· < w.heap.size) n cs ∧ fitN n:=by
  obtain ⟨cs,rfl,hsz⟩:=okWide_struct Try.underlying25 hval
  obtain ⟨c0,c1,c2,c3,c4,rfl⟩:=arr5 cs (hsz.trans (by kernel_rfl))
  obtain ⟨fuel,hf⟩:=hd
  obtain ⟨xs,n,_,_,_,hlen,hfs⟩:=DataW.trod_struct Try.underlying25 hf
  have hlen' : xs.length = 5:=hlen
  have t0:=hfs 0 _ rfl
  have t1:=hfs 1 _ rfl
  have t2:=hfs 2 _ rfl
  have t3:=hfs 3 _ rfl
  have t4:=hfs 4 _ rfl
  rw [List.getElem?_eq_getElem (by omega)] at t0 t1 t2 t3 t4
  simp only [List.getElem_toArray,List.getElem_cons_zero,List.getElem_cons_succ] at t0 t1 t2 t3 t4
  rw [cells_string] at t0
  rw [cells_int] at t1
  rw [cells_words] at t2
  rw [cells_bool] at t3
  rw [cells_nodes] at t4
  obtain ⟨k0,h0,_,w0⟩:=DataW.trod_string Try.underlying9 t0
  obtain ⟨k1,h1,_,w1⟩:=DataW.trod_int (k:=.i64) Try.underlying3 t1
  obtain ⟨Aw,cw,ws,h2,g1,g2,g3,g4⟩:=open_words t2
  obtain ⟨k3,h3,_⟩:=DataW.trod_bool Try.underlying4 t3
  obtain ⟨Ak,ck,ks,h4,g5,⟨kcs,g6,g7⟩,g8,g9⟩:=open_nodes_fuel (n + 1) n (by omega) t4
  simp [Value.cells] at h0 h1 h2 h3 h4
  subst h0 h1 h2 h3 h4
  refine ⟨[.string k0, .int .i64 k1, .slice Aw ws.length cw, .bool k3, .slice Ak ks.length ck], .mk k0.data.toList k1 ws k3 ks,rfl,?_,⟨by rw [ba_len];exact w0,g3,g4,g8,g9⟩⟩
  simp only [NodeOk]
  exact ⟨Aw,cw,Ak,ck,kcs,by simp,g1,g5,g2,g6,g7⟩
theorem open_cal {H : Type} {enc : TypeId × Value → H} {w : World} {base : Nat} {spare : Nat → Bool} {held : Bool} {v : Value} {d : DataW H} {ps : List MemPlace} {r : Reach} {b0 : Nat}
    (hval : Value.okWide Try.prog w r b0 30 v) (hd : DataW.Trod enc Try.prog w base spare held 30 v d ps) :
    ∃ c : CalL,v = calV c ∧ c.name.length ≤ maxLen:=by
  obtain ⟨cs,rfl,hsz⟩:=okWide_struct Try.underlying30 hval
  obtain ⟨c0,c1,c2,c3,c4,c5,c6,c7,c8,c9,c10,c11,c12,c13,rfl⟩:=arr14 cs (hsz.trans (by kernel_rfl))
  obtain ⟨fuel,hf⟩:=hd
  obtain ⟨xs,n,_,_,_,hlen,hfs⟩:=DataW.trod_struct Try.underlying30 hf
  have hlen' : xs.length = 12:=hlen
  have t0:=hfs 0 _ rfl
  have t1:=hfs 1 _ rfl
  have t2:=hfs 2 _ rfl
  have t3:=hfs 3 _ rfl
  have t4:=hfs 4 _ rfl
  have t5:=hfs 5 _ rfl
  have t6:=hfs 6 _ rfl
  have t7:=hfs 7 _ rfl
  have t8:=hfs 8 _ rfl
  have t9:=hfs 9 _ rfl
  have t10:=hfs 10 _ rfl
  have t11:=hfs 11 _ rfl
  rw [List.getElem?_eq_getElem (by omega)] at t0 t1 t2 t3 t4 t5 t6 t7 t8 t9 t10 t11
  simp only [List.getElem_toArray,List.getElem_cons_zero,List.getElem_cons_succ] at t0 t1 t2 t3 t4 t5 t6 t7 t8 t9 t10 t11
  rw [cells_string] at t0
  rw [cells_int] at t1 t2 t3 t4 t5 t7 t8 t9 t10 t11
  rw [cells_pat] at t6
  simp only [Value.cells,List.drop_succ_cons,List.drop_zero,List.take_succ_cons,List.take_zero] at t0 t1 t2 t3 t4 t5 t6 t7 t8 t9 t10 t11
  obtain ⟨y0,y1,y2,m,_,p0,p1,p2⟩:=trod_array3 und_pat cells_int t6
  obtain ⟨k0,h0,_,w0⟩:=DataW.trod_string Try.underlying9 t0
  obtain ⟨k1,h1,_,_⟩:=DataW.trod_int (k:=.i64) Try.underlying3 t1
  obtain ⟨k2,h2,_,_⟩:=DataW.trod_int (k:=.i64) Try.underlying3 t2
  obtain ⟨k3,h3,_,_⟩:=DataW.trod_int (k:=.i64) Try.underlying3 t3
  obtain ⟨k4,h4,_,_⟩:=DataW.trod_int (k:=.i64) Try.underlying3 t4
  obtain ⟨k5,h5,_,_⟩:=DataW.trod_int (k:=.i64) Try.underlying3 t5
  obtain ⟨q0,e0,_,_⟩:=DataW.trod_int (k:=.i64) Try.underlying3 p0
  obtain ⟨q1,e1,_,_⟩:=DataW.trod_int (k:=.i64) Try.underlying3 p1
  obtain ⟨q2,e2,_,_⟩:=DataW.trod_int (k:=.i64) Try.underlying3 p2
  obtain ⟨k7,h7,_,_⟩:=DataW.trod_int (k:=.i64) Try.underlying3 t7
  obtain ⟨k8,h8,_,_⟩:=DataW.trod_int (k:=.i64) Try.underlying3 t8
  obtain ⟨k9,h9,_,_⟩:=DataW.trod_int (k:=.i64) Try.underlying3 t9
  obtain ⟨k10,h10,_,_⟩:=DataW.trod_int (k:=.i64) Try.underlying3 t10
  obtain ⟨k11,h11,_,_⟩:=DataW.trod_int (k:=.i64) Try.underlying3 t11
  simp only [List.cons.injEq,and_true] at h0 h1 h2 h3 h4 h5 h7 h8 h9 h10 h11 e0 e1 e2
  subst h0 h1 h2 h3 h4 h5 h7 h8 h9 h10 h11 e0 e1 e2
  exact ⟨⟨k0.data.toList,k1,k2,k3,k4,k5,q0,q1,q2,k7,k8,k9,k10,k11⟩,by simp [calV],by rw [ba_len];exact w0⟩
end
section
set_option maxRecDepth 100000
open Go.RowKit Go.WideShapes Go.ChangeShapes Go.WideElems Go.Deep
theorem open_nodeC {H : Type} {enc : TypeId × Value → H} {w : World} {base : Nat} {spare : Nat → Bool} {held : Bool} {v : Value} {d : DataW H} {ps : List MemPlace} {r : Reach} {b0 : Nat}
    (hval : Value.okWide Try.prog w r b0 25 v) (hd : DataW.Trod enc Try.prog w base spare held 25 v d ps) :
    ∃ (cs : List Value) (n : NodeL),v = .agg cs.toArray ∧ NodeOk w (· < w.heap.size) n cs ∧ fitN n ∧ ∀ A m c,Value.slice A m c ∈ cs → m ≤ c:=by
  obtain ⟨cs,n,rfl,hn,hf⟩:=open_node hval hd
  refine ⟨cs,n,rfl,hn,hf,?_⟩
  have hlen:=hn.len
  obtain ⟨c0,c1,c2,c3,c4,hcs⟩:=arr5 cs.toArray (by simpa using hlen)
  have hcs' : cs = [c0,c1,c2,c3,c4]:=by simpa using congrArg Array.toList hcs
  subst hcs'
  obtain ⟨fuel,hf'⟩:=hd
  obtain ⟨xs,m,_,_,_,hxl,hfs⟩:=DataW.trod_struct Try.underlying25 hf'
  have hxl' : xs.length = 5:=hxl
  have t0:=hfs 0 _ rfl
  have t1:=hfs 1 _ rfl
  have t2:=hfs 2 _ rfl
  have t3:=hfs 3 _ rfl
  have t4:=hfs 4 _ rfl
  rw [List.getElem?_eq_getElem (by omega)] at t0 t1 t2 t3 t4
  simp only [List.getElem_toArray,List.getElem_cons_zero,List.getElem_cons_succ] at t0 t1 t2 t3 t4
  rw [cells_string] at t0
  rw [cells_int] at t1
  rw [cells_words] at t2
  rw [cells_bool] at t3
  rw [cells_nodes] at t4
  obtain ⟨k0,h0,_⟩:=DataW.trod_string Try.underlying9 t0
  obtain ⟨k1,h1,_⟩:=DataW.trod_int (k:=.i64) Try.underlying3 t1
  obtain ⟨k3,h3,_⟩:=DataW.trod_bool Try.underlying4 t3
  have h2:=open_slice_less Try.underlying22 Try.underlying47 (by kernel_rfl) (by kernel_rfl) t2
  have h4:=open_slice_less Try.underlying23 Try.underlying25 (by kernel_rfl) (by kernel_rfl) t4
  simp [Value.cells] at h0 h1 h2 h3 h4
  subst h0 h1 h3
  intro A j c hm
  simp only [List.mem_cons,List.not_mem_nil,or_false] at hm
  rcases hm with hm | hm | hm | hm | hm
  · cases hm
  · cases hm
  · rcases h2 with h2 | ⟨a,len,cap,h2,hl,_⟩
    · rw [h2] at hm;injection hm with _ e1 e2;omega
    · rw [h2] at hm;injection hm with _ e1 e2;omega
  · cases hm
  · rcases h4 with h4 | ⟨a,len,cap,h4,hl,_⟩
    · rw [h4] at hm;injection hm with _ e1 e2;omega
    · rw [h4] at hm;injection hm with _ e1 e2;omega
end
section
set_option linter.unusedVariables false
set_option linter.unusedSimpArgs false
set_option maxRecDepth 100000
open Go.RowKit
open Go.Joins renaming cell_of_block → zb, unfrozen_of_block → zu
open Go.Lib renaming hid → zh
def patAt (k : Nat) (a b c : Int) : Bool :=
  match k with
  | 0 => decide (a = 4) && decide (b = 4) && decide (c = 5)
  | 1 => decide (a = 4) && decide (b = 5) && decide (c = 4)
  | _ => decide (a = 5) && decide (b = 4) && decide (c = 4)
/-- The first pattern from the k-th on. -/
def patFrom (k : Nat) (a b c : Int) : Int :=
  match k with
  | 0 => if patAt 0 a b c then 0 else if patAt 1 a b c then 1 else if patAt 2 a b c then 2 else -1
  | 1 => if patAt 1 a b c then 1 else if patAt 2 a b c then 2 else -1
  | 2 => if patAt 2 a b c then 2 else -1
  | _ => -1
theorem patFrom_step (k : Nat) (a b c : Int) (hk : k < 3) : patFrom k a b c = if patAt k a b c then (k : Int) else patFrom (k + 1) a b c := by
  obtain rfl | rfl | rfl : k = 0 ∨ k = 1 ∨ k = 2:=by omega
  all_goals rfl
theorem patFrom_ok (a b c : Int) : decide (0 < patFrom 0 a b c + 1) = patOk a b c := by
  unfold patFrom patOk
  show decide (0 < (if patAt 0 a b c then (0 : Int) else if patAt 1 a b c then 1 else if patAt 2 a b c then 2 else -1) + 1) = (patAt 0 a b c || patAt 1 a b c || patAt 2 a b c)
  cases patAt 0 a b c <;> cases patAt 1 a b c <;> cases patAt 2 a b c <;> rfl
theorem patFrom_rng (a b c : Int) : -1 ≤ patFrom 0 a b c ∧ patFrom 0 a b c ≤ 2 := by
  unfold patFrom
  cases patAt 0 a b c <;> cases patAt 1 a b c <;> cases patAt 2 a b c <;> simp
def PatBlk (w : World) (g : Nat) : Prop:=∃ T,w.heap[g]? = some (.cells #[.int .i64 4, .int .i64 4, .int .i64 5, .int .i64 4, .int .i64 5, .int .i64 4, .int .i64 5, .int .i64 4, .int .i64 4] T (0,0))
theorem PatBlk.keep {w w' : World} {g : Nat} (h : PatBlk w g) (hb : Below w.heap.size w w') : PatBlk w' g := by
  obtain ⟨T,h⟩:=h
  exact ⟨T,(hb.block g (Array.getElem?_eq_some_iff.1 h).1).trans h⟩
set_option maxHeartbeats 2000000 in
theorem idx_pat (a b c : Int) (g : Nat) (w : World) (hg : PatBlk w g) :
    Calls Try.prog 85 #[.slice (some ⟨g,0,none⟩) 3 3, .agg #[.int .i64 a, .int .i64 b, .int .i64 c]] w fun e w' => e = .returned (.int .i64 (patFrom 0 a b c)) ∧ Below w.heap.size w w':=by
  obtain ⟨T,hg⟩:=hg
  have hglt:=(Array.getElem?_eq_some_iff.1 hg).1
  have HG:=zh hg
  have hb0 : Below w.heap.size w (w.alloc (.cells #[.int .i64 a, .int .i64 b, .int .i64 c] 28)):=(Below.refl _ _).alloc (Nat.le_refl _) _
  have HB0:=zh hb0
  have hbx : (w.alloc (.cells #[.int .i64 a, .int .i64 b, .int .i64 c] 28)).heap[w.heap.size]? = some (.cells #[.int .i64 a, .int .i64 b, .int .i64 c] 28 (0,0)):=heap_alloc_new _ _
  have HX:=zh hbx
  clear hg hb0 hbx
  go_enter Try.func85,Try.ntmps85
  go_wp2_with fail
  go_loopw [8] (fun i wr => ∃ k : Nat,k ≤ 3 ∧ i = .int .i64 k ∧ Below w.heap.size w wr ∧ wr.heap[w.heap.size]? = some (.cells #[.int .i64 a, .int .i64 b, .int .i64 c] 28 (0,0)) ∧ patFrom 0 a b c = patFrom k a b c) (fun i _ => 3 - (intOf i).toNat)
  case atStart => exact ⟨0,by omega,rfl,HB0.out,HX.out,rfl⟩
  case round =>
    obtain ⟨k,hk,rfl,hb,hx,hp⟩:=hrel
    have HB:=zh hb
    have hgr:=(hb.block g hglt).trans HG.out
    have x0:=zb hx 0
    have x1:=zb hx 1
    have x2:=zb hx 2
    have HXr:=zh hx
    by_cases hlt : k < 3
    · rw [patFrom_step k a b c hlt] at hp
      have lk : (k : Int) < 3:=by omega
      have lk0 : (0 : Int) ≤ k:=by omega
      have w1f : IntKind.i64.wrap ((k : Int) + 1) = (k : Int) + 1:=by rw [IntKind.wrap_i64];omega
      obtain ⟨p,q,r,hq,e0,e1,e2⟩ : ∃ p q r : Int,(decide (a = p) && decide (b = q) && decide (c = r)) = patAt k a b c ∧ wr.cell? ⟨g,k * 3,none⟩ = some (.int .i64 p) ∧ wr.cell? ⟨g,k * 3 + 1,none⟩ = some (.int .i64 q) ∧ wr.cell? ⟨g,k * 3 + 2,none⟩ = some (.int .i64 r) := by
        obtain rfl | rfl | rfl : k = 0 ∨ k = 1 ∨ k = 2:=by omega
        · exact ⟨4,4,5,rfl,zb hgr 0,zb hgr 1,zb hgr 2⟩
        · exact ⟨4,5,4,rfl,zb hgr 3,zb hgr 4,zb hgr 5⟩
        · exact ⟨5,4,4,rfl,zb hgr 6,zb hgr 7,zb hgr 8⟩
      have heq:=fun W => run_eqPat W a b c p q r
      rw [hq] at heq
      clear hb hgr hx hq
      cases hpa : patAt k a b c
      · rw [hpa] at heq hp
        have HP:=zh hp
        clear hpa hp
        go_wp2_with fail
        go_quiet (fail)
        go_wp2_with fail
        exact ⟨⟨k + 1,by omega,by go_num,below_drewN HB.out _,HXr.out,HP.out⟩,by simp [intOf];omega⟩
      · rw [hpa] at heq hp
        have HP:=zh hp
        clear hpa hp
        go_wp2_with fail
        go_quiet (fail)
        go_wp2_with fail
        go_ret
        exact ⟨by rw [HP.out];rfl,below_drewN HB.out _⟩
    · have lk : ¬ (k : Int) < 3 := by omega
      have hk3 : k = 3:=by omega
      have HP:=zh (show patFrom 0 a b c = -1 by rw [hp,hk3];rfl)
      clear hp hb hx hgr x0 x1 x2
      go_wp2_with fail
      go_ret
      exact ⟨by rw [HP.out];rfl,HB.out⟩
end
end Go.Proofs.Ytpkhocbohhpmbaa
