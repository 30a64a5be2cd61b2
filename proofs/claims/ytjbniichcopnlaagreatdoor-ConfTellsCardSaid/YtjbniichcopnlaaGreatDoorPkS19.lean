/- Layer 11 (field): the walks of many, between, fixed, weeks. Then: Arguments that are an item, a calendar, opened. Then: Layer 12 (conf), in plain Lean: calendars that may be, a text read as calendars, one looked up. Then: A map from texts to places, laid by the call itself in the order of the texts; a block of the heap laid anew. Then: Layer 11 (field): the walks of place of patterns, weeks. Then: Layer 11 (field): the walk of weeks. -/
import Derived.Test.YtjbniichcopnlaaGreatDoorPkS18
import Derived.Test.YtjbniichcopnlaaGreatDoorPkS7
import Derived.Laws.Closers25
import Derived.BigQuiet
import Derived.Lib.SmallJoins
import Derived.ChangeKeysEq
import Derived.Laws.IdiomArrays
import Derived.Test.YtjbniichcopnlaaGreatDoorPkS0
import Derived.Deep.RegionWith
namespace Go.Proofs.YtjbniichcopnlaaGreatDoor
section
set_option linter.unusedVariables false
set_option linter.unusedSimpArgs false
set_option maxRecDepth 100000
open Go.RowKit
def CalL.cells (c : CalL) : List Value:=[.string ⟨c.name.toArray⟩, .int .i64 c.kind, .int .i64 c.day, .int .i64 c.month, .int .i64 c.shift, .int .i64 c.shape, .int .i64 c.p0, .int .i64 c.p1, .int .i64 c.p2, .int .i64 c.cycle, .int .i64 c.extra, .int .i64 c.first, .int .i64 c.last, .int .i64 c.policy]
def calV (c : CalL) : Value:=.agg #[.string ⟨c.name.toArray⟩, .int .i64 c.kind, .int .i64 c.day, .int .i64 c.month, .int .i64 c.shift, .int .i64 c.shape, .int .i64 c.p0, .int .i64 c.p1, .int .i64 c.p2, .int .i64 c.cycle, .int .i64 c.extra, .int .i64 c.first, .int .i64 c.last, .int .i64 c.policy]
theorem field_between (n a b : Int) (w : World) : Calls Tryz.prog 38 #[.int .i64 n, .int .i64 a, .int .i64 b] w fun e w' => e = .returned (.bool (tween n a b)) ∧ w = w' := by
  unfold tween
  by_cases h1 : a ≤ n
  · by_cases h2 : n ≤ b
    · rw [decide_eq_true h1,decide_eq_true h2]
      go_enter Tryz.func38,Tryz.ntmps38
      go_wp2_with fail
      go_ret
      exact ⟨rfl,rfl⟩
    · rw [decide_eq_true h1,decide_eq_false h2]
      go_enter Tryz.func38,Tryz.ntmps38
      go_wp2_with fail
      go_ret
      exact ⟨rfl,rfl⟩
  · rw [decide_eq_false h1]
    go_enter Tryz.func38,Tryz.ntmps38
    go_wp2_with fail
    go_ret
    exact ⟨rfl,rfl⟩
theorem quo52 (c : Int) (h : 0 < c) : IntKind.i64.wrap (Int.tdiv 52 c) = 52 / c := by
  rw [wrap_i64_tdiv 52 c (by omega) (by omega) (by omega),Int.tdiv_eq_ediv_of_nonneg (by omega)]
theorem field_many (s c : Int) (w : World) : Calls Tryz.prog 99 #[.int .i64 s, .int .i64 c] w fun e w' => e = .returned (.int .i64 (manyC s c)) ∧ w = w' := by
  unfold manyC
  by_cases h2 : s = 2
  · subst h2
    rw [if_pos rfl]
    go_enter Tryz.func99,Tryz.ntmps99
    go_wp2_with fail
    go_ret
    exact ⟨rfl,rfl⟩
  rw [if_neg h2]
  have k2 : (s == 2) = false:=beq_false_of_ne h2
  by_cases h3 : s = 3
  · subst h3
    by_cases hc : 0 < c
    · rw [if_pos ⟨rfl,hc⟩]
      have q:=quo52 c hc
      have c0 : (c == 0) = false:=beq_false_of_ne (by omega)
      have c1 : c ≠ 0:=by omega
      go_enter Tryz.func99,Tryz.ntmps99
      go_wp2_with fail
      go_ret
      exact ⟨rfl,rfl⟩
    · rw [if_neg (fun h => hc h.2),if_pos (by omega)]
      go_enter Tryz.func99,Tryz.ntmps99
      go_wp2_with fail
      go_ret
      exact ⟨rfl,rfl⟩
  · rw [if_neg (fun h => h3 h.1)]
    have k3 : (s == 3) = false:=beq_false_of_ne h3
    by_cases h1 : 1 ≤ s
    · by_cases h5 : s ≤ 5
      · rw [if_pos ⟨h1,h5⟩]
        go_enter Tryz.func99,Tryz.ntmps99
        go_wp2_with fail
        go_ret
        exact ⟨rfl,rfl⟩
      · rw [if_neg (fun h => h5 h.2)]
        go_enter Tryz.func99,Tryz.ntmps99
        go_wp2_with fail
        go_ret
        exact ⟨rfl,rfl⟩
    · rw [if_neg (fun h => h1 h.1)]
      go_enter Tryz.func99,Tryz.ntmps99
      go_wp2_with fail
      go_ret
      exact ⟨rfl,rfl⟩
/-- What fixed tells. -/
def fixedR (k : Int) : CalL × Bool:=if k = 3 then (nrfC,true) else if k = 4 then (broadC,true) else (calZ,false)
theorem field_fixed (k : Int) (w : World) : Calls Tryz.prog 56 #[.int .i64 k] w fun e w' => e = .returned (.tuple #[calV (fixedR k).1, .bool (fixedR k).2]) ∧ Below w.heap.size w w' := by
  unfold fixedR
  by_cases h3 : k = 3
  · subst h3
    rw [if_pos rfl]
    go_enter Tryz.func56,Tryz.ntmps56
    go_wp2_with fail
    refine bodyPost_ret (v:=.tuple #[calV nrfC, .bool true]) (by simp [results,calV,nrfC,Tryz.results56,go_sem, *]) rfl ⟨rfl,?_⟩
    (repeat (first | exact Below.refl _ _ | assumption | refine Below.setCell ?_ (by first | (simp;done) | (simp;omega) | omega) _ | refine Below.alloc ?_ (by first | (simp;done) | (simp;omega) | omega) _ | refine Below.drew ?_ | refine below_drewN ?_ _ | refine Below.trans ?_ (Below.mono (by assumption) (by first | (simp;done) | (simp;omega) | omega))))
  rw [if_neg h3]
  have k3 : (k == 3) = false:=beq_false_of_ne h3
  by_cases h4 : k = 4
  · subst h4
    rw [if_pos rfl]
    go_enter Tryz.func56,Tryz.ntmps56
    go_wp2_with fail
    refine bodyPost_ret (v:=.tuple #[calV broadC, .bool true]) (by simp [results,calV,broadC,Tryz.results56,go_sem, *]) rfl ⟨rfl,?_⟩
    (repeat (first | exact Below.refl _ _ | assumption | refine Below.setCell ?_ (by first | (simp;done) | (simp;omega) | omega) _ | refine Below.alloc ?_ (by first | (simp;done) | (simp;omega) | omega) _ | refine Below.drew ?_ | refine below_drewN ?_ _ | refine Below.trans ?_ (Below.mono (by assumption) (by first | (simp;done) | (simp;omega) | omega))))
  rw [if_neg h4]
  have k4 : (k == 4) = false:=beq_false_of_ne h4
  go_enter Tryz.func56,Tryz.ntmps56
  go_wp2_with fail
  refine bodyPost_ret (v:=.tuple #[calV calZ, .bool false]) (by simp [results,calV,calZ,Tryz.results56,go_sem, *]) rfl ⟨rfl,?_⟩
  (repeat (first | exact Below.refl _ _ | assumption | refine Below.setCell ?_ (by first | (simp;done) | (simp;omega) | omega) _ | refine Below.alloc ?_ (by first | (simp;done) | (simp;omega) | omega) _ | refine Below.drew ?_ | refine below_drewN ?_ _ | refine Below.trans ?_ (Below.mono (by assumption) (by first | (simp;done) | (simp;omega) | omega))))
theorem und_pat : Tryz.prog.underlying 35 = some (.array 3 3):=by kernel_rfl
theorem info_int : ∃ i,Tryz.prog.info? 3 = some i := by
  have h : (Tryz.prog.info? 3).isSome = true:=by kernel_rfl
  exact Option.isSome_iff_exists.1 h
theorem cells_int : Tryz.prog.cellsOf 3 = 1:=by kernel_rfl
theorem run_eqPat (W : World) (a b c d e f : Int) : (binOp .eql 35 (.agg #[.int .i64 a, .int .i64 b, .int .i64 c]) (.agg #[.int .i64 d, .int .i64 e, .int .i64 f])).run Tryz.prog W = .ok (.bool (decide (a = d) && decide (b = e) && decide (c = f))) W := by
  obtain ⟨i,hi⟩:=info_int
  rw [run_eql_struct,run_equalIn_array W 9999 _ _ und_pat hi,cells_int]
  have h3 : List.range 3 = [0,1,2]:=rfl
  rw [h3]
  by_cases h1 : a = d <;> by_cases h2 : b = e <;> by_cases h3 : c = f <;> simp [go_sem,h1,h2,h3,Op.eqItems]
end
section
set_option maxRecDepth 100000
open Go.RowKit Go.WideShapes Go.ChangeShapes Go.WideElems Go.Deep
theorem cells_string : Tryz.prog.cellsOf 9 = 1:=by kernel_rfl
theorem cells_bool : Tryz.prog.cellsOf 4 = 1:=by kernel_rfl
theorem cells_pat : Tryz.prog.cellsOf 35 = 3:=by kernel_rfl
theorem cells_words : Tryz.prog.cellsOf 42 = 1:=by kernel_rfl
theorem cells_nodes : Tryz.prog.cellsOf 41 = 1:=by kernel_rfl
theorem arr5 {α : Type} (cs : Array α) (h : cs.size = 5) : ∃ a b c d e,cs = #[a,b,c,d,e] := by
  obtain ⟨l⟩:=cs
  match l,h with
  | [a,b,c,d,e],_ => exact ⟨a,b,c,d,e,rfl⟩
theorem arr14 {α : Type} (cs : Array α) (h : cs.size = 14) : ∃ a b c d e f g i j k l m n o,cs = #[a,b,c,d,e,f,g,i,j,k,l,m,n,o] := by
  obtain ⟨x⟩:=cs
  match x,h with
  | [a,b,c,d,e,f,g,i,j,k,l,m,n,o],_ => exact ⟨a,b,c,d,e,f,g,i,j,k,l,m,n,o,rfl⟩
theorem open_node {H : Type} {enc : TypeId × Value → H} {w : World} {base : Nat} {spare : Nat → Bool} {held : Bool} {v : Value} {d : DataW H} {ps : List MemPlace} {r : Reach} {b0 : Nat}
    (hval : Value.okWide Tryz.prog w r b0 44 v) (hd : DataW.Trod enc Tryz.prog w base spare held 44 v d ps) :
    ∃ (cs : List Value) (n : NodeL),v = .agg cs.toArray ∧ NodeOk w (· < w.heap.size) n cs ∧ fitN n:=by
  obtain ⟨cs,rfl,hsz⟩:=okWide_struct Tryz.underlying44 hval
  obtain ⟨c0,c1,c2,c3,c4,rfl⟩:=arr5 cs (hsz.trans (by kernel_rfl))
  obtain ⟨fuel,hf⟩:=hd
  obtain ⟨xs,n,_,_,_,hlen,hfs⟩:=DataW.trod_struct Tryz.underlying44 hf
  have hlen' : xs.length = 5:=hlen
  have t0:=hfs 0 _ rfl
  have t1:=hfs 1 _ rfl
  have t2:=hfs 2 _ rfl
  have t3:=hfs 3 _ rfl
  have t4:=hfs 4 _ rfl
  rw [List.getElem?_eq_getElem (by omega)] at t0 t1 t2 t3 t4
  simp only [List.getElem_toArray,List.getElem_cons_zero,List.getElem_cons_succ] at t0 t1 t2 t3 t4
  rw [cells_string] at t0
  rw [cells_int] at t1
  rw [cells_words] at t2
  rw [cells_bool] at t3
  rw [cells_nodes] at t4
  obtain ⟨k0,h0,_,w0⟩:=DataW.trod_string Tryz.underlying9 t0
  obtain ⟨k1,h1,_,w1⟩:=DataW.trod_int (k:=.i64) Tryz.underlying3 t1
  obtain ⟨Aw,cw,ws,h2,g1,g2,g3,g4⟩:=open_words t2
  obtain ⟨k3,h3,_⟩:=DataW.trod_bool Tryz.underlying4 t3
  obtain ⟨Ak,ck,ks,h4,g5,⟨kcs,g6,g7⟩,g8,g9⟩:=open_nodes_fuel (n + 1) n (by omega) t4
  simp [Value.cells] at h0 h1 h2 h3 h4
  subst h0 h1 h2 h3 h4
  refine ⟨[.string k0, .int .i64 k1, .slice Aw ws.length cw, .bool k3, .slice Ak ks.length ck], .mk k0.data.toList k1 ws k3 ks,rfl,?_,⟨by rw [ba_len];exact w0,g3,g4,g8,g9⟩⟩
  simp only [NodeOk]
  exact ⟨Aw,cw,Ak,ck,kcs,by simp,g1,g5,g2,g6,g7⟩
theorem open_cal {H : Type} {enc : TypeId × Value → H} {w : World} {base : Nat} {spare : Nat → Bool} {held : Bool} {v : Value} {d : DataW H} {ps : List MemPlace} {r : Reach} {b0 : Nat}
    (hval : Value.okWide Tryz.prog w r b0 37 v) (hd : DataW.Trod enc Tryz.prog w base spare held 37 v d ps) :
    ∃ c : CalL,v = calV c ∧ c.name.length ≤ maxLen:=by
  obtain ⟨cs,rfl,hsz⟩:=okWide_struct Tryz.underlying37 hval
  obtain ⟨c0,c1,c2,c3,c4,c5,c6,c7,c8,c9,c10,c11,c12,c13,rfl⟩:=arr14 cs (hsz.trans (by kernel_rfl))
  obtain ⟨fuel,hf⟩:=hd
  obtain ⟨xs,n,_,_,_,hlen,hfs⟩:=DataW.trod_struct Tryz.underlying37 hf
  have hlen' : xs.length = 12:=hlen
  have t0:=hfs 0 _ rfl
  have t1:=hfs 1 _ rfl
  have t2:=hfs 2 _ rfl
  have t3:=hfs 3 _ rfl
  have t4:=hfs 4 _ rfl
  have t5:=hfs 5 _ rfl
  have t6:=hfs 6 _ rfl
  have t7:=hfs 7 _ rfl
  have t8:=hfs 8 _ rfl
  have t9:=hfs 9 _ rfl
  have t10:=hfs 10 _ rfl
  have t11:=hfs 11 _ rfl
  rw [List.getElem?_eq_getElem (by omega)] at t0 t1 t2 t3 t4 t5 t6 t7 t8 t9 t10 t11
  simp only [List.getElem_toArray,List.getElem_cons_zero,List.getElem_cons_succ] at t0 t1 t2 t3 t4 t5 t6 t7 t8 t9 t10 t11
  rw [cells_string] at t0
  rw [cells_int] at t1 t2 t3 t4 t5 t7 t8 t9 t10 t11
  rw [cells_pat] at t6
  simp only [Value.cells,List.drop_succ_cons,List.drop_zero,List.take_succ_cons,List.take_zero] at t0 t1 t2 t3 t4 t5 t6 t7 t8 t9 t10 t11
  obtain ⟨y0,y1,y2,m,_,p0,p1,p2⟩:=trod_array3 und_pat cells_int t6
  obtain ⟨k0,h0,_,w0⟩:=DataW.trod_string Tryz.underlying9 t0
  obtain ⟨k1,h1,_,_⟩:=DataW.trod_int (k:=.i64) Tryz.underlying3 t1
  obtain ⟨k2,h2,_,_⟩:=DataW.trod_int (k:=.i64) Tryz.underlying3 t2
  obtain ⟨k3,h3,_,_⟩:=DataW.trod_int (k:=.i64) Tryz.underlying3 t3
  obtain ⟨k4,h4,_,_⟩:=DataW.trod_int (k:=.i64) Tryz.underlying3 t4
  obtain ⟨k5,h5,_,_⟩:=DataW.trod_int (k:=.i64) Tryz.underlying3 t5
  obtain ⟨q0,e0,_,_⟩:=DataW.trod_int (k:=.i64) Tryz.underlying3 p0
  obtain ⟨q1,e1,_,_⟩:=DataW.trod_int (k:=.i64) Tryz.underlying3 p1
  obtain ⟨q2,e2,_,_⟩:=DataW.trod_int (k:=.i64) Tryz.underlying3 p2
  obtain ⟨k7,h7,_,_⟩:=DataW.trod_int (k:=.i64) Tryz.underlying3 t7
  obtain ⟨k8,h8,_,_⟩:=DataW.trod_int (k:=.i64) Tryz.underlying3 t8
  obtain ⟨k9,h9,_,_⟩:=DataW.trod_int (k:=.i64) Tryz.underlying3 t9
  obtain ⟨k10,h10,_,_⟩:=DataW.trod_int (k:=.i64) Tryz.underlying3 t10
  obtain ⟨k11,h11,_,_⟩:=DataW.trod_int (k:=.i64) Tryz.underlying3 t11
  simp only [List.cons.injEq,and_true] at h0 h1 h2 h3 h4 h5 h7 h8 h9 h10 h11 e0 e1 e2
  subst h0 h1 h2 h3 h4 h5 h7 h8 h9 h10 h11 e0 e1 e2
  exact ⟨⟨k0.data.toList,k1,k2,k3,k4,k5,q0,q1,q2,k7,k8,k9,k10,k11⟩,by simp [calV],by rw [ba_len];exact w0⟩
end
section
/-- Calendars that may be,behind those of the names seen. -/
def confGo : List Bytes → List CalL → Int
  | _,[] => 0
  | seen,c :: r => if errC c ≠ 0 then errC c else if seen.contains c.name then 9 else confGo (seen ++ [c.name]) r
def confC (l : List CalL) : Int:=if 32 < l.length then 6 else confGo [] l
structure ConfR where
  cals : List CalL
  pos : Int
  err : Int
/-- Items read as calendars,behind those that were read. -/
def readGo : List CalL → List NodeL → ConfR
  | out,[] => ⟨out,0,0⟩
  | out,n :: r =>
    if out.length = 32 then ⟨[],n.pos,6⟩
    else if (readC n).err ≠ 0 then ⟨[],(readC n).at_,(readC n).err⟩
    else if (out.map CalL.name).contains (readC n).cal.name then ⟨[],n.pos,9⟩
    else readGo (out ++ [(readC n).cal]) r
def confRead (s : Bytes) : ConfR:=if (treeL s).err ≠ 0 then ⟨[],(treeL s).pos,(treeL s).err⟩ else readGo [] (treeL s).nodes
def findGo (name : Bytes) : List CalL → CalL × Int
  | [] => (calZ,13)
  | c :: r => if c.name = name then (c,0) else findGo name r
def findC (l : List CalL) (name : Bytes) : CalL × Int:=if confC l ≠ 0 then (calZ,confC l) else findGo name l
theorem readGo_done (out : List CalL) : readGo out [] = ⟨out,0,0⟩:=rfl
theorem readGo_long (out : List CalL) (n : NodeL) (r : List NodeL) (h : out.length = 32) : readGo out (n :: r) = ⟨[],n.pos,6⟩:=by rw [readGo,if_pos h]
theorem readGo_bad (out : List CalL) (n : NodeL) (r : List NodeL) (h : out.length ≠ 32) (h1 : (readC n).err ≠ 0) : readGo out (n :: r) = ⟨[],(readC n).at_,(readC n).err⟩:=by rw [readGo,if_neg h,if_pos h1]
theorem readGo_twice (out : List CalL) (n : NodeL) (r : List NodeL) (h : out.length ≠ 32) (h1 : (readC n).err = 0) (h2 : (out.map CalL.name).contains (readC n).cal.name = true) : readGo out (n :: r) = ⟨[],n.pos,9⟩ := by
  rw [readGo,if_neg h,if_neg (by simp [h1]),if_pos h2]
theorem readGo_on (out : List CalL) (n : NodeL) (r : List NodeL) (h : out.length ≠ 32) (h1 : (readC n).err = 0) (h2 : (out.map CalL.name).contains (readC n).cal.name = false) : readGo out (n :: r) = readGo (out ++ [(readC n).cal]) r := by
  rw [readGo,if_neg h,if_neg (by simp [h1]),if_neg (by rw [h2];decide)]
end
section
set_option linter.unusedVariables false
set_option linter.unusedSimpArgs false
open Go.RowKit
theorem toList_mk (a : Bytes) : (ByteArray.mk a.toArray).toList = a := by
  rw [ByteArray.toList_eq]
theorem ba_injM (a s : Bytes) : (ByteArray.mk a.toArray = ByteArray.mk s.toArray) ↔ a = s := by
  constructor
  · intro h
    injection h with h
    simpa using h
  · intro h;rw [h]
theorem sameKey_str (a b : Bytes) : sameKey (.string ⟨a.toArray⟩) (.string ⟨b.toArray⟩) = decide (a = b) := by
  show (ByteArray.mk a.toArray == ByteArray.mk b.toArray) = decide (a = b)
  rw [beq_toListBytes,toList_mk,toList_mk]
  by_cases h : a = b <;> simp [h]
/-- Block b laid anew. -/
def setB (w : World) (b : Nat) (o : Obj) : World:={ w with heap:=w.heap.setIfInBounds b o }
theorem setB_size (w : World) (b : Nat) (o : Obj) : (setB w b o).heap.size = w.heap.size:=by simp [setB]
theorem setB_new (w : World) (b : Nat) (o : Obj) (h : b < w.heap.size) : (setB w b o).heap[b]? = some o:=by simp [setB,h]
theorem setB_other (w : World) (b k : Nat) (o : Obj) (h : k ≠ b) : (setB w b o).heap[k]? = w.heap[k]? := by
  show (w.heap.setIfInBounds b o)[k]? = _
  rw [Array.getElem?_setIfInBounds]
  simp [Ne.symm h]
theorem setB_cell (w : World) (b : Nat) (o : Obj) (p : Addr) (h : p.block ≠ b) : (setB w b o).cell? p = w.cell? p := by
  unfold World.cell?
  rw [setB_other w b p.block o h]
theorem setB_frozen (w : World) (b : Nat) (o : Obj) (p : Addr) (h : p.block ≠ b) : (setB w b o).frozen? p = w.frozen? p := by
  unfold World.frozen?
  rw [setB_other w b p.block o h]
theorem Below.setB {B : Nat} {w w' : World} (h : Below B w w') {b : Nat} (hb : B ≤ b) (o : Obj) : Below B w (setB w' b o) :=
  ⟨h.os,h.tape,h.output,by rw [setB_size];exact h.size,fun k hk => by rw [setB_other w' b k o (by omega)];exact h.block k hk⟩
attribute [irreducible] setB
/-- The entries: each text's place. -/
def atL : List Bytes → Nat → List MapEntry
  | [],_ => []
  | s :: r,i => ⟨.string ⟨s.toArray⟩, .int .i64 i,i⟩ :: atL r (i + 1)
def atMap (l : List Bytes) : Array MapEntry:=(atL l 0).toArray
def atV (l : List Bytes) (s : Bytes) : Int:=if l.contains s then (l.idxOf s : Int) else 0
theorem atL_snoc : ∀ (l : List Bytes) (s : Bytes) (i : Nat),atL (l ++ [s]) i = atL l i ++ [⟨.string ⟨s.toArray⟩, .int .i64 (i + l.length : Nat),i + l.length⟩]
  | [],s,i => by simp [atL]
  | a :: r,s,i => by
    simp only [List.cons_append,atL,List.length_cons]
    rw [atL_snoc r s (i + 1),show i + 1 + r.length = i + (r.length + 1) by omega]
theorem atL_keys : ∀ (l : List Bytes) (i : Nat),∀ e ∈ atL l i,KeyOk .string e.key
  | [],_,e,he => by simp [atL] at he
  | a :: r,i,e,he => by
    simp only [atL,List.mem_cons] at he
    rcases he with rfl | he
    · exact KeyOk.str _
    · exact atL_keys r (i + 1) e he
theorem atL_find : ∀ (l : List Bytes) (s : Bytes) (i j : Nat),((findE (.string ⟨s.toArray⟩) (atL l i) j).map (·.2)).getD (.int .i64 0) = .int .i64 (if l.contains s then ((i + l.idxOf s : Nat) : Int) else 0) ∧ (findE (.string ⟨s.toArray⟩) (atL l i) j).isSome = l.contains s
  | [],s,i,j => by simp [atL,findE]
  | a :: r,s,i,j => by
    have ih:=atL_find r s (i + 1) (j + 1)
    simp only [atL,findE,sameKey_str,decide_eq_true_eq,List.contains_cons,List.idxOf_cons]
    by_cases h : s = a
    · subst h;simp
    · have h1 : (s == a) = false := beq_false_of_ne h
      have h2 : (a == s) = false:=beq_false_of_ne (Ne.symm h)
      rw [if_neg h,h1,h2,Bool.false_or]
      refine ⟨ih.1.trans ?_,ih.2⟩
      by_cases hc : r.contains s = true
      · rw [if_pos hc,if_pos hc];simp;omega
      · rw [if_neg hc,if_neg hc]
section
variable {P : Program} {T K E : TypeId}
theorem run_at_look (hT : P.underlying T = some (.map K E)) (hK : P.underlying K = some .string) (hz : ∀ w,(zeroValue E).run P w = .ok (.int .i64 0) w) (W : World) (g c : Nat) (l : List Bytes) (s : Bytes) (hb : W.heap[g]? = some (.map (atMap l) c)) :
    (Instr.lookup T (.map (some g)) (.string ⟨s.toArray⟩) true).run P W = .ok (.tuple #[.int .i64 (atV l s), .bool (l.contains s)]) W:=by
  have h:=run_lookup_ok (k:=.string ⟨s.toArray⟩) hT hK (KeyOk.str _) (fun e he => atL_keys l 0 e (by simpa [atMap] using he)) (hz W) hb
  have hf:=atL_find l s 0 0
  refine h.trans ?_
  have e : (atMap l).toList = atL l 0:=by simp [atMap]
  rw [e,hf.1,hf.2,Nat.zero_add]
  rfl
theorem run_at_put (hT : P.underlying T = some (.map K E)) (hK : P.underlying K = some .string) (W : World) (g : Nat) (l : List Bytes) (s : Bytes) (hb : W.heap[g]? = some (.map (atMap l) l.length)) (hn : l.contains s = false) :
    (Instr.mapUpdate T (.map (some g)) (.string ⟨s.toArray⟩) (.int .i64 (l.length : Nat))).run P W = .ok () (setB W g (.map (atMap (l ++ [s])) (l ++ [s]).length)):=by
  have hf:=(atL_find l s 0 0).2
  rw [hn] at hf
  have e : (atMap l).toList = atL l 0:=by simp [atMap]
  have h := run_mapUpdate_new (k := .string ⟨s.toArray⟩) (v := .int .i64 (l.length : Nat)) hT hK (KeyOk.str _) (fun x he => atL_keys l 0 x (by rw [← e]; exact he)) (by rw [e]; cases hh : findE (.string ⟨s.toArray⟩) (atL l 0) 0 with
    | none => rfl
    | some _ => rw [hh] at hf;cases hf) hb
  refine h.trans ?_
  unfold setB
  congr 3
  have e2:=atL_snoc l s 0
  rw [Nat.zero_add] at e2
  simp only [atMap,e2,List.length_append,List.length_cons,List.length_nil]
  congr 1
  simp
end
end
section
set_option linter.unusedVariables false
set_option linter.unusedSimpArgs false
set_option maxRecDepth 100000
open Go.RowKit
open Go.Joins renaming cell_of_block → zb, unfrozen_of_block → zu
open Go.Lib renaming hid → zh
def patAt (k : Nat) (a b c : Int) : Bool :=
  match k with
  | 0 => decide (a = 4) && decide (b = 4) && decide (c = 5)
  | 1 => decide (a = 4) && decide (b = 5) && decide (c = 4)
  | _ => decide (a = 5) && decide (b = 4) && decide (c = 4)
/-- The first pattern from the k-th on. -/
def patFrom (k : Nat) (a b c : Int) : Int :=
  match k with
  | 0 => if patAt 0 a b c then 0 else if patAt 1 a b c then 1 else if patAt 2 a b c then 2 else -1
  | 1 => if patAt 1 a b c then 1 else if patAt 2 a b c then 2 else -1
  | 2 => if patAt 2 a b c then 2 else -1
  | _ => -1
theorem patFrom_step (k : Nat) (a b c : Int) (hk : k < 3) : patFrom k a b c = if patAt k a b c then (k : Int) else patFrom (k + 1) a b c := by
  obtain rfl | rfl | rfl : k = 0 ∨ k = 1 ∨ k = 2:=by omega
  all_goals rfl
theorem patFrom_ok (a b c : Int) : decide (0 < patFrom 0 a b c + 1) = patOk a b c := by
  unfold patFrom patOk
  show decide (0 < (if patAt 0 a b c then (0 : Int) else if patAt 1 a b c then 1 else if patAt 2 a b c then 2 else -1) + 1) = (patAt 0 a b c || patAt 1 a b c || patAt 2 a b c)
  cases patAt 0 a b c <;> cases patAt 1 a b c <;> cases patAt 2 a b c <;> rfl
theorem patFrom_rng (a b c : Int) : -1 ≤ patFrom 0 a b c ∧ patFrom 0 a b c ≤ 2 := by
  unfold patFrom
  cases patAt 0 a b c <;> cases patAt 1 a b c <;> cases patAt 2 a b c <;> simp
def PatBlk (w : World) (g : Nat) : Prop:=∃ T,w.heap[g]? = some (.cells #[.int .i64 4, .int .i64 4, .int .i64 5, .int .i64 4, .int .i64 5, .int .i64 4, .int .i64 5, .int .i64 4, .int .i64 4] T (0,0))
theorem PatBlk.keep {w w' : World} {g : Nat} (h : PatBlk w g) (hb : Below w.heap.size w w') : PatBlk w' g := by
  obtain ⟨T,h⟩:=h
  exact ⟨T,(hb.block g (Array.getElem?_eq_some_iff.1 h).1).trans h⟩
set_option maxHeartbeats 2000000 in
theorem idx_pat (a b c : Int) (g : Nat) (w : World) (hg : PatBlk w g) :
    Calls Tryz.prog 120 #[.slice (some ⟨g,0,none⟩) 3 3, .agg #[.int .i64 a, .int .i64 b, .int .i64 c]] w fun e w' => e = .returned (.int .i64 (patFrom 0 a b c)) ∧ Below w.heap.size w w':=by
  obtain ⟨T,hg⟩:=hg
  have hglt:=(Array.getElem?_eq_some_iff.1 hg).1
  have HG:=zh hg
  have hb0 : Below w.heap.size w (w.alloc (.cells #[.int .i64 a, .int .i64 b, .int .i64 c] 35)):=(Below.refl _ _).alloc (Nat.le_refl _) _
  have HB0:=zh hb0
  have hbx : (w.alloc (.cells #[.int .i64 a, .int .i64 b, .int .i64 c] 35)).heap[w.heap.size]? = some (.cells #[.int .i64 a, .int .i64 b, .int .i64 c] 35 (0,0)):=heap_alloc_new _ _
  have HX:=zh hbx
  clear hg hb0 hbx
  go_enter Tryz.func120,Tryz.ntmps120
  go_wp2_with fail
  go_loopw [8] (fun i wr => ∃ k : Nat,k ≤ 3 ∧ i = .int .i64 k ∧ Below w.heap.size w wr ∧ wr.heap[w.heap.size]? = some (.cells #[.int .i64 a, .int .i64 b, .int .i64 c] 35 (0,0)) ∧ patFrom 0 a b c = patFrom k a b c) (fun i _ => 3 - (intOf i).toNat)
  case atStart => exact ⟨0,by omega,rfl,HB0.out,HX.out,rfl⟩
  case round =>
    obtain ⟨k,hk,rfl,hb,hx,hp⟩:=hrel
    have HB:=zh hb
    have hgr:=(hb.block g hglt).trans HG.out
    have x0:=zb hx 0
    have x1:=zb hx 1
    have x2:=zb hx 2
    have HXr:=zh hx
    by_cases hlt : k < 3
    · rw [patFrom_step k a b c hlt] at hp
      have lk : (k : Int) < 3:=by omega
      have lk0 : (0 : Int) ≤ k:=by omega
      have w1f : IntKind.i64.wrap ((k : Int) + 1) = (k : Int) + 1:=by rw [IntKind.wrap_i64];omega
      obtain ⟨p,q,r,hq,e0,e1,e2⟩ : ∃ p q r : Int,(decide (a = p) && decide (b = q) && decide (c = r)) = patAt k a b c ∧ wr.cell? ⟨g,k * 3,none⟩ = some (.int .i64 p) ∧ wr.cell? ⟨g,k * 3 + 1,none⟩ = some (.int .i64 q) ∧ wr.cell? ⟨g,k * 3 + 2,none⟩ = some (.int .i64 r) := by
        obtain rfl | rfl | rfl : k = 0 ∨ k = 1 ∨ k = 2:=by omega
        · exact ⟨4,4,5,rfl,zb hgr 0,zb hgr 1,zb hgr 2⟩
        · exact ⟨4,5,4,rfl,zb hgr 3,zb hgr 4,zb hgr 5⟩
        · exact ⟨5,4,4,rfl,zb hgr 6,zb hgr 7,zb hgr 8⟩
      have heq:=fun W => run_eqPat W a b c p q r
      rw [hq] at heq
      clear hb hgr hx hq
      cases hpa : patAt k a b c
      · rw [hpa] at heq hp
        have HP:=zh hp
        clear hpa hp
        go_wp2_with fail
        go_quiet (fail)
        go_wp2_with fail
        exact ⟨⟨k + 1,by omega,by go_num,below_drewN HB.out _,HXr.out,HP.out⟩,by simp [intOf];omega⟩
      · rw [hpa] at heq hp
        have HP:=zh hp
        clear hpa hp
        go_wp2_with fail
        go_quiet (fail)
        go_wp2_with fail
        go_ret
        exact ⟨by rw [HP.out];rfl,below_drewN HB.out _⟩
    · have lk : ¬ (k : Int) < 3 := by omega
      have hk3 : k = 3:=by omega
      have HP:=zh (show patFrom 0 a b c = -1 by rw [hp,hk3];rfl)
      clear hp hb hx hgr x0 x1 x2
      go_wp2_with fail
      go_ret
      exact ⟨by rw [HP.out];rfl,HB.out⟩
end
section
set_option linter.unusedVariables false
set_option linter.unusedSimpArgs false
set_option maxRecDepth 100000
open Go.RowKit
open Go.Joins renaming cell_of_block → zb, unfrozen_of_block → zu
open Go.Lib renaming hid → zh
theorem field_patterns (w : World) : Calls Tryz.prog 98 #[] w fun e w' => e = .returned (.slice (some ⟨w.heap.size,0,none⟩) 3 3) ∧ PatBlk w' w.heap.size ∧ Below w.heap.size w w' := by
  go_enter Tryz.func98,Tryz.ntmps98
  go_wp2_with fail
  go_ret
  refine ⟨rfl,⟨_,heap_alloc_new w _⟩,?_⟩
  (repeat (first | exact Below.refl _ _ | assumption | refine Below.setCell ?_ (by first | (simp;done) | (simp;omega) | omega) _ | refine Below.alloc ?_ (by first | (simp;done) | (simp;omega) | omega) _ | refine Below.drew ?_ | refine below_drewN ?_ _ | refine Below.trans ?_ (Below.mono (by assumption) (by first | (simp;done) | (simp;omega) | omega))))
theorem place_pat (a b c : Int) (g : Nat) (w : World) (hg : PatBlk w g) :
    Calls Tryz.prog 97 #[.slice (some ⟨g,0,none⟩) 3 3, .agg #[.int .i64 a, .int .i64 b, .int .i64 c]] w fun e w' => e = .returned (.int .i64 (patFrom 0 a b c + 1)) ∧ Below w.heap.size w w':=by
  have hb0 : Below w.heap.size w (w.alloc (.cells #[.int .i64 a, .int .i64 b, .int .i64 c] 35)):=(Below.refl _ _).alloc (Nat.le_refl _) _
  have HB0:=zh hb0
  have HI:=zh (idx_pat a b c g _ (hg.keep hb0))
  obtain ⟨h1,h2⟩:=patFrom_rng a b c
  have wf : IntKind.i64.wrap (patFrom 0 a b c + 1) = patFrom 0 a b c + 1:=by rw [IntKind.wrap_i64];omega
  generalize patFrom 0 a b c = z at *
  clear hg hb0
  go_enter Tryz.func97,Tryz.ntmps97
  go_wp2_with fail
  refine HI.out.mono ?_
  rintro e w1 ⟨rfl,hb1⟩
  have HB1:=zh (HB0.out.trans (hb1.mono HB0.out.size))
  clear hb1
  go_wp2_with fail
  go_ret
  exact ⟨rfl,HB1.out⟩
theorem quiet_left {P : Program} {f : FuncId} {args : Array Value} {w : World} {n : Nat} {v : Value}
    (h : Calls P f args (w.drewN n) fun e w' => e = .returned v ∧ w.drewN n = w') : Calls P f args (w.drewN n) fun e w'' => e = .returned v ∧ ∃ m,w'' = w.drewN m :=
  h.mono fun _ _ ⟨he,hm⟩ => ⟨he,n,hm.symm⟩
theorem quiet_add_left {P : Program} {f : FuncId} {args : Array Value} {w : World} {a n : Nat} {v : Value}
    (h : Calls P f args (w.drewN (a + n)) fun e w' => e = .returned v ∧ w.drewN (a + n) = w') :
    Calls P f args ((w.drewN a).drewN n) fun e w'' => e = .returned v ∧ ∃ m,w'' = (w.drewN a).drewN m:=by
  rw [World.drewN_drewN]
  exact h.mono fun _ _ ⟨he,hm⟩ => ⟨he,n,by rw [World.drewN_drewN];exact hm.symm⟩
/-- The block of a calendar. -/
def CalBlk (w : World) (g : Nat) (c : CalL) : Prop:=w.heap[g]? = some (.cells #[.string ⟨c.name.toArray⟩, .int .i64 c.kind, .int .i64 c.day, .int .i64 c.month, .int .i64 c.shift, .int .i64 c.shape, .int .i64 c.p0, .int .i64 c.p1, .int .i64 c.p2, .int .i64 c.cycle, .int .i64 c.extra, .int .i64 c.first, .int .i64 c.last, .int .i64 c.policy] 37 (0,0))
theorem CalBlk.keep {w w' : World} {g : Nat} {c : CalL} (h : CalBlk w g c) (hb : Below w.heap.size w w') : CalBlk w' g c:=(hb.block g (Array.getElem?_eq_some_iff.1 h).1).trans h
theorem CalBlk.lt {w : World} {g : Nat} {c : CalL} (h : CalBlk w g c) : g < w.heap.size:=(Array.getElem?_eq_some_iff.1 h).1
/-- The fourteen cells of a block,at once. -/
theorem cells14 {W : World} {g : Nat} {a0 a1 a2 a3 a4 a5 a6 a7 a8 a9 a10 a11 a12 a13 : Value} {T : TypeId} (h : W.heap[g]? = some (.cells #[a0,a1,a2,a3,a4,a5,a6,a7,a8,a9,a10,a11,a12,a13] T (0,0))) : W.cell? ⟨g,0,none⟩ = some a0 ∧ W.cell? ⟨g,1,none⟩ = some a1 ∧ W.cell? ⟨g,2,none⟩ = some a2 ∧ W.cell? ⟨g,3,none⟩ = some a3 ∧ W.cell? ⟨g,4,none⟩ = some a4 ∧ W.cell? ⟨g,5,none⟩ = some a5 ∧ W.cell? ⟨g,6,none⟩ = some a6 ∧ W.cell? ⟨g,7,none⟩ = some a7 ∧ W.cell? ⟨g,8,none⟩ = some a8 ∧ W.cell? ⟨g,9,none⟩ = some a9 ∧ W.cell? ⟨g,10,none⟩ = some a10 ∧ W.cell? ⟨g,11,none⟩ = some a11 ∧ W.cell? ⟨g,12,none⟩ = some a12 ∧ W.cell? ⟨g,13,none⟩ = some a13 :=
  ⟨zb h 0,zb h 1,zb h 2,zb h 3,zb h 4,zb h 5,zb h 6,zb h 7,zb h 8,zb h 9,zb h 10,zb h 11,zb h 12,zb h 13⟩
theorem unf14 {W : World} {g : Nat} {cs : Array Value} {T : TypeId} (h : W.heap[g]? = some (.cells cs T (0,0))) : W.frozen? ⟨g,0,none⟩ = false ∧ W.frozen? ⟨g,1,none⟩ = false ∧ W.frozen? ⟨g,2,none⟩ = false ∧ W.frozen? ⟨g,3,none⟩ = false ∧ W.frozen? ⟨g,4,none⟩ = false ∧ W.frozen? ⟨g,5,none⟩ = false ∧ W.frozen? ⟨g,6,none⟩ = false ∧ W.frozen? ⟨g,7,none⟩ = false ∧ W.frozen? ⟨g,8,none⟩ = false ∧ W.frozen? ⟨g,9,none⟩ = false ∧ W.frozen? ⟨g,10,none⟩ = false ∧ W.frozen? ⟨g,11,none⟩ = false ∧ W.frozen? ⟨g,12,none⟩ = false ∧ W.frozen? ⟨g,13,none⟩ = false :=
  ⟨zu h 0,zu h 1,zu h 2,zu h 3,zu h 4,zu h 5,zu h 6,zu h 7,zu h 8,zu h 9,zu h 10,zu h 11,zu h 12,zu h 13⟩
end
end Go.Proofs.YtjbniichcopnlaaGreatDoor
