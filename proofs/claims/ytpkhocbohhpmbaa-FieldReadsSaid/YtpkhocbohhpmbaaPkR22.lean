/- A map from texts to places, laid by the call itself in the order of the texts; a block of the heap laid anew. Then: Layer 11 (field): the walks of keys, stands. Then: Layer 11 (field): the walks of named, compare. Then: Layer 11 (field): the walk of compare. -/
import Derived.Test.YtpkhocbohhpmbaaPkR0
import Derived.Test.YtpkhocbohhpmbaaPkR4
import Derived.Laws.Closers25
import Derived.Test.YtpkhocbohhpmbaaPkR19
import Derived.Test.YtpkhocbohhpmbaaPkR20
set_option linter.unusedVariables false
set_option linter.unusedSimpArgs false
namespace Go.Proofs.Ytpkhocbohhpmbaa
section
open Go.RowKit
theorem toList_mk (a : Bytes) : (ByteArray.mk a.toArray).toList = a := by
  rw [ByteArray.toList_eq]
theorem ba_injM (a s : Bytes) : (ByteArray.mk a.toArray = ByteArray.mk s.toArray) ↔ a = s := by
  constructor
  · intro h
    injection h with h
    simpa using h
  · intro h;rw [h]
theorem sameKey_str (a b : Bytes) : sameKey (.string ⟨a.toArray⟩) (.string ⟨b.toArray⟩) = decide (a = b) := by
  show (ByteArray.mk a.toArray == ByteArray.mk b.toArray) = decide (a = b)
  rw [beq_toListBytes,toList_mk,toList_mk]
  by_cases h : a = b <;> simp [h]
/-- Block b laid anew. -/
def setB (w : World) (b : Nat) (o : Obj) : World:={ w with heap:=w.heap.setIfInBounds b o }
theorem setB_size (w : World) (b : Nat) (o : Obj) : (setB w b o).heap.size = w.heap.size:=by simp [setB]
theorem setB_new (w : World) (b : Nat) (o : Obj) (h : b < w.heap.size) : (setB w b o).heap[b]? = some o:=by simp [setB,h]
theorem setB_other (w : World) (b k : Nat) (o : Obj) (h : k ≠ b) : (setB w b o).heap[k]? = w.heap[k]? := by
  show (w.heap.setIfInBounds b o)[k]? = _
  rw [Array.getElem?_setIfInBounds]
  simp [Ne.symm h]
theorem setB_cell (w : World) (b : Nat) (o : Obj) (p : Addr) (h : p.block ≠ b) : (setB w b o).cell? p = w.cell? p := by
  unfold World.cell?
  rw [setB_other w b p.block o h]
theorem setB_frozen (w : World) (b : Nat) (o : Obj) (p : Addr) (h : p.block ≠ b) : (setB w b o).frozen? p = w.frozen? p := by
  unfold World.frozen?
  rw [setB_other w b p.block o h]
theorem Below.setB {B : Nat} {w w' : World} (h : Below B w w') {b : Nat} (hb : B ≤ b) (o : Obj) : Below B w (setB w' b o) :=
  ⟨h.os,h.tape,h.output,by rw [setB_size];exact h.size,fun k hk => by rw [setB_other w' b k o (by omega)];exact h.block k hk⟩
attribute [irreducible] setB
/-- The entries: each text's place. -/
def atL : List Bytes → Nat → List MapEntry
  | [],_ => []
  | s :: r,i => ⟨.string ⟨s.toArray⟩, .int .i64 i,i⟩ :: atL r (i + 1)
def atMap (l : List Bytes) : Array MapEntry:=(atL l 0).toArray
def atV (l : List Bytes) (s : Bytes) : Int:=if l.contains s then (l.idxOf s : Int) else 0
theorem atL_snoc : ∀ (l : List Bytes) (s : Bytes) (i : Nat),atL (l ++ [s]) i = atL l i ++ [⟨.string ⟨s.toArray⟩, .int .i64 (i + l.length : Nat),i + l.length⟩]
  | [],s,i => by simp [atL]
  | a :: r,s,i => by
    simp only [List.cons_append,atL,List.length_cons]
    rw [atL_snoc r s (i + 1),show i + 1 + r.length = i + (r.length + 1) by omega]
theorem atL_keys : ∀ (l : List Bytes) (i : Nat),∀ e ∈ atL l i,KeyOk .string e.key
  | [],_,e,he => by simp [atL] at he
  | a :: r,i,e,he => by
    simp only [atL,List.mem_cons] at he
    rcases he with rfl | he
    · exact KeyOk.str _
    · exact atL_keys r (i + 1) e he
theorem atL_find : ∀ (l : List Bytes) (s : Bytes) (i j : Nat),((findE (.string ⟨s.toArray⟩) (atL l i) j).map (·.2)).getD (.int .i64 0) = .int .i64 (if l.contains s then ((i + l.idxOf s : Nat) : Int) else 0) ∧ (findE (.string ⟨s.toArray⟩) (atL l i) j).isSome = l.contains s
  | [],s,i,j => by simp [atL,findE]
  | a :: r,s,i,j => by
    have ih:=atL_find r s (i + 1) (j + 1)
    simp only [atL,findE,sameKey_str,decide_eq_true_eq,List.contains_cons,List.idxOf_cons]
    by_cases h : s = a
    · subst h;simp
    · have h1 : (s == a) = false := beq_false_of_ne h
      have h2 : (a == s) = false:=beq_false_of_ne (Ne.symm h)
      rw [if_neg h,h1,h2,Bool.false_or]
      refine ⟨ih.1.trans ?_,ih.2⟩
      by_cases hc : r.contains s = true
      · rw [if_pos hc,if_pos hc];simp;omega
      · rw [if_neg hc,if_neg hc]
section
variable {P : Program} {T K E : TypeId}
theorem run_at_look (hT : P.underlying T = some (.map K E)) (hK : P.underlying K = some .string) (hz : ∀ w,(zeroValue E).run P w = .ok (.int .i64 0) w) (W : World) (g c : Nat) (l : List Bytes) (s : Bytes) (hb : W.heap[g]? = some (.map (atMap l) c)) :
    (Instr.lookup T (.map (some g)) (.string ⟨s.toArray⟩) true).run P W = .ok (.tuple #[.int .i64 (atV l s), .bool (l.contains s)]) W:=by
  have h:=run_lookup_ok (k:=.string ⟨s.toArray⟩) hT hK (KeyOk.str _) (fun e he => atL_keys l 0 e (by simpa [atMap] using he)) (hz W) hb
  have hf:=atL_find l s 0 0
  refine h.trans ?_
  have e : (atMap l).toList = atL l 0:=by simp [atMap]
  rw [e,hf.1,hf.2,Nat.zero_add]
  rfl
theorem run_at_put (hT : P.underlying T = some (.map K E)) (hK : P.underlying K = some .string) (W : World) (g : Nat) (l : List Bytes) (s : Bytes) (hb : W.heap[g]? = some (.map (atMap l) l.length)) (hn : l.contains s = false) :
    (Instr.mapUpdate T (.map (some g)) (.string ⟨s.toArray⟩) (.int .i64 (l.length : Nat))).run P W = .ok () (setB W g (.map (atMap (l ++ [s])) (l ++ [s]).length)):=by
  have hf:=(atL_find l s 0 0).2
  rw [hn] at hf
  have e : (atMap l).toList = atL l 0:=by simp [atMap]
  have h := run_mapUpdate_new (k := .string ⟨s.toArray⟩) (v := .int .i64 (l.length : Nat)) hT hK (KeyOk.str _) (fun x he => atL_keys l 0 x (by rw [← e]; exact he)) (by rw [e]; cases hh : findE (.string ⟨s.toArray⟩) (atL l 0) 0 with
    | none => rfl
    | some _ => rw [hh] at hf;cases hf) hb
  refine h.trans ?_
  unfold setB
  congr 3
  have e2:=atL_snoc l s 0
  rw [Nat.zero_add] at e2
  simp only [atMap,e2,List.length_append,List.length_cons,List.length_nil]
  congr 1
  simp
end
end
section
set_option maxRecDepth 100000
open Go.RowKit
open Go.Lib renaming hid → zh
/-- The part of keys' map that is laid,as the walk names it. -/
theorem field_keys (w : World) : Calls Try.prog 21 #[] w fun e w' => e = .returned (.map (some w.heap.size)) ∧ w' = w.alloc (.map keyMap 7) := by
  have hmm:=@run_makeMap Try.prog
  have p0 : (Instr.mapUpdate 52 (.map (some w.heap.size)) (.string ⟨#[101,110,100]⟩) (.func (.func 48) #[] #[])).run Try.prog (w.alloc (.map #[] 0)) = .ok () (w.alloc (.map (keyMap.extract 0 1) 1)):=keyMap_put w 0 ⟨.string ⟨b_end.toArray⟩, .func (.func 48) #[] #[],0⟩ (by decide) rfl rfl
  have p1 : (Instr.mapUpdate 52 (.map (some w.heap.size)) (.string ⟨#[112,101,114,105,111,100,115]⟩) (.func (.func 49) #[] #[])).run Try.prog (w.alloc (.map (keyMap.extract 0 1) 1)) = .ok () (w.alloc (.map (keyMap.extract 0 2) 2)):=keyMap_put w 1 ⟨.string ⟨b_periods.toArray⟩, .func (.func 49) #[] #[],1⟩ (by decide) rfl rfl
  have p2 : (Instr.mapUpdate 52 (.map (some w.heap.size)) (.string ⟨#[110,97,109,101,100]⟩) (.func (.func 50) #[] #[])).run Try.prog (w.alloc (.map (keyMap.extract 0 2) 2)) = .ok () (w.alloc (.map (keyMap.extract 0 3) 3)):=keyMap_put w 2 ⟨.string ⟨b_named.toArray⟩, .func (.func 50) #[] #[],2⟩ (by decide) rfl rfl
  have p3 : (Instr.mapUpdate 52 (.map (some w.heap.size)) (.string ⟨#[112,97,121]⟩) (.func (.func 52) #[] #[])).run Try.prog (w.alloc (.map (keyMap.extract 0 3) 3)) = .ok () (w.alloc (.map (keyMap.extract 0 4) 4)):=keyMap_put w 3 ⟨.string ⟨b_pay.toArray⟩, .func (.func 52) #[] #[],3⟩ (by decide) rfl rfl
  have p4 : (Instr.mapUpdate 52 (.map (some w.heap.size)) (.string ⟨#[101,120,116,114,97]⟩) (.func (.func 54) #[] #[])).run Try.prog (w.alloc (.map (keyMap.extract 0 4) 4)) = .ok () (w.alloc (.map (keyMap.extract 0 5) 5)):=keyMap_put w 4 ⟨.string ⟨b_extra.toArray⟩, .func (.func 54) #[] #[],4⟩ (by decide) rfl rfl
  have p5 : (Instr.mapUpdate 52 (.map (some w.heap.size)) (.string ⟨#[115,101,114,118,101]⟩) (.func (.func 55) #[] #[])).run Try.prog (w.alloc (.map (keyMap.extract 0 5) 5)) = .ok () (w.alloc (.map (keyMap.extract 0 6) 6)):=keyMap_put w 5 ⟨.string ⟨b_serve.toArray⟩, .func (.func 55) #[] #[],5⟩ (by decide) rfl rfl
  have p6 : (Instr.mapUpdate 52 (.map (some w.heap.size)) (.string ⟨#[99,111,109,112,97,114,101]⟩) (.func (.func 57) #[] #[])).run Try.prog (w.alloc (.map (keyMap.extract 0 6) 6)) = .ok () (w.alloc (.map keyMap 7)):=keyMap_put w 6 ⟨.string ⟨b_compare.toArray⟩, .func (.func 57) #[] #[],6⟩ (by decide) rfl rfl
  generalize keyMap.extract 0 1 = m1 at *
  generalize keyMap.extract 0 2 = m2 at *
  generalize keyMap.extract 0 3 = m3 at *
  generalize keyMap.extract 0 4 = m4 at *
  generalize keyMap.extract 0 5 = m5 at *
  generalize keyMap.extract 0 6 = m6 at *
  generalize keyMap = m7 at *
  go_enter Try.func21,Try.ntmps21
  go_wp2_with fail
  go_ret
  exact ⟨rfl,rfl⟩
/-- What is told of a name: what its key does. -/
def keyFn (s : Bytes) : Value :=
  if s = b_end then .func (.func 48) #[] #[] else if s = b_periods then .func (.func 49) #[] #[] else if s = b_named then .func (.func 50) #[] #[] else
  if s = b_pay then .func (.func 52) #[] #[] else if s = b_extra then .func (.func 54) #[] #[] else if s = b_serve then .func (.func 55) #[] #[] else
  if s = b_compare then .func (.func 57) #[] #[] else .nilFunc
theorem keyMap_all : ∀ e ∈ keyMap.toList,KeyOk .string e.key:=keyMap_ok 7
theorem keyMap_find (s : Bytes) : ((findE (.string ⟨s.toArray⟩) keyMap.toList 0).map (·.2)).getD .nilFunc = keyFn s ∧ (findE (.string ⟨s.toArray⟩) keyMap.toList 0).isSome = keysL.contains s := by
  have e : keysL = [b_end,b_periods,b_named,b_pay,b_extra,b_serve,b_compare]:=rfl
  rw [e]
  unfold keyMap keyFn
  simp only [findE,sameKey_str,decide_eq_true_eq,List.contains_cons,List.contains_nil,Bool.or_false]
  by_cases h0 : s = b_end
  · simp [h0]
  by_cases h1 : s = b_periods
  · simp [h0,h1]
    rw [if_neg (by decide),if_neg (by decide)];exact ⟨rfl,by simp⟩
  by_cases h2 : s = b_named
  · simp [h2]
    simp [show b_named ≠ b_end by decide,show b_named ≠ b_periods by decide]
  by_cases h3 : s = b_pay
  · simp [h3]
    simp [show b_pay ≠ b_end by decide,show b_pay ≠ b_periods by decide,show b_pay ≠ b_named by decide]
  by_cases h4 : s = b_extra
  · simp [h4]
    simp [show b_extra ≠ b_end by decide,show b_extra ≠ b_periods by decide,show b_extra ≠ b_named by decide,show b_extra ≠ b_pay by decide]
  by_cases h5 : s = b_serve
  · simp [h5]
    simp [show b_serve ≠ b_end by decide,show b_serve ≠ b_periods by decide,show b_serve ≠ b_named by decide,show b_serve ≠ b_pay by decide,show b_serve ≠ b_extra by decide]
  by_cases h6 : s = b_compare
  · simp [h6]
    simp [show b_compare ≠ b_end by decide,show b_compare ≠ b_periods by decide,show b_compare ≠ b_named by decide,show b_compare ≠ b_pay by decide,show b_compare ≠ b_extra by decide,show b_compare ≠ b_serve by decide]
  simp [h0,h1,h2,h3,h4,h5,h6]
theorem zeroFn (w : World) : (zeroValue 54).run Try.prog w = .ok .nilFunc w:=by kernel_rfl
theorem key_look (W : World) (g : Nat) (s : Bytes) (hb : W.heap[g]? = some (.map keyMap 7)) :
    (Instr.lookup 52 (.map (some g)) (.string ⟨s.toArray⟩) true).run Try.prog W = .ok (.tuple #[keyFn s, .bool (keysL.contains s)]) W:=by
  have h:=run_lookup_ok (k:=.string ⟨s.toArray⟩) Try.underlying52 Try.underlying9 (KeyOk.str _) keyMap_all (zeroFn W) hb
  exact h.trans (by rw [(keyMap_find s).1,(keyMap_find s).2])
theorem key_lookP (W : World) (g : Nat) (s : Bytes) (hb : W.heap[g]? = some (.map keyMap 7)) :
    (Instr.lookup 52 (.map (some g)) (.string ⟨s.toArray⟩) false).run Try.prog W = .ok (keyFn s) W:=by
  have h:=run_lookup_plain (k:=.string ⟨s.toArray⟩) Try.underlying52 Try.underlying9 (KeyOk.str _) keyMap_all (zeroFn W) hb
  exact h.trans (by rw [(keyMap_find s).1])
theorem ba_ne (a : Bytes) (b : Array UInt8) (h : a ≠ b.toList) : (ByteArray.mk a.toArray = ByteArray.mk b) = False := by
  apply propext
  constructor
  · intro e
    injection e with e
    exact h (by rw [← e])
  · exact False.elim
set_option maxHeartbeats 2000000 in
theorem field_stands (k : Int) (s : Bytes) (w : World) : Calls Try.prog 29 #[.int .i64 k, .string ⟨s.toArray⟩] w fun e w' => e = .returned (.bool (standsC k s)) ∧ Below w.heap.size w w' := by
  have HF:=zh (field_fixed k w)
  obtain ⟨R,hR⟩ : ∃ R,fixedR k = R:=⟨_,rfl⟩
  obtain ⟨c,b⟩:=R
  rw [hR] at HF
  have hb : b = (decide (k = 3) || decide (k = 4)) := by
    unfold fixedR at hR
    split at hR
    · next h => subst h;injection hR with h1 h2;rw [← h2];rfl
    · split at hR
      · next h1 h => subst h;injection hR with h1 h2;rw [← h2];rfl
      · next h1 h2 => injection hR with h3 h4;rw [← h4,decide_eq_false h1,decide_eq_false h2];rfl
  obtain ⟨q0,hq0⟩ : ∃ q,(s == [110,97,109,101,100]) = q:=⟨_,rfl⟩
  obtain ⟨q1,hq1⟩ : ∃ q,(s == [112,101,114,105,111,100,115]) = q:=⟨_,rfl⟩
  obtain ⟨q2,hq2⟩ : ∃ q,(s == [112,97,121]) = q:=⟨_,rfl⟩
  obtain ⟨q3,hq3⟩ : ∃ q,(s == [101,120,116,114,97]) = q:=⟨_,rfl⟩
  have hst : standsC k s = if q0 then (!b && (k != 5)) else if q1 || q2 || q3 then (!b && (k != 6)) else true := by
    rw [hb,← hq0,← hq1,← hq2,← hq3]
    unfold standsC
    have e : ∀ m : Int,decide (k ≠ m) = (k != m):=fun m => by by_cases h : k = m <;> simp [h]
    have e2 : ∀ m : Int,decide (k = m) = !(k != m):=fun m => by by_cases h : k = m <;> simp [h]
    simp only [e,e2,Bool.not_or,Bool.not_not,beq_iff_eq,Bool.or_eq_true]
    rw [show b_named = [110,97,109,101,100] from rfl,show b_periods = [112,101,114,105,111,100,115] from rfl,show b_pay = [112,97,121] from rfl,show b_extra = [101,120,116,114,97] from rfl]
    simp only [or_assoc]
  rw [hst]
  obtain ⟨k5,hk5⟩ : ∃ q,(k != 5) = q:=⟨_,rfl⟩
  obtain ⟨k6,hk6⟩ : ∃ q,(k != 6) = q:=⟨_,rfl⟩
  rw [hk5,hk6]
  clear hst hb hR
  dsimp only [calV] at HF
  obtain ⟨nm,kind,day,month,shift,shape,p0,p1,p2,cycle,extra,first,last,policy⟩:=c
  dsimp only at HF
  cases q0
  · cases q1
    · cases q2
      · cases q3
        · skip
          go_enter Try.func29,Try.ntmps29
          go_wp2_with fail
          refine HF.out.mono ?_
          rintro e w1 ⟨rfl,hb1⟩
          have HB1:=zh (Below.alloc hb1 hb1.size (.cells #[.string ⟨nm.toArray⟩, .int .i64 kind, .int .i64 day, .int .i64 month, .int .i64 shift, .int .i64 shape, .int .i64 p0, .int .i64 p1, .int .i64 p2, .int .i64 cycle, .int .i64 extra, .int .i64 first, .int .i64 last, .int .i64 policy] 30))
          clear hb1
          go_wp2_with fail
          go_ret
          exact ⟨rfl,HB1.out⟩
        · cases b <;> (go_enter Try.func29,Try.ntmps29;go_wp2_with fail;refine HF.out.mono ?_;rintro e w1 ⟨rfl,hb1⟩;have HB1:=zh (Below.alloc hb1 hb1.size (.cells #[.string ⟨nm.toArray⟩, .int .i64 kind, .int .i64 day, .int .i64 month, .int .i64 shift, .int .i64 shape, .int .i64 p0, .int .i64 p1, .int .i64 p2, .int .i64 cycle, .int .i64 extra, .int .i64 first, .int .i64 last, .int .i64 policy] 30));clear hb1;go_wp2_with fail;go_ret;exact ⟨rfl,HB1.out⟩)
      · cases b <;> (go_enter Try.func29,Try.ntmps29;go_wp2_with fail;refine HF.out.mono ?_;rintro e w1 ⟨rfl,hb1⟩;have HB1:=zh (Below.alloc hb1 hb1.size (.cells #[.string ⟨nm.toArray⟩, .int .i64 kind, .int .i64 day, .int .i64 month, .int .i64 shift, .int .i64 shape, .int .i64 p0, .int .i64 p1, .int .i64 p2, .int .i64 cycle, .int .i64 extra, .int .i64 first, .int .i64 last, .int .i64 policy] 30));clear hb1;go_wp2_with fail;go_ret;exact ⟨rfl,HB1.out⟩)
    · cases b <;> (go_enter Try.func29,Try.ntmps29;go_wp2_with fail;refine HF.out.mono ?_;rintro e w1 ⟨rfl,hb1⟩;have HB1:=zh (Below.alloc hb1 hb1.size (.cells #[.string ⟨nm.toArray⟩, .int .i64 kind, .int .i64 day, .int .i64 month, .int .i64 shift, .int .i64 shape, .int .i64 p0, .int .i64 p1, .int .i64 p2, .int .i64 cycle, .int .i64 extra, .int .i64 first, .int .i64 last, .int .i64 policy] 30));clear hb1;go_wp2_with fail;go_ret;exact ⟨rfl,HB1.out⟩)
  · cases b <;> (go_enter Try.func29,Try.ntmps29;go_wp2_with fail;refine HF.out.mono ?_;rintro e w1 ⟨rfl,hb1⟩;have HB1:=zh (Below.alloc hb1 hb1.size (.cells #[.string ⟨nm.toArray⟩, .int .i64 kind, .int .i64 day, .int .i64 month, .int .i64 shift, .int .i64 shape, .int .i64 p0, .int .i64 p1, .int .i64 p2, .int .i64 cycle, .int .i64 extra, .int .i64 first, .int .i64 last, .int .i64 policy] 30));clear hb1;go_wp2_with fail;go_ret;exact ⟨rfl,HB1.out⟩)
end
section
set_option maxRecDepth 100000
open Go.RowKit
open Go.Joins renaming cell_of_block → zb, unfrozen_of_block → zu
open Go.Lib renaming hid → zh
set_option maxHeartbeats 4000000 in
theorem key_named : KeyAt 50 (keyK b_named) (fun _ => True) := by
  intro c ws A cw w B cb _ hne hlen hB hc hr
  obtain ⟨t,r,rfl⟩ : ∃ t r,ws = t :: r := by
    cases ws with
    | nil => exact absurd rfl hne
    | cons t r => exact ⟨t,r,rfl⟩
  obtain ⟨ad,rfl,hadb,e0,e1,e2,e3⟩:=word0 hr
  have hk : keyK b_named c (t :: r) = ({ c with shift:=placeW shifts t - 1 },decide (0 < placeW shifts t) && decide ((t :: r).length = 1)):=rfl
  rw [hk]
  have hdb : ad.block ≠ cb:=by omega
  have hlt:=hc.lt
  have HC:=zh hc
  clear hk hr hc hne
  have hL0 : (0 : Int) < (t :: r).length:=by simp
  generalize hL : (t :: r).length = L at *
  clear hL
  have hL1 : ((L : Int) == 1) = decide (L = 1) := by
    by_cases h : L = 1
    · subst h;rfl
    · rw [decide_eq_false h];exact beq_false_of_ne (by omega)
  generalize decide (L = 1) = b1 at *
  have hrng : 0 ≤ placeW shifts t ∧ placeW shifts t ≤ 2 := by
    have:=posL_nonneg shifts t.s
    unfold placeW
    split
    · omega
    · have e : shifts.length = 2 := rfl
      omega
  have HP:=zh (fun g W h => field_named shifts t g 2 W (by decide) h)
  have wf : IntKind.i64.wrap (placeW shifts t - 1) = placeW shifts t - 1:=by rw [IntKind.wrap_i64];omega
  generalize placeW shifts t = z at *
  obtain ⟨tn,n,s,pos⟩:=t
  dsimp only at *
  have hb0 : Below w.heap.size w (w.alloc (.cells #[.string ⟨#[108,97,115,116]⟩, .string ⟨#[102,105,114,115,116]⟩] 9)):=below_cal _ _
  have hg0 : StrBlk (w.alloc (.cells #[.string ⟨#[108,97,115,116]⟩, .string ⟨#[102,105,114,115,116]⟩] 9)) w.heap.size shifts:=⟨_,heap_alloc_new w _⟩
  have HP1:=zh (HP.out _ _ hg0)
  have s0:=(World.cell?_alloc_lt w (.cells #[.string ⟨#[108,97,115,116]⟩, .string ⟨#[102,105,114,115,116]⟩] 9) ad (by omega)).trans e0
  have s1:=(World.cell?_alloc_lt w (.cells #[.string ⟨#[108,97,115,116]⟩, .string ⟨#[102,105,114,115,116]⟩] 9) ⟨ad.block,ad.off + 1,none⟩ (by show ad.block < _;omega)).trans e1
  have s2:=(World.cell?_alloc_lt w (.cells #[.string ⟨#[108,97,115,116]⟩, .string ⟨#[102,105,114,115,116]⟩] 9) ⟨ad.block,ad.off + 2,none⟩ (by show ad.block < _;omega)).trans e2
  have s3:=(World.cell?_alloc_lt w (.cells #[.string ⟨#[108,97,115,116]⟩, .string ⟨#[102,105,114,115,116]⟩] 9) ⟨ad.block,ad.off + 3,none⟩ (by show ad.block < _;omega)).trans e3
  have HB0:=zh hb0
  clear hb0 hg0 HP
  have hz0 : 0 < z ∨ z = 0:=by omega
  cases b1 <;> rcases hz0 with hz0 | hz0 <;> (
    first | (have hd : decide (0 < z) = true:=decide_eq_true hz0) | (subst hz0;have hd : decide ((0 : Int) < 0) = false:=by decide)
    go_enter Try.func50,Try.ntmps50
    go_wp2_with fail
    refine HP1.out.mono ?_
    rintro e w1 ⟨rfl,hb1⟩
    have hbb:=HB0.out.trans (hb1.mono HB0.out.size)
    have hc1:=HC.out.keep hbb
    have hf:=zu hc1
    have f4:=hf 4
    have c4:=zb hc1 4
    have hfin : ∀ u : Int,CalBlk (w1.setCell ⟨cb,4,none⟩ (.int .i64 u)) cb { c with shift := u } := fun u => by
      have:=Joins.block_setCell hc1 (i:=4) (.int .i64 u)
      simpa [CalBlk] using this
    have HF:=zh hfin
    have HS:=zh (step_below (cb:=cb) hbb)
    clear hb1 hbb hc1 hf hfin
    go_wp2_with fail
    go_ret
    refine ⟨?_,HF.out _,HS.out.put 4 _⟩
    first | rfl | (rw [hd];rfl) | simp)
end
section
set_option maxRecDepth 100000
open Go.RowKit
open Go.Joins renaming cell_of_block → zb, unfrozen_of_block → zu
open Go.Lib renaming hid → zh
set_option maxHeartbeats 8000000 in
theorem key_compare : KeyAt 57 (keyK b_compare) (fun _ => True) := by
  intro c ws A cw w B cb _ hne hlen hB hc hr
  obtain ⟨t,r,rfl⟩ : ∃ t r,ws = t :: r := by
    cases ws with
    | nil => exact absurd rfl hne
    | cons t r => exact ⟨t,r,rfl⟩
  obtain ⟨ad,rfl,hadb,e0,e1,e2,e3⟩:=word0 hr
  have hk : keyK b_compare c (t :: r) = ({ c with policy:=placeW pols t },decide (0 < placeW pols t) && decide ((t :: r).length = 1)):=rfl
  rw [hk]
  have hdb : ad.block ≠ cb:=by omega
  have hlt:=hc.lt
  have HC:=zh hc
  clear hk hr hc hne
  have hL0 : (0 : Int) < (t :: r).length:=by simp
  generalize hL : (t :: r).length = L at *
  clear hL
  have hL1 : ((L : Int) == 1) = decide (L = 1) := by
    by_cases h : L = 1
    · subst h;rfl
    · rw [decide_eq_false h];exact beq_false_of_ne (by omega)
  generalize decide (L = 1) = b1 at *
  have hrng : 0 ≤ placeW pols t ∧ placeW pols t ≤ 4 := by
    have:=posL_nonneg pols t.s
    unfold placeW
    split
    · omega
    · have e : pols.length = 4 := rfl
      omega
  have HP:=zh (fun g W h => field_named pols t g 4 W (by decide) h)
  generalize placeW pols t = z at *
  obtain ⟨tn,n,s,pos⟩:=t
  dsimp only at *
  have hz0 : 0 < z ∨ z = 0:=by omega
  have hdl : ad.block < w.heap.size:=by omega
  cases b1 <;> rcases hz0 with hz0 | hz0 <;> (
    first | (have hd : decide (0 < z) = true:=decide_eq_true hz0) | (subst hz0;have hd : decide ((0 : Int) < 0) = false:=by decide)
    go_enter Try.func57,Try.ntmps57
    go_wp2_with fail
    go_region_with (first | (go_at_call 32;refine (field_policies _).mono ?_;rintro e w1 ⟨rfl,hg1,hb1⟩;have s0:=(hb1.cell (p:=ad) hdl).trans e0;have s1:=(hb1.cell (p:=⟨ad.block,ad.off + 1,none⟩) hdl).trans e1;have s2:=(hb1.cell (p:=⟨ad.block,ad.off + 2,none⟩) hdl).trans e2;have s3:=(hb1.cell (p:=⟨ad.block,ad.off + 3,none⟩) hdl).trans e3) | (go_at_call 51;refine (HP.out _ _ (by assumption)).mono ?_;rintro e w2 ⟨rfl,hb2⟩;have hc2:=(hb2.block cb (Nat.lt_of_lt_of_le hlt hb1.size)).trans ((hb1.block cb hlt).trans HC.out);have c13:=zb hc2 13;have f13:=zu hc2 13))
    all_goals (
      have hbb : Below w.heap.size w w2:=Below.trans (show Below w.heap.size w w1 from ⟨hb1.os,hb1.tape,hb1.output,hb1.size,hb1.block⟩) (hb2.mono hb1.size)
      have hfin : ∀ u : Int,CalBlk (w2.setCell ⟨cb,13,none⟩ (.int .i64 u)) cb { c with policy := u } := fun u => by
        have:=Joins.block_setCell hc2 (i:=13) (.int .i64 u)
        simpa [CalBlk] using this
      have HF:=zh hfin
      have HS:=zh (step_below (cb:=cb) hbb)
      clear hb1 hb2 hbb hc2 hfin hg1
      go_wp2_with fail
      go_ret
      refine ⟨?_,HF.out _,(HS.out.put 13 _)⟩
      first | rfl | (rw [hd];rfl) | simp))
end
end Go.Proofs.Ytpkhocbohhpmbaa
