/- Layer 10 (layout): a strings.Builder that is the first field of a sheet: its methods (turned from the kit's proofs over a builder in a block of its own). Then: Slices that read as tokens. Then: Layer 8 (lex): the walk of Join. Then: Layer 8 (lex), in plain Lean: where a text that is wrong is wrong. -/
import Derived.Test.YtjbniichcopnlaaGreatDoorPkS2
import Derived.Lib.Builder
import Derived.Lib.OwnKind
import Derived.Lib.AppendStr
import Derived.Lib.UnsafeStr
import Derived.Laws.Externs
import Derived.Shelf.Strings.Builder1
import Derived.Lib.Join
import Derived.Lib.ItoaNum
import Derived.Deep.OwnRows
import Derived.Laws.OwnMore
import Derived.Test.YtjbniichcopnlaaGreatDoorPkS0
namespace Go.Proofs.YtjbniichcopnlaaGreatDoor
section
set_option linter.unusedVariables false
set_option linter.unusedSimpArgs false
open Go.RowKit
/-- A sheet in block b,holding the bytes bs,and so many tokens;p: what its builder's own address holds. -/
def SheetAt (B b : Nat) (p : Value) (bs : List Value) (k : Int) (w : World) : Prop :=
  B ≤ b ∧ ∃ v,w.heap[b]? = some (.cells #[p,v, .int .i64 k] 68 (0,0)) ∧ w.ownsRow B 5 1 v bs.length bs ∧ v.ownBlock ≠ some b
/-- .. fresh or used. -/
def IsSheet (B b : Nat) (bs : List Value) (k : Int) (w : World) : Prop :=
  SheetAt B b (.pointer none) bs k w ∨ SheetAt B b (.pointer (some ⟨b,0,none⟩)) bs k w
variable {B b : Nat} {p : Value} {bs : List Value} {k : Int} {w : World}
theorem SheetAt.is (h : SheetAt B b (.pointer (some ⟨b,0,none⟩)) bs k w) : IsSheet B b bs k w:=Or.inr h
theorem IsSheet.any (h : IsSheet B b bs k w) : ∃ p,SheetAt B b p bs k w := by
  rcases h with h | h
  · exact ⟨_,h⟩
  · exact ⟨_,h⟩
theorem SheetAt.cell0 (h : SheetAt B b p bs k w) : w.cell? ⟨b,0,none⟩ = some p := by
  obtain ⟨_,v,hb,_⟩:=h
  simp [World.cell?,hb]
theorem SheetAt.shape (h : SheetAt B b p bs k w) : w.shape? b = some (68,3) := by
  obtain ⟨_,v,hb,_⟩:=h
  simp [World.shape?,hb]
theorem SheetAt.lt (h : SheetAt B b p bs k w) : b < w.heap.size := by
  obtain ⟨_,v,hb,_⟩:=h
  exact (Array.getElem?_eq_some_iff.1 hb).1
theorem IsSheet.lt (h : IsSheet B b bs k w) : b < w.heap.size := by
  obtain ⟨_,h⟩:=h.any
  exact h.lt
theorem SheetAt.frozen (h : SheetAt B b p bs k w) (j : Nat) : w.frozen? ⟨b,j,none⟩ = false := by
  obtain ⟨_,v,hb,_⟩:=h
  simp [World.frozen?,hb]
theorem IsSheet.cell2 (h : IsSheet B b bs k w) : w.cell? ⟨b,2,none⟩ = some (.int .i64 k) ∧ w.frozen? ⟨b,2,none⟩ = false := by
  obtain ⟨_,h⟩:=h.any
  refine ⟨?_,h.frozen 2⟩
  obtain ⟨_,v,hb,_⟩:=h
  simp [World.cell?,hb]
theorem own_setCell {v : Value} {n : Nat} {xs : List Value} (hown : w.ownsRow B 5 1 v n xs) (hne : v.ownBlock ≠ some b) (j : Nat) (q : Value) : (w.setCell ⟨b,j,none⟩ q).ownsRow B 5 1 v n xs :=
  hown.kept (row:=some b) ⟨rfl,rfl,rfl,by simp [World.setCell],fun i _ hi => Below.heap_setCell _ _ _ _ (fun e => hi (by simp [e]))⟩ (Or.inr hne)
theorem SheetAt.used (h : SheetAt B b p bs k w) (q : Value) : SheetAt B b q bs k (w.setCell ⟨b,0,none⟩ q) := by
  obtain ⟨hB,v,hb,hown,hne⟩:=h
  exact ⟨hB,v,by simp [World.setCell,Array.getElem?_modify,hb],own_setCell hown hne 0 q,hne⟩
theorem SheetAt.put {v v' : Value} {bs' : List Value} (hB : B ≤ b) (hb : w.heap[b]? = some (.cells #[p,v, .int .i64 k] 68 (0,0))) (hown : w.ownsRow B 5 1 v' bs'.length bs') :
    SheetAt B b p bs' k (w.setCell ⟨b,1,none⟩ v'):=by
  have hne:=Lib.ownBlock_ne hown hb (by decide)
  exact ⟨hB,v',by simp [World.setCell,Array.getElem?_modify,hb],own_setCell hown hne 1 v',hne⟩
theorem SheetAt.count (h : SheetAt B b p bs k w) (k' : Int) : SheetAt B b p bs k' (w.setCell ⟨b,2,none⟩ (.int .i64 k')) := by
  obtain ⟨hB,v,hb,hown,hne⟩:=h
  exact ⟨hB,v,by simp [World.setCell,Array.getElem?_modify,hb],own_setCell hown hne 2 _,hne⟩
theorem IsSheet.count (h : IsSheet B b bs k w) (k' : Int) : IsSheet B b bs k' (w.setCell ⟨b,2,none⟩ (.int .i64 k')) := by
  rcases h with h | h
  · exact Or.inl (h.count k')
  · exact Or.inr (h.count k')
theorem SheetAt.keep {w' : World} (h : SheetAt B b p bs k w) (hb : Below w.heap.size w w') : SheetAt B b p bs k w' := by
  obtain ⟨hB,v,hbk,hown,hne⟩:=h
  refine ⟨hB,v,(hb.block b (Array.getElem?_eq_some_iff.1 hbk).1).trans hbk,?_,hne⟩
  exact own_below hown hb
theorem IsSheet.keep {w' : World} (h : IsSheet B b bs k w) (hb : Below w.heap.size w w') : IsSheet B b bs k w' := by
  rcases h with h | h
  · exact Or.inl (h.keep hb)
  · exact Or.inr (h.keep hb)
theorem IsSheet.drew (h : IsSheet B b bs k w) : IsSheet B b bs k w.drew:=h
theorem info_b : (Tryz.prog.info? 66).map (·.size) = some 2:=by kernel_rfl
theorem info_u8 : (Tryz.prog.info? 5).map (fun i => (i.zero,i.size,i.bytes)) = some (some (.int .u8 0),1,1):=by kernel_rfl
set_option maxHeartbeats 1000000 in
set_option maxRecDepth 100000 in
/-- copyCheck: behind it the builder is used. -/
theorem sheet_copyCheck (h : IsSheet B b bs k w) :
    Calls Tryz.prog 89 #[.pointer (some ⟨b,0,none⟩)] w fun e w' => e = .returned (.tuple #[]) ∧ SheetAt B b (.pointer (some ⟨b,0,none⟩)) bs k w' ∧ Below B w w' ∧ Lib.OthersKept 5 (some b) w w':=by
  obtain ⟨j,hj,hjs⟩:=Option.map_eq_some_iff.1 info_b
  have hlies : liesAt Tryz.prog Tryz.prog.depth 68 (3 / Tryz.prog.cellsOf 68) 0 66 1 = true:=by kernel_rfl
  rcases h with h | h
  · have h0 := h.cell0
    have hsh:=h.shape
    have hfz:=h.frozen 0
    go_enter Tryz.func89,Tryz.ntmps89
    go_wp2
    rw [Lib.run_to_unsafe w ⟨b,0,none⟩ Tryz.underlying63 Tryz.underlying146 hj (by rw [hjs];decide) hsh (Nat.zero_lt_succ 2)]
    simp only [Result.andThen]
    rw [Oper.upon_value]
    go_wp2
    rw [run_callFunc_extern Tryz.func111 (by kernel_rfl) (by kernel_rfl) (by kernel_rfl) (e:=Extern.AbiNoEscape.same) (by kernel_rfl)]
    rw [Lib.run_noEscape]
    simp only [Result.andThen]
    rw [Oper.upon_value]
    go_wp2
    rw [Lib.run_from_unsafe w ⟨b,0,none⟩ Tryz.underlying146 Tryz.underlying63 hj hsh hlies]
    simp only [Result.andThen]
    rw [Oper.upon_value]
    go_wp2
    go_end0
    exact ⟨rfl,h.used _,(Below.refl B w).setCell (p:=⟨b,0,none⟩) h.1 _,(Lib.OthersKept.refl _ _ w).setCell ⟨b,0,none⟩ rfl _⟩
  · have h0 := h.cell0
    go_enter Tryz.func89,Tryz.ntmps89
    go_wp2
    rw [Lib.run_neq_ptr_same w _ Tryz.underlying63 hj]
    go_wp2
    go_end0
    exact ⟨rfl,h,Below.refl B _,Lib.OthersKept.refl _ _ _⟩
set_option maxHeartbeats 2000000 in
set_option maxRecDepth 100000 in
theorem sheet_WriteString (s : ByteArray) (h : IsSheet B b bs k w) (hlen : bs.length + s.size ≤ 140737488355328) (hBw : B ≤ w.heap.size) :
    Calls Tryz.prog 59 #[.pointer (some ⟨b,0,none⟩), .string s] w fun e w' => e = .returned (.tuple #[.int .i64 s.size, .nilIface]) ∧ IsSheet B b (bs ++ Lib.strCells s) k w' ∧ Below B w w' ∧ Lib.OthersKept 5 (some b) w w':=by
  obtain ⟨i0,hi,hz0,hz1,hz2⟩:=info_parts info_u8
  go_enter Tryz.func59,Tryz.ntmps59
  go_wp2_with (go_at_call 89;refine (sheet_copyCheck h).mono ?_)
  rintro e w1 ⟨rfl,h1,hb1,hk1⟩
  obtain ⟨hB,v,hbk,hown,hne⟩:=h1
  have c0 : w1.cell? ⟨b,0,none⟩ = some (.pointer (some ⟨b,0,none⟩)):=by rw [Lib.cell_of_heap hbk];rfl
  have c1 : w1.cell? ⟨b,1,none⟩ = some v:=by rw [Lib.cell_of_heap hbk];rfl
  go_wp2_with (at_builtin;refine Lib.wpList_append_own_string _ rfl _ _ 64 9 rfl B 5 i0 Tryz.underlying64 Tryz.underlying9 hi hz0 hz1 hz2 _ _ _ rfl hown s rfl ?c3 ?c4 ?c5 ?_)
  case c3 => unfold maxLen;omega
  case c4 => omega
  case c5 => have:=hb1.size;omega
  intro v' w2 hown' hgrow _
  have hlt : b < w1.heap.size:=(Array.getElem?_eq_some_iff.1 hbk).1
  have hb2 : w2.heap[b]? = some (.cells #[.pointer (some ⟨b,0,none⟩),v, .int .i64 k] 68 (0,0)) := by
    rw [hgrow.block b hlt (fun e => hne e.symm)]
    exact hbk
  have d0 : w2.cell? ⟨b,0,none⟩ = some (.pointer (some ⟨b,0,none⟩)):=by rw [Lib.cell_of_heap hb2];rfl
  have d1 : w2.cell? ⟨b,1,none⟩ = some v:=by rw [Lib.cell_of_heap hb2];rfl
  have f1 : w2.frozen? ⟨b,1,none⟩ = false:=Lib.frozen_of_heap hb2 1
  obtain ⟨ao,n',cap,rfl⟩ : ∃ ao n' cap,v' = .slice ao n' cap := by
    rcases hown'.2 with ⟨hv,_⟩ | ⟨g,cap,cur,hv,_⟩
    · exact ⟨_,_,_,hv⟩
    · exact ⟨_,_,_,hv⟩
  go_wp2
  go_ret2
  refine ⟨rfl,Or.inr ?_,?_,(hk1.grown hgrow (Lib.ownsRow_kind hown)).setCell ⟨b,1,none⟩ rfl _⟩
  · exact SheetAt.put hB hb2 (bs':=bs ++ Lib.strCells s) (by simpa [Lib.strCells_length] using hown')
  · exact (hb1.grown hgrow (by have:=hb1.size;omega) (fun k hk => (hown.lt k hk).1)).setCell (p:=⟨b,1,none⟩) hB _
set_option maxHeartbeats 2000000 in
set_option maxRecDepth 100000 in
theorem sheet_WriteByte (c : Int) (h : IsSheet B b bs k w) (hlen : bs.length + 1 ≤ 140737488355328) (hBw : B ≤ w.heap.size) :
    Calls Tryz.prog 62 #[.pointer (some ⟨b,0,none⟩), .int .u8 c] w fun e w' => e = .returned .nilIface ∧ IsSheet B b (bs ++ [.int .u8 c]) k w' ∧ Below B w w' ∧ Lib.OthersKept 5 (some b) w w':=by
  obtain ⟨i0,hi,hz0,hz1,hz2⟩:=info_parts info_u8
  go_enter Tryz.func62,Tryz.ntmps62
  go_wp2_with (go_at_call 89;refine (sheet_copyCheck h).mono ?_)
  rintro e w1 ⟨rfl,h1,hb1,hk1⟩
  obtain ⟨hB,v,hbk,hown,hne⟩:=h1
  have c0 : w1.cell? ⟨b,0,none⟩ = some (.pointer (some ⟨b,0,none⟩)):=by rw [Lib.cell_of_heap hbk];rfl
  have c1 : w1.cell? ⟨b,1,none⟩ = some v:=by rw [Lib.cell_of_heap hbk];rfl
  go_wp2_with (at_builtin;refine wpList_append_own _ rfl _ _ 64 rfl B 5 i0 (.int .u8 0) 1 1 Tryz.underlying64 hi hz0 hz1 hz2 rfl (by decide) _ _ _ rfl (hown.alloc _) ⟨w1.heap.size,0,none⟩ 1 1 [.int .u8 c] rfl rfl ?c1 ?c2 ?c3 ?c4 ?c5 ?_)
  case c1 =>
    intro j u hj
    match j,hj with
    | 0,hj => simp at hj;subst hj;simp [Addr.add]
  case c2 => intro u hu;simp at hu;subst hu;rfl
  case c3 => unfold maxLen;omega
  case c4 => omega
  case c5 => have:=hb1.size;simp;omega
  intro v' w2 hown' hgrow _
  have hlt : b < w1.heap.size:=(Array.getElem?_eq_some_iff.1 hbk).1
  have hb2 : w2.heap[b]? = some (.cells #[.pointer (some ⟨b,0,none⟩),v, .int .i64 k] 68 (0,0)) := by
    rw [hgrow.block b (by simp;omega) (fun e => hne e.symm),Lib.alloc_old w1 _ b hlt]
    exact hbk
  have d0 : w2.cell? ⟨b,0,none⟩ = some (.pointer (some ⟨b,0,none⟩)):=by rw [Lib.cell_of_heap hb2];rfl
  have d1 : w2.cell? ⟨b,1,none⟩ = some v:=by rw [Lib.cell_of_heap hb2];rfl
  have f1 : w2.frozen? ⟨b,1,none⟩ = false:=Lib.frozen_of_heap hb2 1
  obtain ⟨ao,n',cap,rfl⟩ : ∃ ao n' cap,v' = .slice ao n' cap := by
    rcases hown'.2 with ⟨hv,_⟩ | ⟨g,cap,cur,hv,_⟩
    · exact ⟨_,_,_,hv⟩
    · exact ⟨_,_,_,hv⟩
  go_wp2
  go_ret
  refine ⟨rfl,Or.inr ?_,?_,((hk1.alloc _).grown hgrow (Lib.ownsRow_kind (hown.alloc _))).setCell ⟨b,1,none⟩ rfl _⟩
  · exact SheetAt.put hB hb2 (bs':=bs ++ [.int .u8 c]) (by simpa using hown')
  · exact ((hb1.alloc (by have:=hb1.size;omega) _).grown hgrow (by have:=hb1.size;simp;omega) (fun k hk => (hown.lt k hk).1)).setCell (p:=⟨b,1,none⟩) hB _
set_option maxHeartbeats 1000000 in
set_option maxRecDepth 100000 in
theorem sheet_Len (h : IsSheet B b bs k w) :
    Calls Tryz.prog 36 #[.pointer (some ⟨b,0,none⟩)] w fun e w' => e = .returned (.int .i64 bs.length) ∧ w = w':=by
  obtain ⟨p,hB,v,hbk,hown,hne⟩:=h.any
  obtain ⟨ao,cap,rfl⟩ : ∃ ao cap,v = .slice ao bs.length cap := by
    rcases hown.2 with ⟨hv,h0⟩ | ⟨g,cap,cur,hv,_⟩
    · exact ⟨none,0,by rw [hv,h0]⟩
    · exact ⟨_,_,hv⟩
  have c1 : w.cell? ⟨b,1,none⟩ = some (.slice ao bs.length cap):=by rw [Lib.cell_of_heap hbk];rfl
  go_enter Tryz.func36,Tryz.ntmps36
  go_wp2
  go_ret
  exact ⟨rfl,rfl⟩
theorem unsafe_none (W : World) (q : Option Addr) : (Builtin.unsafeString_ #[112,3] 9 #[.pointer q, .int .i64 0]).run Tryz.prog W = .ok (.string .empty) W :=
  Lib.run_unsafeString_none W _ _ _ q
set_option maxHeartbeats 1000000 in
set_option maxRecDepth 100000 in
theorem sheet_String_some (l : List UInt8) (h : IsSheet B b (Lib.byteCells l) k w) (h0 : l ≠ []) :
    Calls Tryz.prog 37 #[.pointer (some ⟨b,0,none⟩)] w fun e w' => e = .returned (.string ⟨l.toArray⟩) ∧ Below B w w':=by
  obtain ⟨p,hB,v,hbk,hown,hne⟩:=h.any
  have hl0 : l.length ≠ 0:=by simpa using h0
  rw [Lib.byteCells_length] at hown
  obtain ⟨g,cap,cur,rfl,hbg,hg,hnc,hcm,hcs,htake⟩ : ∃ g cap cur,v = .slice (some ⟨g,0,none⟩) l.length cap ∧ B ≤ g ∧ w.heap[g]? = some (.cells cur 5 (0,0)) ∧ l.length ≤ cap ∧ cap ≤ maxLen ∧ cur.size = cap * 1 ∧ cur.toList.take (l.length * 1) = Lib.byteCells l := by
    rcases hown.2 with ⟨_,hz⟩ | ⟨g,cap,cur,hv,r⟩
    · exact absurd hz hl0
    · exact ⟨g,cap,cur,hv,r⟩
  have c1 : w.drew.cell? ⟨b,1,none⟩ = some (.slice (some ⟨g,0,none⟩) l.length cap) := by
    have : w.drew.heap[b]? = some (.cells #[p, .slice (some ⟨g,0,none⟩) l.length cap, .int .i64 k] 68 (0,0)):=hbk
    rw [Lib.cell_of_heap this];rfl
  have hSD : (Builtin.unsafeSliceData_ #[64] 112 #[.slice (some ⟨g,0,none⟩) l.length cap]).run Tryz.prog w.drew = .ok (.pointer (some ⟨g,0,none⟩)) w.drew :=
    Lib.run_unsafeSliceData_row _ _ _ _ _ _ (by omega)
  have hUS : (Builtin.unsafeString_ #[112,3] 9 #[.pointer (some ⟨g,0,none⟩), .int .i64 l.length]).run Tryz.prog w.drew = .ok (.string ⟨l.toArray⟩) (w.drew.freeze ⟨g,0,none⟩ l.length) := by
    refine Lib.run_unsafeString_row w.drew 112 3 9 5 Tryz.underlying112 (by kernel_rfl) g cur.size (by have hg' : w.drew.heap[g]? = some (.cells cur 5 (0,0)):=hg;simp [World.shape?,hg']) l h0 (by omega) (by unfold maxLen at hcm;omega) ?_
    intro j x hx
    have:=hown.cells (g:=g) rfl j (.int .u8 x.toNat) (by simp [Lib.byteCells,hx])
    exact this
  go_enter Tryz.func37,Tryz.ntmps37
  go_wp2
  go_region
  all_goals (go_wp2;go_ret;exact ⟨rfl,Lib.below_freeze (Below.drew (Below.refl B w)) (p:=⟨g,0,none⟩) hbg _⟩)
set_option maxHeartbeats 2000000 in
set_option maxRecDepth 100000 in
theorem sheet_String_nil (hbk : w.heap[b]? = some (.cells #[p, .slice none 0 0, .int .i64 k] 68 (0,0))) :
    Calls Tryz.prog 37 #[.pointer (some ⟨b,0,none⟩)] w fun e w' => e = .returned (.string ⟨#[]⟩) ∧ Below B w w':=by
  have hUS:=unsafe_none
  have c1 : w.drew.cell? ⟨b,1,none⟩ = some (.slice none 0 0) := by
    have : w.drew.heap[b]? = some (.cells #[p, .slice none 0 0, .int .i64 k] 68 (0,0)):=hbk
    rw [Lib.cell_of_heap this];rfl
  have hSD : (Builtin.unsafeSliceData_ #[64] 112 #[.slice none 0 0]).run Tryz.prog w.drew = .ok (.pointer none) w.drew:=rfl
  go_enter Tryz.func37,Tryz.ntmps37
  go_wp2
  go_region
  all_goals (go_wp2;go_ret;exact ⟨rfl,Below.drew (Below.refl B w)⟩)
set_option maxHeartbeats 2000000 in
set_option maxRecDepth 100000 in
theorem sheet_String_noroom (g : Nat) (cur : Array Value) (hBw : B ≤ w.heap.size) (hbk : w.heap[b]? = some (.cells #[p, .slice (some ⟨g,0,none⟩) 0 0, .int .i64 k] 68 (0,0))) (hg : w.heap[g]? = some (.cells cur 5 (0,0))) :
    Calls Tryz.prog 37 #[.pointer (some ⟨b,0,none⟩)] w fun e w' => e = .returned (.string ⟨#[]⟩) ∧ Below B w w':=by
  have hUS:=unsafe_none
  have hlt : b < w.heap.size:=(Array.getElem?_eq_some_iff.1 hbk).1
  have c1 : w.drew.cell? ⟨b,1,none⟩ = some (.slice (some ⟨g,0,none⟩) 0 0) := by
    have : w.drew.heap[b]? = some (.cells #[p, .slice (some ⟨g,0,none⟩) 0 0, .int .i64 k] 68 (0,0)):=hbk
    rw [Lib.cell_of_heap this];rfl
  have hSD : (Builtin.unsafeSliceData_ #[64] 112 #[.slice (some ⟨g,0,none⟩) 0 0]).run Tryz.prog w.drew = .ok (.pointer (some ⟨w.drew.heap.size,0,none⟩)) (w.drew.alloc (.view ⟨g,0,none⟩ 5)) :=
    Lib.run_unsafeSliceData_zero w.drew _ _ 5 Tryz.underlying112 ⟨g,0,none⟩ 0 (5,cur.size) (by have hg' : w.drew.heap[g]? = some (.cells cur 5 (0,0)):=hg;simp [World.shape?,hg'])
  have c2 : (w.drew.alloc (.view ⟨g,0,none⟩ 5)).cell? ⟨b,1,none⟩ = some (.slice (some ⟨g,0,none⟩) 0 0) := by
    have : (w.drew.alloc (.view ⟨g,0,none⟩ 5)).heap[b]? = _:=(Lib.alloc_old w.drew _ b hlt).trans hbk
    rw [Lib.cell_of_heap this];rfl
  have c3 : (w.alloc (.view ⟨g,0,none⟩ 5)).drew.cell? ⟨b,1,none⟩ = some (.slice (some ⟨g,0,none⟩) 0 0):=c2
  have c0 : w.cell? ⟨b,1,none⟩ = some (.slice (some ⟨g,0,none⟩) 0 0):=c1
  go_enter Tryz.func37,Tryz.ntmps37
  go_wp2
  go_region
  all_goals (go_wp2;go_ret;exact ⟨rfl,(Below.drew (Below.refl B w)).alloc hBw _⟩)
set_option maxHeartbeats 2000000 in
set_option maxRecDepth 100000 in
theorem sheet_String_room (g cap : Nat) (hc0 : cap ≠ 0) (hbk : w.heap[b]? = some (.cells #[p, .slice (some ⟨g,0,none⟩) 0 cap, .int .i64 k] 68 (0,0))) :
    Calls Tryz.prog 37 #[.pointer (some ⟨b,0,none⟩)] w fun e w' => e = .returned (.string ⟨#[]⟩) ∧ Below B w w':=by
  have hUS:=unsafe_none
  have c1 : w.drew.cell? ⟨b,1,none⟩ = some (.slice (some ⟨g,0,none⟩) 0 cap) := by
    have : w.drew.heap[b]? = some (.cells #[p, .slice (some ⟨g,0,none⟩) 0 cap, .int .i64 k] 68 (0,0)):=hbk
    rw [Lib.cell_of_heap this];rfl
  have hSD : (Builtin.unsafeSliceData_ #[64] 112 #[.slice (some ⟨g,0,none⟩) 0 cap]).run Tryz.prog w.drew = .ok (.pointer (some ⟨g,0,none⟩)) w.drew :=
    Lib.run_unsafeSliceData_row _ _ _ _ _ _ hc0
  clear hc0
  go_enter Tryz.func37,Tryz.ntmps37
  go_wp2
  go_region
  all_goals (go_wp2;go_ret;exact ⟨rfl,Below.drew (Below.refl B w)⟩)
theorem sheet_String (l : List UInt8) (h : IsSheet B b (Lib.byteCells l) k w) (hBw : B ≤ w.heap.size) :
    Calls Tryz.prog 37 #[.pointer (some ⟨b,0,none⟩)] w fun e w' => e = .returned (.string ⟨l.toArray⟩) ∧ Below B w w':=by
  by_cases h0 : l = []
  · subst h0
    obtain ⟨p,hB,v,hbk,hown,hne⟩:=h.any
    rcases hown.2 with ⟨rfl,_⟩ | ⟨g,cap,cur,rfl,hbg,hg,_,_,_,_⟩
    · exact sheet_String_nil hbk
    · by_cases hc0 : cap = 0
      · subst hc0
        exact sheet_String_noroom g cur hBw hbk hg
      · exact sheet_String_room g cap hc0 hbk
  · exact sheet_String_some l h h0
end
section
open Go.RowKit
/-- The slice v reads as the tokens l,below block B. -/
def ReadToks (w : World) (B : Nat) (v : Value) (l : List Tok) : Prop:=∃ A c,v = .slice A l.length c ∧ Reads w B 4 A l.length (l.flatMap Tok.cells)
theorem ReadToks.of_own {w : World} {base : Nat} {v : Value} {l : List Tok} (h : OwnToks w base v l) : ReadToks w w.heap.size v l := by
  obtain ⟨A,c,rfl,_⟩:=own_form h
  exact ⟨A,c,rfl,Reads.of_own h⟩
theorem ReadToks.below {w w' : World} {B : Nat} {v : Value} {l : List Tok} (h : ReadToks w B v l) (hb : Below B w w') : ReadToks w' B v l := by
  obtain ⟨A,c,rfl,hr⟩:=h
  exact ⟨A,c,rfl,hr.below hb⟩
theorem ReadToks.more {w : World} {B B' : Nat} {v : Value} {l : List Tok} (h : ReadToks w B v l) (hB : B ≤ B') : ReadToks w B' v l := by
  obtain ⟨A,c,rfl,hr⟩:=h
  exact ⟨A,c,rfl,hr.more hB⟩
theorem flat_get (l : List Tok) (i : Nat) (t : Tok) (h : l[i]? = some t) : ∀ j,j < 4 → (l.flatMap Tok.cells)[i * 4 + j]? = t.cells[j]? := by
  induction l generalizing i with
  | nil => simp at h
  | cons a l ih =>
    intro j hj
    rw [List.flatMap_cons]
    cases i with
    | zero =>
      simp only [List.getElem?_cons_zero,Option.some.injEq] at h
      subst h
      rw [List.getElem?_append_left (by simp [Tok.cells];omega)]
      simp
    | succ i =>
      rw [List.getElem?_append_right (by simp [Tok.cells];omega)]
      have : (i + 1) * 4 + j - a.cells.length = i * 4 + j:=by simp [Tok.cells];omega
      rw [this]
      exact ih i (by simpa using h) j hj
/-- The four cells of token i. -/
theorem tok_cells {w : World} {B : Nat} {A : Option Addr} {l : List Tok} (h : Reads w B 4 A l.length (l.flatMap Tok.cells)) (i : Nat) (t : Tok) (hi : l[i]? = some t) :
    ∃ ad,A = some ad ∧ ad.block < B ∧ w.cell? (ad.add (i * 4)) = some (.int .i64 t.kind) ∧ w.cell? ⟨(ad.add (i * 4)).block,(ad.add (i * 4)).off + 1,none⟩ = some (.int .i64 t.pos) ∧
      w.cell? ⟨(ad.add (i * 4)).block,(ad.add (i * 4)).off + 2,none⟩ = some (.int .i64 t.n) ∧ w.cell? ⟨(ad.add (i * 4)).block,(ad.add (i * 4)).off + 3,none⟩ = some (.string ⟨t.s.toArray⟩):=by
  have hlt : i < l.length:=(List.getElem?_eq_some_iff.1 hi).1
  obtain ⟨ad,rfl,hb,hc⟩:=h.2 (by omega)
  have hg:=flat_get l i t hi
  have hs : ∀ j,j ≠ 0 → ad.add (i * 4 + j) = ⟨(ad.add (i * 4)).block,(ad.add (i * 4)).off + j,none⟩ := fun j hj => by
    rw [← add_of_add];unfold Addr.add;rw [if_neg hj]
  exact ⟨ad,rfl,hb,hc _ _ (hg 0 (by omega)),hs 1 (by omega) ▸ hc _ _ (hg 1 (by omega)),hs 2 (by omega) ▸ hc _ _ (hg 2 (by omega)),hs 3 (by omega) ▸ hc _ _ (hg 3 (by omega))⟩
end
section
open Go.RowKit
open Go.Joins renaming cell_of_block → zb, unfrozen_of_block → zu
/-- What Join makes of tokens. -/
def textsL (l : List Tok) : List Bytes:=l.map fun t => (textL t).1
def joinL (l : List Tok) : Bytes × Int :=
  if 8192 < l.length then ([],1)
  else if l.all (fun t => (textL t).2) then
    (if 65536 < (Lib.join (textsL l) [32]).length then ([],6) else (Lib.join (textsL l) [32],0))
  else ([],1)
theorem ret_se {a b : ByteArray} {x y : Int} (h : a = b) (h' : x = y) : Ending.returned (.tuple #[.string a, .int .i64 x]) = .returned (.tuple #[.string b, .int .i64 y]):=by rw [h,h']
theorem all_step (l : List Tok) (k : Nat) (t : Tok) (h : l[k]? = some t) : (l.drop k).all (fun t => (textL t).2) = ((textL t).2 && (l.drop (k + 1)).all (fun t => (textL t).2)) := by
  obtain ⟨h1,rfl⟩:=List.getElem?_eq_some_iff.1 h
  rw [List.drop_eq_getElem_cons h1]
  rfl
theorem nDigits_pow (k u : Nat) (h : u < 10 ^ (k + 1)) : Lib.nDigits u ≤ k + 1 := by
  induction k generalizing u with
  | zero => rw [Lib.nDigits_small (by omega)];omega
  | succ k ih =>
    by_cases h0 : u < 10
    · rw [Lib.nDigits_small h0];omega
    · rw [Lib.nDigits_big h0]
      have:=ih (u / 10) (by rw [Nat.pow_succ] at h;omega)
      omega
/-- A token that may be has a short text. -/
theorem text_len (t : Tok) (h : (textL t).2 = true) : (textL t).1.length ≤ 16 := by
  unfold textL at h ⊢
  by_cases h1 : t.kind = 1
  · rw [if_pos h1] at h ⊢
    simp only [Bool.and_eq_true] at h
    have:=h.1
    unfold nameL at this
    split at this
    · simp at this
    · simp only [Bool.and_eq_true,decide_eq_true_eq] at this
      exact this.1.1
  by_cases h2 : t.kind = 2
  · rw [if_neg h1,if_pos h2] at h ⊢
    simp only [decide_eq_true_eq] at h
    show (Lib.itoa t.n).length ≤ 16
    rw [Lib.itoa,if_neg (by omega),Lib.decDigits_length]
    have:=nDigits_pow 8 t.n.toNat (by omega)
    omega
  rw [if_neg h1,if_neg h2]
  repeat' split
  all_goals simp
theorem joinTail_len (xs : List Bytes) (h : ∀ x ∈ xs,x.length ≤ 16) : (Lib.joinTail [32] xs).length ≤ 17 * xs.length := by
  induction xs with
  | nil => simp [Lib.joinTail]
  | cons x r ih =>
    have h1:=h x (List.mem_cons_self ..)
    have h2:=ih fun y hy => h y (List.mem_cons_of_mem _ hy)
    simp only [Lib.joinTail,List.map_cons,List.flatten_cons,List.length_append,List.length_cons,List.length_nil] at h2 ⊢
    omega
theorem join_len (xs : List Bytes) (h : ∀ x ∈ xs,x.length ≤ 16) : (Lib.join xs [32]).length ≤ 17 * xs.length := by
  cases xs with
  | nil => simp [Lib.join_nil]
  | cons x r =>
    have h1:=h x (List.mem_cons_self ..)
    have h2:=joinTail_len r fun y hy => h y (List.mem_cons_of_mem _ hy)
    rw [Lib.join_cons,List.length_append,List.length_cons]
    omega
theorem texts_len (l : List Tok) (h : l.all (fun t => (textL t).2) = true) : (Lib.join (textsL l) [32]).length ≤ 17 * l.length := by
  have := join_len (textsL l) (fun x hx => by
    obtain ⟨t,ht,rfl⟩:=List.mem_map.1 hx
    exact text_len t (List.all_eq_true.1 h t ht))
  rwa [textsL,List.length_map] at this
/-- strings.Join,over texts that lie in the first cells of a block. -/
theorem join_at (l : List Tok) (g : Nat) (cs : Array Value) (w : World) (hg : g < w.heap.size) (hb : w.heap[g]? = some (.cells cs 9 (0,0)))
    (hcs : ∀ (j : Nat) (t : Tok),l[j]? = some t → cs[j]? = some (Value.string ⟨(textL t).1.toArray⟩)) (hl : l.length ≤ 8192) (hlen : (Lib.join (textsL l) [32]).length ≤ 140737488355328) :
    Calls Tryz.prog 61 #[.slice (some ⟨g,0,none⟩) l.length l.length, .string ⟨#[32]⟩] w fun e w' => e = .returned (.string ⟨(Lib.join (textsL l) [32]).toArray⟩) ∧ Below w.heap.size w w':=by
  have hx : (l.map fun t => (⟨(textL t).1.toArray⟩ : ByteArray)).map (·.data.toList) = textsL l := by
    simp [textsL,Function.comp_def]
  have h := Tryz.strings_Join g 0 l.length (l.map fun t => ⟨(textL t).1.toArray⟩) ⟨#[32]⟩ w (fun j x hj => by
    rw [List.getElem?_map] at hj
    cases ht : l[j]? with
    | none => rw [ht] at hj;cases hj
    | some t =>
      rw [ht] at hj
      injection hj with hj
      subst hj
      rw [Nat.zero_add,zb hb]
      exact hcs j t ht) hg (by rw [List.length_map];omega) (by rw [List.length_map];omega) (by rw [hx];exact hlen)
  rw [hx,List.length_map] at h
  exact h
end
section
theorem runL_take (p : UInt8 → Bool) : ∀ (l : Bytes) (q : Nat),runL p l ≤ q → runL p (l.take q) = runL p l
  | [],q,_ => by simp
  | c :: l,q,h => by
    rw [runL_cons] at h ⊢
    cases hc : p c
    · cases q with
      | zero => simp [runL]
      | succ q => rw [List.take_succ_cons,runL_cons,hc];rfl
    · rw [hc,if_pos rfl] at h
      cases q with
      | zero => omega
      | succ q => rw [List.take_succ_cons,runL_cons,hc,if_pos rfl,if_pos rfl,runL_take p l q (by omega)]
theorem getElem?_take (l : Bytes) (q m : Nat) : (l.take q)[m]? = if m < q then l[m]? else none := by
  rw [List.getElem?_take]
theorem numberL_take (l : Bytes) (q : Nat) (hq : runL isDigit l ≤ q) (h0 : 0 < q) (h : (numberL l).2.2 = 0) : numberL (l.take q) = numberL l := by
  have h1:=runL_take isDigit l q hq
  have h2 : (l.take q).head? = l.head? := by
    cases l with
    | nil => simp
    | cons c l => cases q with
      | zero => omega
      | succ q => simp
  unfold numberL at h ⊢
  rw [h1,h2]
  dsimp only at h ⊢
  split at h
  · simp at h
  split at h
  · simp at h
  split at h
  · simp at h
  rename_i a1 a2 a3
  rw [if_neg a1,if_neg a2,if_neg a1,if_neg a2,if_neg a3,if_neg ?_,List.take_take,Nat.min_eq_left hq]
  rw [getElem?_take]
  split
  · exact a3
  · simp
theorem tokenL_take (l : Bytes) (cnt q : Nat) (hl : l ≠ []) (he : (tokenL l cnt).2.2 = 0) (hq : (tokenL l cnt).2.1 ≤ q) : tokenL (l.take q) cnt = tokenL l cnt := by
  have hlen:=tokenL_len l cnt hl
  have h1:=hlen.2.1 he
  cases l with
  | nil => exact absurd rfl hl
  | cons c l =>
    cases q with
    | zero => omega
    | succ q =>
      rw [List.take_succ_cons,tokenL_def,tokenL_def,← List.take_succ_cons]
      rw [tokenL_def] at he hq
      split
      · rfl
      rename_i a1
      rw [if_neg a1] at he hq
      split
      · rfl
      rename_i a2
      rw [if_neg a2] at he hq
      split
      · rfl
      rename_i a3
      rw [if_neg a3] at he hq
      split
      · rename_i a4
        rw [if_pos a4] at he hq
        have hr : runL isDigit (c :: l) ≤ q + 1 := by
          have : (numberL (c :: l)).2.1 = runL isDigit (c :: l) := by
            unfold numberL at he ⊢
            dsimp only at he ⊢
            split at he
            · simp at he
            split at he
            · simp at he
            split at he
            · simp at he
            rename_i b1 b2 b3
            rw [if_neg b1,if_neg b2,if_neg b3]
          rw [← this];exact hq
        rw [numberL_take (c :: l) (q + 1) hr (by omega) he]
      · rename_i a4
        rw [if_neg a4] at he hq
        split at he
        · simp at he
        rename_i a5
        rw [if_neg a5] at hq
        have h2:=runL_take isInner (c :: l) (q + 1) hq
        rw [h2,if_neg a5,if_neg a5,List.take_take,Nat.min_eq_left hq]
theorem cutM_all : ∀ (b : Bool) (j pos cnt : Nat) (l : Bytes),l.length ≤ j → cutM b j pos cnt l = ⟨[],0,0⟩
  | b,j,pos,cnt,[],_ => cutM_nil b j pos cnt
  | b,0,pos,cnt,c :: r,h => by simp at h
  | b,j + 1,pos,cnt,c :: r,h => by
    have:=cutM_all b j (pos + 1) cnt r (by simpa using h)
    cases b <;> exact this
/-! ### What stands ahead of an error -/
theorem cutM_before : ∀ (b : Bool) (j pos cnt : Nat) (l : Bytes),(cutM b j pos cnt l).err ≠ 0 →
    ∃ q,(cutM b j pos cnt l).pos = pos + q ∧ j ≤ q ∧ q < l.length ∧ (cutM b j pos cnt (l.take q)).err = 0
  | b,j,pos,cnt,[],h => by rw [cutM_nil] at h;exact absurd rfl h
  | b,j + 1,pos,cnt,c :: r,h => by
    have e1 : ∀ l,cutM b (j + 1) pos cnt (c :: l) = cutM b j (pos + 1) cnt l:=fun l => by cases b <;> rfl
    rw [e1] at h
    obtain ⟨q,h1,h2,h3,h4⟩:=cutM_before b j (pos + 1) cnt r h
    exact ⟨q + 1,by rw [e1,h1];omega,by omega,by simpa using h3,by rw [List.take_succ_cons,e1];exact h4⟩
  | true,0,pos,cnt,c :: r,h => by
    obtain ⟨q,h1,h2,h3,h4⟩:=cutM_before (notEol c) 0 (pos + 1) cnt r h
    exact ⟨q + 1,by show (cutM (notEol c) 0 (pos + 1) cnt r).pos = _;rw [h1];omega,by omega,by simpa using h3,by rw [List.take_succ_cons];exact h4⟩
  | false,0,pos,cnt,c :: r,h => by
    by_cases hb : isBlank c = true
    · have e1 : ∀ l,cutM false 0 pos cnt (c :: l) = cutM false 0 (pos + 1) cnt l := fun l => by rw [cutM,if_pos hb]
      rw [e1] at h
      obtain ⟨q,h1,h2,h3,h4⟩:=cutM_before false 0 (pos + 1) cnt r h
      exact ⟨q + 1,by rw [e1,h1];omega,by omega,by simpa using h3,by rw [List.take_succ_cons,e1];exact h4⟩
    by_cases h35 : c = 35
    · have e1 : ∀ l,cutM false 0 pos cnt (c :: l) = cutM true 0 (pos + 1) cnt l := fun l => by rw [cutM,if_neg hb,if_pos h35]
      rw [e1] at h
      obtain ⟨q,h1,h2,h3,h4⟩:=cutM_before true 0 (pos + 1) cnt r h
      exact ⟨q + 1,by rw [e1,h1];omega,by omega,by simpa using h3,by rw [List.take_succ_cons,e1];exact h4⟩
    have e1 : ∀ l,cutM false 0 pos cnt (c :: l) = if (tokenL (c :: l) cnt).2.2 ≠ 0 then ⟨[],pos + (tokenL (c :: l) cnt).2.1,(tokenL (c :: l) cnt).2.2⟩
        else .cons { (tokenL (c :: l) cnt).1 with pos:=pos } (cutM false ((tokenL (c :: l) cnt).2.1 - 1) (pos + 1) (cnt + 1) l):=fun l => by rw [cutM,if_neg hb,if_neg h35]
    by_cases he : (tokenL (c :: r) cnt).2.2 ≠ 0
    · rw [e1,if_pos he]
      by_cases h0 : (tokenL (c :: r) cnt).2.1 = 0
      · exact ⟨0,by rw [h0],Nat.le_refl _,by simp,by rw [List.take_zero,cutM_nil]⟩
      · -- a number with a letter behind it
        rw [tokenL_def] at he h0
        have hx : ¬(signK c = 0 ∧ isLetter c = false ∧ isDigit c = false) ∧ cnt ≠ 8192 ∧ signK c = 0 ∧ isDigit c = true := by
          split at he
          · rename_i a;rw [if_pos a] at h0;exact absurd rfl h0
          rename_i a1
          rw [if_neg a1] at h0
          split at he
          · rename_i a;rw [if_pos a] at h0;exact absurd rfl h0
          rename_i a2
          rw [if_neg a2] at h0
          split at he
          · rename_i a;exact absurd rfl he
          rename_i a3
          rw [if_neg a3] at h0
          split at he
          · rename_i a4;exact ⟨a1,a2,by simpa using a3,a4⟩
          rename_i a4
          rw [if_neg a4] at h0
          split at he
          · rename_i a;rw [if_pos a] at h0;exact absurd rfl h0
          · exact absurd rfl he
        obtain ⟨a1,a2,a3,a4⟩:=hx
        have htd : ∀ l,tokenL (c :: l) cnt = (⟨2,0,(numberL (c :: l)).1,[]⟩,(numberL (c :: l)).2.1,(numberL (c :: l)).2.2) := fun l => by
          rw [tokenL_def,if_neg a1,if_neg a2,if_neg (by simp [a3]),if_pos a4]
        rw [← tokenL_def,htd] at he h0
        dsimp only at he h0
        obtain ⟨m,hm⟩ : ∃ m,m = runL isDigit (c :: r):=⟨_,rfl⟩
        have hnum : m ≤ 9 ∧ ¬((c :: r).head? = some 48 ∧ m > 1) ∧ ((c :: r)[m]?).any isInner = true ∧ (numberL (c :: r)).2.1 = m := by
          unfold numberL at h0 he ⊢
          rw [← hm] at h0 he ⊢
          dsimp only at h0 he ⊢
          split at h0
          · exact absurd rfl h0
          rename_i b1
          rw [if_neg b1] at he
          split at h0
          · exact absurd rfl h0
          rename_i b2
          rw [if_neg b2] at he
          split at he
          · rename_i b3
            exact ⟨by omega,b2,b3,by rw [if_neg b1,if_neg b2,if_pos b3]⟩
          · exact absurd rfl he
        obtain ⟨b1,b2,b3,b4⟩:=hnum
        have hml : m < (c :: r).length := by
          rcases Nat.lt_or_ge m (c :: r).length with h | h
          · exact h
          · rw [List.getElem?_eq_none h] at b3;cases b3
        have hm0 : 0 < m:=by rw [hm];exact runL_head _ _ _ a4
        have hrt : runL isDigit ((c :: r).take m) = m:=by rw [runL_take _ _ _ (by omega),← hm]
        obtain ⟨m',rfl⟩ : ∃ m',m = m' + 1:=⟨m - 1,by omega⟩
        have hnt : (numberL ((c :: r).take (m' + 1))).2 = (m' + 1,0) := by
          unfold numberL
          rw [hrt]
          dsimp only
          rw [if_neg (by omega),if_neg ?_,if_neg ?_]
          · rw [List.getElem?_eq_none (by rw [List.length_take];omega)];simp
          · rw [List.take_succ_cons];exact b2
        refine ⟨m' + 1,by rw [htd];dsimp only;rw [b4],by omega,hml,?_⟩
        rw [List.take_succ_cons,e1,htd,← List.take_succ_cons]
        dsimp only
        rw [hnt]
        dsimp only
        rw [if_neg (by simp),cutM_all false _ _ _ _ (by rw [List.length_take];omega)]
        rfl
    · have hl := tokenL_len (c :: r) cnt (by simp)
      rw [e1,if_neg he] at h ⊢
      have he0 : (tokenL (c :: r) cnt).2.2 = 0:=by simpa using he
      have hw:=hl.2.1 he0
      have hr : (cutM false ((tokenL (c :: r) cnt).2.1 - 1) (pos + 1) (cnt + 1) r).err ≠ 0 := by
        unfold CutRes.cons at h
        split at h
        · exact absurd rfl h
        · exact h
      obtain ⟨q,h1,h2,h3,h4⟩:=cutM_before false ((tokenL (c :: r) cnt).2.1 - 1) (pos + 1) (cnt + 1) r hr
      have htk:=tokenL_take (c :: r) cnt (q + 1) (by simp) he0 (by omega)
      rw [List.take_succ_cons] at htk
      refine ⟨q + 1,?_,by omega,by simpa using h3,?_⟩
      · unfold CutRes.cons;rw [if_neg hr,h1];omega
      · rw [List.take_succ_cons,e1,htk,if_neg he]
        unfold CutRes.cons
        rw [h4];rfl
end
end Go.Proofs.YtjbniichcopnlaaGreatDoor
