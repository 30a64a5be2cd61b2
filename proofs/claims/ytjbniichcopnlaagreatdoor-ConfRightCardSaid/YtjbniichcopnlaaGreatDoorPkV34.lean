import Derived.Test.YtjbniichcopnlaaGreatDoorPkV33
import Derived.Lib.Builder
import Derived.Lib.OwnKind
import Derived.Lib.AppendStr
import Derived.Lib.UnsafeStr
import Derived.Laws.Externs
import Derived.Shelf.Strings.Builder1
import Derived.Test.YtjbniichcopnlaaGreatDoorPkV10
import Derived.Lib.Join
import Derived.Lib.ItoaNum
import Derived.Deep.OwnRows
import Derived.Laws.OwnMore
import Derived.Test.YtjbniichcopnlaaGreatDoorPkV0
import Derived.Test.YtjbniichcopnlaaGreatDoorPkV12
section
/- Layer 10 (layout): a strings.Builder that is the first field of a sheet: its methods (turned from the kit's proofs over a builder in a block of its own). -/
set_option linter.unusedVariables false
set_option linter.unusedSimpArgs false
namespace Go.Proofs.YtjbniichcopnlaaGreatDoor
open Go.RowKit

/-- A sheet in block b, holding the bytes bs, and so many tokens; p: what its builder's own address holds. -/
def SheetAt (B b : Nat) (p : Value) (bs : List Value) (k : Int) (w : World) : Prop :=
  B ≤ b ∧ ∃ v, w.heap[b]? = some (.cells #[p, v, .int .i64 k] 68 (0, 0)) ∧ w.ownsRow B 5 1 v bs.length bs ∧ v.ownBlock ≠ some b
/-- .. fresh or used. -/
def IsSheet (B b : Nat) (bs : List Value) (k : Int) (w : World) : Prop :=
  SheetAt B b (.pointer none) bs k w ∨ SheetAt B b (.pointer (some ⟨b, 0, none⟩)) bs k w

variable {B b : Nat} {p : Value} {bs : List Value} {k : Int} {w : World}
theorem SheetAt.is (h : SheetAt B b (.pointer (some ⟨b, 0, none⟩)) bs k w) : IsSheet B b bs k w := Or.inr h
theorem IsSheet.any (h : IsSheet B b bs k w) : ∃ p, SheetAt B b p bs k w := by
  rcases h with h | h
  · exact ⟨_, h⟩
  · exact ⟨_, h⟩
theorem SheetAt.cell0 (h : SheetAt B b p bs k w) : w.cell? ⟨b, 0, none⟩ = some p := by
  obtain ⟨_, v, hb, _⟩ := h
  simp [World.cell?, hb]
theorem SheetAt.shape (h : SheetAt B b p bs k w) : w.shape? b = some (68, 3) := by
  obtain ⟨_, v, hb, _⟩ := h
  simp [World.shape?, hb]
theorem SheetAt.lt (h : SheetAt B b p bs k w) : b < w.heap.size := by
  obtain ⟨_, v, hb, _⟩ := h
  exact (Array.getElem?_eq_some_iff.1 hb).1
theorem IsSheet.lt (h : IsSheet B b bs k w) : b < w.heap.size := by
  obtain ⟨_, h⟩ := h.any
  exact h.lt
theorem SheetAt.frozen (h : SheetAt B b p bs k w) (j : Nat) : w.frozen? ⟨b, j, none⟩ = false := by
  obtain ⟨_, v, hb, _⟩ := h
  simp [World.frozen?, hb]
theorem IsSheet.cell2 (h : IsSheet B b bs k w) : w.cell? ⟨b, 2, none⟩ = some (.int .i64 k) ∧ w.frozen? ⟨b, 2, none⟩ = false := by
  obtain ⟨_, h⟩ := h.any
  refine ⟨?_, h.frozen 2⟩
  obtain ⟨_, v, hb, _⟩ := h
  simp [World.cell?, hb]

theorem own_setCell {v : Value} {n : Nat} {xs : List Value} (hown : w.ownsRow B 5 1 v n xs) (hne : v.ownBlock ≠ some b) (j : Nat) (q : Value) : (w.setCell ⟨b, j, none⟩ q).ownsRow B 5 1 v n xs :=
  hown.kept (row := some b) ⟨rfl, rfl, rfl, by simp [World.setCell], fun i _ hi => Below.heap_setCell _ _ _ _ (fun e => hi (by simp [e]))⟩ (Or.inr hne)

theorem SheetAt.used (h : SheetAt B b p bs k w) (q : Value) : SheetAt B b q bs k (w.setCell ⟨b, 0, none⟩ q) := by
  obtain ⟨hB, v, hb, hown, hne⟩ := h
  exact ⟨hB, v, by simp [World.setCell, Array.getElem?_modify, hb], own_setCell hown hne 0 q, hne⟩
theorem SheetAt.put {v v' : Value} {bs' : List Value} (hB : B ≤ b) (hb : w.heap[b]? = some (.cells #[p, v, .int .i64 k] 68 (0, 0))) (hown : w.ownsRow B 5 1 v' bs'.length bs') :
    SheetAt B b p bs' k (w.setCell ⟨b, 1, none⟩ v') := by
  have hne := Lib.ownBlock_ne hown hb (by decide)
  exact ⟨hB, v', by simp [World.setCell, Array.getElem?_modify, hb], own_setCell hown hne 1 v', hne⟩
theorem SheetAt.count (h : SheetAt B b p bs k w) (k' : Int) : SheetAt B b p bs k' (w.setCell ⟨b, 2, none⟩ (.int .i64 k')) := by
  obtain ⟨hB, v, hb, hown, hne⟩ := h
  exact ⟨hB, v, by simp [World.setCell, Array.getElem?_modify, hb], own_setCell hown hne 2 _, hne⟩
theorem IsSheet.count (h : IsSheet B b bs k w) (k' : Int) : IsSheet B b bs k' (w.setCell ⟨b, 2, none⟩ (.int .i64 k')) := by
  rcases h with h | h
  · exact Or.inl (h.count k')
  · exact Or.inr (h.count k')
theorem SheetAt.keep {w' : World} (h : SheetAt B b p bs k w) (hb : Below w.heap.size w w') : SheetAt B b p bs k w' := by
  obtain ⟨hB, v, hbk, hown, hne⟩ := h
  refine ⟨hB, v, (hb.block b (Array.getElem?_eq_some_iff.1 hbk).1).trans hbk, ?_, hne⟩
  exact own_below hown hb
theorem IsSheet.keep {w' : World} (h : IsSheet B b bs k w) (hb : Below w.heap.size w w') : IsSheet B b bs k w' := by
  rcases h with h | h
  · exact Or.inl (h.keep hb)
  · exact Or.inr (h.keep hb)
theorem IsSheet.drew (h : IsSheet B b bs k w) : IsSheet B b bs k w.drew := h

theorem info_b : (Tryz.prog.info? 66).map (·.size) = some 2 := by kernel_rfl
theorem info_u8 : (Tryz.prog.info? 5).map (fun i => (i.zero, i.size, i.bytes)) = some (some (.int .u8 0), 1, 1) := by kernel_rfl

set_option maxHeartbeats 1000000 in
set_option maxRecDepth 100000 in
/-- copyCheck: behind it the builder is used. -/
theorem sheet_copyCheck (h : IsSheet B b bs k w) :
    Calls Tryz.prog 89 #[.pointer (some ⟨b, 0, none⟩)] w fun e w' => e = .returned (.tuple #[]) ∧ SheetAt B b (.pointer (some ⟨b, 0, none⟩)) bs k w' ∧ Below B w w' ∧ Lib.OthersKept 5 (some b) w w' := by
  obtain ⟨j, hj, hjs⟩ := Option.map_eq_some_iff.1 info_b
  have hlies : liesAt Tryz.prog Tryz.prog.depth 68 (3 / Tryz.prog.cellsOf 68) 0 66 1 = true := by kernel_rfl
  rcases h with h | h
  · have h0 := h.cell0
    have hsh := h.shape
    have hfz := h.frozen 0
    go_enter Tryz.func89, Tryz.ntmps89
    go_wp2
    rw [Lib.run_to_unsafe w ⟨b, 0, none⟩ Tryz.underlying63 Tryz.underlying146 hj (by rw [hjs]; decide) hsh (Nat.zero_lt_succ 2)]
    simp only [Result.andThen]
    rw [Oper.upon_value]
    go_wp2
    rw [run_callFunc_extern Tryz.func111 (by kernel_rfl) (by kernel_rfl) (by kernel_rfl) (e := Extern.AbiNoEscape.same) (by kernel_rfl)]
    rw [Lib.run_noEscape]
    simp only [Result.andThen]
    rw [Oper.upon_value]
    go_wp2
    rw [Lib.run_from_unsafe w ⟨b, 0, none⟩ Tryz.underlying146 Tryz.underlying63 hj hsh hlies]
    simp only [Result.andThen]
    rw [Oper.upon_value]
    go_wp2
    go_end0
    exact ⟨rfl, h.used _, (Below.refl B w).setCell (p := ⟨b, 0, none⟩) h.1 _, (Lib.OthersKept.refl _ _ w).setCell ⟨b, 0, none⟩ rfl _⟩
  · have h0 := h.cell0
    go_enter Tryz.func89, Tryz.ntmps89
    go_wp2
    rw [Lib.run_neq_ptr_same w _ Tryz.underlying63 hj]
    go_wp2
    go_end0
    exact ⟨rfl, h, Below.refl B _, Lib.OthersKept.refl _ _ _⟩

set_option maxHeartbeats 2000000 in
set_option maxRecDepth 100000 in
theorem sheet_WriteString (s : ByteArray) (h : IsSheet B b bs k w) (hlen : bs.length + s.size ≤ 140737488355328) (hBw : B ≤ w.heap.size) :
    Calls Tryz.prog 59 #[.pointer (some ⟨b, 0, none⟩), .string s] w fun e w' => e = .returned (.tuple #[.int .i64 s.size, .nilIface]) ∧ IsSheet B b (bs ++ Lib.strCells s) k w' ∧ Below B w w' ∧ Lib.OthersKept 5 (some b) w w' := by
  obtain ⟨i0, hi, hz0, hz1, hz2⟩ := info_parts info_u8
  go_enter Tryz.func59, Tryz.ntmps59
  go_wp2_with (go_at_call 89; refine (sheet_copyCheck h).mono ?_)
  rintro e w1 ⟨rfl, h1, hb1, hk1⟩
  obtain ⟨hB, v, hbk, hown, hne⟩ := h1
  have c0 : w1.cell? ⟨b, 0, none⟩ = some (.pointer (some ⟨b, 0, none⟩)) := by rw [Lib.cell_of_heap hbk]; rfl
  have c1 : w1.cell? ⟨b, 1, none⟩ = some v := by rw [Lib.cell_of_heap hbk]; rfl
  go_wp2_with (at_builtin; refine Lib.wpList_append_own_string _ rfl _ _ 64 9 rfl B 5 i0 Tryz.underlying64 Tryz.underlying9 hi hz0 hz1 hz2 _ _ _ rfl hown s rfl ?c3 ?c4 ?c5 ?_)
  case c3 => unfold maxLen; omega
  case c4 => omega
  case c5 => have := hb1.size; omega
  intro v' w2 hown' hgrow _
  have hlt : b < w1.heap.size := (Array.getElem?_eq_some_iff.1 hbk).1
  have hb2 : w2.heap[b]? = some (.cells #[.pointer (some ⟨b, 0, none⟩), v, .int .i64 k] 68 (0, 0)) := by
    rw [hgrow.block b hlt (fun e => hne e.symm)]
    exact hbk
  have d0 : w2.cell? ⟨b, 0, none⟩ = some (.pointer (some ⟨b, 0, none⟩)) := by rw [Lib.cell_of_heap hb2]; rfl
  have d1 : w2.cell? ⟨b, 1, none⟩ = some v := by rw [Lib.cell_of_heap hb2]; rfl
  have f1 : w2.frozen? ⟨b, 1, none⟩ = false := Lib.frozen_of_heap hb2 1
  obtain ⟨ao, n', cap, rfl⟩ : ∃ ao n' cap, v' = .slice ao n' cap := by
    rcases hown'.2 with ⟨hv, _⟩ | ⟨g, cap, cur, hv, _⟩
    · exact ⟨_, _, _, hv⟩
    · exact ⟨_, _, _, hv⟩
  go_wp2
  go_ret2
  refine ⟨rfl, Or.inr ?_, ?_, (hk1.grown hgrow (Lib.ownsRow_kind hown)).setCell ⟨b, 1, none⟩ rfl _⟩
  · exact SheetAt.put hB hb2 (bs' := bs ++ Lib.strCells s) (by simpa [Lib.strCells_length] using hown')
  · exact (hb1.grown hgrow (by have := hb1.size; omega) (fun k hk => (hown.lt k hk).1)).setCell (p := ⟨b, 1, none⟩) hB _

set_option maxHeartbeats 2000000 in
set_option maxRecDepth 100000 in
theorem sheet_WriteByte (c : Int) (h : IsSheet B b bs k w) (hlen : bs.length + 1 ≤ 140737488355328) (hBw : B ≤ w.heap.size) :
    Calls Tryz.prog 62 #[.pointer (some ⟨b, 0, none⟩), .int .u8 c] w fun e w' => e = .returned .nilIface ∧ IsSheet B b (bs ++ [.int .u8 c]) k w' ∧ Below B w w' ∧ Lib.OthersKept 5 (some b) w w' := by
  obtain ⟨i0, hi, hz0, hz1, hz2⟩ := info_parts info_u8
  go_enter Tryz.func62, Tryz.ntmps62
  go_wp2_with (go_at_call 89; refine (sheet_copyCheck h).mono ?_)
  rintro e w1 ⟨rfl, h1, hb1, hk1⟩
  obtain ⟨hB, v, hbk, hown, hne⟩ := h1
  have c0 : w1.cell? ⟨b, 0, none⟩ = some (.pointer (some ⟨b, 0, none⟩)) := by rw [Lib.cell_of_heap hbk]; rfl
  have c1 : w1.cell? ⟨b, 1, none⟩ = some v := by rw [Lib.cell_of_heap hbk]; rfl
  go_wp2_with (at_builtin; refine wpList_append_own _ rfl _ _ 64 rfl B 5 i0 (.int .u8 0) 1 1 Tryz.underlying64 hi hz0 hz1 hz2 rfl (by decide) _ _ _ rfl (hown.alloc _) ⟨w1.heap.size, 0, none⟩ 1 1 [.int .u8 c] rfl rfl ?c1 ?c2 ?c3 ?c4 ?c5 ?_)
  case c1 =>
    intro j u hj
    match j, hj with
    | 0, hj => simp at hj; subst hj; simp [Addr.add]
  case c2 => intro u hu; simp at hu; subst hu; rfl
  case c3 => unfold maxLen; omega
  case c4 => omega
  case c5 => have := hb1.size; simp; omega
  intro v' w2 hown' hgrow _
  have hlt : b < w1.heap.size := (Array.getElem?_eq_some_iff.1 hbk).1
  have hb2 : w2.heap[b]? = some (.cells #[.pointer (some ⟨b, 0, none⟩), v, .int .i64 k] 68 (0, 0)) := by
    rw [hgrow.block b (by simp; omega) (fun e => hne e.symm), Lib.alloc_old w1 _ b hlt]
    exact hbk
  have d0 : w2.cell? ⟨b, 0, none⟩ = some (.pointer (some ⟨b, 0, none⟩)) := by rw [Lib.cell_of_heap hb2]; rfl
  have d1 : w2.cell? ⟨b, 1, none⟩ = some v := by rw [Lib.cell_of_heap hb2]; rfl
  have f1 : w2.frozen? ⟨b, 1, none⟩ = false := Lib.frozen_of_heap hb2 1
  obtain ⟨ao, n', cap, rfl⟩ : ∃ ao n' cap, v' = .slice ao n' cap := by
    rcases hown'.2 with ⟨hv, _⟩ | ⟨g, cap, cur, hv, _⟩
    · exact ⟨_, _, _, hv⟩
    · exact ⟨_, _, _, hv⟩
  go_wp2
  go_ret
  refine ⟨rfl, Or.inr ?_, ?_, ((hk1.alloc _).grown hgrow (Lib.ownsRow_kind (hown.alloc _))).setCell ⟨b, 1, none⟩ rfl _⟩
  · exact SheetAt.put hB hb2 (bs' := bs ++ [.int .u8 c]) (by simpa using hown')
  · exact ((hb1.alloc (by have := hb1.size; omega) _).grown hgrow (by have := hb1.size; simp; omega) (fun k hk => (hown.lt k hk).1)).setCell (p := ⟨b, 1, none⟩) hB _

set_option maxHeartbeats 1000000 in
set_option maxRecDepth 100000 in
theorem sheet_Len (h : IsSheet B b bs k w) :
    Calls Tryz.prog 36 #[.pointer (some ⟨b, 0, none⟩)] w fun e w' => e = .returned (.int .i64 bs.length) ∧ w = w' := by
  obtain ⟨p, hB, v, hbk, hown, hne⟩ := h.any
  obtain ⟨ao, cap, rfl⟩ : ∃ ao cap, v = .slice ao bs.length cap := by
    rcases hown.2 with ⟨hv, h0⟩ | ⟨g, cap, cur, hv, _⟩
    · exact ⟨none, 0, by rw [hv, h0]⟩
    · exact ⟨_, _, hv⟩
  have c1 : w.cell? ⟨b, 1, none⟩ = some (.slice ao bs.length cap) := by rw [Lib.cell_of_heap hbk]; rfl
  go_enter Tryz.func36, Tryz.ntmps36
  go_wp2
  go_ret
  exact ⟨rfl, rfl⟩

theorem unsafe_none (W : World) (q : Option Addr) : (Builtin.unsafeString_ #[112, 3] 9 #[.pointer q, .int .i64 0]).run Tryz.prog W = .ok (.string .empty) W :=
  Lib.run_unsafeString_none W _ _ _ q

set_option maxHeartbeats 1000000 in
set_option maxRecDepth 100000 in
theorem sheet_String_some (l : List UInt8) (h : IsSheet B b (Lib.byteCells l) k w) (h0 : l ≠ []) :
    Calls Tryz.prog 37 #[.pointer (some ⟨b, 0, none⟩)] w fun e w' => e = .returned (.string ⟨l.toArray⟩) ∧ Below B w w' := by
  obtain ⟨p, hB, v, hbk, hown, hne⟩ := h.any
  have hl0 : l.length ≠ 0 := by simpa using h0
  rw [Lib.byteCells_length] at hown
  obtain ⟨g, cap, cur, rfl, hbg, hg, hnc, hcm, hcs, htake⟩ : ∃ g cap cur, v = .slice (some ⟨g, 0, none⟩) l.length cap ∧ B ≤ g ∧ w.heap[g]? = some (.cells cur 5 (0, 0)) ∧ l.length ≤ cap ∧ cap ≤ maxLen ∧ cur.size = cap * 1 ∧ cur.toList.take (l.length * 1) = Lib.byteCells l := by
    rcases hown.2 with ⟨_, hz⟩ | ⟨g, cap, cur, hv, r⟩
    · exact absurd hz hl0
    · exact ⟨g, cap, cur, hv, r⟩
  have c1 : w.drew.cell? ⟨b, 1, none⟩ = some (.slice (some ⟨g, 0, none⟩) l.length cap) := by
    have : w.drew.heap[b]? = some (.cells #[p, .slice (some ⟨g, 0, none⟩) l.length cap, .int .i64 k] 68 (0, 0)) := hbk
    rw [Lib.cell_of_heap this]; rfl
  have hSD : (Builtin.unsafeSliceData_ #[64] 112 #[.slice (some ⟨g, 0, none⟩) l.length cap]).run Tryz.prog w.drew = .ok (.pointer (some ⟨g, 0, none⟩)) w.drew :=
    Lib.run_unsafeSliceData_row _ _ _ _ _ _ (by omega)
  have hUS : (Builtin.unsafeString_ #[112, 3] 9 #[.pointer (some ⟨g, 0, none⟩), .int .i64 l.length]).run Tryz.prog w.drew = .ok (.string ⟨l.toArray⟩) (w.drew.freeze ⟨g, 0, none⟩ l.length) := by
    refine Lib.run_unsafeString_row w.drew 112 3 9 5 Tryz.underlying112 (by kernel_rfl) g cur.size (by have hg' : w.drew.heap[g]? = some (.cells cur 5 (0, 0)) := hg; simp [World.shape?, hg']) l h0 (by omega) (by unfold maxLen at hcm; omega) ?_
    intro j x hx
    have := hown.cells (g := g) rfl j (.int .u8 x.toNat) (by simp [Lib.byteCells, hx])
    exact this
  go_enter Tryz.func37, Tryz.ntmps37
  go_wp2
  go_region
  all_goals (go_wp2; go_ret; exact ⟨rfl, Lib.below_freeze (Below.drew (Below.refl B w)) (p := ⟨g, 0, none⟩) hbg _⟩)

set_option maxHeartbeats 2000000 in
set_option maxRecDepth 100000 in
theorem sheet_String_nil (hbk : w.heap[b]? = some (.cells #[p, .slice none 0 0, .int .i64 k] 68 (0, 0))) :
    Calls Tryz.prog 37 #[.pointer (some ⟨b, 0, none⟩)] w fun e w' => e = .returned (.string ⟨#[]⟩) ∧ Below B w w' := by
  have hUS := unsafe_none
  have c1 : w.drew.cell? ⟨b, 1, none⟩ = some (.slice none 0 0) := by
    have : w.drew.heap[b]? = some (.cells #[p, .slice none 0 0, .int .i64 k] 68 (0, 0)) := hbk
    rw [Lib.cell_of_heap this]; rfl
  have hSD : (Builtin.unsafeSliceData_ #[64] 112 #[.slice none 0 0]).run Tryz.prog w.drew = .ok (.pointer none) w.drew := rfl
  go_enter Tryz.func37, Tryz.ntmps37
  go_wp2
  go_region
  all_goals (go_wp2; go_ret; exact ⟨rfl, Below.drew (Below.refl B w)⟩)

set_option maxHeartbeats 2000000 in
set_option maxRecDepth 100000 in
theorem sheet_String_noroom (g : Nat) (cur : Array Value) (hBw : B ≤ w.heap.size) (hbk : w.heap[b]? = some (.cells #[p, .slice (some ⟨g, 0, none⟩) 0 0, .int .i64 k] 68 (0, 0))) (hg : w.heap[g]? = some (.cells cur 5 (0, 0))) :
    Calls Tryz.prog 37 #[.pointer (some ⟨b, 0, none⟩)] w fun e w' => e = .returned (.string ⟨#[]⟩) ∧ Below B w w' := by
  have hUS := unsafe_none
  have hlt : b < w.heap.size := (Array.getElem?_eq_some_iff.1 hbk).1
  have c1 : w.drew.cell? ⟨b, 1, none⟩ = some (.slice (some ⟨g, 0, none⟩) 0 0) := by
    have : w.drew.heap[b]? = some (.cells #[p, .slice (some ⟨g, 0, none⟩) 0 0, .int .i64 k] 68 (0, 0)) := hbk
    rw [Lib.cell_of_heap this]; rfl
  have hSD : (Builtin.unsafeSliceData_ #[64] 112 #[.slice (some ⟨g, 0, none⟩) 0 0]).run Tryz.prog w.drew = .ok (.pointer (some ⟨w.drew.heap.size, 0, none⟩)) (w.drew.alloc (.view ⟨g, 0, none⟩ 5)) :=
    Lib.run_unsafeSliceData_zero w.drew _ _ 5 Tryz.underlying112 ⟨g, 0, none⟩ 0 (5, cur.size) (by have hg' : w.drew.heap[g]? = some (.cells cur 5 (0, 0)) := hg; simp [World.shape?, hg'])
  have c2 : (w.drew.alloc (.view ⟨g, 0, none⟩ 5)).cell? ⟨b, 1, none⟩ = some (.slice (some ⟨g, 0, none⟩) 0 0) := by
    have : (w.drew.alloc (.view ⟨g, 0, none⟩ 5)).heap[b]? = _ := (Lib.alloc_old w.drew _ b hlt).trans hbk
    rw [Lib.cell_of_heap this]; rfl
  have c3 : (w.alloc (.view ⟨g, 0, none⟩ 5)).drew.cell? ⟨b, 1, none⟩ = some (.slice (some ⟨g, 0, none⟩) 0 0) := c2
  have c0 : w.cell? ⟨b, 1, none⟩ = some (.slice (some ⟨g, 0, none⟩) 0 0) := c1
  go_enter Tryz.func37, Tryz.ntmps37
  go_wp2
  go_region
  all_goals (go_wp2; go_ret; exact ⟨rfl, (Below.drew (Below.refl B w)).alloc hBw _⟩)

set_option maxHeartbeats 2000000 in
set_option maxRecDepth 100000 in
theorem sheet_String_room (g cap : Nat) (hc0 : cap ≠ 0) (hbk : w.heap[b]? = some (.cells #[p, .slice (some ⟨g, 0, none⟩) 0 cap, .int .i64 k] 68 (0, 0))) :
    Calls Tryz.prog 37 #[.pointer (some ⟨b, 0, none⟩)] w fun e w' => e = .returned (.string ⟨#[]⟩) ∧ Below B w w' := by
  have hUS := unsafe_none
  have c1 : w.drew.cell? ⟨b, 1, none⟩ = some (.slice (some ⟨g, 0, none⟩) 0 cap) := by
    have : w.drew.heap[b]? = some (.cells #[p, .slice (some ⟨g, 0, none⟩) 0 cap, .int .i64 k] 68 (0, 0)) := hbk
    rw [Lib.cell_of_heap this]; rfl
  have hSD : (Builtin.unsafeSliceData_ #[64] 112 #[.slice (some ⟨g, 0, none⟩) 0 cap]).run Tryz.prog w.drew = .ok (.pointer (some ⟨g, 0, none⟩)) w.drew :=
    Lib.run_unsafeSliceData_row _ _ _ _ _ _ hc0
  clear hc0
  go_enter Tryz.func37, Tryz.ntmps37
  go_wp2
  go_region
  all_goals (go_wp2; go_ret; exact ⟨rfl, Below.drew (Below.refl B w)⟩)

theorem sheet_String (l : List UInt8) (h : IsSheet B b (Lib.byteCells l) k w) (hBw : B ≤ w.heap.size) :
    Calls Tryz.prog 37 #[.pointer (some ⟨b, 0, none⟩)] w fun e w' => e = .returned (.string ⟨l.toArray⟩) ∧ Below B w w' := by
  by_cases h0 : l = []
  · subst h0
    obtain ⟨p, hB, v, hbk, hown, hne⟩ := h.any
    rcases hown.2 with ⟨rfl, _⟩ | ⟨g, cap, cur, rfl, hbg, hg, _, _, _, _⟩
    · exact sheet_String_nil hbk
    · by_cases hc0 : cap = 0
      · subst hc0
        exact sheet_String_noroom g cur hBw hbk hg
      · exact sheet_String_room g cap hc0 hbk
  · exact sheet_String_some l h h0

end Go.Proofs.YtjbniichcopnlaaGreatDoor
end

section
/- Layer 8 (lex): the walk of Join. -/
namespace Go.Proofs.YtjbniichcopnlaaGreatDoor
open Go.RowKit

/-- What Join makes of tokens. -/
def textsL (l : List Tok) : List Bytes := l.map fun t => (textL t).1
def joinL (l : List Tok) : Bytes × Int :=
  if 8192 < l.length then ([], 1)
  else if l.all (fun t => (textL t).2) then
    (if 65536 < (Lib.join (textsL l) [32]).length then ([], 6) else (Lib.join (textsL l) [32], 0))
  else ([], 1)

theorem ret_se {a b : ByteArray} {x y : Int} (h : a = b) (h' : x = y) : Ending.returned (.tuple #[.string a, .int .i64 x]) = .returned (.tuple #[.string b, .int .i64 y]) := by rw [h, h']

theorem all_step (l : List Tok) (k : Nat) (t : Tok) (h : l[k]? = some t) : (l.drop k).all (fun t => (textL t).2) = ((textL t).2 && (l.drop (k + 1)).all (fun t => (textL t).2)) := by
  obtain ⟨h1, rfl⟩ := List.getElem?_eq_some_iff.1 h
  rw [List.drop_eq_getElem_cons h1]
  rfl

theorem nDigits_pow (k u : Nat) (h : u < 10 ^ (k + 1)) : Lib.nDigits u ≤ k + 1 := by
  induction k generalizing u with
  | zero => rw [Lib.nDigits_small (by omega)]; omega
  | succ k ih =>
    by_cases h0 : u < 10
    · rw [Lib.nDigits_small h0]; omega
    · rw [Lib.nDigits_big h0]
      have := ih (u / 10) (by rw [Nat.pow_succ] at h; omega)
      omega

/-- A token that may be has a short text. -/
theorem text_len (t : Tok) (h : (textL t).2 = true) : (textL t).1.length ≤ 16 := by
  unfold textL at h ⊢
  by_cases h1 : t.kind = 1
  · rw [if_pos h1] at h ⊢
    simp only [Bool.and_eq_true] at h
    have := h.1
    unfold nameL at this
    split at this
    · simp at this
    · simp only [Bool.and_eq_true, decide_eq_true_eq] at this
      exact this.1.1
  by_cases h2 : t.kind = 2
  · rw [if_neg h1, if_pos h2] at h ⊢
    simp only [decide_eq_true_eq] at h
    show (Lib.itoa t.n).length ≤ 16
    rw [Lib.itoa, if_neg (by omega), Lib.decDigits_length]
    have := nDigits_pow 8 t.n.toNat (by omega)
    omega
  rw [if_neg h1, if_neg h2]
  repeat' split
  all_goals simp

theorem joinTail_len (xs : List Bytes) (h : ∀ x ∈ xs, x.length ≤ 16) : (Lib.joinTail [32] xs).length ≤ 17 * xs.length := by
  induction xs with
  | nil => simp [Lib.joinTail]
  | cons x r ih =>
    have h1 := h x (List.mem_cons_self ..)
    have h2 := ih fun y hy => h y (List.mem_cons_of_mem _ hy)
    simp only [Lib.joinTail, List.map_cons, List.flatten_cons, List.length_append, List.length_cons, List.length_nil] at h2 ⊢
    omega
theorem join_len (xs : List Bytes) (h : ∀ x ∈ xs, x.length ≤ 16) : (Lib.join xs [32]).length ≤ 17 * xs.length := by
  cases xs with
  | nil => simp [Lib.join_nil]
  | cons x r =>
    have h1 := h x (List.mem_cons_self ..)
    have h2 := joinTail_len r fun y hy => h y (List.mem_cons_of_mem _ hy)
    rw [Lib.join_cons, List.length_append, List.length_cons]
    omega
theorem texts_len (l : List Tok) (h : l.all (fun t => (textL t).2) = true) : (Lib.join (textsL l) [32]).length ≤ 17 * l.length := by
  have := join_len (textsL l) (fun x hx => by
    obtain ⟨t, ht, rfl⟩ := List.mem_map.1 hx
    exact text_len t (List.all_eq_true.1 h t ht))
  rwa [textsL, List.length_map] at this

/-- strings.Join, over texts that lie in the first cells of a block. -/
theorem join_at (l : List Tok) (g : Nat) (cs : Array Value) (w : World) (hg : g < w.heap.size) (hb : w.heap[g]? = some (.cells cs 9 (0, 0)))
    (hcs : ∀ (j : Nat) (t : Tok), l[j]? = some t → cs[j]? = some (Value.string ⟨(textL t).1.toArray⟩)) (hl : l.length ≤ 8192) (hlen : (Lib.join (textsL l) [32]).length ≤ 140737488355328) :
    Calls Tryz.prog 61 #[.slice (some ⟨g, 0, none⟩) l.length l.length, .string ⟨#[32]⟩] w fun e w' => e = .returned (.string ⟨(Lib.join (textsL l) [32]).toArray⟩) ∧ Below w.heap.size w w' := by
  have hx : (l.map fun t => (⟨(textL t).1.toArray⟩ : ByteArray)).map (·.data.toList) = textsL l := by
    simp [textsL, Function.comp_def]
  have h := Tryz.strings_Join g 0 l.length (l.map fun t => ⟨(textL t).1.toArray⟩) ⟨#[32]⟩ w (fun j x hj => by
    rw [List.getElem?_map] at hj
    cases ht : l[j]? with
    | none => rw [ht] at hj; cases hj
    | some t =>
      rw [ht] at hj
      injection hj with hj
      subst hj
      rw [Nat.zero_add, Joins.cell_of_block hb]
      exact hcs j t ht) hg (by rw [List.length_map]; omega) (by rw [List.length_map]; omega) (by rw [hx]; exact hlen)
  rw [hx, List.length_map] at h
  exact h

end Go.Proofs.YtjbniichcopnlaaGreatDoor
end

section
/- Layer 8 (lex), plain laws: tokens put together are cut into the same tokens. No program in sight (joinL, textL stand beside the walk of Join). -/
namespace Go.Proofs.YtjbniichcopnlaaGreatDoor

/-- A token without its place. -/
def Tok.bare (t : Tok) : Tok := { t with pos := 0 }

/-! ### Decimal digits -/
theorem ofNat_digit (k : Nat) (h : k < 10) : isDigit (UInt8.ofNat (48 + k)) = true := by
  rw [isDigit_iff]
  have : (UInt8.ofNat (48 + k)).toNat = 48 + k := by simp; omega
  omega
theorem ofNat_val (k : Nat) (h : k < 10) : ((UInt8.ofNat (48 + k)).toNat : Int) = 48 + k := by
  have : (UInt8.ofNat (48 + k)).toNat = 48 + k := by simp; omega
  omega
theorem decDigits_snoc (u : Nat) (h : ¬ u < 10) : Lib.decDigits u = Lib.decDigits (u / 10) ++ [UInt8.ofNat (48 + u % 10)] := by
  conv => lhs; rw [Lib.decDigits, dif_neg h]

theorem dec_digits : ∀ (k u : Nat), u < 10 ^ (k + 1) → (Lib.decDigits u).all isDigit = true ∧ numL (Lib.decDigits u) = u := by
  intro k
  induction k with
  | zero =>
    intro u h
    rw [Lib.decDigits_one (by omega)]
    refine ⟨by rw [List.all_cons, ofNat_digit u (by omega), List.all_nil]; rfl, ?_⟩
    have := ofNat_val u (by omega)
    simp [numL] at this ⊢
    omega
  | succ k ih =>
    intro u h
    by_cases h10 : u < 10
    · rw [Lib.decDigits_one h10]
      refine ⟨by rw [List.all_cons, ofNat_digit u h10, List.all_nil]; rfl, ?_⟩
      have := ofNat_val u h10
      simp [numL] at this ⊢
      omega
    · obtain ⟨h1, h2⟩ := ih (u / 10) (by rw [Nat.pow_succ] at h; omega)
      rw [decDigits_snoc u h10]
      refine ⟨by rw [List.all_append, h1, List.all_cons, ofNat_digit (u % 10) (by omega), List.all_nil]; rfl, ?_⟩
      rw [numL_snoc, h2, ofNat_val (u % 10) (by omega)]
      omega

theorem dec_ne (u : Nat) : Lib.decDigits u ≠ [] := by
  intro h
  have h1 := Lib.decDigits_length u
  have h2 := Lib.nDigits_pos u
  rw [h] at h1
  simp at h1
  omega

/-- The first digit is no nought, but of nought itself. -/
theorem dec_head : ∀ (k u : Nat), u < 10 ^ (k + 1) → 0 < u → (Lib.decDigits u).head? ≠ some 48 := by
  intro k
  induction k with
  | zero =>
    intro u h h0
    rw [Lib.decDigits_one (by omega)]
    simp only [List.head?_cons, ne_eq, Option.some.injEq]
    intro h2
    have := ofNat_val u (by omega)
    rw [h2] at this
    have e : ((48 : UInt8).toNat : Int) = 48 := rfl
    omega
  | succ k ih =>
    intro u h h0
    by_cases h10 : u < 10
    · rw [Lib.decDigits_one h10]
      simp only [List.head?_cons, ne_eq, Option.some.injEq]
      intro h2
      have := ofNat_val u h10
      rw [h2] at this
      have e : ((48 : UInt8).toNat : Int) = 48 := rfl
      omega
    · rw [decDigits_snoc u h10]
      have := ih (u / 10) (by rw [Nat.pow_succ] at h; omega) (by omega)
      have hne := dec_ne (u / 10)
      cases hd : Lib.decDigits (u / 10) with
      | nil => exact absurd hd hne
      | cons c r => rw [hd] at this; simpa using this

/-- Digits without a nought ahead are the digits of their number. -/
theorem dec_num : ∀ (m : Nat) (l : Bytes), l.length = m → l ≠ [] → l.all isDigit = true → (l.head? = some 48 → l.length ≤ 1) → Lib.decDigits (numL l).toNat = l ∧ (1 < l.length → 10 ≤ numL l) := by
  intro m
  induction m with
  | zero => intro l h hn; exact absurd (List.eq_nil_of_length_eq_zero h) hn
  | succ m ih =>
    intro l hl hn hall hh
    obtain ⟨r, c, rfl⟩ : ∃ r c, l = r ++ [c] := ⟨l.dropLast, l.getLast hn, (List.dropLast_concat_getLast hn).symm⟩
    rw [List.all_append, Bool.and_eq_true] at hall
    have hc := (isDigit_iff c).1 (by simpa using hall.2)
    have hcv : UInt8.ofNat (48 + (c.toNat - 48)) = c := by
      rw [show 48 + (c.toNat - 48) = c.toNat by omega]; simp
    by_cases hr : r = []
    · subst hr
      have : numL ([] ++ [c]) = ((c.toNat - 48 : Nat) : Int) := by rw [numL_snoc]; simp [numL]; omega
      rw [this, Int.toNat_natCast, Lib.decDigits_one (by omega), hcv]
      exact ⟨rfl, by simp⟩
    · have hrl : r.length = m := by simp at hl; omega
      have hrh : r.head? ≠ some 48 := by
        intro h
        have : (r ++ [c]).head? = some 48 := by cases r with | nil => exact absurd rfl hr | cons x y => simpa using h
        have := hh this
        rw [List.length_append, List.length_singleton] at this
        exact hr (List.eq_nil_of_length_eq_zero (by omega))
      have hnb := numL_bound r hall.1
      obtain ⟨h1, h2⟩ := ih r hrl hr hall.1 (fun h => absurd h hrh)
      have hpos : 1 ≤ numL r := by
        by_cases h1l : 1 < r.length
        · have := h2 h1l; omega
        · have hr1 : r.length = 1 := by have := List.length_pos_iff.2 hr; omega
          obtain ⟨d, rfl⟩ := List.length_eq_one_iff.1 hr1
          have hd := (isDigit_iff d).1 (by simpa using hall.1)
          have : d.toNat ≠ 48 := by
            intro h
            apply hrh
            simp only [List.head?_cons, Option.some.injEq]
            rw [← UInt8.toNat_inj]
            exact h
          simp [numL]
          omega
      rw [numL_snoc]
      obtain ⟨z, hz⟩ := Int.eq_ofNat_of_zero_le hnb.1
      rw [hz] at h1 hpos ⊢
      have e : ((z : Int) * 10 + ((c.toNat : Int) - 48)).toNat = z * 10 + (c.toNat - 48) := by omega
      rw [e, decDigits_snoc _ (by omega)]
      have e1 : (z * 10 + (c.toNat - 48)) / 10 = z := by omega
      have e2 : (z * 10 + (c.toNat - 48)) % 10 = c.toNat - 48 := by omega
      rw [e1, e2, hcv]
      rw [Int.toNat_natCast] at h1
      rw [h1]
      exact ⟨rfl, fun _ => by omega⟩

theorem numberL_pos (u : Bytes) (h : (numberL u).2.2 = 0) : numberL u = (numL (u.take (runL isDigit u)), runL isDigit u, 0) ∧ runL isDigit u ≤ 9 ∧ ¬ (u.head? = some 48 ∧ runL isDigit u > 1) := by
  unfold numberL at h ⊢
  dsimp only at h ⊢
  split at h
  · simp at h
  split at h
  · simp at h
  split at h
  · simp at h
  rename_i a1 a2 a3
  rw [if_neg a1, if_neg a2, if_neg a3]
  exact ⟨rfl, by omega, a2⟩

/-- The token that stands first may be, and what stands there is its text. -/
theorem tokenL_text (l : Bytes) (cnt : Nat) (hl : l ≠ []) (he : (tokenL l cnt).2.2 = 0) : textL (tokenL l cnt).1 = (l.take (tokenL l cnt).2.1, true) := by
  cases l with
  | nil => exact absurd rfl hl
  | cons c r =>
    rw [tokenL_def] at he ⊢
    split at he
    · simp at he
    rename_i a1
    rw [if_neg a1]
    split at he
    · simp at he
    rename_i a2
    rw [if_neg a2]
    split at he
    · rename_i a3
      rw [if_pos a3]
      unfold signK at a3 ⊢
      by_cases h1 : c = 123
      · subst h1; rfl
      by_cases h2 : c = 125
      · subst h2; rfl
      by_cases h3 : c = 59
      · subst h3; rfl
      rw [if_neg h1, if_neg h2, if_neg h3] at a3
      exact absurd rfl a3
    rename_i a3
    rw [if_neg a3]
    split at he
    · rename_i a4
      rw [if_pos a4]
      obtain ⟨hn, h9, h0⟩ := numberL_pos (c :: r) he
      have hm := runL_head isDigit c r a4
      have hle := runL_le isDigit (c :: r)
      have hall := runL_all isDigit (c :: r)
      have hlen : ((c :: r).take (runL isDigit (c :: r))).length = runL isDigit (c :: r) := by rw [List.length_take]; omega
      have hhead : ((c :: r).take (runL isDigit (c :: r))).head? = some c := by
        obtain ⟨k, hk⟩ : ∃ k, runL isDigit (c :: r) = k + 1 := ⟨runL isDigit (c :: r) - 1, by omega⟩
        rw [hk, List.take_succ_cons]; rfl
      have hb := numL_lt ((c :: r).take (runL isDigit (c :: r))) (runL isDigit (c :: r)) hall (by omega)
      rw [List.take_take, Nat.min_self] at hb
      have hd := (dec_num _ ((c :: r).take (runL isDigit (c :: r))) rfl (by intro h; rw [h] at hlen; simp at hlen; omega) hall (by
        intro h; rw [hhead] at h; rw [hlen]
        rw [List.head?_cons] at h0
        by_cases hh : runL isDigit (c :: r) ≤ 1
        · exact hh
        · exact absurd ⟨h, by omega⟩ h0)).1
      rw [hn]
      show (Lib.itoa _, decide _) = _
      rw [Lib.itoa, if_neg (Int.not_lt.2 hb.1), hd, decide_eq_true (by exact ⟨hb.1, hb.2, rfl⟩)]
    rename_i a4
    rw [if_neg a4]
    split at he
    · simp at he
    rename_i a5
    rw [if_neg a5]
    have hlt : isLetter c = true := by
      cases hl : isLetter c
      · exact absurd ⟨by simpa using a3, hl, by simpa using a4⟩ a1
      · rfl
    have hin : isInner c = true := by simp [isInner, hlt]
    have hall := runL_all isInner (c :: r)
    have hlen : ((c :: r).take (runL isInner (c :: r))).length ≤ 16 := by rw [List.length_take]; omega
    obtain ⟨m, hm⟩ : ∃ m, runL isInner (c :: r) = m + 1 := ⟨runL isInner (c :: r) - 1, by have := runL_head isInner c r hin; omega⟩
    rw [hm] at hall hlen ⊢
    rw [List.take_succ_cons] at hall hlen ⊢
    show (_, nameL _ && decide _) = _
    simp only [nameL, decide_true, hlt, hall, Bool.and_self, decide_eq_true hlen]

/-- The text of a token that may be is cut into it. -/
theorem tokenL_of_text (t : Tok) (cnt : Nat) (hc : cnt ≠ 8192) (h : (textL t).2 = true) : (textL t).1 ≠ [] ∧ tokenL (textL t).1 cnt = (t.bare, (textL t).1.length, 0) := by
  obtain ⟨K, P, N, S⟩ := t
  unfold textL at h ⊢
  simp only at h ⊢
  by_cases h1 : K = 1
  · subst h1
    simp only [if_true, Bool.and_eq_true, decide_eq_true_eq] at h ⊢
    obtain ⟨hn, rfl⟩ := h
    cases S with
    | nil => cases hn
    | cons c r =>
      simp only [nameL, Bool.and_eq_true, decide_eq_true_eq] at hn
      obtain ⟨⟨h16, hlt⟩, hall⟩ := hn
      refine ⟨by simp, ?_⟩
      have hr := runL_whole isInner (c :: r) hall
      rw [tokenL_def, if_neg (by simp [hlt]), if_neg hc, if_neg (by simp [letter_sign c hlt]), if_neg (by simp [letter_digit c hlt]), hr, if_neg (by omega), List.take_length]
      rfl
  rw [if_neg h1] at h ⊢
  by_cases h2 : K = 2
  · subst h2
    rw [if_pos rfl] at h ⊢
    simp only [decide_eq_true_eq] at h
    obtain ⟨h0, h9, rfl⟩ := h
    obtain ⟨u, rfl⟩ := Int.eq_ofNat_of_zero_le h0
    have hi : Lib.itoa (u : Int) = Lib.decDigits u := by rw [Lib.itoa, if_neg (by omega), Int.toNat_natCast]
    rw [hi]
    obtain ⟨hall, hnum⟩ := dec_digits 8 u (by omega)
    have hne := dec_ne u
    have hlen := Lib.decDigits_length u
    have hnd := nDigits_pow 8 u (by omega)
    refine ⟨hne, ?_⟩
    have hh : ¬ ((Lib.decDigits u).head? = some 48 ∧ (Lib.decDigits u).length > 1) := by
      rintro ⟨a, b⟩
      by_cases hu : u = 0
      · subst hu; rw [Lib.decDigits_one (by omega)] at b; simp at b
      · exact dec_head 8 u (by omega) (by omega) a
    have hr := runL_whole isDigit (Lib.decDigits u) hall
    have hnl : numberL (Lib.decDigits u) = ((u : Int), (Lib.decDigits u).length, 0) := by
      unfold numberL
      rw [hr]
      dsimp only
      rw [if_neg (by omega), if_neg hh, if_neg (by simp), List.take_length, hnum]
    cases hd : Lib.decDigits u with
    | nil => exact absurd hd hne
    | cons c r =>
      rw [hd] at hnl hall
      have hcd : isDigit c = true := by simp at hall; exact hall.1
      have hs : signK c = 0 := by
        by_cases hk : signK c = 0
        · exact hk
        · have := (sign_other c hk).2; rw [hcd] at this; cases this
      rw [tokenL_def, if_neg (by simp [hcd]), if_neg hc, if_neg (by simp [hs]), if_pos hcd, hnl]
      rfl
  rw [if_neg h2] at h ⊢
  by_cases h3 : K = 3
  · subst h3
    rw [if_pos rfl] at h ⊢
    simp only [decide_eq_true_eq] at h
    obtain ⟨rfl, rfl⟩ := h
    exact ⟨by simp, by rw [tokenL_def, if_neg (by decide), if_neg hc, if_pos (by decide)]; rfl⟩
  rw [if_neg h3] at h ⊢
  by_cases h4 : K = 4
  · subst h4
    rw [if_pos rfl] at h ⊢
    simp only [decide_eq_true_eq] at h
    obtain ⟨rfl, rfl⟩ := h
    exact ⟨by simp, by rw [tokenL_def, if_neg (by decide), if_neg hc, if_pos (by decide)]; rfl⟩
  rw [if_neg h4] at h ⊢
  by_cases h5 : K = 5
  · subst h5
    rw [if_pos rfl] at h ⊢
    simp only [decide_eq_true_eq] at h
    obtain ⟨rfl, rfl⟩ := h
    exact ⟨by simp, by rw [tokenL_def, if_neg (by decide), if_neg hc, if_pos (by decide)]; rfl⟩
  rw [if_neg h5] at h
  cases h

theorem text_free (t : Tok) (h : (textL t).2 = true) : freeM false (textL t).1 = 0 := by
  obtain ⟨h1, h2⟩ := tokenL_of_text t 0 (by decide) h
  cases hu : (textL t).1 with
  | nil => exact absurd hu h1
  | cons c r =>
    rw [hu] at h2
    by_cases hb : isBlank c = true
    · exfalso
      have h3 : (tokenL (c :: r) 0).2.2 = 0 := by rw [h2]
      rw [tokenL_def, if_pos ?_] at h3
      · simp at h3
      · have := (blank_iff c).1 hb
        refine ⟨?_, ?_, ?_⟩
        · have := signK_int c; rw [if_neg (by omega), if_neg (by omega), if_neg (by omega)] at this; exact this
        · cases hl : isLetter c
          · rfl
          · have := (isLetter_iff c).1 hl; omega
        · cases hl : isDigit c
          · rfl
          · have := (isDigit_iff c).1 hl; omega
    · by_cases h35 : c = 35
      · exfalso
        subst h35
        have h3 : (tokenL (35 :: r) 0).2.2 = 0 := by rw [h2]
        rw [tokenL_def, if_pos (by decide)] at h3
        simp at h3
      · show (if isBlank c then _ else if c = 35 then _ else 0) = 0
        rw [if_neg hb, if_neg h35]

/-- A token's text with what stops it behind it. -/
theorem cut_text (t : Tok) (pos cnt : Nat) (v : Bytes) (hc : cnt ≠ 8192) (h : (textL t).2 = true) (hv : stops v) :
    cutM false 0 pos cnt ((textL t).1 ++ v) = .cons { t.bare with pos := pos } (cutM false 0 (pos + (textL t).1.length) (cnt + 1) v) := by
  obtain ⟨h1, h2⟩ := tokenL_of_text t cnt hc h
  have hf := text_free t h
  generalize (textL t).1 = u at *
  cases u with
  | nil => exact absurd rfl h1
  | cons c r =>
    have hfh := free_head c r hf
    have hs := tokenL_stop (c :: r) v cnt h1 hv
    rw [h2, List.cons_append] at hs
    rw [List.cons_append, cutM, if_neg (by simp [hfh.1]), if_neg hfh.2, hs]
    dsimp only
    rw [if_neg (by simp), cutM_skip _ _ _ _ (by simp)]
    simp only [List.length_cons, Nat.add_sub_cancel, List.drop_left]
    rw [show pos + 1 + r.length = pos + (r.length + 1) by omega]

theorem tail_stops (xs : List Bytes) : stops (Lib.joinTail [32] xs) := by
  cases xs with
  | nil => intro c hc; simp [Lib.joinTail] at hc
  | cons x r => intro c hc; simp [Lib.joinTail] at hc; subst hc; rfl

theorem cons_bare (t : Tok) (p : Int) (r : CutRes) (h : r.err = 0) : (CutRes.cons { t.bare with pos := p } r).err = 0 ∧ (CutRes.cons { t.bare with pos := p } r).pos = 0 ∧ (CutRes.cons { t.bare with pos := p } r).toks.map Tok.bare = t.bare :: r.toks.map Tok.bare := by
  unfold CutRes.cons
  rw [if_pos h]
  exact ⟨rfl, rfl, by simp [Tok.bare]⟩

theorem cut_tail : ∀ (l : List Tok) (pos cnt : Nat), l.all (fun t => (textL t).2) = true → cnt + l.length ≤ 8192 →
    (cutM false 0 pos cnt (Lib.joinTail [32] (textsL l))).err = 0 ∧ (cutM false 0 pos cnt (Lib.joinTail [32] (textsL l))).pos = 0 ∧ (cutM false 0 pos cnt (Lib.joinTail [32] (textsL l))).toks.map Tok.bare = l.map Tok.bare
  | [], pos, cnt, _, _ => by
    skip
    rw [show Lib.joinTail [32] (textsL []) = [] from rfl, cutM_nil]
    exact ⟨rfl, rfl, rfl⟩
  | t :: l, pos, cnt, h, hl => by
    simp only [List.all_cons, Bool.and_eq_true, List.length_cons] at h hl
    obtain ⟨i1, i2, i3⟩ := cut_tail l (pos + 1 + (textL t).1.length) (cnt + 1) h.2 (by omega)
    have e : Lib.joinTail [32] (textsL (t :: l)) = 32 :: ((textL t).1 ++ Lib.joinTail [32] (textsL l)) := by simp [Lib.joinTail, textsL]
    rw [e, cutM, if_pos (by rfl), cut_text t (pos + 1) cnt _ (by omega) h.1 (tail_stops _)]
    obtain ⟨j1, j2, j3⟩ := cons_bare t ((pos + 1 : Nat) : Int) _ i1
    exact ⟨j1, j2, by rw [j3, i3, List.map_cons]⟩

/-- Tokens put together are cut into the same tokens. -/
theorem join_cut (l : List Tok) (hl : l.length ≤ 8192) (h : (joinL l).2 = 0) : (cutL (joinL l).1).err = 0 ∧ (cutL (joinL l).1).pos = 0 ∧ (cutL (joinL l).1).toks.map Tok.bare = l.map Tok.bare := by
  unfold joinL at h ⊢
  rw [if_neg (by omega)] at h ⊢
  split at h
  · rename_i hall
    rw [if_pos hall]
    split at h
    · simp at h
    · rename_i h6
      rw [if_neg h6]
      unfold cutL
      rw [if_neg h6]
      cases l with
      | nil => exact ⟨rfl, rfl, rfl⟩
      | cons t l =>
        simp only [List.all_cons, Bool.and_eq_true, List.length_cons] at hall hl
        have e : Lib.join (textsL (t :: l)) [32] = (textL t).1 ++ Lib.joinTail [32] (textsL l) := by rw [textsL, List.map_cons, Lib.join_cons]; rfl
        rw [e, cut_text t 0 0 _ (by decide) hall.1 (tail_stops _)]
        obtain ⟨i1, i2, i3⟩ := cut_tail l (0 + (textL t).1.length) (0 + 1) hall.2 (by omega)
        obtain ⟨j1, j2, j3⟩ := cons_bare t ((0 : Nat) : Int) _ i1
        exact ⟨j1, j2, by rw [j3, i3, List.map_cons]⟩
  · simp at h

/-- What Cut tells may be. -/
theorem cutM_ok : ∀ (b : Bool) (j pos cnt : Nat) (l : Bytes), ∀ t ∈ (cutM b j pos cnt l).toks, (textL t).2 = true
  | b, j, pos, cnt, [], t, h => by rw [cutM_nil] at h; simp at h
  | b, j + 1, pos, cnt, c :: r, t, h => by
    have e1 : cutM b (j + 1) pos cnt (c :: r) = cutM b j (pos + 1) cnt r := by cases b <;> rfl
    rw [e1] at h
    exact cutM_ok b j (pos + 1) cnt r t h
  | true, 0, pos, cnt, c :: r, t, h => cutM_ok (notEol c) 0 (pos + 1) cnt r t h
  | false, 0, pos, cnt, c :: r, t, h => by
    rw [cutM] at h
    split at h
    · exact cutM_ok false 0 (pos + 1) cnt r t h
    split at h
    · exact cutM_ok true 0 (pos + 1) cnt r t h
    dsimp only at h
    split at h
    · simp at h
    · rename_i he
      have he0 : (tokenL (c :: r) cnt).2.2 = 0 := by simpa using he
      unfold CutRes.cons at h
      split at h
      · simp only [List.mem_cons] at h
        rcases h with rfl | h
        · have := tokenL_text (c :: r) cnt (by simp) he0
          have e : textL { (tokenL (c :: r) cnt).1 with pos := pos } = textL (tokenL (c :: r) cnt).1 := rfl
          rw [e, this]
        · exact cutM_ok false _ (pos + 1) (cnt + 1) r t h
      · exact cutM_ok false _ (pos + 1) (cnt + 1) r t h

theorem cut_join (s : Bytes) (hs : s.length ≤ 3000) : (joinL (cutL s).toks).2 = 0 := by
  have hl := cutL_len s
  have hall : (cutL s).toks.all (fun t => (textL t).2) = true := by
    rw [List.all_eq_true]
    unfold cutL
    rw [if_neg (by omega)]
    exact cutM_ok _ _ _ _ _
  have hlen := texts_len _ hall
  unfold joinL
  rw [if_neg (by omega), if_pos hall, if_neg (by omega)]

theorem text_fits (t : Tok) (h : (textL t).2 = true) : t.s.length ≤ 16 ∧ 0 ≤ t.n ∧ t.n ≤ 999999999 := by
  obtain ⟨K, P, N, S⟩ := t
  unfold textL at h
  simp only at h ⊢
  by_cases h1 : K = 1
  · rw [if_pos h1] at h
    simp only [Bool.and_eq_true, decide_eq_true_eq] at h
    obtain ⟨h2, rfl⟩ := h
    unfold nameL at h2
    split at h2
    · cases h2
    · simp only [Bool.and_eq_true, decide_eq_true_eq] at h2
      exact ⟨h2.1.1, by omega, by omega⟩
  rw [if_neg h1] at h
  by_cases h2 : K = 2
  · rw [if_pos h2] at h
    simp only [decide_eq_true_eq] at h
    obtain ⟨h3, h4, rfl⟩ := h
    exact ⟨by simp, h3, h4⟩
  rw [if_neg h2] at h
  repeat' split at h
  all_goals first | (cases h; done) | (simp only [decide_eq_true_eq] at h; obtain ⟨rfl, rfl⟩ := h; exact ⟨by simp, by omega, by omega⟩)

theorem join_small (l : List Tok) : (joinL l).1.length ≤ 65536 := by
  unfold joinL
  repeat' split
  all_goals first | (simp; done) | (simp only; omega)

theorem cut_fits (s : Bytes) (hs : s.length ≤ 65536) : ∀ t ∈ (cutL s).toks, (textL t).2 = true := by
  unfold cutL
  rw [if_neg (by omega)]
  exact cutM_ok _ _ _ _ _

end Go.Proofs.YtjbniichcopnlaaGreatDoor
end

section
/- Layer 10 (layout), in plain Lean: how items are written, and that what is written is cut into the items' tokens. No program in sight. -/
namespace Go.Proofs.YtjbniichcopnlaaGreatDoor

def wordB (w : WordL) : Bytes := if w.num then Lib.itoa w.n else w.s
def lineB (d : Nat) (ws : List Bytes) (e : Bytes) : Bytes := List.replicate (2 * d) 32 ++ (Lib.join ws [32] ++ (e ++ [10]))

mutual
def printN (d : Nat) : NodeL → Bytes
  | .mk nm _ ws b ks => if b then lineB d (nm :: ws.map wordB) [32, 123] ++ (printL (d + 1) ks ++ lineB d [] [125]) else lineB d (nm :: ws.map wordB) [59]
def printL (d : Nat) : List NodeL → Bytes
  | [] => []
  | n :: r => printN d n ++ printL d r
end

/-- What Print tells. -/
def layL (l : List NodeL) : Bytes × Int :=
  if checkL 0 l ≠ 0 then ([], checkL 0 l) else if 8192 < (flatL l).length ∨ 65536 < (printL 0 l).length then ([], 6) else (printL 0 l, 0)
/-- What Canon tells. -/
def canonL (s : Bytes) : Bytes × Int × Int :=
  if (treeL s).err ≠ 0 then ([], (treeL s).pos, (treeL s).err) else ((layL (treeL s).nodes).1, 0, (layL (treeL s).nodes).2)

theorem printL_append (d : Nat) : ∀ l m : List NodeL, printL d (l ++ m) = printL d l ++ printL d m
  | [], m => by simp [printL]
  | n :: r, m => by simp only [List.cons_append, printL, printL_append d r m, List.append_assoc]

/-! ### The tokens of a word -/
theorem word_text (w : WordL) (h : wordOk w = true) : textL (wordT w) = (wordB w, true) ∧ (wordT w).bare = wordT w := by
  obtain ⟨nu, n, s, p⟩ := w
  unfold wordOk at h
  cases nu
  · simp only [Bool.false_eq_true, if_false, Bool.and_eq_true, decide_eq_true_eq] at h
    obtain ⟨rfl, h⟩ := h
    simp [wordT, textL, wordB, Tok.bare, h]
  · simp only [if_true, Bool.and_eq_true, decide_eq_true_eq] at h
    obtain ⟨⟨rfl, h1⟩, h2⟩ := h
    simp [wordT, textL, wordB, Tok.bare, h1, h2]

/-! ### Texts that are cut into tokens, whatever stands behind -/
/-- .. behind which something stands that ends a name. -/
def CutsS (u : Bytes) (ts : List Tok) : Prop := ∀ (pos cnt : Nat) (v : Bytes), cnt + ts.length ≤ 8192 → stops v →
  ∃ ps, ps.map Tok.bare = ts ∧ cutM false 0 pos cnt (u ++ v) = (cutM false 0 (pos + u.length) (cnt + ts.length) v).pre ps
/-- .. whatever. -/
def Cuts0 (u : Bytes) (ts : List Tok) : Prop := ∀ (pos cnt : Nat) (v : Bytes), cnt + ts.length ≤ 8192 →
  ∃ ps, ps.map Tok.bare = ts ∧ cutM false 0 pos cnt (u ++ v) = (cutM false 0 (pos + u.length) (cnt + ts.length) v).pre ps

theorem pre_nil (r : CutRes) (h : r.err = 0 → r.pos = 0) : r.pre [] = r := by
  unfold CutRes.pre
  by_cases he : r.err = 0
  · rw [if_pos he]
    obtain ⟨a, b, c⟩ := r
    simp only at he h
    subst he
    rw [h rfl]
    rfl
  · rw [if_neg he]
theorem pre_nil_cut (pos cnt : Nat) (v : Bytes) : (cutM false 0 pos cnt v).pre [] = cutM false 0 pos cnt v := pre_nil _ (cutM_err false 0 pos cnt v).1

theorem Cuts0.s {u : Bytes} {ts : List Tok} (h : Cuts0 u ts) : CutsS u ts := fun pos cnt v hc _ => h pos cnt v hc
theorem Cuts0.app {u u' : Bytes} {ts ts' : List Tok} (h : Cuts0 u ts) (h' : Cuts0 u' ts') : Cuts0 (u ++ u') (ts ++ ts') := by
  intro pos cnt v hc
  rw [List.length_append] at hc
  obtain ⟨ps, e1, e2⟩ := h pos cnt (u' ++ v) (by omega)
  obtain ⟨qs, e3, e4⟩ := h' (pos + u.length) (cnt + ts.length) v (by omega)
  refine ⟨ps ++ qs, by rw [List.map_append, e1, e3], ?_⟩
  rw [List.append_assoc, e2, e4, pre_pre, List.length_append, List.length_append, Nat.add_assoc, Nat.add_assoc]
theorem Cuts0.appS {u u' : Bytes} {ts ts' : List Tok} (h : Cuts0 u ts) (h' : CutsS u' ts') : CutsS (u ++ u') (ts ++ ts') := by
  intro pos cnt v hc hv
  rw [List.length_append] at hc
  obtain ⟨ps, e1, e2⟩ := h pos cnt (u' ++ v) (by omega)
  obtain ⟨qs, e3, e4⟩ := h' (pos + u.length) (cnt + ts.length) v (by omega) hv
  refine ⟨ps ++ qs, by rw [List.map_append, e1, e3], ?_⟩
  rw [List.append_assoc, e2, e4, pre_pre, List.length_append, List.length_append, Nat.add_assoc, Nat.add_assoc]
/-- A text that begins with what ends a name. -/
def halts (u : Bytes) : Prop := ∃ c r, u = c :: r ∧ isInner c = false
theorem halts.stops {u : Bytes} (h : halts u) (v : Bytes) : Go.Proofs.YtjbniichcopnlaaGreatDoor.stops (u ++ v) := by
  obtain ⟨c, r, rfl, hc⟩ := h
  intro c' h'
  simp only [List.cons_append, List.head?_cons, Option.some.injEq] at h'
  subst h'
  exact hc
theorem halts.app {u : Bytes} (h : halts u) (v : Bytes) : halts (u ++ v) := by
  obtain ⟨c, r, rfl, hc⟩ := h
  exact ⟨c, r ++ v, rfl, hc⟩
theorem CutsS.app {u u' : Bytes} {ts ts' : List Tok} (h : CutsS u ts) (h' : CutsS u' ts') (hu : halts u') : CutsS (u ++ u') (ts ++ ts') := by
  intro pos cnt v hc hv
  rw [List.length_append] at hc
  obtain ⟨ps, e1, e2⟩ := h pos cnt (u' ++ v) (by omega) (hu.stops v)
  obtain ⟨qs, e3, e4⟩ := h' (pos + u.length) (cnt + ts.length) v (by omega) hv
  refine ⟨ps ++ qs, by rw [List.map_append, e1, e3], ?_⟩
  rw [List.append_assoc, e2, e4, pre_pre, List.length_append, List.length_append, Nat.add_assoc, Nat.add_assoc]
theorem CutsS.app0 {u u' : Bytes} {ts ts' : List Tok} (h : CutsS u ts) (h' : Cuts0 u' ts') (hu : halts u') : Cuts0 (u ++ u') (ts ++ ts') := by
  intro pos cnt v hc
  rw [List.length_append] at hc
  obtain ⟨ps, e1, e2⟩ := h pos cnt (u' ++ v) (by omega) (hu.stops v)
  obtain ⟨qs, e3, e4⟩ := h' (pos + u.length) (cnt + ts.length) v (by omega)
  refine ⟨ps ++ qs, by rw [List.map_append, e1, e3], ?_⟩
  rw [List.append_assoc, e2, e4, pre_pre, List.length_append, List.length_append, Nat.add_assoc, Nat.add_assoc]

theorem cuts_nil : Cuts0 [] [] := fun pos cnt v _ => ⟨[], rfl, by rw [pre_nil_cut]; rfl⟩
theorem cuts_blank (c : UInt8) (hc : isBlank c = true) : Cuts0 [c] [] := fun pos cnt v _ => ⟨[], rfl, by
  rw [pre_nil_cut]
  show cutM false 0 pos cnt (c :: v) = _
  rw [cutM, if_pos hc]
  rfl⟩
theorem cuts_blanks : ∀ k : Nat, Cuts0 (List.replicate k 32) []
  | 0 => cuts_nil
  | k + 1 => by
    have := (cuts_blank 32 rfl).app (cuts_blanks k)
    simpa [List.replicate_succ] using this
theorem cuts_tok (t : Tok) (h : (textL t).2 = true) : CutsS (textL t).1 [t.bare] := by
  intro pos cnt v hc hv
  simp only [List.length_cons, List.length_nil] at hc
  refine ⟨[{ t.bare with pos := pos }], rfl, ?_⟩
  rw [cut_text t pos cnt v (by omega) h hv, cons_eq_pre]
  unfold CutRes.pre
  by_cases he : (cutM false 0 (pos + (textL t).1.length) (cnt + 1) v).err = 0
  · rw [if_pos he]; simp [he]
  · rw [if_neg he]; simp [he]
theorem cuts_sign (t : Tok) (u : Bytes) (h : textL t = (u, true)) (hb : t.bare = t) : CutsS u [t] := by
  have := cuts_tok t (by rw [h])
  rwa [h, hb] at this

theorem halts_tail (xs : List Bytes) (u : Bytes) (hu : halts u) : halts (Lib.joinTail [32] xs ++ u) := by
  cases xs with
  | nil => simpa [Lib.joinTail] using hu
  | cons x r => exact ⟨32, x ++ (Lib.joinTail [32] r) ++ u, by simp [Lib.joinTail], rfl⟩
theorem joinTail_cons (x : Bytes) (r : List Bytes) : Lib.joinTail [32] (x :: r) = [32] ++ (x ++ Lib.joinTail [32] r) := by simp [Lib.joinTail]
/-- Words, each with a blank ahead, and an end that ends a name. -/
theorem cuts_words (u : Bytes) (us : List Tok) (hu : halts u) (hc : Cuts0 u us) : ∀ ws : List WordL, ws.all wordOk = true → Cuts0 (Lib.joinTail [32] (ws.map wordB) ++ u) (ws.map wordT ++ us)
  | [], _ => by simpa [Lib.joinTail] using hc
  | w :: ws, h => by
    simp only [List.all_cons, Bool.and_eq_true] at h
    obtain ⟨h1, h2⟩ := word_text w h.1
    have hw := cuts_sign (wordT w) (wordB w) h1 h2
    have hr := cuts_words u us hu hc ws h.2
    have := (cuts_blank 32 rfl).app (hw.app0 hr (halts_tail _ u hu))
    rw [List.map_cons, joinTail_cons, List.map_cons]
    simpa [List.append_assoc] using this
theorem name_text (nm : Bytes) (h : nameL nm = true) : textL ⟨1, 0, 0, nm⟩ = (nm, true) ∧ (⟨1, 0, 0, nm⟩ : Tok).bare = ⟨1, 0, 0, nm⟩ := by
  simp [textL, Tok.bare, h]
theorem cuts_line (d : Nat) (nm : Bytes) (ws : List WordL) (e : Bytes) (es : List Tok) (hn : nameL nm = true) (hw : ws.all wordOk = true) (he : halts e) (hc : CutsS e es) :
    Cuts0 (lineB d (nm :: ws.map wordB) e) (⟨1, 0, 0, nm⟩ :: (ws.map wordT ++ es)) := by
  obtain ⟨h1, h2⟩ := name_text nm hn
  have hnm := cuts_sign _ nm h1 h2
  have hend := hc.app0 (cuts_blank 10 rfl) ⟨10, [], rfl, rfl⟩
  rw [List.append_nil] at hend
  have := (cuts_blanks (2 * d)).app (hnm.app0 (cuts_words _ es (he.app [10]) hend ws hw) (halts_tail _ _ (he.app [10])))
  unfold lineB
  rw [Lib.join_cons]
  simpa [List.append_assoc] using this

theorem check_head (d : Nat) (nm : Bytes) (p : Int) (ws : List WordL) (b : Bool) (ks : List NodeL) (h : checkN d (.mk nm p ws b ks) = 0) : ws.all wordOk = true ∧ nameL nm = true := by
  simp only [checkN] at h
  by_cases h1 : (!ws.all wordOk || !nameL nm || decide (8 < ws.length) || (!b && decide (0 < ks.length))) = true
  · rw [if_pos h1] at h; simp at h
  · simp only [Bool.not_eq_true, Bool.or_eq_false_iff, Bool.not_eq_false'] at h1
    exact ⟨by simpa using h1.1.1.1, by simpa using h1.1.1.2⟩

mutual
theorem cuts_node : ∀ (n : NodeL) (d : Nat), checkN d n = 0 → Cuts0 (printN d n) (flatN n)
  | .mk nm p ws b ks, d, h => by
    obtain ⟨h1, h2⟩ := check_head d nm p ws b ks h
    obtain ⟨_, _, _, h3⟩ := check_parts d nm p ws b ks h
    cases b
    · simp only [printN, flatN, Bool.false_eq_true, if_false]
      exact cuts_line d nm ws [59] [⟨5, 0, 0, []⟩] h2 h1 ⟨59, [], rfl, rfl⟩ (cuts_sign ⟨5, 0, 0, []⟩ [59] rfl rfl)
    · simp only [printN, flatN, if_true]
      have a1 := cuts_line d nm ws [32, 123] [⟨3, 0, 0, []⟩] h2 h1 ⟨32, [123], rfl, rfl⟩ ((cuts_blank 32 rfl).appS (cuts_sign ⟨3, 0, 0, []⟩ [123] rfl rfl))
      have a2 := cuts_nodes ks (d + 1) h3
      have a3 : Cuts0 (lineB d [] [125]) [⟨4, 0, 0, []⟩] := by
        have := (cuts_blanks (2 * d)).app ((cuts_sign ⟨4, 0, 0, []⟩ [125] rfl rfl).app0 (cuts_blank 10 rfl) ⟨10, [], rfl, rfl⟩)
        simpa [lineB, Lib.join_nil] using this
      have := a1.app (a2.app a3)
      simpa [List.append_assoc] using this
theorem cuts_nodes : ∀ (l : List NodeL) (d : Nat), checkL d l = 0 → Cuts0 (printL d l) (flatL l)
  | [], _, _ => by simpa only [printL, flatL] using cuts_nil
  | n :: r, d, h => by
    obtain ⟨h1, h2⟩ := checkL_cons d n r h
    simp only [printL, flatL]
    exact (cuts_node n d h1).app (cuts_nodes r d h2)
end

/-- What is written is cut into the items' tokens. -/
theorem print_cut (l : List NodeL) (h : checkL 0 l = 0) (h1 : (flatL l).length ≤ 8192) (h2 : (printL 0 l).length ≤ 65536) :
    (cutL (printL 0 l)).err = 0 ∧ (cutL (printL 0 l)).pos = 0 ∧ (cutL (printL 0 l)).toks.map Tok.bare0 = flatL l := by
  obtain ⟨ps, e1, e2⟩ := cuts_nodes l 0 h 0 0 [] (by omega)
  unfold cutL
  rw [if_neg (by omega)]
  rw [List.append_nil] at e2
  rw [e2, cutM_nil]
  refine ⟨rfl, rfl, ?_⟩
  show (ps ++ []).map Tok.bare0 = flatL l
  rw [List.append_nil]
  exact e1

theorem lay_ok (l : List NodeL) (h : (layL l).2 = 0) : checkL 0 l = 0 ∧ (flatL l).length ≤ 8192 ∧ (printL 0 l).length ≤ 65536 ∧ layL l = (printL 0 l, 0) := by
  unfold layL at h ⊢
  by_cases hc : checkL 0 l = 0
  · rw [if_neg (by simp [hc])] at h ⊢
    by_cases hl : 8192 < (flatL l).length ∨ 65536 < (printL 0 l).length
    · rw [if_pos hl] at h; simp at h
    · rw [if_neg hl]
      exact ⟨hc, by omega, by omega, rfl⟩
  · rw [if_pos hc] at h
    exact absurd h hc

end Go.Proofs.YtjbniichcopnlaaGreatDoor
end
