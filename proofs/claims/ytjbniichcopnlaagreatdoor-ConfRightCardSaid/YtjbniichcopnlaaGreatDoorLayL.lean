import Derived.Test.YtjbniichcopnlaaGreatDoorPkV34
import Derived.Lib.Repeat
import Derived.Lib.Space
import Derived.Deep.RegionHeld3
import Derived.Deep.RegionWith
import Derived.Deep.DeepCutAuto
/- Layer 10 (layout): the walk of line. -/
set_option linter.unusedVariables false
set_option linter.unusedSimpArgs false
namespace Go.Proofs.YtjbniichcopnlaaGreatDoor
open Go.RowKit

theorem tab_belowB {P : Program} {w w' : World} {n : String} {k : IntKind} {zs : List Int} {g B : Nat} (hg : P.globalNamed n = some g) (h : Lib.TabIs P w n k zs) (hb : Below B w w') (hlt : g < B) : Lib.TabIs P w' n k zs := by
  unfold Lib.TabIs at h ⊢
  rw [← h]
  unfold World.var?
  rw [hg]
  simp only [Option.bind_some]
  rw [hb.block g hlt]
/-- The table of ASCII blanks, as package strings has it. -/
def SpaceTab (w : World) : Prop := Lib.TabIs Tryz.prog w "strings.asciiSpace" .u8 Lib.asciiSpaceTab
theorem SpaceTab.below {w w' : World} (h : SpaceTab w) (hb : Below w.heap.size w w') : SpaceTab w' :=
  Joins.tab_stays (g := 0) (by kernel_rfl) h hb (Nat.le_refl _)
/-- .. and below any block behind it. -/
theorem SpaceTab.belowB {w w' : World} {B : Nat} (h : SpaceTab w) (hb : Below B w w') (hB : 0 < B) : SpaceTab w' :=
  tab_belowB (g := 0) (by kernel_rfl) h hb hB
theorem Tab.belowB {w w' : World} {B : Nat} (h : Tab w) (hb : Below B w w') (hB : 2 < B) : Tab w' :=
  tab_belowB (g := 2) (by kernel_rfl) h hb hB

/-- What stands at a line's end: its bytes, and without blanks. -/
def EndOk (e : Bytes) : Prop := e = [59] ∨ e = [32, 123] ∨ e = [125]
theorem trim_end (e : Bytes) (he : EndOk e) (w : World) (ht : SpaceTab w) :
    Calls Tryz.prog 63 #[.string ⟨e.toArray⟩] w fun r w' => ∃ c : UInt8, r = .returned (.string ⟨#[c]⟩) ∧ Below w.heap.size w w' := by
  refine (Tryz.strings_TrimSpace ⟨e.toArray⟩ w ?_ ?_ ht).mono ?_
  · rcases he with rfl | rfl | rfl <;> decide
  · intro j c hj
    have hm := List.mem_of_getElem? hj
    rcases he with rfl | rfl | rfl <;> simp at hm <;> rcases hm with rfl | rfl <;> decide
  · rintro r w' ⟨rfl, rfl⟩
    have hb : Below w.heap.size w (Lib.bytesWorld w 5 ⟨e.toArray⟩) := ⟨rfl, rfl, rfl, by rw [Lib.bytesWorld_size]; omega, fun j hj => Lib.bytesWorld_at_old w 5 ⟨e.toArray⟩ j hj⟩
    rcases he with rfl | rfl | rfl
    · exact ⟨59, rfl, hb⟩
    · exact ⟨123, rfl, hb⟩
    · exact ⟨125, rfl, hb⟩

theorem byteCells_app (l : Bytes) (x : Bytes) : Lib.byteCells l ++ Lib.strCells ⟨x.toArray⟩ = Lib.byteCells (l ++ x) := by
  simp [Lib.byteCells, Lib.strCells]

section
variable {B b : Nat} {k : Int}
theorem sheet_write (l x : Bytes) (w : World) (h : IsSheet B b (Lib.byteCells l) k w) (hlen : l.length + x.length ≤ 140737488355328) (hBw : B ≤ w.heap.size) :
    Calls Tryz.prog 59 #[.pointer (some ⟨b, 0, none⟩), .string ⟨x.toArray⟩] w fun e w' => e = .returned (.tuple #[.int .i64 x.length, .nilIface]) ∧ IsSheet B b (Lib.byteCells (l ++ x)) k w' ∧ Below B w w' ∧ Lib.OthersKept 5 (some b) w w' := by
  have := sheet_WriteString ⟨x.toArray⟩ h (by rw [Lib.byteCells_length]; show l.length + x.toArray.size ≤ _; rw [List.size_toArray]; exact hlen) hBw
  rw [byteCells_app] at this
  exact this
theorem sheet_byte (l : Bytes) (w : World) (h : IsSheet B b (Lib.byteCells l) k w) (hlen : l.length + 1 ≤ 140737488355328) (hBw : B ≤ w.heap.size) :
    Calls Tryz.prog 62 #[.pointer (some ⟨b, 0, none⟩), .int .u8 10] w fun e w' => e = .returned .nilIface ∧ IsSheet B b (Lib.byteCells (l ++ [10])) k w' ∧ Below B w w' ∧ Lib.OthersKept 5 (some b) w w' := by
  have := sheet_WriteByte 10 h (by rw [Lib.byteCells_length]; exact hlen) hBw
  rw [show Lib.byteCells l ++ [Value.int .u8 10] = Lib.byteCells (l ++ [10]) by simp [Lib.byteCells]] at this
  exact this
end

theorem repeat_blanks : ∀ d : Nat, Lib.repeatL [32, 32] d = List.replicate (2 * d) 32
  | 0 => rfl
  | d + 1 => by rw [Lib.repeatL, repeat_blanks d, show 2 * (d + 1) = 2 * d + 1 + 1 by omega]; rfl
theorem repeat_two (d : Nat) (w : World) (hd : d ≤ 1000) :
    Calls Tryz.prog 60 #[.string ⟨#[32, 32]⟩, .int .i64 d] w fun e w' => e = .returned (.string ⟨(List.replicate (2 * d) (32 : UInt8)).toArray⟩) ∧ Below w.heap.size w w' := by
  have h := Tryz.strings_Repeat ⟨#[32, 32]⟩ d w (by omega) (by show 2 * d ≤ _; omega)
  rw [show (⟨#[32, 32]⟩ : ByteArray).data.toList = [32, 32] from rfl, repeat_blanks] at h
  exact h

/-- The words of a line in memory: none, or the first cells of a block of strings. -/
def StrRow (w : World) (A : Option Addr) (ws : List Bytes) : Prop :=
  ws = [] ∨ ∃ g cs, A = some ⟨g, 0, none⟩ ∧ w.heap[g]? = some (.cells cs 9 (0, 0)) ∧ ∀ (j : Nat) (x : Bytes), ws[j]? = some x → cs[j]? = some (.string ⟨x.toArray⟩)
theorem StrRow.drew {w : World} {A : Option Addr} {ws : List Bytes} (h : StrRow w A ws) : StrRow w.drew A ws := h
theorem StrRow.keep {w w' : World} {A : Option Addr} {ws : List Bytes} (h : StrRow w A ws) (hb : Below w.heap.size w w') : StrRow w' A ws := by
  rcases h with h | ⟨g, cs, h1, h2, h3⟩
  · exact Or.inl h
  · exact Or.inr ⟨g, cs, h1, (hb.block g (Array.getElem?_eq_some_iff.1 h2).1).trans h2, h3⟩
theorem StrRow.kept {w w' : World} {A : Option Addr} {ws : List Bytes} {B b : Nat} {bs : List Value} {k : Int} (h : StrRow w A ws) (hs : IsSheet B b bs k w) (ho : Lib.OthersKept 5 (some b) w w') : StrRow w' A ws := by
  rcases h with h | ⟨g, cs, h1, h2, h3⟩
  · exact Or.inl h
  · refine Or.inr ⟨g, cs, h1, ho g _ h2 ?_ ?_, h3⟩
    · intro e
      obtain ⟨p, hp⟩ := hs.any
      obtain ⟨_, v, hb, _⟩ := hp
      cases e
      rw [hb] at h2
      simp only [Option.some.injEq, Obj.cells.injEq] at h2
      exact absurd h2.2.1 (by decide)
    · intro c fz e
      simp only [Obj.cells.injEq] at e
      exact absurd e.2.1 (by decide)

/-- strings.Join over them. -/
theorem join_words (A : Option Addr) (c : Nat) (ws : List Bytes) (w : World) (h : StrRow w A ws) (hc : ws.length ≤ c) (hl : ws.length ≤ 1000000) (hlen : (Lib.join ws [32]).length ≤ 140737488355328) :
    Calls Tryz.prog 61 #[.slice A ws.length c, .string ⟨#[32]⟩] w fun e w' => e = .returned (.string ⟨(Lib.join ws [32]).toArray⟩) ∧ Below w.heap.size w w' := by
  rcases h with rfl | ⟨g, cs, rfl, h2, h3⟩
  · exact (Tryz.strings_Join_none A c ⟨#[32]⟩ w).mono fun e w' ⟨he, hw⟩ => ⟨by rw [he, Lib.join_nil], hw ▸ Below.refl _ _⟩
  · have hx : (ws.map fun x => (⟨x.toArray⟩ : ByteArray)).map (·.data.toList) = ws := by simp [Function.comp_def]
    have h := Tryz.strings_Join g 0 c (ws.map fun x => ⟨x.toArray⟩) ⟨#[32]⟩ w (fun j x hj => by
      rw [List.getElem?_map] at hj
      cases ht : ws[j]? with
      | none => rw [ht] at hj; cases hj
      | some t =>
        rw [ht] at hj
        injection hj with hj
        subst hj
        rw [Nat.zero_add, Joins.cell_of_block h2]
        exact h3 j t ht) (Array.getElem?_eq_some_iff.1 h2).1 (by rw [List.length_map]; omega) (by rw [List.length_map]; omega) (by rw [hx]; exact hlen)
    rw [hx, List.length_map] at h
    exact h

/-- What line leaves. -/
def LinePost (B b : Nat) (l : Bytes) (k : Int) (w : World) (e : Ending) (w' : World) : Prop :=
  e = .returned (.tuple #[]) ∧ IsSheet B b (Lib.byteCells l) k w' ∧ Below B w w' ∧ Lib.OthersKept 5 (some b) w w'

theorem line_len (d : Nat) (ws : List Bytes) (e : Bytes) : (lineB d ws e).length = 2 * d + (Lib.join ws [32]).length + e.length + 1 := by
  simp [lineB]; omega
theorem line_app (l : Bytes) (d : Nat) (ws : List Bytes) (e : Bytes) : l ++ lineB d ws e = l ++ List.replicate (2 * d) 32 ++ Lib.join ws [32] ++ e ++ [10] := by
  simp [lineB]
theorem others_sheet {b : Nat} {w w1 w2 : World} (ho : Lib.OthersKept 5 (some b) w w1) (hb : Below w1.heap.size w1 w2) : Lib.OthersKept 5 (some b) w w2 := fun i o hi hne hc =>
  (hb.block i (Array.getElem?_eq_some_iff.1 (ho i o hi hne hc)).1).trans (ho i o hi hne hc)

set_option maxRecDepth 100000 in
set_option maxHeartbeats 4000000 in
theorem sheet_line (B b : Nat) (l : Bytes) (k : Int) (d : Nat) (e : Bytes) (A : Option Addr) (c : Nat) (ws : List Bytes) (w : World) (h : IsSheet B b (Lib.byteCells l) k w) (hBw : B ≤ w.heap.size) (hg : 0 < B)
    (ht : SpaceTab w) (he : EndOk e) (hw : StrRow w A ws) (hc : ws.length ≤ c) (hl : ws.length ≤ 1000000) (hd : d ≤ 1000) (hlen : (l ++ lineB d ws e).length ≤ 140737488355328) (hk0 : 0 ≤ k) (hk : k ≤ 100000000) :
    Calls Tryz.prog 35 #[.pointer (some ⟨b, 0, none⟩), .int .i64 d, .string ⟨e.toArray⟩, .slice A ws.length c] w (LinePost B b (l ++ lineB d ws e) (k + (ws.length + 1)) w) := by
  have hlen' := hlen
  rw [List.length_append, line_len] at hlen'
  have hR := fun (W : World) => repeat_two d W hd
  have hlm : (List.replicate (2 * d) (32 : UInt8)).length = 2 * d := by simp
  have hla := line_app l d ws e
  generalize List.replicate (2 * d) (32 : UInt8) = mg at hR hlm hla
  have HR := Lib.hid hR
  have HLA := Lib.hid hla
  clear hR hla
  have HJ := Lib.hid (fun (W : World) (h : StrRow W A ws) => join_words A c ws W h hc hl (by omega))
  have HT := Lib.hid (fun (W : World) (h : SpaceTab W) => trim_end e he W h)
  have HW1 := Lib.hid (fun (W : World) (h : IsSheet B b (Lib.byteCells l) k W) (hB : B ≤ W.heap.size) => sheet_write l (mg) W h (by (try simp only [List.length_append]); omega) hB)
  have HW2 := Lib.hid (fun (W : World) (h : IsSheet B b (Lib.byteCells (l ++ mg)) k W) (hB : B ≤ W.heap.size) => sheet_write (l ++ mg) (Lib.join ws [32]) W h (by (try simp only [List.length_append]); omega) hB)
  have HW3 := Lib.hid (fun (W : World) (h : IsSheet B b (Lib.byteCells (l ++ mg ++ Lib.join ws [32])) k W) (hB : B ≤ W.heap.size) => sheet_write (l ++ mg ++ Lib.join ws [32]) e W h (by (try simp only [List.length_append]); omega) hB)
  have HW4 := Lib.hid (fun (W : World) (h : IsSheet B b (Lib.byteCells (l ++ mg ++ Lib.join ws [32] ++ e)) k W) (hB : B ≤ W.heap.size) => sheet_byte (l ++ mg ++ Lib.join ws [32] ++ e) W h (by (try simp only [List.length_append]); omega) hB)
  have hn : (ws.length : Int) ≤ 1000000 := by omega
  have hBb : B ≤ b := by obtain ⟨p, hp⟩ := h.any; exact hp.1
  clear hlen hlen' he hd hc
  go_enter Tryz.func35, Tryz.ntmps35
  go_wp2
  go_region_held3 (fun _ => True) (exact trivial)
    (first
    | (go_at_call 60; (with_reducible refine Calls.mono (HR.out _) ?_); rintro e1 w1 ⟨rfl, hb1⟩; have hs1 := h.drew.keep hb1; have hB1 : B ≤ w1.heap.size := Nat.le_trans hBw hb1.size)
    | (go_at_call 59; have hq := hs1; (with_reducible refine Calls.mono (HW1.out _ hs1 hB1) ?_); rintro e2 w2 ⟨rfl, hs2, hb2, ho2⟩)
    | fail)
  have HS2 := Lib.hid hs2
  have HB2 := Lib.hid (Below.trans (Below.refl B w).drew (Below.trans (hb1.mono hBw) hb2))
  have HO2 := Lib.hid (Lib.OthersKept.trans (others_sheet (Lib.OthersKept.refl 5 (some b) w).drew hb1) ho2)
  have hr2 := (hw.drew.keep hb1).kept hs1 ho2
  have hB2 : B ≤ w2.heap.size := Nat.le_trans hB1 hb2.size
  clear hb1 hb2 ho2 hs2 hs1
  go_wp2_with fail
  go_region_held3 (fun _ => True) (exact trivial)
    (first
    | (go_at_call 61; (with_reducible refine Calls.mono (HJ.out _ hr2.drew) ?_); rintro e3 w3 ⟨rfl, hb3⟩; have hs3 := HS2.out.drew.keep hb3; have hB3 : B ≤ w3.heap.size := Nat.le_trans hB2 hb3.size)
    | (go_at_call 59; have hq := hs3; (with_reducible refine Calls.mono (HW2.out _ hs3 hB3) ?_); rintro e4 w4 ⟨rfl, hs4, hb4, ho4⟩)
    | fail)
  have HB4 := Lib.hid (HB2.out.trans (Below.trans (Below.refl B w2).drew (Below.trans (hb3.mono hB2) hb4)))
  have HO4 := Lib.hid (HO2.out.trans (Lib.OthersKept.trans (others_sheet (Lib.OthersKept.refl 5 (some b) w2).drew hb3) ho4))
  have HS4 := Lib.hid hs4
  have hB4 : B ≤ w4.heap.size := Nat.le_trans hB3 hb4.size
  clear hb3 hb4 ho4 hs4 hs3 hr2
  go_wp2_with fail
  refine (HW3.out _ HS4.out hB4).mono ?_
  rintro e5 w5 ⟨rfl, hs5, hb5, ho5⟩
  have HB5 := Lib.hid (HB4.out.trans hb5)
  have HO5 := Lib.hid (HO4.out.trans ho5)
  have hB5 : B ≤ w5.heap.size := Nat.le_trans hB4 hb5.size
  have HS5 := Lib.hid hs5
  clear hb5 ho5 hs5
  go_wp2_with fail
  refine (HW4.out _ HS5.out hB5).mono ?_
  rintro e6 w6 ⟨rfl, hs6, hb6, ho6⟩
  have HB6 := Lib.hid (HB5.out.trans hb6)
  have HO6 := Lib.hid (HO5.out.trans ho6)
  have hB6 : B ≤ w6.heap.size := Nat.le_trans hB5 hb6.size
  obtain ⟨q2, qf⟩ := hs6.cell2
  have HS6 := Lib.hid hs6
  have HT6 := Lib.hid (HT.out w6.drew (ht.belowB (HB6.out.drew) hg))
  have hb0 : b < w6.heap.size := hs6.lt
  have wf1 : IntKind.i64.wrap ((ws.length : Int) + 1) = (ws.length : Int) + 1 := by rw [IntKind.wrap_i64]; omega
  have wf2 : IntKind.i64.wrap (k + ((ws.length : Int) + 1)) = k + ((ws.length : Int) + 1) := by rw [IntKind.wrap_i64]; omega
  have HWF := Lib.hid (And.intro wf1 wf2)
  clear hb6 ho6 hs6 ht HT wf1 wf2
  go_wp2_with fail
  go_region_with (go_at_call 63; refine HT6.out.mono ?_; rintro e7 w7 ⟨c7, rfl, hb7⟩; have q7 := (hb7.cell (p := ⟨b, 2, none⟩) hb0).trans q2; have f7 := (hb7.frozen (p := ⟨b, 2, none⟩) hb0).trans qf)
  all_goals (
    go_wp2_with fail
    go_end0
    refine ⟨rfl, ?_, ?_, ?_⟩
    · rw [HLA.out, HWF.out.1, HWF.out.2]
      exact (HS6.out.drew.keep hb7).count _
    · rw [HWF.out.1, HWF.out.2]
      exact (HB6.out.trans (Below.trans (Below.refl B w6).drew (hb7.mono hB6))).setCell (p := ⟨b, 2, none⟩) hBb _
    · rw [HWF.out.1, HWF.out.2]
      exact (HO6.out.trans (others_sheet (Lib.OthersKept.refl 5 (some b) w6).drew hb7)).setCell ⟨b, 2, none⟩ rfl _)
end Go.Proofs.YtjbniichcopnlaaGreatDoor
