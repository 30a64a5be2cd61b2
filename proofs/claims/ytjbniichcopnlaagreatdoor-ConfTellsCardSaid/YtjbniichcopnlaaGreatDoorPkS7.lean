/- Layer 10 (layout): the walk of line. Then: Texts in a row of the call's own. Then: Layer 9 (tree): items in memory. Then: Worlds that differ in some cells, and in one row, of what was there. -/
import Derived.Test.YtjbniichcopnlaaGreatDoorPkS3
import Derived.Test.YtjbniichcopnlaaGreatDoorPkS6
import Derived.Lib.Repeat
import Derived.Lib.Space
import Derived.Deep.RegionHeld3
import Derived.Deep.RegionWith
import Derived.Deep.DeepCutAuto
import Derived.Test.YtjbniichcopnlaaGreatDoorPkS2
import Derived.Test.YtjbniichcopnlaaGreatDoorPkS0
import Derived.Test.YtjbniichcopnlaaGreatDoorPkS5
import Derived.OrdersHeld
import Derived.Laws.OwnMore
import Derived.Deep.AppendLies
namespace Go.Proofs.YtjbniichcopnlaaGreatDoor
section
set_option linter.unusedVariables false
set_option linter.unusedSimpArgs false
open Go.RowKit
open Go.Joins renaming cell_of_block → zb, unfrozen_of_block → zu
open Go.Lib renaming hid → zh
theorem tab_belowB {P : Program} {w w' : World} {n : String} {k : IntKind} {zs : List Int} {g B : Nat} (hg : P.globalNamed n = some g) (h : Lib.TabIs P w n k zs) (hb : Below B w w') (hlt : g < B) : Lib.TabIs P w' n k zs := by
  unfold Lib.TabIs at h ⊢
  rw [← h]
  unfold World.var?
  rw [hg]
  simp only [Option.bind_some]
  rw [hb.block g hlt]
/-- The table of ASCII blanks,as package strings has it. -/
def SpaceTab (w : World) : Prop:=Lib.TabIs Tryz.prog w "strings.asciiSpace" .u8 Lib.asciiSpaceTab
theorem SpaceTab.below {w w' : World} (h : SpaceTab w) (hb : Below w.heap.size w w') : SpaceTab w' :=
  Joins.tab_stays (g:=0) (by kernel_rfl) h hb (Nat.le_refl _)
/-- .. and below any block behind it. -/
theorem SpaceTab.belowB {w w' : World} {B : Nat} (h : SpaceTab w) (hb : Below B w w') (hB : 0 < B) : SpaceTab w' :=
  tab_belowB (g:=0) (by kernel_rfl) h hb hB
theorem Tab.belowB {w w' : World} {B : Nat} (h : Tab w) (hb : Below B w w') (hB : 2 < B) : Tab w' :=
  tab_belowB (g:=2) (by kernel_rfl) h hb hB
/-- What stands at a line's end: its bytes,and without blanks. -/
def EndOk (e : Bytes) : Prop:=e = [59] ∨ e = [32,123] ∨ e = [125]
theorem trim_end (e : Bytes) (he : EndOk e) (w : World) (ht : SpaceTab w) :
    Calls Tryz.prog 63 #[.string ⟨e.toArray⟩] w fun r w' => ∃ c : UInt8,r = .returned (.string ⟨#[c]⟩) ∧ Below w.heap.size w w':=by
  refine (Tryz.strings_TrimSpace ⟨e.toArray⟩ w ?_ ?_ ht).mono ?_
  · rcases he with rfl | rfl | rfl <;> decide
  · intro j c hj
    have hm:=List.mem_of_getElem? hj
    rcases he with rfl | rfl | rfl <;> simp at hm <;> rcases hm with rfl | rfl <;> decide
  · rintro r w' ⟨rfl,rfl⟩
    have hb : Below w.heap.size w (Lib.bytesWorld w 5 ⟨e.toArray⟩):=⟨rfl,rfl,rfl,by rw [Lib.bytesWorld_size];omega,fun j hj => Lib.bytesWorld_at_old w 5 ⟨e.toArray⟩ j hj⟩
    rcases he with rfl | rfl | rfl
    · exact ⟨59,rfl,hb⟩
    · exact ⟨123,rfl,hb⟩
    · exact ⟨125,rfl,hb⟩
theorem byteCells_app (l : Bytes) (x : Bytes) : Lib.byteCells l ++ Lib.strCells ⟨x.toArray⟩ = Lib.byteCells (l ++ x) := by
  simp [Lib.byteCells,Lib.strCells]
section
variable {B b : Nat} {k : Int}
theorem sheet_write (l x : Bytes) (w : World) (h : IsSheet B b (Lib.byteCells l) k w) (hlen : l.length + x.length ≤ 140737488355328) (hBw : B ≤ w.heap.size) :
    Calls Tryz.prog 59 #[.pointer (some ⟨b,0,none⟩), .string ⟨x.toArray⟩] w fun e w' => e = .returned (.tuple #[.int .i64 x.length, .nilIface]) ∧ IsSheet B b (Lib.byteCells (l ++ x)) k w' ∧ Below B w w' ∧ Lib.OthersKept 5 (some b) w w':=by
  have:=sheet_WriteString ⟨x.toArray⟩ h (by rw [Lib.byteCells_length];show l.length + x.toArray.size ≤ _;rw [List.size_toArray];exact hlen) hBw
  rw [byteCells_app] at this
  exact this
theorem sheet_byte (l : Bytes) (w : World) (h : IsSheet B b (Lib.byteCells l) k w) (hlen : l.length + 1 ≤ 140737488355328) (hBw : B ≤ w.heap.size) :
    Calls Tryz.prog 62 #[.pointer (some ⟨b,0,none⟩), .int .u8 10] w fun e w' => e = .returned .nilIface ∧ IsSheet B b (Lib.byteCells (l ++ [10])) k w' ∧ Below B w w' ∧ Lib.OthersKept 5 (some b) w w':=by
  have:=sheet_WriteByte 10 h (by rw [Lib.byteCells_length];exact hlen) hBw
  rw [show Lib.byteCells l ++ [Value.int .u8 10] = Lib.byteCells (l ++ [10]) by simp [Lib.byteCells]] at this
  exact this
end
theorem repeat_blanks : ∀ d : Nat,Lib.repeatL [32,32] d = List.replicate (2 * d) 32
  | 0 => rfl
  | d + 1 => by rw [Lib.repeatL,repeat_blanks d,show 2 * (d + 1) = 2 * d + 1 + 1 by omega];rfl
theorem repeat_two (d : Nat) (w : World) (hd : d ≤ 1000) :
    Calls Tryz.prog 60 #[.string ⟨#[32,32]⟩, .int .i64 d] w fun e w' => e = .returned (.string ⟨(List.replicate (2 * d) (32 : UInt8)).toArray⟩) ∧ Below w.heap.size w w':=by
  have h:=Tryz.strings_Repeat ⟨#[32,32]⟩ d w (by omega) (by show 2 * d ≤ _;omega)
  rw [show (⟨#[32,32]⟩ : ByteArray).data.toList = [32,32] from rfl,repeat_blanks] at h
  exact h
/-- The words of a line in memory: none,or the first cells of a block of strings. -/
def StrRow (w : World) (A : Option Addr) (ws : List Bytes) : Prop :=
  ws = [] ∨ ∃ g cs,A = some ⟨g,0,none⟩ ∧ w.heap[g]? = some (.cells cs 9 (0,0)) ∧ ∀ (j : Nat) (x : Bytes),ws[j]? = some x → cs[j]? = some (.string ⟨x.toArray⟩)
theorem StrRow.drew {w : World} {A : Option Addr} {ws : List Bytes} (h : StrRow w A ws) : StrRow w.drew A ws:=h
theorem StrRow.keep {w w' : World} {A : Option Addr} {ws : List Bytes} (h : StrRow w A ws) (hb : Below w.heap.size w w') : StrRow w' A ws := by
  rcases h with h | ⟨g,cs,h1,h2,h3⟩
  · exact Or.inl h
  · exact Or.inr ⟨g,cs,h1,(hb.block g (Array.getElem?_eq_some_iff.1 h2).1).trans h2,h3⟩
theorem StrRow.kept {w w' : World} {A : Option Addr} {ws : List Bytes} {B b : Nat} {bs : List Value} {k : Int} (h : StrRow w A ws) (hs : IsSheet B b bs k w) (ho : Lib.OthersKept 5 (some b) w w') : StrRow w' A ws := by
  rcases h with h | ⟨g,cs,h1,h2,h3⟩
  · exact Or.inl h
  · refine Or.inr ⟨g,cs,h1,ho g _ h2 ?_ ?_,h3⟩
    · intro e
      obtain ⟨p,hp⟩:=hs.any
      obtain ⟨_,v,hb,_⟩:=hp
      cases e
      rw [hb] at h2
      simp only [Option.some.injEq,Obj.cells.injEq] at h2
      exact absurd h2.2.1 (by decide)
    · intro c fz e
      simp only [Obj.cells.injEq] at e
      exact absurd e.2.1 (by decide)
/-- strings.Join over them. -/
theorem join_words (A : Option Addr) (c : Nat) (ws : List Bytes) (w : World) (h : StrRow w A ws) (hc : ws.length ≤ c) (hl : ws.length ≤ 1000000) (hlen : (Lib.join ws [32]).length ≤ 140737488355328) :
    Calls Tryz.prog 61 #[.slice A ws.length c, .string ⟨#[32]⟩] w fun e w' => e = .returned (.string ⟨(Lib.join ws [32]).toArray⟩) ∧ Below w.heap.size w w':=by
  rcases h with rfl | ⟨g,cs,rfl,h2,h3⟩
  · exact (Tryz.strings_Join_none A c ⟨#[32]⟩ w).mono fun e w' ⟨he,hw⟩ => ⟨by rw [he,Lib.join_nil],hw ▸ Below.refl _ _⟩
  · have hx : (ws.map fun x => (⟨x.toArray⟩ : ByteArray)).map (·.data.toList) = ws := by simp [Function.comp_def]
    have h := Tryz.strings_Join g 0 c (ws.map fun x => ⟨x.toArray⟩) ⟨#[32]⟩ w (fun j x hj => by
      rw [List.getElem?_map] at hj
      cases ht : ws[j]? with
      | none => rw [ht] at hj;cases hj
      | some t =>
        rw [ht] at hj
        injection hj with hj
        subst hj
        rw [Nat.zero_add,zb h2]
        exact h3 j t ht) (Array.getElem?_eq_some_iff.1 h2).1 (by rw [List.length_map];omega) (by rw [List.length_map];omega) (by rw [hx];exact hlen)
    rw [hx,List.length_map] at h
    exact h
/-- What line leaves. -/
def LinePost (B b : Nat) (l : Bytes) (k : Int) (w : World) (e : Ending) (w' : World) : Prop :=
  e = .returned (.tuple #[]) ∧ IsSheet B b (Lib.byteCells l) k w' ∧ Below B w w' ∧ Lib.OthersKept 5 (some b) w w'
theorem line_len (d : Nat) (ws : List Bytes) (e : Bytes) : (lineB d ws e).length = 2 * d + (Lib.join ws [32]).length + e.length + 1 := by
  simp [lineB];omega
theorem line_app (l : Bytes) (d : Nat) (ws : List Bytes) (e : Bytes) : l ++ lineB d ws e = l ++ List.replicate (2 * d) 32 ++ Lib.join ws [32] ++ e ++ [10] := by
  simp [lineB]
theorem others_sheet {b : Nat} {w w1 w2 : World} (ho : Lib.OthersKept 5 (some b) w w1) (hb : Below w1.heap.size w1 w2) : Lib.OthersKept 5 (some b) w w2 := fun i o hi hne hc =>
  (hb.block i (Array.getElem?_eq_some_iff.1 (ho i o hi hne hc)).1).trans (ho i o hi hne hc)
set_option maxRecDepth 100000 in
set_option maxHeartbeats 4000000 in
theorem sheet_line (B b : Nat) (l : Bytes) (k : Int) (d : Nat) (e : Bytes) (A : Option Addr) (c : Nat) (ws : List Bytes) (w : World) (h : IsSheet B b (Lib.byteCells l) k w) (hBw : B ≤ w.heap.size) (hg : 0 < B)
    (ht : SpaceTab w) (he : EndOk e) (hw : StrRow w A ws) (hc : ws.length ≤ c) (hl : ws.length ≤ 1000000) (hd : d ≤ 1000) (hlen : (l ++ lineB d ws e).length ≤ 140737488355328) (hk0 : 0 ≤ k) (hk : k ≤ 100000000) :
    Calls Tryz.prog 35 #[.pointer (some ⟨b,0,none⟩), .int .i64 d, .string ⟨e.toArray⟩, .slice A ws.length c] w (LinePost B b (l ++ lineB d ws e) (k + (ws.length + 1)) w):=by
  have hlen':=hlen
  rw [List.length_append,line_len] at hlen'
  have hR:=fun (W : World) => repeat_two d W hd
  have hlm : (List.replicate (2 * d) (32 : UInt8)).length = 2 * d:=by simp
  have hla:=line_app l d ws e
  generalize List.replicate (2 * d) (32 : UInt8) = mg at hR hlm hla
  have HR:=zh hR
  have HLA:=zh hla
  clear hR hla
  have HJ:=zh (fun (W : World) (h : StrRow W A ws) => join_words A c ws W h hc hl (by omega))
  have HT:=zh (fun (W : World) (h : SpaceTab W) => trim_end e he W h)
  have HW1:=zh (fun (W : World) (h : IsSheet B b (Lib.byteCells l) k W) (hB : B ≤ W.heap.size) => sheet_write l (mg) W h (by (try simp only [List.length_append]);omega) hB)
  have HW2:=zh (fun (W : World) (h : IsSheet B b (Lib.byteCells (l ++ mg)) k W) (hB : B ≤ W.heap.size) => sheet_write (l ++ mg) (Lib.join ws [32]) W h (by (try simp only [List.length_append]);omega) hB)
  have HW3:=zh (fun (W : World) (h : IsSheet B b (Lib.byteCells (l ++ mg ++ Lib.join ws [32])) k W) (hB : B ≤ W.heap.size) => sheet_write (l ++ mg ++ Lib.join ws [32]) e W h (by (try simp only [List.length_append]);omega) hB)
  have HW4:=zh (fun (W : World) (h : IsSheet B b (Lib.byteCells (l ++ mg ++ Lib.join ws [32] ++ e)) k W) (hB : B ≤ W.heap.size) => sheet_byte (l ++ mg ++ Lib.join ws [32] ++ e) W h (by (try simp only [List.length_append]);omega) hB)
  have hn : (ws.length : Int) ≤ 1000000:=by omega
  have hBb : B ≤ b:=by obtain ⟨p,hp⟩:=h.any;exact hp.1
  clear hlen hlen' he hd hc
  go_enter Tryz.func35,Tryz.ntmps35
  go_wp2
  go_region_held3 (fun _ => True) (exact trivial)
    (first
    | (go_at_call 60;(with_reducible refine Calls.mono (HR.out _) ?_);rintro e1 w1 ⟨rfl,hb1⟩;have hs1:=h.drew.keep hb1;have hB1 : B ≤ w1.heap.size:=Nat.le_trans hBw hb1.size)
    | (go_at_call 59;have hq:=hs1;(with_reducible refine Calls.mono (HW1.out _ hs1 hB1) ?_);rintro e2 w2 ⟨rfl,hs2,hb2,ho2⟩)
    | fail)
  have HS2:=zh hs2
  have HB2:=zh (Below.trans (Below.refl B w).drew (Below.trans (hb1.mono hBw) hb2))
  have HO2:=zh (Lib.OthersKept.trans (others_sheet (Lib.OthersKept.refl 5 (some b) w).drew hb1) ho2)
  have hr2:=(hw.drew.keep hb1).kept hs1 ho2
  have hB2 : B ≤ w2.heap.size:=Nat.le_trans hB1 hb2.size
  clear hb1 hb2 ho2 hs2 hs1
  go_wp2_with fail
  go_region_held3 (fun _ => True) (exact trivial)
    (first
    | (go_at_call 61;(with_reducible refine Calls.mono (HJ.out _ hr2.drew) ?_);rintro e3 w3 ⟨rfl,hb3⟩;have hs3:=HS2.out.drew.keep hb3;have hB3 : B ≤ w3.heap.size:=Nat.le_trans hB2 hb3.size)
    | (go_at_call 59;have hq:=hs3;(with_reducible refine Calls.mono (HW2.out _ hs3 hB3) ?_);rintro e4 w4 ⟨rfl,hs4,hb4,ho4⟩)
    | fail)
  have HB4:=zh (HB2.out.trans (Below.trans (Below.refl B w2).drew (Below.trans (hb3.mono hB2) hb4)))
  have HO4:=zh (HO2.out.trans (Lib.OthersKept.trans (others_sheet (Lib.OthersKept.refl 5 (some b) w2).drew hb3) ho4))
  have HS4:=zh hs4
  have hB4 : B ≤ w4.heap.size:=Nat.le_trans hB3 hb4.size
  clear hb3 hb4 ho4 hs4 hs3 hr2
  go_wp2_with fail
  refine (HW3.out _ HS4.out hB4).mono ?_
  rintro e5 w5 ⟨rfl,hs5,hb5,ho5⟩
  have HB5:=zh (HB4.out.trans hb5)
  have HO5:=zh (HO4.out.trans ho5)
  have hB5 : B ≤ w5.heap.size:=Nat.le_trans hB4 hb5.size
  have HS5:=zh hs5
  clear hb5 ho5 hs5
  go_wp2_with fail
  refine (HW4.out _ HS5.out hB5).mono ?_
  rintro e6 w6 ⟨rfl,hs6,hb6,ho6⟩
  have HB6:=zh (HB5.out.trans hb6)
  have HO6:=zh (HO5.out.trans ho6)
  have hB6 : B ≤ w6.heap.size:=Nat.le_trans hB5 hb6.size
  obtain ⟨q2,qf⟩:=hs6.cell2
  have HS6:=zh hs6
  have HT6:=zh (HT.out w6.drew (ht.belowB (HB6.out.drew) hg))
  have hb0 : b < w6.heap.size:=hs6.lt
  have wf1 : IntKind.i64.wrap ((ws.length : Int) + 1) = (ws.length : Int) + 1:=by rw [IntKind.wrap_i64];omega
  have wf2 : IntKind.i64.wrap (k + ((ws.length : Int) + 1)) = k + ((ws.length : Int) + 1):=by rw [IntKind.wrap_i64];omega
  have HWF:=zh (And.intro wf1 wf2)
  clear hb6 ho6 hs6 ht HT wf1 wf2
  go_wp2_with fail
  go_region_with (go_at_call 63;refine HT6.out.mono ?_;rintro e7 w7 ⟨c7,rfl,hb7⟩;have q7:=(hb7.cell (p:=⟨b,2,none⟩) hb0).trans q2;have f7:=(hb7.frozen (p:=⟨b,2,none⟩) hb0).trans qf)
  all_goals (
    go_wp2_with fail
    go_end0
    refine ⟨rfl,?_,?_,?_⟩
    · rw [HLA.out,HWF.out.1,HWF.out.2]
      exact (HS6.out.drew.keep hb7).count _
    · rw [HWF.out.1,HWF.out.2]
      exact (HB6.out.trans (Below.trans (Below.refl B w6).drew (hb7.mono hB6))).setCell (p:=⟨b,2,none⟩) hBb _
    · rw [HWF.out.1,HWF.out.2]
      exact (HO6.out.trans (others_sheet (Lib.OthersKept.refl 5 (some b) w6).drew hb7)).setCell ⟨b,2,none⟩ rfl _)
end
section
set_option linter.unusedVariables false
open Go.RowKit
/-- Texts of a row of the call's own. -/
def OwnStrs (w : World) (base : Nat) (v : Value) (l : List Bytes) : Prop:=w.ownsRow base 9 1 v l.length (l.map fun s => .string ⟨s.toArray⟩)
theorem OwnStrs.new (w : World) (base : Nat) (s : Bytes) (hb : base ≤ w.heap.size) : OwnStrs (w.alloc (.cells #[.string ⟨s.toArray⟩] 9)) base (.slice (some ⟨w.heap.size,0,none⟩) 1 1) [s] :=
  ⟨rfl, .inr ⟨w.heap.size,1,_,rfl,hb,heap_alloc_new w _,Nat.le_refl _,by decide,rfl,rfl⟩⟩
theorem OwnStrs.below {w w' : World} {base : Nat} {v : Value} {l : List Bytes} (h : OwnStrs w base v l) (hb : Below w.heap.size w w') : OwnStrs w' base v l:=own_below h hb
end
section
open Go.RowKit
def WordL.cells (w : WordL) : List Value:=[.bool w.num, .int .i64 w.n, .string ⟨w.s.toArray⟩, .int .i64 w.pos]
theorem wcells_length (l : List WordL) : (l.flatMap WordL.cells).length = l.length * 4 := by
  induction l with
  | nil => rfl
  | cons t l ih => simp only [List.flatMap_cons,List.length_append,ih,List.length_cons,WordL.cells,List.length_nil];omega
/-- The slice with the address A,of n elements of so many cells each,reads as the cells xs,in blocks of M. -/
def ReadsM (w : World) (M : Nat → Prop) (size : Nat) (A : Option Addr) (n : Nat) (xs : List Value) : Prop :=
  xs.length = n * size ∧ (0 < n → ∃ ad,A = some ad ∧ M ad.block ∧ ∀ j u,xs[j]? = some u → w.cell? (ad.add j) = some u)
theorem ReadsM.keep {w w' : World} {M M' : Nat → Prop} {size : Nat} {A : Option Addr} {n : Nat} {xs : List Value} (h : ReadsM w M size A n xs)
    (hm : ∀ b,M b → M' b) (hk : ∀ p : Addr,M p.block → w'.cell? p = w.cell? p) : ReadsM w' M' size A n xs :=
  ⟨h.1,fun hn => by
    obtain ⟨ad,e,hb,hc⟩:=h.2 hn
    exact ⟨ad,e,hm _ hb,fun j u hu => (hk _ (by rw [block_of_add];exact hb)).trans (hc j u hu)⟩⟩
theorem ReadsM.reads {w : World} {B size : Nat} {A : Option Addr} {n : Nat} {xs : List Value} (h : ReadsM w (· < B) size A n xs) : Reads w B size A n xs:=h
theorem ReadsM.nil (w : World) (M : Nat → Prop) (size : Nat) (A : Option Addr) : ReadsM w M size A 0 []:=⟨by simp,fun h => absurd h (by omega)⟩
/-- A nil slice has no room. -/
def NilOk (A : Option Addr) (c : Nat) : Prop:=A = none → c = 0
mutual
/-- The five cells read as the item,all it leads to in blocks of M. -/
def NodeOk (w : World) (M : Nat → Prop) : NodeL → List Value → Prop
  | .mk nm p ws b ks,cs => ∃ Aw cw Ak ck kcs,cs = [.string ⟨nm.toArray⟩, .int .i64 p, .slice Aw ws.length cw, .bool b, .slice Ak ks.length ck] ∧
      NilOk Aw cw ∧ NilOk Ak ck ∧ ReadsM w M 4 Aw ws.length (ws.flatMap WordL.cells) ∧ ReadsM w M 5 Ak ks.length kcs ∧ NodesOk w M ks kcs
/-- The cells read as items. -/
def NodesOk (w : World) (M : Nat → Prop) : List NodeL → List Value → Prop
  | [],cs => cs = []
  | n :: r,cs => ∃ a b,cs = a ++ b ∧ NodeOk w M n a ∧ NodesOk w M r b
end
theorem NodeOk.len {w : World} {M : Nat → Prop} {n : NodeL} {cs : List Value} (h : NodeOk w M n cs) : cs.length = 5 := by
  cases n with
  | mk nm p ws b ks =>
    simp only [NodeOk] at h
    obtain ⟨_,_,_,_,_,rfl,_⟩:=h
    rfl
theorem NodesOk.len {w : World} {M : Nat → Prop} : ∀ {l : List NodeL} {cs : List Value},NodesOk w M l cs → cs.length = l.length * 5
  | [],cs,h => by simp only [NodesOk] at h;subst h;rfl
  | n :: r,cs,h => by
    simp only [NodesOk] at h
    obtain ⟨a,b,rfl,h1,h2⟩:=h
    have e1:=NodeOk.len h1
    have e2:=NodesOk.len h2
    rw [List.length_append,e1,e2,List.length_cons];omega
mutual
theorem NodeOk.keep {w w' : World} {M M' : Nat → Prop} (hm : ∀ b,M b → M' b) (hk : ∀ p : Addr,M p.block → w'.cell? p = w.cell? p) : ∀ (n : NodeL) (cs : List Value),NodeOk w M n cs → NodeOk w' M' n cs
  | .mk nm p ws b ks,cs,h => by
    simp only [NodeOk] at h ⊢
    obtain ⟨Aw,cw,Ak,ck,kcs,h1,h2,h3,h4,h5,h6⟩:=h
    exact ⟨Aw,cw,Ak,ck,kcs,h1,h2,h3,h4.keep hm hk,h5.keep hm hk,NodesOk.keep hm hk ks kcs h6⟩
theorem NodesOk.keep {w w' : World} {M M' : Nat → Prop} (hm : ∀ b,M b → M' b) (hk : ∀ p : Addr,M p.block → w'.cell? p = w.cell? p) : ∀ (l : List NodeL) (cs : List Value),NodesOk w M l cs → NodesOk w' M' l cs
  | [],cs,h => by simpa only [NodesOk] using h
  | n :: r,cs,h => by
    simp only [NodesOk] at h ⊢
    obtain ⟨a,b,h1,h2,h3⟩:=h
    exact ⟨a,b,h1,NodeOk.keep hm hk n a h2,NodesOk.keep hm hk r b h3⟩
end
theorem NodesOk.append {w : World} {M : Nat → Prop} : ∀ {l m : List NodeL} {cs ds : List Value},NodesOk w M l cs → NodesOk w M m ds → NodesOk w M (l ++ m) (cs ++ ds)
  | [],m,cs,ds,h,h' => by simp only [NodesOk] at h;subst h;exact h'
  | n :: r,m,cs,ds,h,h' => by
    simp only [NodesOk] at h
    obtain ⟨a,b,rfl,h2,h3⟩:=h
    simp only [List.cons_append,NodesOk]
    exact ⟨a,b ++ ds,by rw [List.append_assoc],h2,NodesOk.append h3 h'⟩
theorem NodesOk.one {w : World} {M : Nat → Prop} {n : NodeL} {cs : List Value} (h : NodeOk w M n cs) : NodesOk w M [n] cs := by
  simp only [NodesOk]
  exact ⟨cs,[],by simp,h,rfl⟩
/-- The cells of item i. -/
theorem NodesOk.at {w : World} {M : Nat → Prop} : ∀ {l : List NodeL} {cs : List Value},NodesOk w M l cs → ∀ (i : Nat) (n : NodeL),l[i]? = some n →
    ∃ a,NodeOk w M n a ∧ ∀ j,j < 5 → cs[i * 5 + j]? = a[j]?
  | [],_,_,i,n,hi => by simp at hi
  | x :: r,cs,h,i,n,hi => by
    simp only [NodesOk] at h
    obtain ⟨a,b,rfl,h2,h3⟩:=h
    have hl:=h2.len
    cases i with
    | zero =>
      simp only [List.getElem?_cons_zero,Option.some.injEq] at hi
      subst hi
      exact ⟨a,h2,fun j hj => by rw [Nat.zero_mul,Nat.zero_add,List.getElem?_append_left (by omega)]⟩
    | succ i =>
      obtain ⟨c,h4,h5⟩:=NodesOk.at h3 i n (by simpa using hi)
      refine ⟨c,h4,fun j hj => ?_⟩
      rw [List.getElem?_append_right (by rw [hl];omega),hl,← h5 j hj]
      congr 1
      omega
/-- The cells that the walk reads of item i of a slice. -/
theorem node_cells {w : World} {M : Nat → Prop} {A : Option Addr} {l : List NodeL} {cs : List Value} (h : ReadsM w M 5 A l.length cs) (hn : NodesOk w M l cs) (i : Nat) (n : NodeL) (hi : l[i]? = some n) :
    ∃ ad Aw cw Ak ck kcs,A = some ad ∧ M ad.block ∧ w.cell? (ad.add (i * 5)) = some (.string ⟨n.name.toArray⟩) ∧ w.cell? ⟨(ad.add (i * 5)).block,(ad.add (i * 5)).off + 1,none⟩ = some (.int .i64 n.pos) ∧
      w.cell? ⟨(ad.add (i * 5)).block,(ad.add (i * 5)).off + 2,none⟩ = some (.slice Aw n.words.length cw) ∧ w.cell? ⟨(ad.add (i * 5)).block,(ad.add (i * 5)).off + 3,none⟩ = some (.bool n.block) ∧
      w.cell? ⟨(ad.add (i * 5)).block,(ad.add (i * 5)).off + 4,none⟩ = some (.slice Ak n.kids.length ck) ∧
      NilOk Aw cw ∧ NilOk Ak ck ∧ ReadsM w M 4 Aw n.words.length (n.words.flatMap WordL.cells) ∧ ReadsM w M 5 Ak n.kids.length kcs ∧ NodesOk w M n.kids kcs:=by
  have hlt : i < l.length:=(List.getElem?_eq_some_iff.1 hi).1
  obtain ⟨ad,rfl,hb,hc⟩:=h.2 (by omega)
  obtain ⟨a,ha,hg⟩:=hn.at i n hi
  obtain ⟨nm,p,ws,b,ks⟩:=n
  simp only [NodeOk] at ha
  obtain ⟨Aw,cw,Ak,ck,kcs,rfl,h2,h3,h4,h5,h6⟩:=ha
  have hs : ∀ j,j ≠ 0 → ad.add (i * 5 + j) = ⟨(ad.add (i * 5)).block,(ad.add (i * 5)).off + j,none⟩ := fun j hj => by
    rw [← add_of_add];unfold Addr.add;rw [if_neg hj]
  exact ⟨ad,Aw,cw,Ak,ck,kcs,rfl,hb,hc _ _ (hg 0 (by omega)),hs 1 (by omega) ▸ hc _ _ (hg 1 (by omega)),hs 2 (by omega) ▸ hc _ _ (hg 2 (by omega)),
    hs 3 (by omega) ▸ hc _ _ (hg 3 (by omega)),hs 4 (by omega) ▸ hc _ _ (hg 4 (by omega)),h2,h3,h4,h5,h6⟩
theorem wflat_get (l : List WordL) (i : Nat) (t : WordL) (h : l[i]? = some t) : ∀ j,j < 4 → (l.flatMap WordL.cells)[i * 4 + j]? = t.cells[j]? := by
  induction l generalizing i with
  | nil => simp at h
  | cons a l ih =>
    intro j hj
    rw [List.flatMap_cons]
    cases i with
    | zero =>
      simp only [List.getElem?_cons_zero,Option.some.injEq] at h
      subst h
      rw [List.getElem?_append_left (by simp [WordL.cells];omega)]
      simp
    | succ i =>
      rw [List.getElem?_append_right (by simp [WordL.cells];omega)]
      have : (i + 1) * 4 + j - a.cells.length = i * 4 + j:=by simp [WordL.cells];omega
      rw [this]
      exact ih i (by simpa using h) j hj
/-- The four cells of word i. -/
theorem word_cells {w : World} {M : Nat → Prop} {A : Option Addr} {l : List WordL} (h : ReadsM w M 4 A l.length (l.flatMap WordL.cells)) (i : Nat) (t : WordL) (hi : l[i]? = some t) :
    ∃ ad,A = some ad ∧ M ad.block ∧ w.cell? (ad.add (i * 4)) = some (.bool t.num) ∧ w.cell? ⟨(ad.add (i * 4)).block,(ad.add (i * 4)).off + 1,none⟩ = some (.int .i64 t.n) ∧
      w.cell? ⟨(ad.add (i * 4)).block,(ad.add (i * 4)).off + 2,none⟩ = some (.string ⟨t.s.toArray⟩) ∧ w.cell? ⟨(ad.add (i * 4)).block,(ad.add (i * 4)).off + 3,none⟩ = some (.int .i64 t.pos):=by
  have hlt : i < l.length:=(List.getElem?_eq_some_iff.1 hi).1
  obtain ⟨ad,rfl,hb,hc⟩:=h.2 (by omega)
  have hg:=wflat_get l i t hi
  have hs : ∀ j,j ≠ 0 → ad.add (i * 4 + j) = ⟨(ad.add (i * 4)).block,(ad.add (i * 4)).off + j,none⟩ := fun j hj => by
    rw [← add_of_add];unfold Addr.add;rw [if_neg hj]
  exact ⟨ad,rfl,hb,hc _ _ (hg 0 (by omega)),hs 1 (by omega) ▸ hc _ _ (hg 1 (by omega)),hs 2 (by omega) ▸ hc _ _ (hg 2 (by omega)),hs 3 (by omega) ▸ hc _ _ (hg 3 (by omega))⟩
end
section
open Go.RowKit
/-- Of what lay in w,only the cells of C,and the row's block,differ in w'. -/
structure Step (w w' : World) (C : List (Nat × Nat)) (row : Option Nat) : Prop where
  os : w'.os = w.os
  tape : w'.tape = w.tape
  output : w'.output = w.output
  size : w.heap.size ≤ w'.heap.size
  block : ∀ k,k < w.heap.size → (∀ j,(k,j) ∉ C) → some k ≠ row → w'.heap[k]? = w.heap[k]?
  cell : ∀ k,k < w.heap.size → some k ≠ row → ∀ j,(k,j) ∉ C → w'.cell? ⟨k,j,none⟩ = w.cell? ⟨k,j,none⟩
  froz : ∀ k,k < w.heap.size → some k ≠ row → ∀ j,w'.frozen? ⟨k,j,none⟩ = w.frozen? ⟨k,j,none⟩
  shape : ∀ k,k < w.heap.size → some k ≠ row → ∀ cs t f,w.heap[k]? = some (.cells cs t f) → ∃ cs',w'.heap[k]? = some (.cells cs' t f)
section
variable {w w' w2 : World} {C : List (Nat × Nat)} {row : Option Nat}
theorem Step.refl (w : World) (C : List (Nat × Nat)) (row : Option Nat) : Step w w C row :=
  ⟨rfl,rfl,rfl,Nat.le_refl _,fun _ _ _ _ => rfl,fun _ _ _ _ _ => rfl,fun _ _ _ _ => rfl,fun _ _ _ cs _ _ h => ⟨cs,h⟩⟩
theorem Step.drew (h : Step w w' C row) : Step w w'.drew C row:=⟨h.os,h.tape,h.output,h.size,h.block,h.cell,h.froz,h.shape⟩
theorem Step.alloc (h : Step w w' C row) (o : Obj) : Step w (w'.alloc o) C row :=
  ⟨h.os,h.tape,h.output,by have := h.size; simp; omega,
    fun k hk hC hr => by
      have:=h.size
      rw [show (w'.alloc o).heap[k]? = w'.heap[k]? from Go.heap_alloc_old w' o (by omega)]
      exact h.block k hk hC hr,
    fun k hk hr j hj => by
      have:=h.size
      rw [World.cell?_alloc_lt w' o ⟨k,j,none⟩ (by show k < _;omega)]
      exact h.cell k hk hr j hj,
    fun k hk hr j => by
      have:=h.size
      rw [World.frozen?_alloc_old w' o ⟨k,j,none⟩ (by show k ≠ _;omega)]
      exact h.froz k hk hr j,
    fun k hk hr cs t f hh => by
      have:=h.size
      obtain ⟨cs',h'⟩:=h.shape k hk hr cs t f hh
      exact ⟨cs',(show (w'.alloc o).heap[k]? = w'.heap[k]? from Go.heap_alloc_old w' o (by omega)).trans h'⟩⟩
theorem Step.setCell (h : Step w w' C row) {b o : Nat} (hb : w.heap.size ≤ b ∨ (b,o) ∈ C ∨ some b = row) (u : Value) : Step w (w'.setCell ⟨b,o,none⟩ u) C row :=
  ⟨h.os,h.tape,h.output,by simpa using h.size,
    fun k hk hC hr => by
      rw [Go.heap_setCell_other w' ⟨b,o,none⟩ k u (by
        show k ≠ b
        intro e;subst e
        rcases hb with hb | hb | hb
        · omega
        · exact hC _ hb
        · exact hr hb)]
      exact h.block k hk hC hr,
    fun k hk hr j hj => by
      rw [World.cell?_setCell_other w' ⟨b,o,none⟩ ⟨k,j,none⟩ u (by
        intro e
        simp only [Addr.mk.injEq,and_true] at e
        obtain ⟨rfl,rfl⟩:=e
        rcases hb with hb | hb | hb
        · omega
        · exact hj hb
        · exact hr hb)]
      exact h.cell k hk hr j hj,
    fun k hk hr j => by
      rw [World.frozen?_setCell]
      exact h.froz k hk hr j,
    fun k hk hr cs t f hh => by
      obtain ⟨cs',h'⟩:=h.shape k hk hr cs t f hh
      by_cases hkb : k = b
      · subst hkb
        exact ⟨cs'.setIfInBounds o u,by simp [World.setCell,Array.getElem?_modify,h']⟩
      · exact ⟨cs',(Go.heap_setCell_other w' ⟨b,o,none⟩ k u hkb).trans h'⟩⟩
theorem Step.grown (h : Step w w' C row) {row' : Option Nat} (hg : w'.grownBy w2 row') (hr' : ∀ k,row' = some k → some k = row ∨ w.heap.size ≤ k) : Step w w2 C row := by
  have hs:=h.size
  have hn : ∀ k,k < w.heap.size → some k ≠ row → some k ≠ row' := fun k hk hr e => by
    rcases hr' k e.symm with h1 | h1
    · exact hr h1
    · omega
  refine ⟨hg.os.trans h.os,hg.tape.trans h.tape,hg.output.trans h.output,Nat.le_trans h.size hg.size,fun k hk hC hr => ?_,fun k hk hr j hj => ?_,fun k hk hr j => ?_,fun k hk hr cs t f hh => ?_⟩
  · exact (hg.block k (by omega) (hn k hk hr)).trans (h.block k hk hC hr)
  · exact (hg.cell_far ⟨k,j,none⟩ (by show k < _;omega) (hn k hk hr)).trans (h.cell k hk hr j hj)
  · exact (hg.frozen_far ⟨k,j,none⟩ (by show k < _;omega) (hn k hk hr)).trans (h.froz k hk hr j)
  · obtain ⟨cs',h'⟩ := h.shape k hk hr cs t f hh
    exact ⟨cs',(hg.block k (by omega) (hn k hk hr)).trans h'⟩
theorem Step.below (h : Step w w' C row) (hb : Below w'.heap.size w' w2) : Step w w2 C row := by
  have hs:=h.size
  refine ⟨hb.os.trans h.os,hb.tape.trans h.tape,hb.output.trans h.output,Nat.le_trans h.size hb.size,fun k hk hC hr => ?_,fun k hk hr j hj => ?_,fun k hk hr j => ?_,fun k hk hr cs t f hh => ?_⟩
  · exact (hb.block k (by omega)).trans (h.block k hk hC hr)
  · exact (hb.cell (p:=⟨k,j,none⟩) (by show k < _;omega)).trans (h.cell k hk hr j hj)
  · exact (hb.frozen (p:=⟨k,j,none⟩) (by show k < _;omega)).trans (h.froz k hk hr j)
  · obtain ⟨cs',h'⟩ := h.shape k hk hr cs t f hh
    exact ⟨cs',(hb.block k (by omega)).trans h'⟩
theorem Step.own (h : Step w w' C row) {base : Nat} {e : TypeId} {size n : Nat} {v : Value} {xs : List Value} (ho : w.ownsRow base e size v n xs) (hC : ∀ k,v.ownBlock = some k → ∀ j,(k,j) ∉ C) (hr : v.ownBlock = none ∨ v.ownBlock ≠ row) :
    w'.ownsRow base e size v n xs:=by
  refine ⟨ho.1,?_⟩
  rcases ho.2 with h2 | ⟨g,cap,cur,hv,hg,hh,r⟩
  · exact Or.inl h2
  · subst hv
    refine Or.inr ⟨g,cap,cur,rfl,hg,?_,r⟩
    have hlt : g < w.heap.size := by
      rcases Nat.lt_or_ge g w.heap.size with hlt | hge
      · exact hlt
      · rw [Array.getElem?_eq_none hge] at hh;cases hh
    rw [h.block g hlt (hC g rfl) (by rcases hr with h0 | h0; · cases h0
                                     · exact h0)]
    exact hh
end
/-! ### Short names for scripts of regions that draw (a claim's size) -/
theorem nA.{u} : type_of% @List.setIfInBounds_toArray.{u}:=@List.setIfInBounds_toArray.{u}
theorem nB.{u} : type_of% @List.set_cons_succ.{u}:=@List.set_cons_succ.{u}
theorem nC.{u} : type_of% @List.set_cons_zero.{u}:=@List.set_cons_zero.{u}
theorem nD.{u} : type_of% @List.getElem_toArray.{u}:=@List.getElem_toArray.{u}
theorem nE.{u} : type_of% @List.getElem_cons_succ.{u}:=@List.getElem_cons_succ.{u}
theorem nF.{u} : type_of% @List.getElem_cons_zero.{u}:=@List.getElem_cons_zero.{u}
/-- A step of a region that draws,in the text's order: what a script says at each. -/
theorem wtk {P : Program} {md : Region.Mode} {ops : Array Oper} {Q : Exit → Act → World → Prop} {S : World → Prop} {oi : Oper} {v : Value} {fuel : Nat} {listed : Array Bool} {a : Act} {w : World} (i : Nat) (hi : ops[i]? = some oi)
    (hy : YieldsIf P ops S oi v a) (h : wpAnyH P md ops Q S fuel (listed.setIfInBounds i true) (a.put oi.dst v) w)
    (hs : Region.noSelect ops = true:=by kernel_rfl) (hf : Region.free md ops listed i = true:=by kernel_rfl) (hr : (Region.ready md ops listed).contains i = true:=by kernel_rfl)
    (hQ : ∀ c a w,Q (.panic c) (a.put oi.dst v) w → Q (.panic c) a w:=by exact fun _ _ _ h => h) (hS : S w:=by assumption) : wpAnyH P md ops Q S (fuel + 1) listed a w :=
  wpAnyH_take hi hs hf hr hQ hy hS h
end
end Go.Proofs.YtjbniichcopnlaaGreatDoor
