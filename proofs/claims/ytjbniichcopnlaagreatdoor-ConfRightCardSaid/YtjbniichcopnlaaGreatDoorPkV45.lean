import Derived.Test.YtjbniichcopnlaaGreatDoorPkV42
import Derived.Deep.QuietTactic
import Derived.Test.YtjbniichcopnlaaGreatDoorPkV12
import Derived.Test.YtjbniichcopnlaaGreatDoorRows
import Derived.Test.YtjbniichcopnlaaGreatDoorPkV38
import Derived.ProofKit
import Derived.Lib.LaidTab
import Derived.Lib.LaidU8
import Derived.Stop.LaidErr
import Derived.Deep.DeepWitnessRowRef
import Derived.Deep.DeepLaidRun
import Derived.Below
import Derived.ChangeSame
import Derived.WideKeyArgs
import Derived.OpenVars
import Derived.OpenShut
import Derived.ShutString
import Derived.Test.YtjbniichcopnlaaGreatDoorPkV19
import Derived.Deep.Slices
import Derived.Deep.Fields
import Derived.DataShut
section
/- Layer 12 (conf): the walk of the reference's Same. -/
set_option linter.unusedVariables false
set_option linter.unusedSimpArgs false
namespace Go.Proofs.YtjbniichcopnlaaGreatDoor
open Go.RowKit

theorem info_calL : (Tryz.prog.info? 37).map (fun i => (i.zero, i.size, i.bytes)) = some (some (.agg #[.string ⟨#[]⟩, .int .i64 0, .int .i64 0, .int .i64 0, .int .i64 0, .int .i64 0, .int .i64 0, .int .i64 0, .int .i64 0, .int .i64 0, .int .i64 0, .int .i64 0, .int .i64 0, .int .i64 0]), 14, 120) := by kernel_rfl
theorem own_cals_reads {w : World} {base : Nat} {v : Value} {l : List CalL} (h : OwnCals w base v l) : ∃ A cap, v = .slice A l.length cap ∧ NilOk A cap ∧ ReadsM w (· < w.heap.size) 14 A l.length (l.flatMap CalL.cc) := by
  have h0 := h
  unfold OwnCals at h
  obtain ⟨A, cap, rfl, hr⟩ := own_readsC h0
  refine ⟨A, cap, rfl, ?_, hr⟩
  rcases h.2 with ⟨he, hn⟩ | ⟨g, cap', cur, he, _⟩
  · simp only [Value.slice.injEq] at he; exact fun _ => he.2.2
  · simp only [Value.slice.injEq] at he; intro h; rw [he.1] at h; cases h
theorem cc_one (l : List CalL) : ∀ u ∈ l.flatMap CalL.cc, u.oneCell' = true := by
  intro u hu
  obtain ⟨c, _, hc⟩ := List.mem_flatMap.1 hu
  exact cells_one c u hc
/-- Calendars put behind a row of the call's own. -/
theorem wpList_behindC {w : World} {ops : Array Oper} {rest : List Oper} {o : Oper} {a : Act} {Q : Exit → Act → World → Prop} (s x : Operand)
    (ho : o.op = .call { callee := .builtin .append, args := #[s, x], argTypes := #[22, 22] }) (base : Nat) (v : Value) (l m : List CalL) (hs : a.eval s = v) (hown : OwnCals w base v l)
    (A : Option Addr) (c : Nat) (hx : a.eval x = .slice A m.length c) (hm : ReadsM w (· < base) 14 A m.length (m.flatMap CalL.cc)) (hnil : NilOk A c) (hnm : l.length + m.length ≤ 100000) (hbase : base ≤ w.heap.size) (hwn : Region.wanted o (yielded ops a.tmps) = true)
    (h : ∀ v' w', OwnCals w' base v' (l ++ m) → Below base w w' → wpList Tryz.prog ops Q rest (a.put o.dst v') w') : wpList Tryz.prog ops Q (o :: rest) a w := by
  obtain ⟨j0, hj0, hy0, hy1, hy2⟩ := info_parts info_calL
  obtain ⟨v', w', hrun, h5, h6⟩ := run_append_reads (P := Tryz.prog) (w := w) base 22 o.type 37 j0 _ 14 120 Tryz.underlying22 hj0 hy0 hy1 hy2 rfl (by decide) v l.length _ hown A m.length c base _ hm.reads hnil (cc_one m) (by unfold maxLen; omega) (by omega) hbase
  have hb : Below base w w' := (Below.refl base w).grown h6 hbase (fun k hk => (hown.lt k hk).1)
  refine wpList_append_run s x 22 ho hwn v _ hs hx o.type rfl v' w' hrun (h v' w' ?_ hb)
  unfold OwnCals
  rw [List.length_append, List.flatMap_append]
  exact h5

theorem same_step (l m : List CalL) (k : Nat) (a b : CalL) (ha : l[k]? = some a) (hb : m[k]? = some b) : decide (l.drop k = m.drop k) = (decide (a = b) && decide (l.drop (k + 1) = m.drop (k + 1))) := by
  obtain ⟨h1, rfl⟩ := List.getElem?_eq_some_iff.1 ha
  obtain ⟨h2, rfl⟩ := List.getElem?_eq_some_iff.1 hb
  rw [Bool.eq_iff_iff, decide_eq_true_eq, Bool.and_eq_true, decide_eq_true_eq, decide_eq_true_eq, List.drop_eq_getElem_cons h1, List.drop_eq_getElem_cons h2, List.cons.injEq]

set_option maxRecDepth 100000 in
set_option maxHeartbeats 2000000 in
theorem ref12_Same (A1 A2 : Option Addr) (c1 c2 : Nat) (l m : List CalL) (w : World) (h1 : ReadsM w (· < w.heap.size) 14 A1 l.length (l.flatMap CalL.cc)) (h2 : ReadsM w (· < w.heap.size) 14 A2 m.length (m.flatMap CalL.cc)) (hl : l.length ≤ maxLen) :
    Calls Tryz.prog 11 #[.slice A1 l.length c1, .slice A2 m.length c2] w fun e w' => e = .returned (.bool (decide (l = m))) ∧ Below w.heap.size w w' := by
  unfold maxLen at hl
  by_cases hlen : l.length = m.length
  · have hne : ((l.length : Int) != (m.length : Int)) = false := by rw [bne_eq_false_iff_eq]; omega
    have HL := Lib.hid hlen
    have H1 := Lib.hid h1
    have H2 := Lib.hid h2
    clear hlen h1 h2
    go_enter Tryz.func11, Tryz.ntmps11
    go_wp2_with fail
    go_loopw [13] (fun i wr => ∃ k : Nat, k ≤ l.length ∧ i = .int .i64 k ∧ Below w.heap.size w wr ∧ decide (l = m) = decide (l.drop k = m.drop k)) (fun i _ => l.length - (intOf i).toNat)
    case atStart => exact ⟨0, Nat.zero_le _, rfl, Below.refl _ _, rfl⟩
    case round =>
      obtain ⟨k, hk, rfl, hB, htk⟩ := hrel
      have hbs := hB.size
      by_cases hlt : k < l.length
      · obtain ⟨a, ha⟩ : ∃ a, l[k]? = some a := ⟨_, List.getElem?_eq_getElem hlt⟩
        obtain ⟨b, hb⟩ : ∃ b, m[k]? = some b := ⟨_, List.getElem?_eq_getElem (by rw [← HL.out]; exact hlt)⟩
        have hlt2 : k < m.length := by rw [← HL.out]; exact hlt
        obtain ⟨ad, hA1, hb1, p⟩ := cal_at (H1.out.keep (w' := wr) (M' := (· < w.heap.size)) (fun _ h => h) fun p hp => hB.cell hp) k a ha
        obtain ⟨bd, hA2, hb2, q⟩ := cal_at (H2.out.keep (w' := wr) (M' := (· < w.heap.size)) (fun _ h => h) fun p hp => hB.cell hp) k b hb
        subst hA1
        subst hA2
        rw [same_step l m k a b ha hb] at htk
        have hneq := fun W => run_neqCal W a b
        have HT := Lib.hid htk
        obtain ⟨p0, p1, p2, p3, p4, p5, p6, p7, p8, p9, p10, p11, p12, p13⟩ := p
        obtain ⟨q0, q1, q2, q3, q4, q5, q6, q7, q8, q9, q10, q11, q12, q13⟩ := q
        unfold CalL.cc at hneq
        have HBL := Lib.hid hB
        clear htk ha hb hB hb1 hb2
        cases hab : decide (a = b)
        · simp only [hab] at hneq
          rw [hab, Bool.false_and] at HT
          go_wp2_with fail
          go_quiet (fail)
          go_wp2_with fail
          go_ret
          exact ⟨ret_bool (by rw [HT.out]), below_drewN HBL.out _⟩
        · simp only [hab] at hneq
          rw [hab, Bool.true_and] at HT
          clear hab
          go_wp2_with fail
          go_quiet (fail)
          go_wp2_with fail
          exact ⟨⟨k + 1, by omega, by go_num, below_drewN HBL.out _, HT.out⟩, by simp [intOf]; omega⟩
      · have hkl : k = l.length := by omega
        have hlm : decide (l = m) = true := by
          rw [htk, List.drop_eq_nil_of_le (by omega), List.drop_eq_nil_of_le (by rw [← HL.out]; omega)]; rfl
        have HLM := Lib.hid hlm
        clear hlm hkl htk
        go_wp2_with fail
        go_ret
        exact ⟨ret_bool (by rw [HLM.out]), hB⟩
  · have hne : ((l.length : Int) != (m.length : Int)) = true := by rw [bne_iff_ne]; omega
    have HX := Lib.hid (show decide (l = m) = false from decide_eq_false fun e => hlen (by rw [e]))
    go_enter Tryz.func11, Tryz.ntmps11
    go_wp2_with fail
    go_ret
    exact ⟨ret_bool (by rw [HX.out]), Below.refl _ _⟩

end Go.Proofs.YtjbniichcopnlaaGreatDoor
end

section
/- What the rows of this seat list: the tables that they lay, as a walk wants them; a world for the witness. -/
namespace Go.Proofs.YtjbniichcopnlaaGreatDoor.tabs
open Go.RowKit
set_option linter.unusedVariables false
set_option maxRecDepth 100000

theorem own : ownKnob Tryz.prog.godebug = none := by kernel_rfl
theorem pow10 {W : World} (h : laidMet Tryz.prog Rows.confBackRow.laid W) : Tab W :=
  Lib.tabIs_of_head (g := 2) (t := 179) (e := 151) (n := 20) (k := .u64) (rest := [("unicode/utf8.acceptRanges", Rows.laid_unicode_utf8_acceptRanges), ("unicode.White_Space", Rows.laid_unicode_White_Space), ("strings.asciiSpace", Rows.laid_strings_asciiSpace), ("unicode/utf8.first", Rows.laid_unicode_utf8_first)]) (by kernel_rfl) (by kernel_rfl) (by kernel_rfl) (by kernel_rfl) (by kernel_rfl) (by kernel_rfl) h.tail.tail

theorem space {W : World} (h : laidMet Tryz.prog Rows.confBackRow.laid W) : SpaceTab W :=
  Lib.tabIs_of_head (g := 0) (t := 132) (e := 5) (n := 256) (k := .u8) (rest := [("unicode/utf8.first", Rows.laid_unicode_utf8_first)]) (by kernel_rfl) (by kernel_rfl) (by kernel_rfl) (by kernel_rfl) (by kernel_rfl) (by kernel_rfl) h.tail.tail.tail.tail.tail

/-- A world for the witness: the settled one, with the listed variables holding what their initialisers lay. -/
noncomputable def laidWorld (os : Os) : World :=
  let N := (World.settled Tryz.prog os).heap.size
  let w0 := World.holding Tryz.prog os ⟨#[.cells (Lib.whiteT.map fun (z : Nat) => Value.int .u16 (z : Int)).toArray 172, .cells #[.slice (some ⟨N, 0, none⟩) 7 7, .slice none 0 0, .int .i64 2] 169], #[], []⟩
  let put (h : Array Obj) (g : Nat) (cs : Array Value) : Array Obj := h.modify g fun
    | .cells _ t frozen => .cells cs t frozen
    | o => o
  { w0 with heap := put (put (put (put (put (put (put (w0.heap) 6 #[.int .u8 0, .int .u8 1, .int .u8 28, .int .u8 2, .int .u8 29, .int .u8 14, .int .u8 24, .int .u8 3, .int .u8 30, .int .u8 22, .int .u8 20, .int .u8 15, .int .u8 25, .int .u8 17, .int .u8 4, .int .u8 8, .int .u8 31, .int .u8 27, .int .u8 13, .int .u8 23, .int .u8 21, .int .u8 19, .int .u8 16, .int .u8 7, .int .u8 26, .int .u8 12, .int .u8 18, .int .u8 6, .int .u8 11, .int .u8 5, .int .u8 10, .int .u8 9]) 7 #[.int .u8 0, .int .u8 1, .int .u8 56, .int .u8 2, .int .u8 57, .int .u8 49, .int .u8 28, .int .u8 3, .int .u8 61, .int .u8 58, .int .u8 42, .int .u8 50, .int .u8 38, .int .u8 29, .int .u8 17, .int .u8 4, .int .u8 62, .int .u8 47, .int .u8 59, .int .u8 36, .int .u8 45, .int .u8 43, .int .u8 51, .int .u8 22, .int .u8 53, .int .u8 39, .int .u8 33, .int .u8 30, .int .u8 24, .int .u8 18, .int .u8 12, .int .u8 5, .int .u8 63, .int .u8 55, .int .u8 48, .int .u8 27, .int .u8 60, .int .u8 41, .int .u8 37, .int .u8 16, .int .u8 46, .int .u8 35, .int .u8 44, .int .u8 21, .int .u8 52, .int .u8 32, .int .u8 23, .int .u8 11, .int .u8 54, .int .u8 26, .int .u8 40, .int .u8 15, .int .u8 34, .int .u8 20, .int .u8 31, .int .u8 10, .int .u8 25, .int .u8 14, .int .u8 19, .int .u8 9, .int .u8 13, .int .u8 8, .int .u8 7, .int .u8 6]) 2 #[.int .u64 1, .int .u64 10, .int .u64 100, .int .u64 1000, .int .u64 10000, .int .u64 100000, .int .u64 1000000, .int .u64 10000000, .int .u64 100000000, .int .u64 1000000000, .int .u64 10000000000, .int .u64 100000000000, .int .u64 1000000000000, .int .u64 10000000000000, .int .u64 100000000000000, .int .u64 1000000000000000, .int .u64 10000000000000000, .int .u64 100000000000000000, .int .u64 1000000000000000000, .int .u64 10000000000000000000]) 5 ((List.range 16).flatMap fun i => [Value.int .u8 (Lib.accLo i), Value.int .u8 (Lib.accHi i)]).toArray) 1 #[.pointer (some ⟨N + 1, 0, none⟩)]) 0 (Lib.asciiSpaceTab.map fun z => Value.int .u8 z).toArray) 4 (Lib.firstTab.map fun z => Value.int .u8 z).toArray }

theorem laid_met (os : Os) (args : Array Value) : laidMet Tryz.prog Rows.confBackRow.laid ((laidWorld os).forCall (fun _ _ => 0) ⟨#[], args, []⟩).memory :=
  laidMet_of_run3 10 (by kernel_rfl) (by kernel_rfl) (by kernel_rfl)

end Go.Proofs.YtjbniichcopnlaaGreatDoor.tabs
end

section
/- The row's last step over a walk that tells 'Below' alone. Over any program. -/
namespace Go.Proofs.YtjbniichcopnlaaGreatDoor
open Go.RowKit Go.WideShapes Go.ChangeShapes

section
variable {H : Type} {enc : TypeId × Value → H} {P : Program}
theorem post_of_below {f : Func} {s : ChangeSpec} {apart fresh handsOn again : Bool} {W W' : World} {args : Array Value} {v : Value} {ds gs : List (DataW H)} {before pa pv : List MemPlace}
    (hW : DataW.Whole enc P f.params.toList s.vars apart W args.toList ds gs before)
    (hres : ∀ (b : Nat) (sp : Nat → Bool) (hd : Bool), DataW.TrodAll enc P W' b sp hd f.resultTypes.toList (v.resultList f.resultTypes.size) (s.fn H (ds ++ gs)).results [])
    (hargs : ∀ sp : Nat → Bool, (∀ p ∈ before, sp p.block = true) → DataW.TrodAll enc P W' 0 sp true f.params.toList args.toList (s.fn H (ds ++ gs)).args pa)
    (hvars : ∀ sp : Nat → Bool, (∀ p ∈ before, sp p.block = true) → DataW.TrodVars enc P W' sp s.vars (s.fn H (ds ++ gs)).vars pv)
    (hps : before = pa ++ pv) (hb : Below W.heap.size W W')
    (hok : ∀ (j : Nat) (t : TypeId) (r : Value), f.resultTypes[j]? = some t → (v.resultList f.resultTypes.size)[j]? = some r → Value.okWide P W' .any 0 t r) :
    s.post enc P f apart fresh handsOn again W args v W' := by
  have hlt : ∀ p ∈ before, p.block < W.heap.size := fun p hp => hW.lt p hp
  have hold : ∀ p ∈ before, (fun b => decide (b < W.heap.size)) p.block = true := fun p hp => by simpa using hlt p hp
  refine ⟨ds, gs, before, [], pa, pv, hW, hres _ _ _, hargs _ hold, hvars _ hold, World.keptBut_mono (fun p hp => ⟨hp, ?_⟩) (hb.frame (· ∈ before)), fun _ => ?_⟩
  · rw [hps, List.mem_append] at hp
    exact Or.inr hp
  · obtain ⟨_, _, _, _, _, hz, hn⟩ := hW
    refine ⟨hok, _, _, ([] ++ pa) ++ pv, ⟨[] ++ pa, pv, trodAll_append (hargs _ (fun _ _ => rfl)) (hres _ _ _), hvars _ (fun _ _ => rfl), rfl, ?_, ?_⟩, ?_⟩
    · intro b off hp
      have hin : MemPlace.cell b off ∈ before := by rw [hps]; simpa using hp
      rw [hb.frozen (hlt _ hin)]
      exact hz b off hin
    · intro ha
      have := hn ha
      rw [hps] at this
      simpa using this
    · intro p hp _
      rw [hps]
      simpa using hp
end
end Go.Proofs.YtjbniichcopnlaaGreatDoor
end

section
/- The row's last step: the arguments read behind the call as they did, unopened, whatever their types. Over any program. -/
namespace Go.Proofs.YtjbniichcopnlaaGreatDoor
open Go.RowKit Go.WideShapes Go.ChangeShapes Go.WideElems Go.ChangeAt

section
variable {H : Type} {enc : TypeId × Value → H} {P : Program}

/-- One closed fact: each parameter's type can be read and is a row of the table. -/
def paramsRowed (P : Program) (ts : List TypeId) : Bool := ts.all fun t => P.readableRec t && decide (t < P.types.size)

theorem trodAll_stay (hl : laidOutB P = true) {W W' : World} (hb : Below W.heap.size W W') : ∀ {ts : List TypeId} {vs : List Value} {ds : List (DataW H)} {ps : List MemPlace}, paramsRowed P ts = true →
    (∀ p ∈ ps, p.block < W.heap.size) → DataW.TrodAll enc P W 0 (fun _ => true) true ts vs ds ps →
    ∀ sp : Nat → Bool, (∀ p ∈ ps, sp p.block = true) → DataW.TrodAll enc P W' 0 sp true ts vs ds ps := by
  intro ts
  induction ts with
  | nil =>
    intro vs ds ps _ _ h sp _
    obtain ⟨rfl, rfl, rfl⟩ := trodAll_nil h
    exact trodAll_mk0
  | cons t ts ih =>
    intro vs ds ps hp hlt h sp hsp
    obtain ⟨v0, vs0, d0, ds0, p0, q0, rfl, rfl, rfl, h0, r0⟩ := trodAll_cons h
    simp only [paramsRowed, List.all_cons, Bool.and_eq_true, decide_eq_true_eq] at hp
    refine trodAll_cons_mk (Trod_stays hl hp.1.1 hp.1.2 h0 (fun p hx => hb.same (hlt p (by simp [hx]))) (fun p hx => hsp p (by simp [hx]))) (ih (by simpa [paramsRowed] using hp.2) (fun p hx => hlt p (by simp [hx])) r0 sp (fun p hx => hsp p (by simp [hx])))
end
end Go.Proofs.YtjbniichcopnlaaGreatDoor
end

section
/- An argument that is a slice of items, opened. -/
set_option maxRecDepth 100000
namespace Go.Proofs.YtjbniichcopnlaaGreatDoor
open Go.RowKit Go.WideShapes Go.ChangeShapes Go.WideElems Go.Deep

section
variable {H : Type} {enc : TypeId × Value → H} {P : Program} {w : World} {base : Nat} {spare : Nat → Bool} {held : Bool}
/-- A slice of structs whose fields are one cell each, opened; each field is read with less fuel. -/
theorem open_slice_less {t e : TypeId} {fs : Array Field} {fuel : Nat} {cs : List Value} {x : DataW H × List MemPlace} (ht : P.underlying t = some (.slice e)) (he : P.underlying e = some (.struct fs))
    (hone : oneCellFields P fs = true) (hC : P.cellsOf e = fs.size) (h : DataW.trod enc P w base spare held fuel t cs = some x) :
    cs = [.slice none 0 0] ∨
    ∃ (a : Addr) (len cap : Nat), cs = [.slice (some a) len cap] ∧ len ≤ cap ∧ cap ≤ maxLen ∧
      ∀ i, i < len → ∀ (j : Nat) (f : Field), fs[j]? = some f → ∃ (v : Value) (y : DataW H × List MemPlace) (n : Nat), n < fuel ∧ w.cell? (a.add (i * fs.size + j)) = some v ∧ DataW.trod enc P w base spare held n f.type [v] = some y := by
  rcases DataW.trod_slice ht h with h0 | ⟨a, len, cap, elems, rest, n, hfu, hcs, hx, hb, hl, hm, hlen, hel, _, _⟩
  · exact .inl h0.1
  · refine .inr ⟨a, len, cap, hcs, hl, hm, fun i him j f hj => ?_⟩
    have hi := hel i him
    rw [List.getElem?_eq_getElem (by omega)] at hi
    obtain ⟨cs', hc, ht'⟩ := Option.bind_eq_some_iff.1 hi
    rw [hC] at hc
    obtain ⟨ys, n', hn', hy, hlen', hyl, hf⟩ := DataW.trod_struct he ht'
    obtain ⟨_, hcl, hat⟩ := World.cells?_some hc
    obtain ⟨ho, hk⟩ := hone_of hone j f hj
    have hjl : j < fs.size := (Array.getElem?_eq_some_iff.1 hj).1
    have hcell := hat j hjl
    have hv : cs'[j]? = some (cs'[j]'(by omega)) := List.getElem?_eq_getElem (by omega)
    have h1 := hf j f hj
    rw [ho, hk] at h1
    have hone' : (cs'.drop j).take 1 = [cs'[j]'(by omega)] := by
      rw [List.drop_eq_getElem_cons (by omega)]
      rfl
    rw [hone'] at h1
    have hys : ys[j]? = some (ys[j]'(by omega)) := List.getElem?_eq_getElem (by omega)
    refine ⟨_, _, n', by omega, ?_, h1.trans hys⟩
    rw [← Go.Deep.add_add, hcell, hv]
end

theorem exists_list {α : Type} (n : Nat) (p : Nat → α → Prop) (h : ∀ i, i < n → ∃ a, p i a) : ∃ l : List α, l.length = n ∧ ∀ i a, l[i]? = some a → p i a := by
  induction n with
  | zero => exact ⟨[], rfl, fun i a h => by simp at h⟩
  | succ n ih =>
    obtain ⟨l, hl, hp⟩ := ih fun i hi => h i (by omega)
    obtain ⟨a, ha⟩ := h n (by omega)
    refine ⟨l ++ [a], by simp [hl], fun i b hb => ?_⟩
    by_cases hi : i < l.length
    · rw [List.getElem?_append_left hi] at hb
      exact hp i b hb
    · rw [List.getElem?_append_right (by omega)] at hb
      have h0 : i - l.length = 0 := by
        have := (List.getElem?_eq_some_iff.1 hb).1
        simp at this
        omega
      rw [h0] at hb
      simp at hb
      subst hb
      rw [show i = n by omega]
      exact ha

theorem cell_lt {w : World} {p : Addr} {v : Value} (h : w.cell? p = some v) : p.block < w.heap.size := by
  rcases Nat.lt_or_ge p.block w.heap.size with hlt | hge
  · exact hlt
  · exfalso
    unfold World.cell? at h
    rw [Array.getElem?_eq_none hge] at h
    simp at h

theorem open_words {H : Type} {enc : TypeId × Value → H} {w : World} {base : Nat} {spare : Nat → Bool} {held : Bool} {fuel : Nat} {cs : List Value} {x : DataW H × List MemPlace}
    (h : DataW.trod enc Tryz.prog w base spare held fuel 42 cs = some x) :
    ∃ (A : Option Addr) (c : Nat) (l : List WordL), cs = [.slice A l.length c] ∧ NilOk A c ∧ ReadsM w (· < w.heap.size) 4 A l.length (l.flatMap WordL.cells) ∧ l.length ≤ maxLen ∧ ∀ t ∈ l, t.s.length ≤ maxLen := by
  rcases open_slice_less Tryz.underlying42 Tryz.underlying61 (by kernel_rfl) (by kernel_rfl) h with rfl | ⟨a, len, cap, rfl, hl, hm, hi⟩
  · exact ⟨none, 0, [], rfl, fun _ => rfl, ReadsM.nil _ _ _ _, by simp, by simp⟩
  · obtain ⟨l, hlen, hp⟩ := exists_list len (fun (i : Nat) (t : WordL) => t.s.length ≤ maxLen ∧ w.cell? (a.add (i * 4)) = some (.bool t.num) ∧ w.cell? (a.add (i * 4 + 1)) = some (.int .i64 t.n) ∧ w.cell? (a.add (i * 4 + 2)) = some (.string ⟨t.s.toArray⟩) ∧ w.cell? (a.add (i * 4 + 3)) = some (.int .i64 t.pos)) (fun i him => by
      obtain ⟨v0, y0, n0, _, c0, t0⟩ := hi i him 0 _ rfl
      obtain ⟨v1, y1, n1, _, c1, t1⟩ := hi i him 1 _ rfl
      obtain ⟨v2, y2, n2, _, c2, t2⟩ := hi i him 2 _ rfl
      obtain ⟨v3, y3, n3, _, c3, t3⟩ := hi i him 3 _ rfl
      obtain ⟨k0, h0, _⟩ := DataW.trod_bool Tryz.underlying4 t0
      obtain ⟨k1, h1, _, w1⟩ := DataW.trod_int (k := .i64) Tryz.underlying3 t1
      obtain ⟨k2, h2, _, w2⟩ := DataW.trod_string Tryz.underlying9 t2
      obtain ⟨k3, h3, _, w3⟩ := DataW.trod_int (k := .i64) Tryz.underlying3 t3
      simp only [List.cons.injEq, and_true] at h0 h1 h2 h3
      subst h0 h1 h2 h3
      exact ⟨⟨k0, k1, k2.data.toList, k3⟩, by rw [ba_len]; exact w2, c0, c1, by simpa using c2, c3⟩)
    subst hlen
    refine ⟨some a, cap, l, rfl, fun h => by simp at h, ⟨wcells_length l, fun h0 => ⟨a, rfl, ?_, fun j u hj => ?_⟩⟩, by omega, fun t ht => ?_⟩
    · have h1 := (hp 0 _ (List.getElem?_eq_getElem h0)).2.1
      have := cell_lt h1
      rwa [block_of_add] at this
    · have hj4 : j < l.length * 4 := by
        have := (List.getElem?_eq_some_iff.1 hj).1
        rwa [wcells_length] at this
      have hi4 : j / 4 < l.length := by omega
      have hg := wflat_get l (j / 4) _ (List.getElem?_eq_getElem hi4) (j % 4) (by omega)
      rw [show j / 4 * 4 + j % 4 = j by omega, hj] at hg
      obtain ⟨_, q0, q1, q2, q3⟩ := hp (j / 4) _ (List.getElem?_eq_getElem hi4)
      have hm4 : j % 4 = 0 ∨ j % 4 = 1 ∨ j % 4 = 2 ∨ j % 4 = 3 := by omega
      rcases hm4 with h4 | h4 | h4 | h4
      · rw [h4] at hg; simp [WordL.cells] at hg; rw [show j = j / 4 * 4 by omega, hg]; exact q0
      · rw [h4] at hg; simp [WordL.cells] at hg; rw [show j = j / 4 * 4 + 1 by omega, hg]; exact q1
      · rw [h4] at hg; simp [WordL.cells] at hg; rw [show j = j / 4 * 4 + 2 by omega, hg]; exact q2
      · rw [h4] at hg; simp [WordL.cells] at hg; rw [show j = j / 4 * 4 + 3 by omega, hg]; exact q3
    · obtain ⟨i, hi, rfl⟩ := List.mem_iff_getElem.1 ht
      exact (hp i _ (List.getElem?_eq_getElem hi)).1

/-- Five cells from an address on. -/
def At5 (w : World) (a : Addr) (i : Nat) (cs : List Value) : Prop := cs.length = 5 ∧ ∀ j u, cs[j]? = some u → w.cell? (a.add (i * 5 + j)) = some u
theorem nodes_ok {w : World} {M : Nat → Prop} {a : Addr} : ∀ (l : List NodeL) (i : Nat), (∀ (j : Nat) (n : NodeL), l[j]? = some n → ∃ cs, At5 w a (i + j) cs ∧ NodeOk w M n cs) →
    ∃ kcs, kcs.length = l.length * 5 ∧ (∀ j u, kcs[j]? = some u → w.cell? (a.add (i * 5 + j)) = some u) ∧ NodesOk w M l kcs
  | [], i, _ => ⟨[], rfl, fun j u h => by simp at h, by simp only [NodesOk]⟩
  | n :: r, i, h => by
    obtain ⟨cs, ⟨h1, h2⟩, h3⟩ := h 0 n rfl
    obtain ⟨kcs, k1, k2, k3⟩ := nodes_ok r (i + 1) (fun j m hj => by
      have := h (j + 1) m (by simpa using hj)
      rwa [show i + (j + 1) = i + 1 + j by omega] at this)
    refine ⟨cs ++ kcs, by rw [List.length_append, h1, k1, List.length_cons]; omega, fun j u hj => ?_, by simp only [NodesOk]; exact ⟨cs, kcs, rfl, h3, k3⟩⟩
    by_cases hj5 : j < 5
    · rw [List.getElem?_append_left (by omega)] at hj
      simpa using h2 j u hj
    · rw [List.getElem?_append_right (by omega), h1] at hj
      have := k2 (j - 5) u hj
      rwa [show (i + 1) * 5 + (j - 5) = i * 5 + j by omega] at this
theorem fitNs_of : ∀ (l : List NodeL), (∀ (j : Nat) (n : NodeL), l[j]? = some n → fitN n) → fitNs l
  | [], _ => trivial
  | n :: r, h => ⟨h 0 n rfl, fitNs_of r fun j m hj => h (j + 1) m (by simpa using hj)⟩

theorem open_nodes_fuel {H : Type} {enc : TypeId × Value → H} {w : World} {base : Nat} {spare : Nat → Bool} {held : Bool} : ∀ (N fuel : Nat), fuel < N → ∀ {cs : List Value} {x : DataW H × List MemPlace},
    DataW.trod enc Tryz.prog w base spare held fuel 41 cs = some x →
    ∃ (A : Option Addr) (c : Nat) (l : List NodeL), cs = [.slice A l.length c] ∧ NilOk A c ∧ ROk w w.heap.size A l ∧ l.length ≤ maxLen ∧ fitNs l
  | 0, fuel, hf, _, _, _ => by omega
  | N + 1, fuel, hf, cs, x, h => by
    rcases open_slice_less Tryz.underlying41 Tryz.underlying44 (by kernel_rfl) (by kernel_rfl) h with rfl | ⟨a, len, cap, rfl, hl, hm, hi⟩
    · exact ⟨none, 0, [], rfl, fun _ => rfl, ⟨[], ReadsM.nil _ _ _ _, by simp only [NodesOk]⟩, by simp, trivial⟩
    · obtain ⟨l, hlen, hp⟩ := exists_list len (fun (i : Nat) (n : NodeL) => fitN n ∧ ∃ cs, At5 w a i cs ∧ NodeOk w (· < w.heap.size) n cs) (fun i him => by
        obtain ⟨v0, y0, n0, _, c0, t0⟩ := hi i him 0 _ rfl
        obtain ⟨v1, y1, n1, _, c1, t1⟩ := hi i him 1 _ rfl
        obtain ⟨v2, y2, n2, _, c2, t2⟩ := hi i him 2 _ rfl
        obtain ⟨v3, y3, n3, _, c3, t3⟩ := hi i him 3 _ rfl
        obtain ⟨v4, y4, n4, l4, c4, t4⟩ := hi i him 4 _ rfl
        obtain ⟨k0, h0, _, w0⟩ := DataW.trod_string Tryz.underlying9 t0
        obtain ⟨k1, h1, _, w1⟩ := DataW.trod_int (k := .i64) Tryz.underlying3 t1
        obtain ⟨Aw, cw, ws, h2, g1, g2, g3, g4⟩ := open_words t2
        obtain ⟨k3, h3, _⟩ := DataW.trod_bool Tryz.underlying4 t3
        obtain ⟨Ak, ck, ks, h4, g5, ⟨kcs, g6, g7⟩, g8, g9⟩ := open_nodes_fuel N n4 (by omega) t4
        simp only [List.cons.injEq, and_true] at h0 h1 h2 h3 h4
        subst h0 h1 h2 h3 h4
        refine ⟨.mk k0.data.toList k1 ws k3 ks, ⟨by rw [ba_len]; exact w0, g3, g4, g8, g9⟩, [.string k0, .int .i64 k1, .slice Aw ws.length cw, .bool k3, .slice Ak ks.length ck], ⟨rfl, fun j u hj => ?_⟩, ?_⟩
        · have hj5 : j < 5 := (List.getElem?_eq_some_iff.1 hj).1
          have hm5 : j = 0 ∨ j = 1 ∨ j = 2 ∨ j = 3 ∨ j = 4 := by omega
          rcases hm5 with rfl | rfl | rfl | rfl | rfl <;> (simp only [List.getElem?_cons_zero, List.getElem?_cons_succ, Option.some.injEq] at hj; subst hj; assumption)
        · simp only [NodeOk]
          exact ⟨Aw, cw, Ak, ck, kcs, by simp, g1, g5, g2, g6, g7⟩)
      subst hlen
      obtain ⟨kcs, k1, k2, k3⟩ := nodes_ok l 0 (fun j n hj => by
        have := (hp j n hj).2
        rwa [Nat.zero_add])
      refine ⟨some a, cap, l, rfl, fun h => by simp at h, ⟨kcs, ⟨k1, fun h0 => ⟨a, rfl, ?_, fun j u hj => by simpa using k2 j u hj⟩⟩, k3⟩, by omega, fitNs_of l fun j n hj => (hp j n hj).1⟩
      have hk0 : 0 < kcs.length := by omega
      have := cell_lt (k2 0 _ (List.getElem?_eq_getElem hk0))
      rwa [block_of_add] at this

theorem open_nodes {H : Type} {enc : TypeId × Value → H} {w : World} {base : Nat} {spare : Nat → Bool} {held : Bool} {v : Value} {d : DataW H} {ps : List MemPlace} {r : Reach} {b0 : Nat}
    (hval : Value.okWide Tryz.prog w r b0 41 v) (hd : DataW.Trod enc Tryz.prog w base spare held 41 v d ps) :
    ∃ (A : Option Addr) (c : Nat) (l : List NodeL), v = .slice A l.length c ∧ NilOk A c ∧ ROk w w.heap.size A l ∧ l.length ≤ maxLen ∧ fitNs l := by
  obtain ⟨A, n, c, rfl⟩ := okWide_slice Tryz.underlying41 hval
  obtain ⟨fuel, hf⟩ := hd
  obtain ⟨A', c', l, h1, h2⟩ := open_nodes_fuel (fuel + 1) fuel (by omega) hf
  simp only [Value.cells] at h1
  refine ⟨A', c', l, ?_, h2⟩
  simpa using h1

end Go.Proofs.YtjbniichcopnlaaGreatDoor
end
