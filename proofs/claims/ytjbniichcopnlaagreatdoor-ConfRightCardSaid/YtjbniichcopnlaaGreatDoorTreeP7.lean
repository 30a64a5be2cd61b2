import Derived.Test.YtjbniichcopnlaaGreatDoorPkV10
import Derived.LaidEqlPtr
import Derived.Lib.Builder
/- Layer 9 (tree): the walk of Parse. -/
set_option linter.unusedVariables false
set_option linter.unusedSimpArgs false
namespace Go.Proofs.YtjbniichcopnlaaGreatDoor
open Go.RowKit

theorem PI.step0 {w0 w w' : World} {M : Nat → Prop} {B0 r rb k : Nat} {st : List Fr} {io : Option It} (h : PI w0 w M B0 r rb k st io) (hs : Step w w' [] none) : PI w0 w' M B0 r rb k st io := by
  have lr := (h.bd r (by simp)).2.1
  have hz := hs.size
  have hsz := h.size
  exact
    { below := h.bad hs
      stack := h.stack.keep hs (fun x hx => ⟨(h.mb x hx).2, safe_nil x⟩) (fun _ hx => hx) (fun x _ => safe_nil x)
      item := fun x hx => (h.item x hx).keep hs (fun y _ => safe_nil y)
      r0 := (hs.cell r lr (by simp) 0 (by simp)).trans h.r0
      r1 := (hs.cell r lr (by simp) 1 (by simp)).trans h.r1
      r2 := (hs.cell r lr (by simp) 2 (by simp)).trans h.r2
      rf := fun j => (hs.froz r lr (by simp) j).trans (h.rf j)
      nd := h.nd
      bd := fun x hx => by obtain ⟨a, b, c⟩ := h.bd x hx; exact ⟨a, by omega, c⟩
      mb := fun x hx => by obtain ⟨a, b⟩ := h.mb x hx; exact ⟨a, by omega⟩
      last := h.last
      kids := h.kids
      size := by omega
      words := h.words
      len := h.len
      shp := fun x hx => shape_keep hs (h.shp x hx) (by simp)
      ish := fun x hx => shape_keep hs (h.ish x hx) (by simp) }
theorem PInv.step0 {w0 w w' : World} {B0 r rb k : Nat} {fs : List FrameL} {it : Option ItemL} (h : PInv w0 w B0 r rb k fs it) (hs : Step w w' [] none) : PInv w0 w' B0 r rb k fs it := by
  obtain ⟨M, st, io, a, b, hp⟩ := h
  exact ⟨M, st, io, a, b, hp.step0 hs⟩

theorem pinv_start (w1 : World) : PInv w1 ((w1.alloc (.cells #[.string ⟨#[]⟩, .int .i64 0, .slice none 0 0, .bool false, .slice none 0 0, .pointer none] 81)).alloc (.cells #[.pointer (some ⟨w1.heap.size, 0, none⟩), .pointer none, .int .i64 0] 84))
    w1.heap.size (w1.heap.size + 1) w1.heap.size 0 [rootF] none := by
  obtain ⟨W, hW⟩ : ∃ W, W = (w1.alloc (.cells #[.string ⟨#[]⟩, .int .i64 0, .slice none 0 0, .bool false, .slice none 0 0, .pointer none] 81)).alloc (.cells #[.pointer (some ⟨w1.heap.size, 0, none⟩), .pointer none, .int .i64 0] 84) := ⟨_, rfl⟩
  rw [← hW]
  have b0 : W.heap[w1.heap.size]? = some (.cells #[.string ⟨#[]⟩, .int .i64 0, .slice none 0 0, .bool false, .slice none 0 0, .pointer none] 81) := by
    rw [hW]; exact (heap_alloc_old _ _ (by simp)).trans (heap_alloc_new _ _)
  have b1 : W.heap[w1.heap.size + 1]? = some (.cells #[.pointer (some ⟨w1.heap.size, 0, none⟩), .pointer none, .int .i64 0] 84) := by
    rw [hW]; exact alloc_at _ _ (by simp)
  have hsz : W.heap.size = w1.heap.size + 2 := by rw [hW]; simp
  have hbl : Below w1.heap.size w1 W := by rw [hW]; exact ((Below.refl _ _).alloc (Nat.le_refl _) _).alloc (by simp) _
  refine ⟨fun _ => False, [⟨w1.heap.size, rootF, none, 0⟩], none, rfl, rfl, ?_⟩
  exact
    { below := hbl
      stack := ⟨⟨none, 0, false, [], open6_of_block (up := none) b0, fun h => absurd rfl h, fun _ => rfl, ReadsM.nil _ _ _ _, ⟨rfl, .inl ⟨rfl, rfl⟩⟩, rfl⟩, trivial⟩
      item := fun x hx => by cases hx
      r0 := Joins.cell_of_block b1 0
      r1 := Joins.cell_of_block b1 1
      r2 := Joins.cell_of_block b1 2
      rf := Joins.unfrozen_of_block b1
      nd := by simp [stM, Fr.ms, ownB, ioM]
      bd := fun x hx => by
        simp [stM, Fr.ms, ownB, ioM] at hx
        rcases hx with rfl | rfl <;> exact ⟨by omega, by omega, fun h => h⟩
      mb := fun x hx => hx.elim
      last := rfl
      kids := fun x hx => by simp at hx; subst hx; simp [rootF]
      size := by omega
      words := fun x hx => by cases hx
      len := by simp
      shp := fun x hx => by simp at hx; subst hx; exact ⟨_, _, b0⟩
      ish := fun x hx => by cases hx }

theorem info_open : (Tryz.prog.info? 81).map (fun i => (i.zero, i.size, i.bytes)) = some (some (.agg #[.string ⟨#[]⟩, .int .i64 0, .slice none 0 0, .bool false, .slice none 0 0, .pointer none]), 6, 88) := by kernel_rfl
theorem run_neq_open_same (w : World) (a : Addr) : (binOp .neq 79 (.pointer (some a)) (.pointer (some a))).run Tryz.prog w = .ok (.bool false) w := by
  obtain ⟨j, hj, _⟩ := info_parts info_open
  exact Lib.run_neq_ptr_same w a Tryz.underlying79 hj
theorem run_neq_open_other (w : World) {a b : Addr} {ca cb : Array Value} {ta tb : TypeId} (hne : a ≠ b) (ha : w.heap[a.block]? = some (.cells ca ta (0, 0))) (hb : w.heap[b.block]? = some (.cells cb tb (0, 0))) :
    (binOp .neq 79 (.pointer (some a)) (.pointer (some b))).run Tryz.prog w = .ok (.bool true) w := by
  obtain ⟨j, hj, _, hsz, _⟩ := info_parts info_open
  have h : ∀ d : Nat, (Op.equalIn (d + 1) 79 (.pointer (some a)) (.pointer (some b))).run Tryz.prog w = .ok false w := fun d => by
    simp [Op.equalIn, run_underlying Tryz.underlying79, sizeOf, typeInfo, hj, hsz, run_sameAddr_other w hne ha hb]
  simp only [binOp]
  simp [Op.equal, Op.maxDepth, h 9999]
/-- What Parse leaves. -/
def ParsePost (w : World) (R : ParseRes) (e : Ending) (w' : World) : Prop :=
  ∃ A c kcs, e = .returned (.tuple #[.slice A R.nodes.length c, .int .i64 R.pos, .int .i64 R.err]) ∧ NilOk A c ∧ ReadsM w' (fun b => w.heap.size ≤ b ∧ b < w'.heap.size) 5 A R.nodes.length kcs ∧
    NodesOk w' (fun b => w.heap.size ≤ b ∧ b < w'.heap.size) R.nodes kcs ∧ Below w.heap.size w w'
theorem parse_nil {w w' : World} {p e : Int} (hb : Below w.heap.size w w') : ParsePost w ⟨[], p, e⟩ (.returned (.tuple #[.slice none 0 0, .int .i64 p, .int .i64 e])) w' :=
  ⟨none, 0, [], rfl, fun _ => rfl, ReadsM.nil _ _ _ _, rfl, hb⟩
theorem cutL_len16 (s : Bytes) : (cutL s).toks.length ≤ 65536 := by
  unfold cutL
  split
  · simp
  · have := cutM_len false 0 0 0 s
    omega

set_option maxRecDepth 100000 in
set_option maxHeartbeats 4000000 in
theorem tree_Parse (s : ByteArray) (w : World) (hs : s.size ≤ maxLen) :
    Calls Tryz.prog 21 #[.string s] w (ParsePost w (treeL s.data.toList)) := by
  have HC := Lib.hid (fun W => lex_Cut s W hs)
  have hct := cutL_len16 s.data.toList
  unfold treeL
  rw [ba_len]
  generalize cutL s.data.toList = R at *
  obtain ⟨l, p, ce⟩ := R
  dsimp only at hct ⊢
  by_cases hce : ce = 0
  · subst hce
    rw [if_neg (by simp)]
    have HL := Lib.hid hct
    go_enter Tryz.func21, Tryz.ntmps21
    go_wp2_with fail
    refine (HC.out _).mono ?_
    rintro e w1 ⟨v, rfl, hown, hb1⟩
    have hrt := ReadToks.of_own hown
    obtain ⟨A, c, rfl, hrd⟩ := hrt
    have HRD := Lib.hid hrd
    have HB1 := Lib.hid hb1
    have hinv := pinv_start w1
    have HI := Lib.hid hinv
    clear hown hrd hb1 hinv hct
    dsimp only
    go_wp2_with fail
    go_loopw [31] (fun i wr => ∃ (k : Nat) (fs : List FrameL) (it : Option ItemL), k ≤ l.length ∧ i = .int .i64 k ∧ PInv w1 wr w1.heap.size (w1.heap.size + 1) w1.heap.size k fs it ∧ parseT s.size [rootF] none l = parseT s.size fs it (l.drop k)) (fun i _ => l.length - (intOf i).toNat)
    case atStart => exact ⟨0, [rootF], none, Nat.zero_le _, rfl, HI.out, by rw [List.drop_zero]⟩
    case round =>
      obtain ⟨k, fs, it, hk, rfl, hinv, hp⟩ := hrel
      by_cases hlt : k < l.length
      · obtain ⟨t, ht⟩ : ∃ t, l[k]? = some t := ⟨_, List.getElem?_eq_getElem hlt⟩
        have hdr : l.drop k = t :: l.drop (k + 1) := by
          obtain ⟨h1, rfl⟩ := List.getElem?_eq_some_iff.1 ht
          exact List.drop_eq_getElem_cons h1
        rw [hdr] at hp
        have hinv2 := hinv
        obtain ⟨M, st, io, hfs, hit, hpi⟩ := hinv2
        obtain ⟨ad, hA, hadb, t0, t1, t2, t3⟩ := tok_cells (HRD.out.below (hpi.below.mono (Nat.le_refl _))) k t ht
        subst hA
        have q1 := hpi.r1
        have lr := (hpi.bd (w1.heap.size + 1) (by simp)).2.1
        have HT := Lib.hid ht
        have HPI := Lib.hid hinv
        have HP := Lib.hid hp
        clear hp hdr ht hinv hpi
        have hl65 := HL.out
        have w1f : IntKind.i64.wrap ((k : Int) + 1) = (k : Int) + 1 := by rw [IntKind.wrap_i64]; omega
        have lk : (k : Int) < l.length := by omega
        have lk0 : (0 : Int) ≤ k := by omega
        cases it with
        | none =>
          obtain rfl : io = none := by cases io with
            | none => rfl
            | some x => simp at hit
          simp only [Option.map_none] at q1
          go_wp2_with fail
          refine (begins_step (HPI.out.step0 ((Step.refl wr [] none).alloc (.cells #[.int .i64 t.kind, .int .i64 t.pos, .int .i64 t.n, .string ⟨t.s.toArray⟩] 86))) t (by have := HL.out; omega)).mono ?_
          intro e w' hpost
          have hp := HP.out
          have hcell0 := Joins.cell_of_block (heap_alloc_new wr (.cells #[.int .i64 t.kind, .int .i64 t.pos, .int .i64 t.n, .string ⟨t.s.toArray⟩] 86)) 1
          have HPI2 := Lib.hid (HPI.out.step0 ((Step.refl wr [] none).alloc (.cells #[.int .i64 t.kind, .int .i64 t.pos, .int .i64 t.n, .string ⟨t.s.toArray⟩] 86)))
          rw [parseT, stepT] at hp
          try dsimp only at hp
          cases hst : beginT fs t with
          | bad ec =>
            rw [hst] at hpost hp
            obtain ⟨hc0, rfl, hS⟩ := hpost
            have hcell : w'.cell? ⟨wr.heap.size, 1, none⟩ = some (.int .i64 t.pos) := (hS.cell wr.heap.size (by simp) (by simp) 1 (by simp)).trans hcell0
            have hlw : wr.heap.size < w'.heap.size := by have := hS.size; simp at this; omega
            have hnc : (ec != 0) = true := by simpa using hc0
            have hbw : Below w.heap.size w w' := by
              obtain ⟨M2, st2, io2, _, _, hpi2⟩ := HPI2.out
              exact HB1.out.trans ((hpi2.bad hS).mono HB1.out.size)
            have HBW := Lib.hid hbw
            have HPR := Lib.hid (show parseT s.size [rootF] none l = ⟨[], t.pos, ec⟩ from hp)
            clear hp hcell0 hS hbw hst hc0 q1 t0 t1 t2 t3
            go_wp2_with fail
            go_quiet (fail)
            go_wp2
            go_ret3
            rw [HPR.out]
            exact parse_nil (below_drewN HBW.out _)
          | fine fs' it' =>
            rw [hst] at hpost hp
            obtain ⟨rfl, hinv'⟩ := hpost
            have HI2 := Lib.hid hinv'
            have HP2 := Lib.hid (show parseT s.size [rootF] none l = parseT s.size fs' it' (l.drop (k + 1)) from hp)
            clear hp hcell0 hinv' hst q1 t0 t1 t2 t3
            go_wp2_with fail
            exact ⟨⟨k + 1, fs', it', by omega, by go_num, HI2.out, HP2.out⟩, by simp [intOf]; omega⟩
        | some i =>
          obtain ⟨x, rfl⟩ : ∃ x, io = some x := by
            cases io with
            | none => simp at hit
            | some x => exact ⟨x, rfl⟩
          simp only [Option.map_some] at q1
          go_wp2_with fail
          refine (goes_step (HPI.out.step0 ((Step.refl wr [] none).alloc (.cells #[.int .i64 t.kind, .int .i64 t.pos, .int .i64 t.n, .string ⟨t.s.toArray⟩] 86))) t (by have := HL.out; omega)).mono ?_
          intro e w' hpost
          have hp := HP.out
          have hcell0 := Joins.cell_of_block (heap_alloc_new wr (.cells #[.int .i64 t.kind, .int .i64 t.pos, .int .i64 t.n, .string ⟨t.s.toArray⟩] 86)) 1
          have HPI2 := Lib.hid (HPI.out.step0 ((Step.refl wr [] none).alloc (.cells #[.int .i64 t.kind, .int .i64 t.pos, .int .i64 t.n, .string ⟨t.s.toArray⟩] 86)))
          rw [parseT, stepT] at hp
          try dsimp only at hp
          cases hst : goT fs i t with
          | bad ec =>
            rw [hst] at hpost hp
            obtain ⟨hc0, rfl, hS⟩ := hpost
            have hcell : w'.cell? ⟨wr.heap.size, 1, none⟩ = some (.int .i64 t.pos) := (hS.cell wr.heap.size (by simp) (by simp) 1 (by simp)).trans hcell0
            have hlw : wr.heap.size < w'.heap.size := by have := hS.size; simp at this; omega
            have hnc : (ec != 0) = true := by simpa using hc0
            have hbw : Below w.heap.size w w' := by
              obtain ⟨M2, st2, io2, _, _, hpi2⟩ := HPI2.out
              exact HB1.out.trans ((hpi2.bad hS).mono HB1.out.size)
            have HBW := Lib.hid hbw
            have HPR := Lib.hid (show parseT s.size [rootF] none l = ⟨[], t.pos, ec⟩ from hp)
            clear hp hcell0 hS hbw hst hc0 q1 t0 t1 t2 t3
            go_wp2_with fail
            go_quiet (fail)
            go_wp2
            go_ret3
            rw [HPR.out]
            exact parse_nil (below_drewN HBW.out _)
          | fine fs' it' =>
            rw [hst] at hpost hp
            obtain ⟨rfl, hinv'⟩ := hpost
            have HI2 := Lib.hid hinv'
            have HP2 := Lib.hid (show parseT s.size [rootF] none l = parseT s.size fs' it' (l.drop (k + 1)) from hp)
            clear hp hcell0 hinv' hst q1 t0 t1 t2 t3
            go_wp2_with fail
            exact ⟨⟨k + 1, fs', it', by omega, by go_num, HI2.out, HP2.out⟩, by simp [intOf]; omega⟩
      · have hkl : k = l.length := by omega
        have hnil : l.drop k = [] := List.drop_eq_nil_of_le (by omega)
        rw [hnil, parseT] at hp
        obtain ⟨M, st, io, rfl, rfl, hpi⟩ := hinv
        have lk : ¬ (k : Int) < l.length := by omega
        have hbw : Below w.heap.size w wr := HB1.out.trans (hpi.below.mono HB1.out.size)
        have HBW := Lib.hid hbw
        have q1 := hpi.r1
        have q0 := hpi.r0
        have HP := Lib.hid hp
        have HPI := Lib.hid hpi
        clear hp hpi hbw hnil hlt hk
        cases io with
        | some x =>
          simp only [Option.map_some] at q1
          have HE := Lib.hid (show endT s.size (st.map Fr.f) ((some x).map It.i) = ⟨[], s.size, 5⟩ by rcases st with _ | ⟨a, _ | ⟨b, c⟩⟩ <;> rfl)
          go_wp2_with fail
          go_ret3
          rw [HP.out, HE.out]
          exact parse_nil HBW.out
        | none =>
          simp only [Option.map_none] at q1
          obtain ⟨x, rest, rfl⟩ := HPI.out.top
          simp only [List.head?_cons, Option.map_some] at q0
          obtain ⟨hx, hrest⟩ := HPI.out.stack
          obtain ⟨Aw, cw, bl, kcs, hO, _, _, _, hox, hnx⟩ := hx
          cases rest with
          | nil =>
            have hxb : x.b = w1.heap.size := by have := HPI.out.last; simpa using this
            have h4 := hO.2.2.2.2.1
            rw [hxb] at q0 h4
            have HX := Lib.hid hox
            have HN := Lib.hid hnx
            have HE := Lib.hid (show endT s.size ([x].map Fr.f) (none : Option ItemL) = ⟨x.f.kids, 0, 0⟩ by rfl)
            have hpp := run_neq_open_same wr ⟨w1.heap.size, 0, none⟩
            clear hO hox hnx
            go_wp2_with fail
            go_ret3
            rw [HP.out]
            show ParsePost w (endT s.size ([x].map Fr.f) none) _ _
            rw [HE.out]
            have hmm : ∀ z, M z → w.heap.size ≤ z ∧ z < wr.heap.size := fun z hz => by
              obtain ⟨a, b⟩ := HPI.out.mb z hz
              have := HB1.out.size
              exact ⟨by omega, b⟩
            obtain ⟨hr1, hr2⟩ := reads_of_own HX.out (fun z => w.heap.size ≤ z ∧ z < wr.heap.size) (fun z hz => by
              obtain ⟨a, b, _⟩ := HPI.out.bd z (by simp [stM, Fr.ms, hz])
              have := HB1.out.size
              exact ⟨by omega, b⟩)
            exact ⟨x.A, x.c, kcs, rfl, hr2, hr1, NodesOk.keep hmm (fun _ _ => rfl) _ _ HN.out, HBW.out⟩
          | cons y rest =>
            have hne : x.b ≠ w1.heap.size := fun e => by
              have hl := HPI.out.last
              have hnd := HPI.out.nd
              have hmem : w1.heap.size ∈ stM (y :: rest) := by
                have : ∃ z ∈ y :: rest, z.b = w1.heap.size := by
                  rw [List.getLast?_cons_cons, Option.map_eq_some_iff] at hl
                  obtain ⟨z, hz, hzb⟩ := hl
                  exact ⟨z, List.mem_of_getLast? hz, hzb⟩
                obtain ⟨z, hz, hzb⟩ := this
                exact List.mem_flatMap.2 ⟨z, hz, by rw [← hzb]; simp [Fr.ms]⟩
              rw [stM_cons, Fr.ms, e] at hnd
              have h2 := (List.nodup_cons.1 hnd).2
              rw [List.cons_append, List.cons_append, List.nodup_cons] at h2
              exact h2.1 (by simp [hmem])
            have HE := Lib.hid (show endT s.size ((x :: y :: rest).map Fr.f) (none : Option ItemL) = ⟨[], s.size, 5⟩ by rfl)
            obtain ⟨ca, ta, hca⟩ := HPI.out.shp x (by simp)
            obtain ⟨cb, tb, hcb⟩ : ∃ cs t, wr.heap[w1.heap.size]? = some (.cells cs t (0, 0)) := by
              have hl := HPI.out.last
              rw [Option.map_eq_some_iff] at hl
              obtain ⟨z, hz, hzb⟩ := hl
              have := HPI.out.shp z (List.mem_of_getLast? hz)
              rwa [hzb] at this
            have hpp := run_neq_open_other wr (a := ⟨x.b, 0, none⟩) (b := ⟨w1.heap.size, 0, none⟩) (fun e => hne (by injection e)) hca hcb
            clear hO hox hnx hca hcb
            go_wp2_with fail
            go_ret3
            rw [HP.out]
            show ParsePost w (endT s.size ((x :: y :: rest).map Fr.f) none) _ _
            rw [HE.out]
            exact parse_nil HBW.out
  · rw [if_pos hce]
    have hne : (ce != 0) = true := by simpa using hce
    go_enter Tryz.func21, Tryz.ntmps21
    go_wp2_with fail
    refine (HC.out _).mono ?_
    rintro e w1 ⟨v, rfl, hown, hb1⟩
    dsimp only
    go_wp2
    go_ret3
    exact parse_nil hb1

end Go.Proofs.YtjbniichcopnlaaGreatDoor
