import Derived.Test.YtmiejdbpogggeaaPkL
import Derived.Test.YtmiejdbpogggeaaPkI
import Derived.Test.YtmiejdbpogggeaaPkE
import Derived.Test.YtmiejdbpogggeaaPkC
import Derived.Test.YtmiejdbpogggeaaPkF
import Derived.Laws.IdiomArrays
section
/- Layer 11 (field): the walk of Read. -/
set_option linter.unusedVariables false
set_option linter.unusedSimpArgs false
set_option maxRecDepth 100000
namespace Go.Proofs.Ytmiejdbpogggeaa
open Go.RowKit

theorem keyK_ok (key : Bytes) (c d : CalL) (ws : List WordL) : (keyK key c ws).2 = (keyK key d ws).2 := by
  unfold keyK
  dsimp only
  repeat' split
  all_goals rfl
theorem putAll_take (c : CalL) (l : List NodeL) (k : Nat) (x : NodeL) (h : l[k]? = some x) : putAll c (l.take (k + 1)) = if x.name = b_end then putAll c (l.take k) else (keyK x.name (putAll c (l.take k)) x.words).1 := by
  unfold putAll
  rw [List.take_add_one, h]
  simp only [Option.toList_some, List.foldl_append, List.foldl_cons, List.foldl_nil]

theorem three (w : World) (o1 o2 o3 : Obj) : Below w.heap.size w (((w.alloc o1).alloc o2).alloc o3) ∧ (((w.alloc o1).alloc o2).alloc o3).heap[w.heap.size]? = some o1 ∧
    (((w.alloc o1).alloc o2).alloc o3).heap[w.heap.size + 1]? = some o2 ∧ (((w.alloc o1).alloc o2).alloc o3).heap[w.heap.size + 1 + 1]? = some o3 ∧ (((w.alloc o1).alloc o2).alloc o3).heap.size = w.heap.size + 1 + 1 + 1 := by
  have z1 : (w.alloc o1).heap.size = w.heap.size + 1 := by simp
  have z2 : ((w.alloc o1).alloc o2).heap.size = w.heap.size + 1 + 1 := by simp
  refine ⟨(((Below.refl _ _).alloc (Nat.le_refl _) _).alloc (by omega) _).alloc (by omega) _, ?_, ?_, ?_, by simp⟩
  · rw [Go.heap_alloc_old _ _ (by omega), Go.heap_alloc_old _ _ (by omega)]; exact heap_alloc_new w o1
  · rw [Go.heap_alloc_old _ _ (by omega), ← z1]; exact heap_alloc_new _ o2
  · rw [← z2]; exact heap_alloc_new _ o3

theorem formed_err (nm : Bytes) : ∀ (l : List NodeL) (seen : List Bytes) (co : Option CalL) (p e : Int), formedL nm seen co l = .inl (p, e) → e = 8 ∨ e = 9 ∨ e = 5
  | [], seen, co, p, e, h => by simp [formedL] at h
  | k :: r, seen, co, p, e, h => by
    unfold formedL at h
    split at h
    · simp only [Sum.inl.injEq, Prod.mk.injEq] at h; exact .inl h.2.symm
    · split at h
      · simp only [Sum.inl.injEq, Prod.mk.injEq] at h; exact .inr (.inl h.2.symm)
      · split at h
        · simp only [Sum.inl.injEq, Prod.mk.injEq] at h; exact .inr (.inr h.2.symm)
        · exact formed_err nm r _ _ p e h
theorem fitsI_err (kind : Int) (names : List Bytes) : ∀ (l : List NodeL) (i : Nat) (p e : Int), fitsI kind names i l = some (p, e) → e = 8 ∨ e = 9
  | [], i, p, e, h => by simp [fitsI] at h
  | k :: r, i, p, e, h => by
    unfold fitsI at h
    split at h
    · simp only [Option.some.injEq, Prod.mk.injEq] at h; exact .inl h.2.symm
    · split at h
      · simp only [Option.some.injEq, Prod.mk.injEq] at h; exact .inr h.2.symm
      · exact fitsI_err kind names r _ p e h
/-- What the end says has the block's name. -/
theorem formed_name (nm : Bytes) : ∀ (l : List NodeL) (seen : List Bytes) (co : Option CalL) (c : CalL), formedL nm seen co l = .inr (some c) → (∀ d, co = some d → d.name = nm) → c.name = nm
  | [], seen, co, c, h, hc => by
    simp only [formedL, Sum.inr.injEq] at h
    exact hc c h
  | k :: r, seen, co, c, h, hc => by
    unfold formedL at h
    split at h
    · cases h
    · split at h
      · cases h
      · split at h
        · cases h
        · refine formed_name nm r _ _ c h ?_
          intro d hd
          split at hd
          · next hk =>
            injection hd with hd
            rw [← hd, hk]
            have : putK b_end { calZ with name := nm } k.words = endK nm k.words := if_pos rfl
            rw [this]
            exact endK_name nm k.words
          · exact hc d hd
theorem keyK_name (key : Bytes) (c : CalL) (ws : List WordL) : (keyK key c ws).1.name = c.name := by
  unfold keyK
  dsimp only
  repeat' split
  all_goals rfl
theorem putAll_name (c : CalL) : ∀ (l : List NodeL), (putAll c l).name = c.name := by
  intro l
  unfold putAll
  induction l generalizing c with
  | nil => rfl
  | cons k r ih =>
    rw [List.foldl_cons, ih]
    split
    · rfl
    · exact keyK_name _ _ _
/-- How a block that may be is read, in the walk's own order. -/
theorem readC_form (nm : Bytes) (p : Int) (ws : List WordL) (b : Bool) (ks : List NodeL) (hck : checkL 0 [.mk nm p ws b ks] = 0) (h : nm ≠ b_calendar ∨ b = false ∨ ws.length ≠ 1 ∨ (ws.headD ⟨false, 0, [], 0⟩).num = true) : readC (.mk nm p ws b ks) = ⟨calZ, p, 5⟩ := by
  unfold readC
  rw [if_neg (by rw [hck]; simp), if_pos (by exact h)]
  rfl
theorem readC_block (nm : Bytes) (p : Int) (ws : List WordL) (b : Bool) (ks : List NodeL) (hck : checkL 0 [.mk nm p ws b ks] = 0) (h : ¬ (nm ≠ b_calendar ∨ b = false ∨ ws.length ≠ 1 ∨ (ws.headD ⟨false, 0, [], 0⟩).num = true)) : readC (.mk nm p ws b ks) = readBlock (.mk nm p ws b ks) := by
  unfold readC
  rw [if_neg (by rw [hck]; simp), if_neg (by exact h)]

/-- What formed tells, by what the plain function says. -/
def FormedTo (F : (Int × Int) ⊕ (Option CalL)) (p : Int) (ks : List NodeL) (e : Ending) (W' : World) : Prop :=
  match F with
  | .inl (p, er) => ∃ c, e = .returned (.tuple #[calV c, .map none, .int .i64 p, .int .i64 er])
  | .inr none => ∃ c, e = .returned (.tuple #[calV c, .map none, .int .i64 p, .int .i64 10])
  | .inr (some c) => ∃ g, e = .returned (.tuple #[calV c, .map (some g), .int .i64 0, .int .i64 0]) ∧ W'.heap[g]? = some (.map (atMap (ks.map NodeL.name)) ks.length)
theorem formedPost_to {nm : Bytes} {p : Int} {t : WordL} {b : Bool} {ks : List NodeL} {W W' : World} {e : Ending} {F : (Int × Int) ⊕ (Option CalL)} (h : FormedPost (.mk nm p [t] b ks) W e W') (hF : formedL t.s [] none ks = F) : Below W.heap.size W W' ∧ FormedTo F p ks e W' := by
  subst hF
  exact h
/-- What fits tells, by what the plain functions say. -/
def FitsTo (G : Option (Int × Int)) (ms : Bool) (p : Int) (e : Ending) : Prop :=
  e = match G with
  | some (p, er) => .returned (.tuple #[.int .i64 p, .int .i64 er])
  | none => if ms then .returned (.tuple #[.int .i64 p, .int .i64 10]) else .returned (.tuple #[.int .i64 0, .int .i64 0])
theorem fitsPost_to {nm : Bytes} {p : Int} {ws : List WordL} {b : Bool} {ks : List NodeL} {kind : Int} {W W' : World} {e : Ending} {G : Option (Int × Int)} {ms : Bool} (h : FitsPost (.mk nm p ws b ks) kind W e W')
    (hG : fitsI kind (ks.map NodeL.name) 0 ks = G) (hms : missA kind (ks.map NodeL.name) = ms) : Below W.heap.size W W' ∧ FitsTo G ms p e := by
  subst hG hms
  exact h
section
variable {nm : Bytes} {p : Int} {t : WordL} {b : Bool} {ks : List NodeL}
theorem rb_inl {p' e' : Int} (hF : formedL t.s [] none ks = .inl (p', e')) : readBlock (.mk nm p [t] b ks) = ⟨calZ, p', e'⟩ := by
  show (match formedL t.s [] none ks with
  | .inl (p, e) => (⟨calZ, p, e⟩ : CalR)
  | .inr none => ⟨calZ, p, 10⟩
  | .inr (some c) => _) = _
  rw [hF]
theorem rb_some {c : CalL} (hF : formedL t.s [] none ks = .inr (some c)) : readBlock (.mk nm p [t] b ks) = match fitsL c.kind [] ks with
    | some (p, e) => ⟨calZ, p, e⟩
    | none => if missL c.kind (ks.map NodeL.name) then ⟨calZ, p, 10⟩ else if okC (putAll c ks) then ⟨putAll c ks, 0, 0⟩ else ⟨calZ, p, 1⟩ := by
  unfold readBlock
  dsimp only [NodeL.words, NodeL.kids, List.headD_cons]
  rw [hF]
  rfl
theorem rb_fits {c : CalL} {p' e' : Int} (hF : formedL t.s [] none ks = .inr (some c)) (hG : fitsL c.kind [] ks = some (p', e')) : readBlock (.mk nm p [t] b ks) = ⟨calZ, p', e'⟩ := by
  rw [rb_some hF, hG]
theorem rb_miss {c : CalL} (hF : formedL t.s [] none ks = .inr (some c)) (hG : fitsL c.kind [] ks = none) (hm : missL c.kind (ks.map NodeL.name) = true) : readBlock (.mk nm p [t] b ks) = ⟨calZ, p, 10⟩ := by
  rw [rb_some hF, hG, hm]
  rfl
theorem rb_ok {c : CalL} (hF : formedL t.s [] none ks = .inr (some c)) (hG : fitsL c.kind [] ks = none) (hm : missL c.kind (ks.map NodeL.name) = false) (ho : okC (putAll c ks) = true) : readBlock (.mk nm p [t] b ks) = ⟨putAll c ks, 0, 0⟩ := by
  rw [rb_some hF, hG, hm, ho]
  rfl
theorem rb_arg {c : CalL} (hF : formedL t.s [] none ks = .inr (some c)) (hG : fitsL c.kind [] ks = none) (hm : missL c.kind (ks.map NodeL.name) = false) (ho : okC (putAll c ks) = false) : readBlock (.mk nm p [t] b ks) = ⟨calZ, p, 1⟩ := by
  rw [rb_some hF, hG, hm, ho]
  rfl
end
theorem kids_words (nm : Bytes) (p : Int) (ws : List WordL) (b : Bool) (ks : List NodeL) (h : checkL 0 [.mk nm p ws b ks] = 0) : ∀ k ∈ ks, k.words.length ≤ 100 := by
  intro k hk
  obtain ⟨i, hi, rfl⟩ := List.getElem_of_mem hk
  have h1 := (check_parts 0 nm p ws b ks (checkL_cons 0 _ _ h).1).2.2.2
  have := (check_at ks 1 i ks[i] h1 (List.getElem?_eq_getElem hi)).1
  omega

theorem putAll_two (c : CalL) (l : List NodeL) (k : Nat) (x : NodeL) (h : l[k]? = some x) : (x.name = b_end → putAll c (l.take (k + 1)) = putAll c (l.take k)) ∧ (x.name ≠ b_end → putAll c (l.take (k + 1)) = (keyK x.name (putAll c (l.take k)) x.words).1) :=
  ⟨fun e => (putAll_take c l k x h).trans (if_pos e), fun e => (putAll_take c l k x h).trans (if_neg e)⟩

/-- What Read tells. -/
def ReadPost (n : NodeL) (w : World) (e : Ending) (w' : World) : Prop :=
  e = .returned (.tuple #[calV (readC n).cal, .int .i64 (readC n).at_, .int .i64 (readC n).err]) ∧ Below w.heap.size w w'

set_option maxHeartbeats 16000000 in
theorem field_Read (n : NodeL) (cs : List Value) (w : World) (B : Nat) (hB : B ≤ w.heap.size) (hn : NodeOk w (· < B) n cs) (hsm : cntL [n] ≤ 100000) (hfit : fitNs [n]) :
    Calls Try.prog 13 #[.agg cs.toArray] w (ReadPost n w) := by
  have hn0 := hn
  obtain ⟨nm, p, ws, b, ks⟩ := n
  simp only [NodeOk] at hn
  obtain ⟨Aw, cw, Ak, ck, kcs, rfl, _, _, hrw, hrk, hks⟩ := hn
  have hRP : ReadPost (.mk nm p ws b ks) w = fun e w' => e = .returned (.tuple #[calV (readC (.mk nm p ws b ks)).cal, .int .i64 (readC (.mk nm p ws b ks)).at_, .int .i64 (readC (.mk nm p ws b ks)).err]) ∧ Below w.heap.size w w' := rfl
  have HRP := Lib.hid hRP
  have HRW := Lib.hid hrw
  have HRK := Lib.hid hrk
  have HKS := Lib.hid hks
  have HN := Lib.hid hn0
  have HFIT := Lib.hid (And.intro hsm hfit)
  obtain ⟨ck0, hck⟩ : ∃ x, checkL 0 [.mk nm p ws b ks] = x := ⟨_, rfl⟩
  have hTC : ∀ (W : World) (g B' : Nat), B' ≤ W.heap.size → ROk W B' (some ⟨g, 0, none⟩) [.mk nm p ws b ks] → Calls Try.prog 20 #[.slice (some ⟨g, 0, none⟩) 1 1] W fun e w' => e = .returned (.int .i64 ck0) ∧ Below W.heap.size W w' := fun W g B' h1 h2 => by
    have := tree_CheckG [.mk nm p ws b ks] (some ⟨g, 0, none⟩) 1 W B' hsm h1 h2 hfit
    rw [hck] at this
    exact this
  have HTC := Lib.hid hTC
  have HCK := Lib.hid hck
  generalize hFQ : ReadPost (.mk nm p ws b ks) w = Q at *
  clear hRP hrw hrk hks hFQ hn0 hck hTC hsm hfit
  go_enter Try.func13, Try.ntmps13
  go_wp2_with fail
  have hB3 := three w (.cells #[.string ⟨nm.toArray⟩, .int .i64 p, .slice Aw ws.length cw, .bool b, .slice Ak ks.length ck] 25) (.cells #[.string ⟨#[]⟩, .int .i64 0, .int .i64 0, .int .i64 0, .int .i64 0, .int .i64 0, .int .i64 0, .int .i64 0, .int .i64 0, .int .i64 0, .int .i64 0, .int .i64 0, .int .i64 0, .int .i64 0] 30) (.cells #[.string ⟨nm.toArray⟩, .int .i64 p, .slice Aw ws.length cw, .bool b, .slice Ak ks.length ck] 25)
  obtain ⟨W0, hW0⟩ : ∃ W0, ((w.alloc (.cells #[.string ⟨nm.toArray⟩, .int .i64 p, .slice Aw ws.length cw, .bool b, .slice Ak ks.length ck] 25)).alloc (.cells #[.string ⟨#[]⟩, .int .i64 0, .int .i64 0, .int .i64 0, .int .i64 0, .int .i64 0, .int .i64 0, .int .i64 0, .int .i64 0, .int .i64 0, .int .i64 0, .int .i64 0, .int .i64 0, .int .i64 0] 30)).alloc (.cells #[.string ⟨nm.toArray⟩, .int .i64 p, .slice Aw ws.length cw, .bool b, .slice Ak ks.length ck] 25) = W0 := ⟨_, rfl⟩
  rw [hW0] at hB3
  rw [hW0]
  obtain ⟨hb0, x0, x1, x2, z0⟩ := hB3
  have hrok : ROk W0 W0.heap.size (some ⟨w.heap.size + 1 + 1, 0, none⟩) [.mk nm p ws b ks] := by
    refine ⟨[.string ⟨nm.toArray⟩, .int .i64 p, .slice Aw ws.length cw, .bool b, .slice Ak ks.length ck], ⟨rfl, fun _ => ⟨_, rfl, by show w.heap.size + 1 + 1 < _; omega, fun j u hu => ?_⟩⟩, NodesOk.one (NodeOk.keep (M := (· < B)) (fun b hb => by show b < _; omega) (fun q hq => hb0.cell (by omega)) _ _ HN.out)⟩
    have : (⟨w.heap.size + 1 + 1, 0, none⟩ : Addr).add j = ⟨w.heap.size + 1 + 1, j, none⟩ := by
      unfold Addr.add
      split
      · next h => subst h; rfl
      · simp
    rw [this, Joins.cell_of_block x2 j]
    simpa using hu
  refine (HTC.out W0 _ _ (Nat.le_refl _) hrok).mono ?_
  rintro e w1 ⟨rfl, hb1⟩
  have hbw : Below w.heap.size w w1 := hb0.trans (hb1.mono hb0.size)
  have y0 := (hb1.block w.heap.size (by omega)).trans x0
  have y1 := (hb1.block (w.heap.size + 1) (by omega)).trans x1
  have HBW := Lib.hid hbw
  have HY := Lib.hid (And.intro y0 y1)
  clear hW0 hb0 x0 x1 x2 z0 hrok hb1 hbw HTC
  have hcal1 : CalBlk w1 (w.heap.size + 1) calZ := y1
  obtain ⟨bc, hbc⟩ : ∃ x, x = w.heap.size + 1 := ⟨_, rfl⟩
  rw [← hbc] at hcal1
  rw [← hbc]
  have HBC := Lib.hid hbc
  have hbc0 : w.heap.size < bc := by omega
  clear hbc y1
  have HC1 := Lib.hid hcal1
  by_cases hck : ck0 = 0
  · subst hck
    have HE0 := Lib.hid (Joins.cell_of_block y0 0)
    have e0 := Joins.cell_of_block y0 0
    have e1 := Joins.cell_of_block y0 1
    have e2 := Joins.cell_of_block y0 2
    have e3 := Joins.cell_of_block y0 3
    have e4 := Joins.cell_of_block y0 4
    obtain ⟨q, hq⟩ : ∃ q, (nm == [99, 97, 108, 101, 110, 100, 97, 114]) = q := ⟨_, rfl⟩
    have hform : ∀ (hh : nm ≠ b_calendar ∨ b = false ∨ ws.length ≠ 1 ∨ (ws.headD ⟨false, 0, [], 0⟩).num = true), readC (.mk nm p ws b ks) = ⟨calZ, p, 5⟩ := fun hh => readC_form nm p ws b ks HCK.out hh
    have HFORM := Lib.hid hform
    clear hform y0
    by_cases hbad : q = false ∨ b = false ∨ ws.length ≠ 1
    · have HR := Lib.hid (HFORM.out (by
        rcases hbad with h | h | h
        · rw [h] at hq
          exact .inl (by intro e; rw [e] at hq; revert hq; decide)
        · exact .inr (.inl h)
        · exact .inr (.inr (.inl h))))
      dsimp only [CalBlk, calZ] at hcal1
      have f0 := Joins.unfrozen_of_block hcal1 0; have c0 := Joins.cell_of_block hcal1 0; have f1 := Joins.unfrozen_of_block hcal1 1; have c1 := Joins.cell_of_block hcal1 1; have f2 := Joins.unfrozen_of_block hcal1 2; have c2 := Joins.cell_of_block hcal1 2; have f3 := Joins.unfrozen_of_block hcal1 3; have c3 := Joins.cell_of_block hcal1 3; have f4 := Joins.unfrozen_of_block hcal1 4; have c4 := Joins.cell_of_block hcal1 4; have f5 := Joins.unfrozen_of_block hcal1 5; have c5 := Joins.cell_of_block hcal1 5; have f6 := Joins.unfrozen_of_block hcal1 6; have c6 := Joins.cell_of_block hcal1 6; have f7 := Joins.unfrozen_of_block hcal1 7; have c7 := Joins.cell_of_block hcal1 7; have f8 := Joins.unfrozen_of_block hcal1 8; have c8 := Joins.cell_of_block hcal1 8; have f9 := Joins.unfrozen_of_block hcal1 9; have c9 := Joins.cell_of_block hcal1 9; have f10 := Joins.unfrozen_of_block hcal1 10; have c10 := Joins.cell_of_block hcal1 10; have f11 := Joins.unfrozen_of_block hcal1 11; have c11 := Joins.cell_of_block hcal1 11; have f12 := Joins.unfrozen_of_block hcal1 12; have c12 := Joins.cell_of_block hcal1 12; have f13 := Joins.unfrozen_of_block hcal1 13; have c13 := Joins.cell_of_block hcal1 13
      clear hcal1
      cases q
      · clear hbad
        go_wp2_with fail
        go_region
        all_goals (
          go_wp2_with fail
          (refine bodyPost_ret (v := .tuple #[calV calZ, .int .i64 p, .int .i64 5]) (by simp [results, calV, calZ, Try.results13, go_sem, *]) rfl ?_)
          rw [HRP.out, HR.out]
          exact ⟨rfl, (CalBlk.below HBW.out (Nat.le_of_lt hbc0) calZ).drew⟩)
      · cases b
        · clear hbad
          go_wp2_with fail
          go_region
          all_goals (
            go_wp2_with fail
            (refine bodyPost_ret (v := .tuple #[calV calZ, .int .i64 p, .int .i64 5]) (by simp [results, calV, calZ, Try.results13, go_sem, *]) rfl ?_)
            rw [HRP.out, HR.out]
            exact ⟨rfl, (CalBlk.below HBW.out (Nat.le_of_lt hbc0) calZ).drew⟩)
        · have hl : ((ws.length : Int) != 1) = true := by
            rcases hbad with h | h | h
            · cases h
            · cases h
            · simp; omega
          clear hbad
          go_wp2_with fail
          go_region
          all_goals (
            go_wp2_with fail
            (refine bodyPost_ret (v := .tuple #[calV calZ, .int .i64 p, .int .i64 5]) (by simp [results, calV, calZ, Try.results13, go_sem, *]) rfl ?_)
            rw [HRP.out, HR.out]
            exact ⟨rfl, (CalBlk.below HBW.out (Nat.le_of_lt hbc0) calZ).drew⟩)
    · have hqf : q = true := by cases q; exact absurd (.inl rfl) hbad; rfl
      have hbt : b = true := by cases b; exact absurd (.inr (.inl rfl)) hbad; rfl
      have hw1 : ws.length = 1 := Decidable.byContradiction fun h => hbad (.inr (.inr h))
      subst hqf hbt
      obtain ⟨t, rfl⟩ : ∃ t, ws = [t] := by
        match ws, hw1 with
        | [t], _ => exact ⟨t, rfl⟩
      obtain ⟨ad, rfl, hadb, w0c, w1c, w2c, w3c⟩ := word0 (HRW.out.keep (fun _ h => h) (fun q hq => HBW.out.cell (by omega)))
      obtain ⟨tn, tnn, ts, tp⟩ := t
      dsimp only [List.length_cons, List.length_nil, Nat.zero_add] at *
      cases tn
      · have HRB := Lib.hid (readC_block nm p [⟨false, tnn, ts, tp⟩] true ks HCK.out (by
          rintro (h | h | h | h)
          · exact h (by have := beq_iff_eq.1 hq; exact this)
          · cases h
          · exact h rfl
          · cases h))
        have hkl : ks.length ≤ 100000 := by
          have h1 := HFIT.out.1
          have h2 := cntL_len ks
          simp only [cntL, cntN] at h1
          omega
        have hkw := kids_words nm p _ true ks HCK.out
        have hnk : ∀ W, Below w.heap.size w W → NodeOk W (· < B) (.mk nm p [⟨false, tnn, ts, tp⟩] true ks) [.string ⟨nm.toArray⟩, .int .i64 p, .slice (some ad) 1 cw, .bool true, .slice Ak ks.length ck] := fun W hW => NodeOk.keep (fun _ h => h) (fun q hq => hW.cell (by omega)) _ _ HN.out
        have HNK := Lib.hid hnk
        have HFD := Lib.hid (fun W (hW : Below w.heap.size w W) => field_formed (.mk nm p [⟨false, tnn, ts, tp⟩] true ks) _ W B (Nat.le_trans hB hW.size) (hnk W hW) rfl hkl hkw)
        have HFT := Lib.hid (fun kind g W (hW : Below w.heap.size w W) hg => field_fits (.mk nm p [⟨false, tnn, ts, tp⟩] true ks) kind _ g W B (Nat.le_trans hB hW.size) (hnk W hW) hkl hg)
        obtain ⟨F, hF⟩ : ∃ F, formedL ts [] none ks = F := ⟨_, rfl⟩
        have HFP : Hid (∀ (W : World) e W', FormedPost (.mk nm p [⟨false, tnn, ts, tp⟩] true ks) W e W' → Below W.heap.size W W' ∧ FormedTo F p ks e W') := Lib.hid (fun W e W' h => formedPost_to h hF)
        have HF := Lib.hid hF
        have HKL := Lib.hid (And.intro hkl hkw)
        clear hkl hkw hnk hbad hw1 hF HFORM
        dsimp only [CalBlk, calZ] at hcal1
        go_wp2_with fail
        refine (HFD.out w1 HBW.out).mono ?_
        intro e w2 hfp
        obtain ⟨hbf, hm⟩ := HFP.out w1 e w2 hfp
        have hbw2 : Below w.heap.size w w2 := HBW.out.trans (hbf.mono HBW.out.size)
        have hy2 := (hbf.block w.heap.size (Array.getElem?_eq_some_iff.1 HY.out.1).1).trans HY.out.1
        have hc2 : CalBlk w2 bc calZ := HC1.out.keep hbf
        have hbcl := hc2.lt
        replace e0 := Joins.cell_of_block hy2 0
        replace e1 := Joins.cell_of_block hy2 1
        replace e2 := Joins.cell_of_block hy2 2
        replace e3 := Joins.cell_of_block hy2 3
        replace e4 := Joins.cell_of_block hy2 4
        have HB2 := Lib.hid hbw2
        have HC2 := Lib.hid hc2
        have HY2 := Lib.hid hy2
        have hwl2 : w.heap.size < w2.heap.size := (Array.getElem?_eq_some_iff.1 hy2).1
        clear hfp hbf hbw2 hy2 hcal1 HFD HFP HC1 HY w0c w1c w2c w3c
        dsimp only [CalBlk, calZ] at hc2
        match F, hm, HF with
        | .inl (p', er), hm, HF =>
          obtain ⟨c, rfl⟩ := hm
          have her := formed_err ts ks [] none p' er HF.out
          have ne0 : (er == 0) = false := beq_false_of_ne (by omega)
          have ne1 : (er != 0) = true := by simp; omega
          have HR := Lib.hid (show readC (.mk nm p [⟨false, tnn, ts, tp⟩] true ks) = ⟨calZ, p', er⟩ from HRB.out.trans (by
            unfold readBlock
            dsimp only [NodeL.words, NodeL.kids, List.headD_cons]
            rw [HF.out]))
          have f0 := Joins.unfrozen_of_block hc2 0; have c0 := Joins.cell_of_block hc2 0; have f1 := Joins.unfrozen_of_block hc2 1; have c1 := Joins.cell_of_block hc2 1; have f2 := Joins.unfrozen_of_block hc2 2; have c2 := Joins.cell_of_block hc2 2; have f3 := Joins.unfrozen_of_block hc2 3; have c3 := Joins.cell_of_block hc2 3; have f4 := Joins.unfrozen_of_block hc2 4; have c4 := Joins.cell_of_block hc2 4; have f5 := Joins.unfrozen_of_block hc2 5; have c5 := Joins.cell_of_block hc2 5; have f6 := Joins.unfrozen_of_block hc2 6; have c6 := Joins.cell_of_block hc2 6; have f7 := Joins.unfrozen_of_block hc2 7; have c7 := Joins.cell_of_block hc2 7; have f8 := Joins.unfrozen_of_block hc2 8; have c8 := Joins.cell_of_block hc2 8; have f9 := Joins.unfrozen_of_block hc2 9; have c9 := Joins.cell_of_block hc2 9; have f10 := Joins.unfrozen_of_block hc2 10; have c10 := Joins.cell_of_block hc2 10; have f11 := Joins.unfrozen_of_block hc2 11; have c11 := Joins.cell_of_block hc2 11; have f12 := Joins.unfrozen_of_block hc2 12; have c12 := Joins.cell_of_block hc2 12; have f13 := Joins.unfrozen_of_block hc2 13; have c13 := Joins.cell_of_block hc2 13
          clear hc2 her
          obtain ⟨cnm, ckd, cdy, cmo, csh, csp, cp0, cp1, cp2, ccy, cex, cfi, cla, cpo⟩ := c
          dsimp only [calV]
          go_wp2_with fail
          (refine bodyPost_ret (v := .tuple #[calV calZ, .int .i64 p', .int .i64 er]) (by simp [results, calV, calZ, Try.results13, go_sem, *]) rfl ?_)
          rw [HRP.out, HR.out]
          exact ⟨rfl, (CalBlk.below HB2.out (Nat.le_of_lt hbc0) calZ).alloc (by simpa using HB2.out.size) _⟩
        | .inr none, hm, HF =>
          obtain ⟨c, rfl⟩ := hm
          have HR := Lib.hid (show readC (.mk nm p [⟨false, tnn, ts, tp⟩] true ks) = ⟨calZ, p, 10⟩ from HRB.out.trans (by
            unfold readBlock
            dsimp only [NodeL.words, NodeL.kids, List.headD_cons]
            rw [HF.out]
            rfl))
          have f0 := Joins.unfrozen_of_block hc2 0; have c0 := Joins.cell_of_block hc2 0; have f1 := Joins.unfrozen_of_block hc2 1; have c1 := Joins.cell_of_block hc2 1; have f2 := Joins.unfrozen_of_block hc2 2; have c2 := Joins.cell_of_block hc2 2; have f3 := Joins.unfrozen_of_block hc2 3; have c3 := Joins.cell_of_block hc2 3; have f4 := Joins.unfrozen_of_block hc2 4; have c4 := Joins.cell_of_block hc2 4; have f5 := Joins.unfrozen_of_block hc2 5; have c5 := Joins.cell_of_block hc2 5; have f6 := Joins.unfrozen_of_block hc2 6; have c6 := Joins.cell_of_block hc2 6; have f7 := Joins.unfrozen_of_block hc2 7; have c7 := Joins.cell_of_block hc2 7; have f8 := Joins.unfrozen_of_block hc2 8; have c8 := Joins.cell_of_block hc2 8; have f9 := Joins.unfrozen_of_block hc2 9; have c9 := Joins.cell_of_block hc2 9; have f10 := Joins.unfrozen_of_block hc2 10; have c10 := Joins.cell_of_block hc2 10; have f11 := Joins.unfrozen_of_block hc2 11; have c11 := Joins.cell_of_block hc2 11; have f12 := Joins.unfrozen_of_block hc2 12; have c12 := Joins.cell_of_block hc2 12; have f13 := Joins.unfrozen_of_block hc2 13; have c13 := Joins.cell_of_block hc2 13
          clear hc2
          obtain ⟨cnm, ckd, cdy, cmo, csh, csp, cp0, cp1, cp2, ccy, cex, cfi, cla, cpo⟩ := c
          dsimp only [calV]
          go_wp2_with fail
          (refine bodyPost_ret (v := .tuple #[calV calZ, .int .i64 p, .int .i64 10]) (by simp [results, calV, calZ, Try.results13, go_sem, *]) rfl ?_)
          rw [HRP.out, HR.out]
          exact ⟨rfl, (CalBlk.below HB2.out (Nat.le_of_lt hbc0) calZ).alloc (by simpa using HB2.out.size) _⟩
        | .inr (some c), hm, HF =>
          obtain ⟨g, rfl, hg⟩ := hm
          have hcn := formed_name ts ks [] none c HF.out (fun d hd => by cases hd)
          have hfr := formed_right ts ks [] none (some c) HF.out (by simp) (by simp)
          have HFR := Lib.hid hfr
          have HCN := Lib.hid hcn
          have HEND := Lib.hid (formed_end ts ks [] none (some c) HF.out rfl)
          have HFI := Lib.hid (fitsI_eq c.kind (ks.map NodeL.name) (by simpa using hfr.1) ks 0 rfl)
          have HCC := Lib.hid (show c = c from rfl)
          have hfits := HFT.out c.kind g (w2.alloc (.cells #[.string ⟨c.name.toArray⟩, .int .i64 c.kind, .int .i64 c.day, .int .i64 c.month, .int .i64 c.shift, .int .i64 c.shape, .int .i64 c.p0, .int .i64 c.p1, .int .i64 c.p2, .int .i64 c.cycle, .int .i64 c.extra, .int .i64 c.first, .int .i64 c.last, .int .i64 c.policy] 30)) (HB2.out.alloc HB2.out.size _) ((Go.heap_alloc_old w2 _ (Array.getElem?_eq_some_iff.1 hg).1).trans hg)
          have HFITS := Lib.hid hfits
          clear hg hfits hfr hcn HFT
          dsimp only [calV]
          go_wp2_with fail
          obtain ⟨G, hG⟩ : ∃ G, fitsI c.kind (ks.map NodeL.name) 0 ks = G := ⟨_, rfl⟩
          obtain ⟨ms, hms⟩ : ∃ ms, missA c.kind (ks.map NodeL.name) = ms := ⟨_, rfl⟩
          have HGM := Lib.hid (And.intro hG hms)
          have HFT3 : Hid (∀ e w3, FitsPost (.mk nm p [⟨false, tnn, ts, tp⟩] true ks) c.kind (w2.alloc (.cells #[.string ⟨c.name.toArray⟩, .int .i64 c.kind, .int .i64 c.day, .int .i64 c.month, .int .i64 c.shift, .int .i64 c.shape, .int .i64 c.p0, .int .i64 c.p1, .int .i64 c.p2, .int .i64 c.cycle, .int .i64 c.extra, .int .i64 c.first, .int .i64 c.last, .int .i64 c.policy] 30)) e w3 → Below (w2.heap.size + 1) (w2.alloc (.cells #[.string ⟨c.name.toArray⟩, .int .i64 c.kind, .int .i64 c.day, .int .i64 c.month, .int .i64 c.shift, .int .i64 c.shape, .int .i64 c.p0, .int .i64 c.p1, .int .i64 c.p2, .int .i64 c.cycle, .int .i64 c.extra, .int .i64 c.first, .int .i64 c.last, .int .i64 c.policy] 30)) w3 ∧ FitsTo G ms p e) := Lib.hid (fun e w3 h => by
            have := fitsPost_to h hG hms
            exact ⟨by simpa using this.1, this.2⟩)
          clear hG hms
          refine HFITS.out.mono ?_
          intro e w3 hfp
          obtain ⟨hb3, he3⟩ := HFT3.out e w3 hfp
          obtain ⟨cnm, ckd, cdy, cmo, csh, csp, cp0, cp1, cp2, ccy, cex, cfi, cla, cpo⟩ := c
          dsimp only at *
          have hcb3 : CalBlk w3 w2.heap.size ⟨cnm, ckd, cdy, cmo, csh, csp, cp0, cp1, cp2, ccy, cex, cfi, cla, cpo⟩ := (hb3.block w2.heap.size (by omega)).trans (heap_alloc_new w2 _)
          have hc3 : CalBlk w3 bc calZ := (hb3.block bc (by omega)).trans (HC2.out.alloc _)
          have hy3 := (hb3.block w.heap.size (by omega)).trans ((Go.heap_alloc_old w2 _ hwl2).trans HY2.out)
          have hbw3 : Below w.heap.size w w3 := (HB2.out.alloc HB2.out.size _).trans (hb3.mono (by omega))
          replace e0 := Joins.cell_of_block hy3 0
          replace e1 := Joins.cell_of_block hy3 1
          replace e4 := Joins.cell_of_block hy3 4
          have HB3 := Lib.hid (And.intro hbw3 (And.intro hcb3 (And.intro hc3 hy3)))
          have hl3 : bc < w3.heap.size ∧ w2.heap.size < w3.heap.size ∧ w.heap.size < w3.heap.size := ⟨hc3.lt, hcb3.lt, (Array.getElem?_eq_some_iff.1 hy3).1⟩
          have hl31 := hl3.1
          have hl32 := hl3.2.1
          have hl33 := hl3.2.2
          clear hfp hb3 HFT3 HFITS hcb3 hy3 hbw3 hc2 e2 e3 hl3
          dsimp only [CalBlk, calZ] at hc3
          match G, he3, HGM with
          | some (p', er), he3, HGM =>
            have her := fitsI_err ckd (ks.map NodeL.name) ks 0 p' er HGM.out.1
            obtain rfl : e = .returned (.tuple #[.int .i64 p', .int .i64 er]) := he3
            have ne0 : (er == 0) = false := beq_false_of_ne (by omega)
            have ne1 : (er != 0) = true := by simp; omega
            have HR := Lib.hid (HRB.out.trans (rb_fits HF.out (by have h1 := HFI.out; rw [HGM.out.1, List.take_zero] at h1; exact h1.symm)))
            have f0 := Joins.unfrozen_of_block hc3 0; have c0 := Joins.cell_of_block hc3 0; have f1 := Joins.unfrozen_of_block hc3 1; have c1 := Joins.cell_of_block hc3 1; have f2 := Joins.unfrozen_of_block hc3 2; have c2 := Joins.cell_of_block hc3 2; have f3 := Joins.unfrozen_of_block hc3 3; have c3 := Joins.cell_of_block hc3 3; have f4 := Joins.unfrozen_of_block hc3 4; have c4 := Joins.cell_of_block hc3 4; have f5 := Joins.unfrozen_of_block hc3 5; have c5 := Joins.cell_of_block hc3 5; have f6 := Joins.unfrozen_of_block hc3 6; have c6 := Joins.cell_of_block hc3 6; have f7 := Joins.unfrozen_of_block hc3 7; have c7 := Joins.cell_of_block hc3 7; have f8 := Joins.unfrozen_of_block hc3 8; have c8 := Joins.cell_of_block hc3 8; have f9 := Joins.unfrozen_of_block hc3 9; have c9 := Joins.cell_of_block hc3 9; have f10 := Joins.unfrozen_of_block hc3 10; have c10 := Joins.cell_of_block hc3 10; have f11 := Joins.unfrozen_of_block hc3 11; have c11 := Joins.cell_of_block hc3 11; have f12 := Joins.unfrozen_of_block hc3 12; have c12 := Joins.cell_of_block hc3 12; have f13 := Joins.unfrozen_of_block hc3 13; have c13 := Joins.cell_of_block hc3 13
            clear hc3 her
            go_wp2_with fail
            (refine bodyPost_ret (v := .tuple #[calV calZ, .int .i64 p', .int .i64 er]) (by simp [results, calV, calZ, Try.results13, go_sem, *]) rfl ?_)
            rw [HRP.out, HR.out]
            exact ⟨rfl, CalBlk.below HB3.out.1 (Nat.le_of_lt hbc0) calZ⟩
          | none, he3, HGM =>
            cases ms
            · obtain rfl : e = .returned (.tuple #[.int .i64 0, .int .i64 0]) := he3
              have HMI := Lib.hid (show missL ckd (ks.map NodeL.name) = false from by
                have h2 := HEND.out
                rw [← missA_eq _ _ (by simpa using h2)]
                exact HGM.out.2)
              have HFL := Lib.hid (show fitsL ckd [] ks = none from by have h1 := HFI.out; rw [HGM.out.1, List.take_zero] at h1; exact h1.symm)
              clear HFI HGM HEND hc3
              go_wp2_with (first | (go_at_call 30; refine (field_keys _).mono ?_; rintro e w4 ⟨rfl, rfl⟩))
              obtain ⟨b5, hb5⟩ : ∃ x, x = w2.heap.size := ⟨_, rfl⟩
              obtain ⟨bk, hbk⟩ : ∃ x, x = w3.heap.size := ⟨_, rfl⟩
              have HBS := Lib.hid (show w.heap.size < bc ∧ bc < b5 ∧ b5 < bk ∧ bk = w3.heap.size ∧ B ≤ b5 from by have q1 := HB2.out.size; have q2 := HC2.out.lt; have q3 := hl32; have q4 := hbc0; have q5 := hB; clear HB2; omega)
              have HST : Hid (CalBlk (w3.alloc (.map keyMap 7)) b5 (putAll ⟨cnm, ckd, cdy, cmo, csh, csp, cp0, cp1, cp2, ccy, cex, cfi, cla, cpo⟩ (ks.take 0)) ∧ (w3.alloc (.map keyMap 7)).heap[bk]? = some (.map keyMap 7) ∧ Below w.heap.size w (w3.alloc (.map keyMap 7)) ∧ CalBlk (w3.alloc (.map keyMap 7)) bc calZ ∧ (w3.alloc (.map keyMap 7)).cell? ⟨w.heap.size, 1, none⟩ = some (.int .i64 p) ∧ bk < (w3.alloc (.map keyMap 7)).heap.size) := Lib.hid (by
                obtain ⟨z1, z2, z3, z4⟩ := HB3.out
                rw [hb5, hbk]
                exact ⟨z2.alloc _, heap_alloc_new w3 _, z1.alloc z1.size _, z3.alloc _, (World.cell?_alloc_lt w3 _ ⟨w.heap.size, 1, none⟩ hl33).trans (Joins.cell_of_block z4 1), by simp⟩)
              rw [← hb5, ← hbk]
              generalize World.alloc _ _ = W4 at *
              clear hb5 hbk e0 e1 e4 hl31 hl32 hl33 he3
              go_loopw [67] (fun i wr => ∃ k : Nat, k ≤ ks.length ∧ i = .int .i64 k ∧ CalBlk wr b5 (putAll ⟨cnm, ckd, cdy, cmo, csh, csp, cp0, cp1, cp2, ccy, cex, cfi, cla, cpo⟩ (ks.take k)) ∧ wr.heap[bk]? = some (.map keyMap 7) ∧ Below w.heap.size w wr ∧ CalBlk wr bc calZ ∧ wr.cell? ⟨w.heap.size, 1, none⟩ = some (.int .i64 p) ∧ bk < wr.heap.size) (fun i _ => ks.length - (intOf i).toNat)
              case atStart => exact ⟨0, Nat.zero_le _, rfl, HST.out⟩
              case round =>
                obtain ⟨k, hk, rfl, r1, r2, r3, r4, r5, r6⟩ := hrel
                obtain ⟨o1, o2, o3, o4, o5⟩ := HBS.out
                have hbs := r3.size
                by_cases hlt : k < ks.length
                · obtain ⟨x, hx⟩ : ∃ x, ks[k]? = some x := ⟨_, List.getElem?_eq_getElem hlt⟩
                  have hk' : ∀ q : Addr, q.block < B → wr.cell? q = w.cell? q := fun q hq => r3.cell (by omega)
                  obtain ⟨ad', Aw', cw', Ak', ck', kcs', rfl, hab', d0, d1, d2, d3, d4, _, _, hrw', _, _⟩ := node_cells (HRK.out.keep (fun _ h => h) hk') (NodesOk.keep (fun _ h => h) hk' ks kcs HKS.out) k x hx
                  have hwl := HKL.out.2 x (List.mem_of_getElem? hx)
                  obtain ⟨hb1, hb2, hb3⟩ := HFR.out.2.2 x (List.mem_of_getElem? hx)
                  have hin : keysL.contains x.name = true := HFR.out.2.1 x.name (by rw [List.nil_append]; exact List.mem_map.2 ⟨x, List.mem_of_getElem? hx, rfl⟩)
                  have hput := putAll_two ⟨cnm, ckd, cdy, cmo, csh, csp, cp0, cp1, cp2, ccy, cex, cfi, cla, cpo⟩ ks k x hx
                  have lk : (k : Int) < ks.length := by omega
                  have lk0 : (0 : Int) ≤ k := by omega
                  have w1f : IntKind.i64.wrap ((k : Int) + 1) = (k : Int) + 1 := by rw [IntKind.wrap_i64]; have := HKL.out.1; omega
                  obtain ⟨xn, xp, xw, xb, xk⟩ := x
                  dsimp only [NodeL.name, NodeL.pos, NodeL.words, NodeL.block, NodeL.kids] at *
                  generalize hPA : putAll ⟨cnm, ckd, cdy, cmo, csh, csp, cp0, cp1, cp2, ccy, cex, cfi, cla, cpo⟩ (ks.take k) = pa at *
                  obtain ⟨wA, hwA⟩ : ∃ wA, wA = wr.alloc (.cells #[.string ⟨xn.toArray⟩, .int .i64 xp, .slice Aw' xw.length cw', .bool xb, .slice Ak' xk.length ck'] 25) := ⟨_, rfl⟩
                  have s1 : CalBlk wA b5 pa := by rw [hwA]; exact r1.alloc _
                  have s2 : wA.heap[bk]? = some (.map keyMap 7) := by rw [hwA]; exact (Go.heap_alloc_old wr _ r6).trans r2
                  have s3 : Below w.heap.size w wA := by rw [hwA]; exact r3.alloc hbs _
                  have s4 : CalBlk wA bc calZ := by rw [hwA]; exact r4.alloc _
                  have s5 : wA.cell? ⟨w.heap.size, 1, none⟩ = some (.int .i64 p) := by rw [hwA]; exact (World.cell?_alloc_lt wr _ ⟨w.heap.size, 1, none⟩ (by show w.heap.size < _; omega)).trans r5
                  have s6 : bk < wA.heap.size := by rw [hwA]; simp; omega
                  have HS := Lib.hid (And.intro s1 (And.intro s2 (And.intro s3 (And.intro s4 (And.intro s5 s6)))))
                  have HPUT := Lib.hid hput
                  obtain ⟨xe, hxe⟩ : ∃ q, (xn == [101, 110, 100]) = q := ⟨_, rfl⟩
                  cases xe
                  · have hne : xn ≠ b_end := fun e => by rw [e] at hxe; revert hxe; decide
                    obtain ⟨f, hkf, hEN, hKA⟩ := key_fn xn hin
                    have hLK := key_lookP wA bk xn s2
                    rw [hkf, hwA] at hLK
                    have hCC := hKA pa xw Aw' cw' wA B b5 (fun e => absurd e hne) hb2 hwl (by omega) s1 (hrw'.keep (fun _ h => h) (fun q hq => by rw [hwA, World.cell?_alloc_lt _ _ _ (Nat.lt_of_lt_of_le hq (by omega))]))
                    have hp2 : (putK xn pa xw).2 = true := by
                      unfold putK at hb3 ⊢
                      rw [if_neg hne] at hb3 ⊢
                      rw [keyK_ok xn pa { calZ with name := ts } xw]
                      exact hb3
                    have hp1 : (putK xn pa xw).1 = (keyK xn pa xw).1 := by unfold putK; rw [if_neg hne]
                    rw [hp2, hp1, hwA] at hCC
                    have HCC := Lib.hid hCC
                    have HWA := Lib.hid hwA
                    have HNE := Lib.hid hne
                    clear hCC s1 s2 s3 s4 s5 s6 hwA r1 r2 r3 r4 r5 hput hx hrw' hk' hkf hKA hp1 hp2 hb1 hb2 hb3 hin hne hPA o1 o2 o3 o4 o5
                    go_wp2_with fail
                    refine HCC.out.mono ?_
                    rintro e w5 ⟨rfl, hc5, hs5⟩
                    have H5 := Lib.hid (And.intro hc5 hs5)
                    clear hc5 hs5
                    go_wp2_with fail
                    obtain ⟨hc5, hs5⟩ := H5.out
                    rw [← HWA.out] at hs5
                    obtain ⟨s1, s2, s3, s4, s5, s6⟩ := HS.out
                    obtain ⟨o1, o2, o3, o4, o5⟩ := HBS.out
                    refine ⟨⟨k + 1, by omega, by go_num, ?_, (hs5.block bk s6 (by simp) (by intro e; injection e; omega)).trans s2, Step.toBelow s3 hs5 (by omega) s3.size, (hs5.block bc s4.lt (by simp) (by intro e; injection e; omega)).trans s4, (hs5.cell w.heap.size (by omega) (by intro e; injection e; omega) 1 (by simp)).trans s5, Nat.lt_of_lt_of_le s6 hs5.size⟩, by simp [intOf]; omega⟩
                    rw [HPUT.out.2 HNE.out]
                    exact hc5
                  · have hne : xn = b_end := beq_iff_eq.1 hxe
                    have HNE := Lib.hid hne
                    have HWA := Lib.hid hwA
                    clear s1 s2 s3 s4 s5 s6 hwA r1 r2 r3 r4 r5 hput hx hrw' hk' hb1 hb2 hb3 hin hne hPA o1 o2 o3 o4 o5
                    go_wp2_with fail
                    rw [← HWA.out]
                    obtain ⟨s1, s2, s3, s4, s5, s6⟩ := HS.out
                    refine ⟨⟨k + 1, by omega, by go_num, ?_, s2, s3, s4, s5, s6⟩, by simp [intOf]; omega⟩
                    rw [HPUT.out.1 HNE.out]
                    exact s1
                · have lk : ¬ (k : Int) < ks.length := by omega
                  have hk2 : k = ks.length := by omega
                  rw [hk2, List.take_length] at r1
                  generalize hPA : putAll ⟨cnm, ckd, cdy, cmo, csh, csp, cp0, cp1, cp2, ccy, cex, cfi, cla, cpo⟩ ks = pa at *
                  have hnl : pa.name.length ≤ maxLen := by
                    have h1 := HFIT.out.2
                    simp only [fitNs, fitN] at h1
                    have h2 := h1.1.2.2.1 ⟨false, tnn, ts, tp⟩ (by simp)
                    rw [← hPA, putAll_name]
                    rw [HCN.out]
                    exact h2
                  have HCH := Lib.hid (field_Check pa hnl)
                  have HR2 := Lib.hid (fun ho => HRB.out.trans (rb_ok HF.out HFL.out HMI.out ho))
                  have HR3 := Lib.hid (fun ho => HRB.out.trans (rb_arg HF.out HFL.out HMI.out ho))
                  rw [hPA] at HR2 HR3
                  have HRR := Lib.hid (And.intro r1 (And.intro r3 (And.intro r4 r5)))
                  clear hPA hnl r1 r2 r3 r4 r5 hk2
                  obtain ⟨ok, hok⟩ : ∃ b, okC pa = b := ⟨_, rfl⟩
                  have her : errC pa = if ok then 0 else 1 := by unfold errC; rw [hok]
                  rw [her] at HCH
                  clear her
                  have hx5 := HRR.out.1
                  have hl5 := hx5.lt
                  have g0 := Joins.cell_of_block hx5 0; have g1 := Joins.cell_of_block hx5 1; have g2 := Joins.cell_of_block hx5 2; have g3 := Joins.cell_of_block hx5 3; have g4 := Joins.cell_of_block hx5 4; have g5 := Joins.cell_of_block hx5 5; have g6 := Joins.cell_of_block hx5 6; have g7 := Joins.cell_of_block hx5 7; have g8 := Joins.cell_of_block hx5 8; have g9 := Joins.cell_of_block hx5 9; have g10 := Joins.cell_of_block hx5 10; have g11 := Joins.cell_of_block hx5 11; have g12 := Joins.cell_of_block hx5 12; have g13 := Joins.cell_of_block hx5 13
                  obtain ⟨pnm, pkd, pdy, pmo, psh, psp, pp0, pp1, pp2, pcy, pex, pfi, pla, ppo⟩ := pa
                  dsimp only [calV] at *
                  cases ok
                  · have HR := Lib.hid (HR3.out hok)
                    clear hx5 hok
                    go_wp2_with fail
                    refine (HCH.out _).mono ?_
                    rintro e w6 ⟨rfl, hb6⟩
                    have hc6 : CalBlk w6 bc calZ := HRR.out.2.2.1.keep hb6
                    have hp6 : w6.cell? ⟨w.heap.size, 1, none⟩ = some (.int .i64 p) := (hb6.cell (p := ⟨w.heap.size, 1, none⟩) (by have := HBS.out; show w.heap.size < _; omega)).trans HRR.out.2.2.2
                    have HB6 := Lib.hid (HRR.out.2.1.trans (hb6.mono HRR.out.2.1.size))
                    clear hb6
                    dsimp only [CalBlk, calZ] at hc6
                    have f0 := Joins.unfrozen_of_block hc6 0; have c0 := Joins.cell_of_block hc6 0; have f1 := Joins.unfrozen_of_block hc6 1; have c1 := Joins.cell_of_block hc6 1; have f2 := Joins.unfrozen_of_block hc6 2; have c2 := Joins.cell_of_block hc6 2; have f3 := Joins.unfrozen_of_block hc6 3; have c3 := Joins.cell_of_block hc6 3; have f4 := Joins.unfrozen_of_block hc6 4; have c4 := Joins.cell_of_block hc6 4; have f5 := Joins.unfrozen_of_block hc6 5; have c5 := Joins.cell_of_block hc6 5; have f6 := Joins.unfrozen_of_block hc6 6; have c6 := Joins.cell_of_block hc6 6; have f7 := Joins.unfrozen_of_block hc6 7; have c7 := Joins.cell_of_block hc6 7; have f8 := Joins.unfrozen_of_block hc6 8; have c8 := Joins.cell_of_block hc6 8; have f9 := Joins.unfrozen_of_block hc6 9; have c9 := Joins.cell_of_block hc6 9; have f10 := Joins.unfrozen_of_block hc6 10; have c10 := Joins.cell_of_block hc6 10; have f11 := Joins.unfrozen_of_block hc6 11; have c11 := Joins.cell_of_block hc6 11; have f12 := Joins.unfrozen_of_block hc6 12; have c12 := Joins.cell_of_block hc6 12; have f13 := Joins.unfrozen_of_block hc6 13; have c13 := Joins.cell_of_block hc6 13
                    clear hc6
                    go_wp2_with fail
                    go_region
                    all_goals (
                      go_wp2_with fail
                      (refine bodyPost_ret (v := .tuple #[calV calZ, .int .i64 p, .int .i64 1]) (by simp [results, calV, calZ, Try.results13, go_sem, *]) rfl ?_)
                      rw [HRP.out, HR.out]
                      exact ⟨rfl, (CalBlk.below HB6.out (Nat.le_of_lt hbc0) calZ).drew⟩)
                  · have HR := Lib.hid (HR2.out hok)
                    clear hx5 hok
                    go_wp2_with fail
                    refine (HCH.out _).mono ?_
                    rintro e w6 ⟨rfl, hb6⟩
                    have hc6 : CalBlk w6 bc calZ := HRR.out.2.2.1.keep hb6
                    have hx6 := HRR.out.1.keep hb6
                    have HB6 := Lib.hid (HRR.out.2.1.trans (hb6.mono HRR.out.2.1.size))
                    clear hb6
                    dsimp only [CalBlk, calZ] at hc6
                    have f0 := Joins.unfrozen_of_block hc6 0; have c0 := Joins.cell_of_block hc6 0; have f1 := Joins.unfrozen_of_block hc6 1; have c1 := Joins.cell_of_block hc6 1; have f2 := Joins.unfrozen_of_block hc6 2; have c2 := Joins.cell_of_block hc6 2; have f3 := Joins.unfrozen_of_block hc6 3; have c3 := Joins.cell_of_block hc6 3; have f4 := Joins.unfrozen_of_block hc6 4; have c4 := Joins.cell_of_block hc6 4; have f5 := Joins.unfrozen_of_block hc6 5; have c5 := Joins.cell_of_block hc6 5; have f6 := Joins.unfrozen_of_block hc6 6; have c6 := Joins.cell_of_block hc6 6; have f7 := Joins.unfrozen_of_block hc6 7; have c7 := Joins.cell_of_block hc6 7; have f8 := Joins.unfrozen_of_block hc6 8; have c8 := Joins.cell_of_block hc6 8; have f9 := Joins.unfrozen_of_block hc6 9; have c9 := Joins.cell_of_block hc6 9; have f10 := Joins.unfrozen_of_block hc6 10; have c10 := Joins.cell_of_block hc6 10; have f11 := Joins.unfrozen_of_block hc6 11; have c11 := Joins.cell_of_block hc6 11; have f12 := Joins.unfrozen_of_block hc6 12; have c12 := Joins.cell_of_block hc6 12; have f13 := Joins.unfrozen_of_block hc6 13; have c13 := Joins.cell_of_block hc6 13
                    have g0 := Joins.cell_of_block hx6 0; have g1 := Joins.cell_of_block hx6 1; have g2 := Joins.cell_of_block hx6 2; have g3 := Joins.cell_of_block hx6 3; have g4 := Joins.cell_of_block hx6 4; have g5 := Joins.cell_of_block hx6 5; have g6 := Joins.cell_of_block hx6 6; have g7 := Joins.cell_of_block hx6 7; have g8 := Joins.cell_of_block hx6 8; have g9 := Joins.cell_of_block hx6 9; have g10 := Joins.cell_of_block hx6 10; have g11 := Joins.cell_of_block hx6 11; have g12 := Joins.cell_of_block hx6 12; have g13 := Joins.cell_of_block hx6 13
                    clear hc6 hx6
                    go_wp2_with fail
                    refine bodyPost_ret (v := .tuple #[calV ⟨pnm, pkd, pdy, pmo, psh, psp, pp0, pp1, pp2, pcy, pex, pfi, pla, ppo⟩, .int .i64 0, .int .i64 0]) (by simp [results, calV, Try.results13, go_sem, *]) rfl ?_
                    rw [HRP.out, HR.out]
                    exact ⟨rfl, CalBlk.below HB6.out (Nat.le_of_lt hbc0) ⟨pnm, pkd, pdy, pmo, psh, psp, pp0, pp1, pp2, pcy, pex, pfi, pla, ppo⟩⟩
            · obtain rfl : e = .returned (.tuple #[.int .i64 p, .int .i64 10]) := he3
              have HR := Lib.hid (HRB.out.trans (rb_miss HF.out (by have h1 := HFI.out; rw [HGM.out.1, List.take_zero] at h1; exact h1.symm) (by
                have h2 := HEND.out
                rw [← missA_eq _ _ (by simpa using h2)]
                exact HGM.out.2)))
              have f0 := Joins.unfrozen_of_block hc3 0; have c0 := Joins.cell_of_block hc3 0; have f1 := Joins.unfrozen_of_block hc3 1; have c1 := Joins.cell_of_block hc3 1; have f2 := Joins.unfrozen_of_block hc3 2; have c2 := Joins.cell_of_block hc3 2; have f3 := Joins.unfrozen_of_block hc3 3; have c3 := Joins.cell_of_block hc3 3; have f4 := Joins.unfrozen_of_block hc3 4; have c4 := Joins.cell_of_block hc3 4; have f5 := Joins.unfrozen_of_block hc3 5; have c5 := Joins.cell_of_block hc3 5; have f6 := Joins.unfrozen_of_block hc3 6; have c6 := Joins.cell_of_block hc3 6; have f7 := Joins.unfrozen_of_block hc3 7; have c7 := Joins.cell_of_block hc3 7; have f8 := Joins.unfrozen_of_block hc3 8; have c8 := Joins.cell_of_block hc3 8; have f9 := Joins.unfrozen_of_block hc3 9; have c9 := Joins.cell_of_block hc3 9; have f10 := Joins.unfrozen_of_block hc3 10; have c10 := Joins.cell_of_block hc3 10; have f11 := Joins.unfrozen_of_block hc3 11; have c11 := Joins.cell_of_block hc3 11; have f12 := Joins.unfrozen_of_block hc3 12; have c12 := Joins.cell_of_block hc3 12; have f13 := Joins.unfrozen_of_block hc3 13; have c13 := Joins.cell_of_block hc3 13
              clear hc3
              go_wp2_with fail
              (refine bodyPost_ret (v := .tuple #[calV calZ, .int .i64 p, .int .i64 10]) (by simp [results, calV, calZ, Try.results13, go_sem, *]) rfl ?_)
              rw [HRP.out, HR.out]
              exact ⟨rfl, CalBlk.below HB3.out.1 (Nat.le_of_lt hbc0) calZ⟩
      · have HR := Lib.hid (HFORM.out (.inr (.inr (.inr rfl))))
        dsimp only [CalBlk, calZ] at hcal1
        have f0 := Joins.unfrozen_of_block hcal1 0; have c0 := Joins.cell_of_block hcal1 0; have f1 := Joins.unfrozen_of_block hcal1 1; have c1 := Joins.cell_of_block hcal1 1; have f2 := Joins.unfrozen_of_block hcal1 2; have c2 := Joins.cell_of_block hcal1 2; have f3 := Joins.unfrozen_of_block hcal1 3; have c3 := Joins.cell_of_block hcal1 3; have f4 := Joins.unfrozen_of_block hcal1 4; have c4 := Joins.cell_of_block hcal1 4; have f5 := Joins.unfrozen_of_block hcal1 5; have c5 := Joins.cell_of_block hcal1 5; have f6 := Joins.unfrozen_of_block hcal1 6; have c6 := Joins.cell_of_block hcal1 6; have f7 := Joins.unfrozen_of_block hcal1 7; have c7 := Joins.cell_of_block hcal1 7; have f8 := Joins.unfrozen_of_block hcal1 8; have c8 := Joins.cell_of_block hcal1 8; have f9 := Joins.unfrozen_of_block hcal1 9; have c9 := Joins.cell_of_block hcal1 9; have f10 := Joins.unfrozen_of_block hcal1 10; have c10 := Joins.cell_of_block hcal1 10; have f11 := Joins.unfrozen_of_block hcal1 11; have c11 := Joins.cell_of_block hcal1 11; have f12 := Joins.unfrozen_of_block hcal1 12; have c12 := Joins.cell_of_block hcal1 12; have f13 := Joins.unfrozen_of_block hcal1 13; have c13 := Joins.cell_of_block hcal1 13
        clear hcal1 hbad hw1
        go_wp2_with fail
        go_region
        all_goals (
          go_wp2_with fail
          (refine bodyPost_ret (v := .tuple #[calV calZ, .int .i64 p, .int .i64 5]) (by simp [results, calV, calZ, Try.results13, go_sem, *]) rfl ?_)
          rw [HRP.out, HR.out]
          exact ⟨rfl, (CalBlk.below HBW.out (Nat.le_of_lt hbc0) calZ).drew⟩)
  · have hn0 : (ck0 != 0) = true := by simp [hck]
    have HR := Lib.hid (show readC (.mk nm p ws b ks) = ⟨calZ, 0, 1⟩ by unfold readC; rw [if_pos (by rw [HCK.out]; exact hck)])
    dsimp only [CalBlk, calZ] at hcal1
    have f0 := Joins.unfrozen_of_block hcal1 0; have c0 := Joins.cell_of_block hcal1 0; have f1 := Joins.unfrozen_of_block hcal1 1; have c1 := Joins.cell_of_block hcal1 1; have f2 := Joins.unfrozen_of_block hcal1 2; have c2 := Joins.cell_of_block hcal1 2; have f3 := Joins.unfrozen_of_block hcal1 3; have c3 := Joins.cell_of_block hcal1 3; have f4 := Joins.unfrozen_of_block hcal1 4; have c4 := Joins.cell_of_block hcal1 4; have f5 := Joins.unfrozen_of_block hcal1 5; have c5 := Joins.cell_of_block hcal1 5; have f6 := Joins.unfrozen_of_block hcal1 6; have c6 := Joins.cell_of_block hcal1 6; have f7 := Joins.unfrozen_of_block hcal1 7; have c7 := Joins.cell_of_block hcal1 7; have f8 := Joins.unfrozen_of_block hcal1 8; have c8 := Joins.cell_of_block hcal1 8; have f9 := Joins.unfrozen_of_block hcal1 9; have c9 := Joins.cell_of_block hcal1 9; have f10 := Joins.unfrozen_of_block hcal1 10; have c10 := Joins.cell_of_block hcal1 10; have f11 := Joins.unfrozen_of_block hcal1 11; have c11 := Joins.cell_of_block hcal1 11; have f12 := Joins.unfrozen_of_block hcal1 12; have c12 := Joins.cell_of_block hcal1 12; have f13 := Joins.unfrozen_of_block hcal1 13; have c13 := Joins.cell_of_block hcal1 13
    clear hcal1 y0 hck
    go_wp2_with fail
    (refine bodyPost_ret (v := .tuple #[calV calZ, .int .i64 0, .int .i64 1]) (by simp [results, calV, calZ, Try.results13, go_sem, *]) rfl ?_)
    rw [HRP.out, HR.out]
    exact ⟨rfl, CalBlk.below HBW.out (Nat.le_of_lt hbc0) calZ⟩

end Go.Proofs.Ytmiejdbpogggeaa
end

section
/- Layer 11, the laws: live. -/
set_option linter.unusedVariables false
set_option linter.unusedSimpArgs false
namespace Go.Proofs.Ytmiejdbpogggeaa
open Go.RowKit

def exK : List NodeL := [.mk b_end 13 [⟨false, 0, [110, 114, 102], 17⟩] false [], .mk b_serve 22 [⟨true, 2000, [], 28⟩, ⟨true, 2030, [], 33⟩] false [], .mk b_compare 39 [⟨false, 0, [115, 104, 105, 102, 116], 47⟩] false []]
def exN : NodeL := .mk b_calendar 0 [⟨false, 0, [120], 9⟩] true exK
def exT : Bytes := [99, 97, 108, 101, 110, 100, 97, 114, 32, 120, 32, 123, 32, 101, 110, 100, 32, 110, 114, 102, 59, 32, 115, 101, 114, 118, 101, 32, 50, 48, 48, 48, 32, 50, 48, 51, 48, 59, 32, 99, 111, 109, 112, 97, 114, 101, 32, 115, 104, 105, 102, 116, 59, 32, 125]
theorem ex_tree : treeL exT = ⟨[exN], 0, 0⟩ := by kernel_rfl
theorem ex_read : readC exN = ⟨⟨[120], 3, 6, 1, 1, 1, 4, 5, 4, 0, 12, 2000, 2030, 2⟩, 0, 0⟩ := by kernel_rfl
theorem ex_fit : fitNs [exN] := by
  unfold exN exK
  simp only [fitNs, fitN, and_true]
  decide
theorem ex_cnt : cntL [exN] = 9 := by kernel_rfl

set_option maxRecDepth 100000 in
set_option maxHeartbeats 4000000 in
theorem law11_live (w : World) :
    Calls Try.prog 11 #[] w fun e w' => e = .returned (.bool true) ∧ Below w.heap.size w w' := by
  have hP := tree_Parse ⟨exT.toArray⟩ w (by decide)
  rw [show (ByteArray.mk exT.toArray).data.toList = exT from rfl, ex_tree] at hP
  have HP := Lib.hid hP
  have HR := Lib.hid (fun cs W B h1 h2 => field_Read exN cs W B h1 h2 (by rw [ex_cnt]; omega) ex_fit)
  unfold ReadPost at HR
  rw [ex_read] at HR
  unfold exT at HP
  dsimp only [calV] at HR
  clear hP
  go_enter Try.func11, Try.ntmps11
  go_wp2_with fail
  refine HP.out.mono ?_
  rintro e w1 ⟨A, c, kcs, rfl, hnil, hr, hn, hb⟩
  have hr' := ROk.of_parse hr hn
  obtain ⟨ad, Aw, cw, Ak, ck, kcs', rfl, hM, c0, c1, c2, c3, c4, h5, h6, hw, hk, hkn⟩ := node_cells hr hn 0 _ rfl
  have HN := Lib.hid (show NodeOk w1 (· < w1.heap.size) exN [.string ⟨b_calendar.toArray⟩, .int .i64 0, .slice Aw 1 cw, .bool true, .slice Ak 3 ck] from by
    unfold exN
    simp only [NodeOk]
    exact ⟨Aw, cw, Ak, ck, kcs', rfl, h5, h6, hw.keep (fun _ h => h.2) (fun _ _ => rfl), hk.keep (fun _ h => h.2) (fun _ _ => rfl), NodesOk.keep (fun _ h => h.2) (fun _ _ => rfl) _ _ hkn⟩)
  have HB := Lib.hid hb
  clear hnil hr hn hb hw hk hkn h5 h6 hr'
  have hadl : ad.block < w1.heap.size := hM.2
  clear hM
  unfold exN exK at c0 c1 c2 c3 c4
  simp only [NodeL.name, NodeL.pos, NodeL.words, NodeL.block, NodeL.kids, List.length_cons, List.length_nil] at c0 c1 c2 c3 c4
  simp only [Nat.zero_mul, Nat.one_mul, add_zero, Nat.zero_add, Nat.reduceAdd] at c0 c1 c2 c3 c4
  dsimp only [List.length_cons, List.length_nil, Nat.zero_add]
  go_wp2_with fail
  refine (HR.out _ _ _ (Nat.le_refl _) HN.out).mono ?_
  rintro e w2 ⟨rfl, hb2⟩
  have HB2 := Lib.hid (HB.out.trans (hb2.mono HB.out.size))
  clear hb2
  go_wp2_with fail
  go_ret
  refine ⟨rfl, ?_⟩
  first | exact HB2.out | exact HB2.out.alloc HB2.out.size _

end Go.Proofs.Ytmiejdbpogggeaa
end

section
/- Layer 11 (field), the law FieldRight in plain Lean. -/
set_option linter.unusedVariables false
namespace Go.Proofs.Ytmiejdbpogggeaa

/-- What may be has no fewer periods than its week that is added. -/
theorem ruled_extra (c : CalL) (h : ruledC c = true) : 0 ≤ c.extra ∧ c.extra ≤ manyC c.shape c.cycle := by
  unfold ruledC at h
  unfold fixedC at h
  by_cases h3 : c.kind = 3
  · rw [if_pos h3] at h
    have h' := of_decide_eq_true h
    have e1 : c.extra = 12 := by rw [h']; rfl
    have e2 : c.shape = 1 := by rw [h']; rfl
    rw [e1, e2]
    exact ⟨by decide, by unfold manyC; rw [if_neg (by decide), if_neg (by omega), if_pos (by omega)]; omega⟩
  rw [if_neg h3] at h
  by_cases h4 : c.kind = 4
  · rw [if_pos h4] at h
    have h' := of_decide_eq_true h
    have e1 : c.extra = 12 := by rw [h']; rfl
    have e2 : c.shape = 4 := by rw [h']; rfl
    rw [e1, e2]
    exact ⟨by decide, by unfold manyC; rw [if_neg (by decide), if_neg (by omega), if_pos (by omega)]; omega⟩
  rw [if_neg h4] at h
  have hwk : ∀ b : Bool, (b && weeksC c) = true → 0 ≤ c.extra ∧ c.extra ≤ manyC c.shape c.cycle := by
    intro b hb
    have hw : weeksC c = true := by cases b <;> simp at hb; exact hb
    unfold weeksC tween at hw
    split at hw
    · simp at hw; omega
    · split at hw
      · simp at hw; omega
      · split at hw
        · simp at hw; omega
        · simp at hw
  dsimp only at h
  split at h
  · simp at h
  · split at h
    · exact hwk _ h
    · split at h
      · exact hwk _ h
      · split at h
        · simp at h
          obtain ⟨⟨⟨⟨_, hs⟩, _⟩, _⟩, he⟩ := h
          rw [hs, he]
          exact ⟨by decide, by unfold manyC; rw [if_neg (by decide), if_neg (by omega), if_pos (by omega)]; omega⟩
        · simp at h
theorem fits_err0 (kind : Int) : ∀ (l : List NodeL) (seen : List Bytes) (p e : Int), fitsL kind seen l = some (p, e) → e ≠ 0 := by
  intro l
  induction l with
  | nil => intro seen p e h; cases h
  | cons k r ih =>
    intro seen p e h
    unfold fitsL at h
    split at h
    · cases h; decide
    · split at h
      · cases h; decide
      · exact ih _ _ _ h
/-- What a block that is read leads to. -/
theorem read_right (n : NodeL) : ((readC n).err ≠ 0 → (readC n).cal = calZ) ∧
    ((readC n).err = 0 → (readC n).at_ = 0 ∧ okC (readC n).cal = true ∧ ∃ t, n.words = [t] ∧ (readC n).cal.name = t.s) := by
  unfold readC
  by_cases h1 : checkL 0 [n] ≠ 0
  · rw [if_pos h1]; exact ⟨fun _ => rfl, fun h => by simp at h⟩
  rw [if_neg h1]
  by_cases h2 : n.name ≠ b_calendar ∨ n.block = false ∨ n.words.length ≠ 1 ∨ (n.words.headD ⟨false, 0, [], 0⟩).num = true
  · rw [if_pos h2]; exact ⟨fun _ => rfl, fun h => by simp at h⟩
  rw [if_neg h2]
  obtain ⟨t, ht⟩ : ∃ t, n.words = [t] := by
    have : n.words.length = 1 := by
      by_cases h : n.words.length = 1
      · exact h
      · exact absurd (.inr (.inr (.inl h))) h2
    match hw : n.words, this with
    | [t], _ => exact ⟨t, rfl⟩
  unfold readBlock
  rw [ht]
  dsimp only [List.headD_cons]
  split
  · next p e he =>
    have := formed_err _ _ _ _ _ _ he
    exact ⟨fun _ => rfl, fun h => by dsimp only at h; omega⟩
  · exact ⟨fun _ => rfl, fun h => by simp at h⟩
  · next c hc =>
    have hnm : c.name = t.s := formed_name _ _ _ _ _ hc (by intro d hd; cases hd)
    split
    · next p e he =>
      refine ⟨fun _ => rfl, fun h => ?_⟩
      dsimp only at h
      subst h
      exact absurd rfl (fits_err0 _ _ _ _ _ he)
    · split
      · exact ⟨fun _ => rfl, fun h => by simp at h⟩
      · split
        · next ho => exact ⟨fun h => absurd rfl h, fun _ => ⟨rfl, ho, t, rfl, by rw [putAll_name]; exact hnm⟩⟩
        · exact ⟨fun _ => rfl, fun h => by simp at h⟩

end Go.Proofs.Ytmiejdbpogggeaa
end

section
/- Layer 11 (field): items laid in a block of their own. -/
set_option linter.unusedVariables false
namespace Go.Proofs.Ytmiejdbpogggeaa
open Go.RowKit

theorem add_blk0 (g j : Nat) : (⟨g, 0, none⟩ : Addr).add j = ⟨g, j, none⟩ := by
  unfold Addr.add
  split
  · next h => subst h; rfl
  · simp
theorem rok_block {W : World} {g : Nat} {l : List NodeL} {kcs pad : List Value} {T : TypeId} (hg : W.heap[g]? = some (.cells (kcs ++ pad).toArray T (0, 0))) (hn : NodesOk W (· < W.heap.size) l kcs) : ROk W W.heap.size (some ⟨g, 0, none⟩) l := by
  refine ⟨kcs, ⟨hn.len, fun _ => ⟨_, rfl, (Array.getElem?_eq_some_iff.1 hg).1, fun j u hu => ?_⟩⟩, hn⟩
  rw [add_blk0, Joins.cell_of_block hg j]
  have hj := (List.getElem?_eq_some_iff.1 hu).1
  simp [List.getElem?_append_left hj, hu]
theorem rok_new (w : World) (n : NodeL) (cs : List Value) (T : TypeId) (h : NodeOk w (· < w.heap.size) n cs) : ROk (w.alloc (.cells cs.toArray T)) (w.alloc (.cells cs.toArray T)).heap.size (some ⟨w.heap.size, 0, none⟩) [n] := by
  have hb := (Below.refl w.heap.size w).alloc (Nat.le_refl _) (.cells cs.toArray T)
  have hs := hb.size
  refine rok_block (kcs := cs) (pad := []) (T := T) (by rw [List.append_nil]; exact heap_alloc_new w _) (NodesOk.one (NodeOk.keep (fun b hb => by show b < _; omega) (fun q hq => hb.cell hq) _ _ h))
theorem NodeOk.below {w w' : World} {B : Nat} {n : NodeL} {cs : List Value} (h : NodeOk w (· < B) n cs) (hb : Below B w w') : NodeOk w' (· < B) n cs := NodeOk.keep (fun _ h => h) (fun q hq => hb.cell hq) _ _ h
theorem NodeOk.up {w : World} {B B' : Nat} {n : NodeL} {cs : List Value} (h : NodeOk w (· < B) n cs) (hb : B ≤ B') : NodeOk w (· < B') n cs := NodeOk.keep (fun _ h => Nat.lt_of_lt_of_le h hb) (fun _ _ => rfl) _ _ h

end Go.Proofs.Ytmiejdbpogggeaa
end

section
/- Arguments that are an item, a calendar, opened. -/
set_option maxRecDepth 100000
namespace Go.Proofs.Ytmiejdbpogggeaa
open Go.RowKit Go.WideShapes Go.ChangeShapes Go.WideElems Go.Deep

theorem cells_string : Try.prog.cellsOf 9 = 1 := by kernel_rfl
theorem cells_bool : Try.prog.cellsOf 4 = 1 := by kernel_rfl
theorem cells_pat : Try.prog.cellsOf 28 = 3 := by kernel_rfl
theorem cells_words : Try.prog.cellsOf 22 = 1 := by kernel_rfl
theorem cells_nodes : Try.prog.cellsOf 23 = 1 := by kernel_rfl

theorem arr5 {α : Type} (cs : Array α) (h : cs.size = 5) : ∃ a b c d e, cs = #[a, b, c, d, e] := by
  obtain ⟨l⟩ := cs
  match l, h with
  | [a, b, c, d, e], _ => exact ⟨a, b, c, d, e, rfl⟩
theorem arr14 {α : Type} (cs : Array α) (h : cs.size = 14) : ∃ a b c d e f g i j k l m n o, cs = #[a, b, c, d, e, f, g, i, j, k, l, m, n, o] := by
  obtain ⟨x⟩ := cs
  match x, h with
  | [a, b, c, d, e, f, g, i, j, k, l, m, n, o], _ => exact ⟨a, b, c, d, e, f, g, i, j, k, l, m, n, o, rfl⟩

theorem open_node {H : Type} {enc : TypeId × Value → H} {w : World} {base : Nat} {spare : Nat → Bool} {held : Bool} {v : Value} {d : DataW H} {ps : List MemPlace} {r : Reach} {b0 : Nat}
    (hval : Value.okWide Try.prog w r b0 25 v) (hd : DataW.Trod enc Try.prog w base spare held 25 v d ps) :
    ∃ (cs : List Value) (n : NodeL), v = .agg cs.toArray ∧ NodeOk w (· < w.heap.size) n cs ∧ fitN n := by
  obtain ⟨cs, rfl, hsz⟩ := okWide_struct Try.underlying25 hval
  obtain ⟨c0, c1, c2, c3, c4, rfl⟩ := arr5 cs (hsz.trans (by kernel_rfl))
  obtain ⟨fuel, hf⟩ := hd
  obtain ⟨xs, n, _, _, _, hlen, hfs⟩ := DataW.trod_struct Try.underlying25 hf
  have hlen' : xs.length = 5 := hlen
  have t0 := hfs 0 _ rfl
  have t1 := hfs 1 _ rfl
  have t2 := hfs 2 _ rfl
  have t3 := hfs 3 _ rfl
  have t4 := hfs 4 _ rfl
  rw [List.getElem?_eq_getElem (by omega)] at t0 t1 t2 t3 t4
  simp only [List.getElem_toArray, List.getElem_cons_zero, List.getElem_cons_succ] at t0 t1 t2 t3 t4
  rw [cells_string] at t0
  rw [cells_int] at t1
  rw [cells_words] at t2
  rw [cells_bool] at t3
  rw [cells_nodes] at t4
  obtain ⟨k0, h0, _, w0⟩ := DataW.trod_string Try.underlying9 t0
  obtain ⟨k1, h1, _, w1⟩ := DataW.trod_int (k := .i64) Try.underlying3 t1
  obtain ⟨Aw, cw, ws, h2, g1, g2, g3, g4⟩ := open_words t2
  obtain ⟨k3, h3, _⟩ := DataW.trod_bool Try.underlying4 t3
  obtain ⟨Ak, ck, ks, h4, g5, ⟨kcs, g6, g7⟩, g8, g9⟩ := open_nodes_fuel (n + 1) n (by omega) t4
  simp [Value.cells] at h0 h1 h2 h3 h4
  subst h0 h1 h2 h3 h4
  refine ⟨[.string k0, .int .i64 k1, .slice Aw ws.length cw, .bool k3, .slice Ak ks.length ck], .mk k0.data.toList k1 ws k3 ks, rfl, ?_, ⟨by rw [ba_len]; exact w0, g3, g4, g8, g9⟩⟩
  simp only [NodeOk]
  exact ⟨Aw, cw, Ak, ck, kcs, by simp, g1, g5, g2, g6, g7⟩

theorem open_cal {H : Type} {enc : TypeId × Value → H} {w : World} {base : Nat} {spare : Nat → Bool} {held : Bool} {v : Value} {d : DataW H} {ps : List MemPlace} {r : Reach} {b0 : Nat}
    (hval : Value.okWide Try.prog w r b0 30 v) (hd : DataW.Trod enc Try.prog w base spare held 30 v d ps) :
    ∃ c : CalL, v = calV c ∧ c.name.length ≤ maxLen := by
  obtain ⟨cs, rfl, hsz⟩ := okWide_struct Try.underlying30 hval
  obtain ⟨c0, c1, c2, c3, c4, c5, c6, c7, c8, c9, c10, c11, c12, c13, rfl⟩ := arr14 cs (hsz.trans (by kernel_rfl))
  obtain ⟨fuel, hf⟩ := hd
  obtain ⟨xs, n, _, _, _, hlen, hfs⟩ := DataW.trod_struct Try.underlying30 hf
  have hlen' : xs.length = 12 := hlen
  have t0 := hfs 0 _ rfl
  have t1 := hfs 1 _ rfl
  have t2 := hfs 2 _ rfl
  have t3 := hfs 3 _ rfl
  have t4 := hfs 4 _ rfl
  have t5 := hfs 5 _ rfl
  have t6 := hfs 6 _ rfl
  have t7 := hfs 7 _ rfl
  have t8 := hfs 8 _ rfl
  have t9 := hfs 9 _ rfl
  have t10 := hfs 10 _ rfl
  have t11 := hfs 11 _ rfl
  rw [List.getElem?_eq_getElem (by omega)] at t0 t1 t2 t3 t4 t5 t6 t7 t8 t9 t10 t11
  simp only [List.getElem_toArray, List.getElem_cons_zero, List.getElem_cons_succ] at t0 t1 t2 t3 t4 t5 t6 t7 t8 t9 t10 t11
  rw [cells_string] at t0
  rw [cells_int] at t1 t2 t3 t4 t5 t7 t8 t9 t10 t11
  rw [cells_pat] at t6
  simp only [Value.cells, List.drop_succ_cons, List.drop_zero, List.take_succ_cons, List.take_zero] at t0 t1 t2 t3 t4 t5 t6 t7 t8 t9 t10 t11
  obtain ⟨y0, y1, y2, m, _, p0, p1, p2⟩ := trod_array3 und_pat cells_int t6
  obtain ⟨k0, h0, _, w0⟩ := DataW.trod_string Try.underlying9 t0
  obtain ⟨k1, h1, _, _⟩ := DataW.trod_int (k := .i64) Try.underlying3 t1
  obtain ⟨k2, h2, _, _⟩ := DataW.trod_int (k := .i64) Try.underlying3 t2
  obtain ⟨k3, h3, _, _⟩ := DataW.trod_int (k := .i64) Try.underlying3 t3
  obtain ⟨k4, h4, _, _⟩ := DataW.trod_int (k := .i64) Try.underlying3 t4
  obtain ⟨k5, h5, _, _⟩ := DataW.trod_int (k := .i64) Try.underlying3 t5
  obtain ⟨q0, e0, _, _⟩ := DataW.trod_int (k := .i64) Try.underlying3 p0
  obtain ⟨q1, e1, _, _⟩ := DataW.trod_int (k := .i64) Try.underlying3 p1
  obtain ⟨q2, e2, _, _⟩ := DataW.trod_int (k := .i64) Try.underlying3 p2
  obtain ⟨k7, h7, _, _⟩ := DataW.trod_int (k := .i64) Try.underlying3 t7
  obtain ⟨k8, h8, _, _⟩ := DataW.trod_int (k := .i64) Try.underlying3 t8
  obtain ⟨k9, h9, _, _⟩ := DataW.trod_int (k := .i64) Try.underlying3 t9
  obtain ⟨k10, h10, _, _⟩ := DataW.trod_int (k := .i64) Try.underlying3 t10
  obtain ⟨k11, h11, _, _⟩ := DataW.trod_int (k := .i64) Try.underlying3 t11
  simp only [List.cons.injEq, and_true] at h0 h1 h2 h3 h4 h5 h7 h8 h9 h10 h11 e0 e1 e2
  subst h0 h1 h2 h3 h4 h5 h7 h8 h9 h10 h11 e0 e1 e2
  exact ⟨⟨k0.data.toList, k1, k2, k3, k4, k5, q0, q1, q2, k7, k8, k9, k10, k11⟩, by simp [calV], by rw [ba_len]; exact w0⟩

end Go.Proofs.Ytmiejdbpogggeaa
end
