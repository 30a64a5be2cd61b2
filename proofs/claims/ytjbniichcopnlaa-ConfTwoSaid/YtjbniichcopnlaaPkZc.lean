import Derived.Test.YtjbniichcopnlaaFieldT
import Derived.Test.YtjbniichcopnlaaTreeP7
import Derived.Test.YtjbniichcopnlaaFieldSpec
import Derived.Test.YtjbniichcopnlaaMapAt
import Derived.Test.YtjbniichcopnlaaFieldG
import Derived.Test.YtjbniichcopnlaaTreeG2
import Derived.Test.YtjbniichcopnlaaTreeR2
section
/- Layer 11, the laws: live. -/
set_option linter.unusedVariables false
set_option linter.unusedSimpArgs false
namespace Go.Proofs.Ytjbniichcopnlaa
open Go.RowKit

def exK : List NodeL := [.mk b_end 13 [⟨false, 0, [110, 114, 102], 17⟩] false [], .mk b_serve 22 [⟨true, 2000, [], 28⟩, ⟨true, 2030, [], 33⟩] false [], .mk b_compare 39 [⟨false, 0, [115, 104, 105, 102, 116], 47⟩] false []]
def exN : NodeL := .mk b_calendar 0 [⟨false, 0, [120], 9⟩] true exK
def exT : Bytes := [99, 97, 108, 101, 110, 100, 97, 114, 32, 120, 32, 123, 32, 101, 110, 100, 32, 110, 114, 102, 59, 32, 115, 101, 114, 118, 101, 32, 50, 48, 48, 48, 32, 50, 48, 51, 48, 59, 32, 99, 111, 109, 112, 97, 114, 101, 32, 115, 104, 105, 102, 116, 59, 32, 125]
theorem ex_tree : treeL exT = ⟨[exN], 0, 0⟩ := by kernel_rfl
theorem ex_read : readC exN = ⟨⟨[120], 3, 6, 1, 1, 1, 4, 5, 4, 0, 12, 2000, 2030, 2⟩, 0, 0⟩ := by kernel_rfl
theorem ex_fit : fitNs [exN] := by
  unfold exN exK
  simp only [fitNs, fitN, and_true]
  decide
theorem ex_cnt : cntL [exN] = 9 := by kernel_rfl

end Go.Proofs.Ytjbniichcopnlaa
end

section
/- Layer 11 (field), the law FieldRight in plain Lean. -/
set_option linter.unusedVariables false
namespace Go.Proofs.Ytjbniichcopnlaa

/-- What may be has no fewer periods than its week that is added. -/
theorem ruled_extra (c : CalL) (h : ruledC c = true) : 0 ≤ c.extra ∧ c.extra ≤ manyC c.shape c.cycle := by
  unfold ruledC at h
  unfold fixedC at h
  by_cases h3 : c.kind = 3
  · rw [if_pos h3] at h
    have h' := of_decide_eq_true h
    have e1 : c.extra = 12 := by rw [h']; rfl
    have e2 : c.shape = 1 := by rw [h']; rfl
    rw [e1, e2]
    exact ⟨by decide, by unfold manyC; rw [if_neg (by decide), if_neg (by omega), if_pos (by omega)]; omega⟩
  rw [if_neg h3] at h
  by_cases h4 : c.kind = 4
  · rw [if_pos h4] at h
    have h' := of_decide_eq_true h
    have e1 : c.extra = 12 := by rw [h']; rfl
    have e2 : c.shape = 4 := by rw [h']; rfl
    rw [e1, e2]
    exact ⟨by decide, by unfold manyC; rw [if_neg (by decide), if_neg (by omega), if_pos (by omega)]; omega⟩
  rw [if_neg h4] at h
  have hwk : ∀ b : Bool, (b && weeksC c) = true → 0 ≤ c.extra ∧ c.extra ≤ manyC c.shape c.cycle := by
    intro b hb
    have hw : weeksC c = true := by cases b <;> simp at hb; exact hb
    unfold weeksC tween at hw
    split at hw
    · simp at hw; omega
    · split at hw
      · simp at hw; omega
      · split at hw
        · simp at hw; omega
        · simp at hw
  dsimp only at h
  split at h
  · simp at h
  · split at h
    · exact hwk _ h
    · split at h
      · exact hwk _ h
      · split at h
        · simp at h
          obtain ⟨⟨⟨⟨_, hs⟩, _⟩, _⟩, he⟩ := h
          rw [hs, he]
          exact ⟨by decide, by unfold manyC; rw [if_neg (by decide), if_neg (by omega), if_pos (by omega)]; omega⟩
        · simp at h
theorem fits_err0 (kind : Int) : ∀ (l : List NodeL) (seen : List Bytes) (p e : Int), fitsL kind seen l = some (p, e) → e ≠ 0 := by
  intro l
  induction l with
  | nil => intro seen p e h; cases h
  | cons k r ih =>
    intro seen p e h
    unfold fitsL at h
    split at h
    · cases h; decide
    · split at h
      · cases h; decide
      · exact ih _ _ _ h
/-- What a block that is read leads to. -/
theorem read_right (n : NodeL) : ((readC n).err ≠ 0 → (readC n).cal = calZ) ∧
    ((readC n).err = 0 → (readC n).at_ = 0 ∧ okC (readC n).cal = true ∧ ∃ t, n.words = [t] ∧ (readC n).cal.name = t.s) := by
  unfold readC
  by_cases h1 : checkL 0 [n] ≠ 0
  · rw [if_pos h1]; exact ⟨fun _ => rfl, fun h => by simp at h⟩
  rw [if_neg h1]
  by_cases h2 : n.name ≠ b_calendar ∨ n.block = false ∨ n.words.length ≠ 1 ∨ (n.words.headD ⟨false, 0, [], 0⟩).num = true
  · rw [if_pos h2]; exact ⟨fun _ => rfl, fun h => by simp at h⟩
  rw [if_neg h2]
  obtain ⟨t, ht⟩ : ∃ t, n.words = [t] := by
    have : n.words.length = 1 := by
      by_cases h : n.words.length = 1
      · exact h
      · exact absurd (.inr (.inr (.inl h))) h2
    match hw : n.words, this with
    | [t], _ => exact ⟨t, rfl⟩
  unfold readBlock
  rw [ht]
  dsimp only [List.headD_cons]
  split
  · next p e he =>
    have := formed_err _ _ _ _ _ _ he
    exact ⟨fun _ => rfl, fun h => by dsimp only at h; omega⟩
  · exact ⟨fun _ => rfl, fun h => by simp at h⟩
  · next c hc =>
    have hnm : c.name = t.s := formed_name _ _ _ _ _ hc (by intro d hd; cases hd)
    split
    · next p e he =>
      refine ⟨fun _ => rfl, fun h => ?_⟩
      dsimp only at h
      subst h
      exact absurd rfl (fits_err0 _ _ _ _ _ he)
    · split
      · exact ⟨fun _ => rfl, fun h => by simp at h⟩
      · split
        · next ho => exact ⟨fun h => absurd rfl h, fun _ => ⟨rfl, ho, t, rfl, by rw [putAll_name]; exact hnm⟩⟩
        · exact ⟨fun _ => rfl, fun h => by simp at h⟩

end Go.Proofs.Ytjbniichcopnlaa
end

section
/- Layer 12 (conf), in plain Lean: calendars that may be, a text read as calendars, one looked up. No program in sight. -/
namespace Go.Proofs.Ytjbniichcopnlaa

/-- Calendars that may be, behind those of the names seen. -/
def confGo : List Bytes → List CalL → Int
  | _, [] => 0
  | seen, c :: r => if errC c ≠ 0 then errC c else if seen.contains c.name then 9 else confGo (seen ++ [c.name]) r
def confC (l : List CalL) : Int := if 32 < l.length then 6 else confGo [] l

structure ConfR where
  cals : List CalL
  pos : Int
  err : Int
/-- Items read as calendars, behind those that were read. -/
def readGo : List CalL → List NodeL → ConfR
  | out, [] => ⟨out, 0, 0⟩
  | out, n :: r =>
    if out.length = 32 then ⟨[], n.pos, 6⟩
    else if (readC n).err ≠ 0 then ⟨[], (readC n).at_, (readC n).err⟩
    else if (out.map CalL.name).contains (readC n).cal.name then ⟨[], n.pos, 9⟩
    else readGo (out ++ [(readC n).cal]) r
def confRead (s : Bytes) : ConfR := if (treeL s).err ≠ 0 then ⟨[], (treeL s).pos, (treeL s).err⟩ else readGo [] (treeL s).nodes

def findGo (name : Bytes) : List CalL → CalL × Int
  | [] => (calZ, 13)
  | c :: r => if c.name = name then (c, 0) else findGo name r
def findC (l : List CalL) (name : Bytes) : CalL × Int := if confC l ≠ 0 then (calZ, confC l) else findGo name l

theorem readGo_done (out : List CalL) : readGo out [] = ⟨out, 0, 0⟩ := rfl
theorem readGo_long (out : List CalL) (n : NodeL) (r : List NodeL) (h : out.length = 32) : readGo out (n :: r) = ⟨[], n.pos, 6⟩ := by rw [readGo, if_pos h]
theorem readGo_bad (out : List CalL) (n : NodeL) (r : List NodeL) (h : out.length ≠ 32) (h1 : (readC n).err ≠ 0) : readGo out (n :: r) = ⟨[], (readC n).at_, (readC n).err⟩ := by rw [readGo, if_neg h, if_pos h1]
theorem readGo_twice (out : List CalL) (n : NodeL) (r : List NodeL) (h : out.length ≠ 32) (h1 : (readC n).err = 0) (h2 : (out.map CalL.name).contains (readC n).cal.name = true) : readGo out (n :: r) = ⟨[], n.pos, 9⟩ := by
  rw [readGo, if_neg h, if_neg (by simp [h1]), if_pos h2]
theorem readGo_on (out : List CalL) (n : NodeL) (r : List NodeL) (h : out.length ≠ 32) (h1 : (readC n).err = 0) (h2 : (out.map CalL.name).contains (readC n).cal.name = false) : readGo out (n :: r) = readGo (out ++ [(readC n).cal]) r := by
  rw [readGo, if_neg h, if_neg (by simp [h1]), if_neg (by rw [h2]; decide)]
end Go.Proofs.Ytjbniichcopnlaa
end

section
/- Layer 12 (conf): the walk of met: a name that was met, or is new. -/
set_option linter.unusedVariables false
set_option linter.unusedSimpArgs false
namespace Go.Proofs.Ytjbniichcopnlaa
open Go.RowKit

theorem findE_at {k : Value} : ∀ (es : List MapEntry) (j p : Nat) (v : Value), findE k es j = some (p, v) → j ≤ p ∧ ∃ e, es[p - j]? = some e ∧ sameKey k e.key = true
  | [], j, p, v, h => by simp [findE] at h
  | e :: es, j, p, v, h => by
    unfold findE at h
    by_cases hs : sameKey k e.key = true
    · rw [if_pos hs] at h
      simp only [Option.some.injEq, Prod.mk.injEq] at h
      obtain ⟨rfl, _⟩ := h
      exact ⟨Nat.le_refl _, e, by simp, hs⟩
    · rw [if_neg hs] at h
      obtain ⟨h1, e', h2, h3⟩ := findE_at es (j + 1) p v h
      refine ⟨by omega, e', ?_, h3⟩
      rw [show p - j = (p - (j + 1)) + 1 by omega, List.getElem?_cons_succ]
      exact h2
section
variable {P : Program} {T K E : TypeId}
theorem run_at_old (hT : P.underlying T = some (.map K E)) (hK : P.underlying K = some .string) (W : World) (g c : Nat) (l : List Bytes) (s : Bytes) (v : Value) (hb : W.heap[g]? = some (.map (atMap l) c)) (hn : l.contains s = true) :
    ∃ o, (Instr.mapUpdate T (.map (some g)) (.string ⟨s.toArray⟩) v).run P W = .ok () (setB W g o) := by
  have hf := (atL_find l s 0 0).2
  rw [hn] at hf
  have e : (atMap l).toList = atL l 0 := by simp [atMap]
  obtain ⟨⟨p, v0⟩, hpv⟩ := Option.isSome_iff_exists.1 hf
  obtain ⟨_, x, hx, hk⟩ := findE_at (atL l 0) 0 p v0 hpv
  have hkx := atL_keys l 0 x (List.mem_of_getElem? hx)
  rw [Nat.sub_zero] at hx
  have hx' : (atMap l)[p]? = some x := by rw [← hx, ← e, Array.getElem?_toList]
  have hxk : x.key = .string ⟨s.toArray⟩ := by
    obtain ⟨xk, xv, xb⟩ := x
    simp only at hkx hk ⊢
    cases hkx with
    | str t =>
      simp only [sameKey] at hk
      rw [beq_toListBytes] at hk
      have h2 : (ByteArray.mk s.toArray).toList = t.toList := by simpa using hk
      rw [ba_toList, ba_toList] at h2
      rw [ba_ext h2]
  have hst : (Instr.keyThatStays (.string ⟨s.toArray⟩) (.string ⟨s.toArray⟩)).run P W = .ok (.string ⟨s.toArray⟩) W := by
    unfold Instr.keyThatStays
    rw [if_pos (by simp only [Instr.sameBits]; rw [beq_toListBytes]; simp)]
    rfl
  refine ⟨.map ((atMap l).modify p fun e => { e with key := .string ⟨s.toArray⟩, val := v }) c, ?_⟩
  have hfk := run_findKey_ok (P := P) (w := W) (k := .string ⟨s.toArray⟩) hK (KeyOk.str _) (atMap l).toList (fun y hy => atL_keys l 0 y (by rw [← e]; exact hy))
  rw [e, hpv] at hfk
  have hck := run_checkKey_ok (P := P) (w := W) hK (KeyOk.str ⟨s.toArray⟩) false
  have hsm := run_setMap (P := P) hb (.map ((atMap l).modify p fun e => { e with key := .string ⟨s.toArray⟩, val := v }) c)
  unfold setB
  simp [Instr.mapUpdate, run_underlying hT, run_getMap hb, hck, e, hfk, hx', hxk, hst, hsm, Result.andThen]
end

theorem zeroI (w : World) : (zeroValue 3).run Try.prog w = .ok (.int .i64 0) w := by kernel_rfl
theorem atMap_size (l : List Bytes) : (atMap l).size = l.length := by
  have : ∀ (l : List Bytes) (i : Nat), (atL l i).length = l.length := by
    intro l
    induction l with
    | nil => intro i; rfl
    | cons a r ih => intro i; simp [atL, ih]
  simp [atMap, this]

/-- What met leaves. -/
def MetPost (W : World) (g : Nat) (l : List Bytes) (s : Bytes) (e : Ending) (w' : World) : Prop :=
  e = .returned (.bool (l.contains s)) ∧ ∃ o, w' = setB W g o ∧ (l.contains s = false → o = .map (atMap (l ++ [s])) (l ++ [s]).length)
set_option maxRecDepth 100000 in
theorem names_met (W : World) (g : Nat) (l : List Bytes) (s : Bytes) (hb : W.heap[g]? = some (.map (atMap l) l.length)) (hl : l.length ≤ 1000) :
    Calls Try.prog 16 #[.map (some g), .string ⟨s.toArray⟩] W (MetPost W g l s) := by
  have h1 := run_at_look (P := Try.prog) Try.underlying47 Try.underlying9 zeroI W g l.length l s hb
  have hsz := atMap_size l
  have h3 : (Builtin.len_ #[47] 3 #[.map (some g)]).run Try.prog W = .ok (.int .i64 (l.length : Nat)) W := by
    simp [Builtin.len_, run_underlying, run_getMap hb, hsz, Result.andThen]
    rfl
  cases hc : l.contains s with
  | false =>
    have h2 := run_at_put (P := Try.prog) Try.underlying47 Try.underlying9 W g l s hb hc
    rw [hc] at h1
    have HC := Lib.hid hc
    have HSZ := Lib.hid hsz
    clear hc hsz
    go_enter Try.func16, Try.ntmps16
    go_wp2_with fail
    go_ret
    exact ⟨by rw [HC.out]; rfl, _, rfl, fun _ => by rw [List.length_append]; rfl⟩
  | true =>
    obtain ⟨o, h2⟩ := run_at_old (P := Try.prog) Try.underlying47 Try.underlying9 W g l.length l s (.int .i64 (l.length : Nat)) hb hc
    rw [hc] at h1
    have HC := Lib.hid hc
    have HSZ := Lib.hid hsz
    clear hc hsz
    go_enter Try.func16, Try.ntmps16
    go_wp2_with fail
    go_ret
    exact ⟨by rw [HC.out]; rfl, o, rfl, fun h => by rw [HC.out] at h; cases h⟩

end Go.Proofs.Ytjbniichcopnlaa
end

section
/- Layer 12 (conf): the walk of Read. -/
set_option linter.unusedVariables false
set_option linter.unusedSimpArgs false
set_option maxRecDepth 100000
namespace Go.Proofs.Ytjbniichcopnlaa
open Go.RowKit

def CalL.cc (c : CalL) : List Value := [.string ⟨c.name.toArray⟩, .int .i64 c.kind, .int .i64 c.day, .int .i64 c.month, .int .i64 c.shift, .int .i64 c.shape, .int .i64 c.p0, .int .i64 c.p1, .int .i64 c.p2, .int .i64 c.cycle, .int .i64 c.extra, .int .i64 c.first, .int .i64 c.last, .int .i64 c.policy]
theorem info_cal : (Try.prog.info? 31).map (fun i => (i.size, i.bytes, i.zero.map (·.cells.size))) = some (14, 120, some 14) := by kernel_rfl
/-- Calendars of a row of the call's own. -/
def OwnCals (w : World) (base : Nat) (v : Value) (l : List CalL) : Prop := w.ownsRow base 31 14 v l.length (l.flatMap CalL.cc)
theorem OwnCals.nil (w : World) (base : Nat) : OwnCals w base (.slice none 0 0) [] := World.ownsRow_nil _ _ _ _
theorem OwnCals.push {w : World} {base : Nat} {v : Value} {l : List CalL} {c : CalL} (h : w.ownsRow base 31 14 v (l.length + 1) (l.flatMap CalL.cc ++ c.cc)) : OwnCals w base v (l ++ [c]) := by
  unfold OwnCals
  rw [List.length_append, List.flatMap_append]
  simpa using h
theorem cells_one (c : CalL) : ∀ u ∈ c.cc, u.oneCell' = true := by
  intro u hu
  simp only [CalL.cc, List.mem_cons, List.not_mem_nil, or_false] at hu
  rcases hu with rfl | rfl | rfl | rfl | rfl | rfl | rfl | rfl | rfl | rfl | rfl | rfl | rfl | rfl <;> rfl

theorem own_downC {w : World} {b b' : Nat} {e : TypeId} {size n : Nat} {v : Value} {xs : List Value} (hb : b' ≤ b) (h : w.ownsRow b e size v n xs) : w.ownsRow b' e size v n xs := by
  refine ⟨h.1, ?_⟩
  rcases h.2 with h2 | ⟨g, cap, cur, h1, h2, h3⟩
  · exact .inl h2
  · exact .inr ⟨g, cap, cur, h1, by omega, h3⟩
theorem own_setB {w : World} {b : Nat} {o : Obj} {e : TypeId} {size n : Nat} {v : Value} {xs : List Value} (h : w.ownsRow (b + 1) e size v n xs) : (setB w b o).ownsRow (b + 1) e size v n xs := by
  refine ⟨h.1, ?_⟩
  rcases h.2 with h2 | ⟨g, cap, cur, h1, h2, h3, h4⟩
  · exact .inl h2
  · exact .inr ⟨g, cap, cur, h1, h2, (setB_other w b g o (by omega)).trans h3, h4⟩
/-- What Read leaves. -/
def ConfPost (w : World) (R : ConfR) (e : Ending) (w' : World) : Prop :=
  ∃ v, e = .returned (.tuple #[v, .int .i64 R.pos, .int .i64 R.err]) ∧ OwnCals w' w.heap.size v R.cals ∧ Below w.heap.size w w'
theorem conf_nil {w w' : World} {p e : Int} (hb : Below w.heap.size w w') : ConfPost w ⟨[], p, e⟩ (.returned (.tuple #[.slice none 0 0, .int .i64 p, .int .i64 e])) w' := ⟨_, rfl, OwnCals.nil _ _, hb⟩

theorem node_at {w : World} {M : Nat → Prop} {A : Option Addr} {l : List NodeL} {cs : List Value} (h : ReadsM w M 5 A l.length cs) (hn : NodesOk w M l cs) (i : Nat) (n : NodeL) (hi : l[i]? = some n) :
    ∃ ad Aw cw Ak ck, A = some ad ∧ M ad.block ∧ w.cell? (ad.add (i * 5)) = some (.string ⟨n.name.toArray⟩) ∧ w.cell? ⟨(ad.add (i * 5)).block, (ad.add (i * 5)).off + 1, none⟩ = some (.int .i64 n.pos) ∧
      w.cell? ⟨(ad.add (i * 5)).block, (ad.add (i * 5)).off + 2, none⟩ = some (.slice Aw n.words.length cw) ∧ w.cell? ⟨(ad.add (i * 5)).block, (ad.add (i * 5)).off + 3, none⟩ = some (.bool n.block) ∧
      w.cell? ⟨(ad.add (i * 5)).block, (ad.add (i * 5)).off + 4, none⟩ = some (.slice Ak n.kids.length ck) ∧
      NodeOk w M n [.string ⟨n.name.toArray⟩, .int .i64 n.pos, .slice Aw n.words.length cw, .bool n.block, .slice Ak n.kids.length ck] := by
  obtain ⟨ad, Aw, cw, Ak, ck, kcs, e, hM, c0, c1, c2, c3, c4, n1, n2, hw, hk, hkn⟩ := node_cells h hn i n hi
  refine ⟨ad, Aw, cw, Ak, ck, e, hM, c0, c1, c2, c3, c4, ?_⟩
  obtain ⟨nm, p, ws, b, ks⟩ := n
  simp only [NodeOk]
  exact ⟨Aw, cw, Ak, ck, kcs, rfl, n1, n2, hw, hk, hkn⟩
theorem fit_one : ∀ (l : List NodeL) (i : Nat) (n : NodeL), fitNs l → l[i]? = some n → fitNs [n] := fun l i n h hi => ⟨fit_at l i n h hi, trivial⟩
theorem cnt_one (l : List NodeL) (i : Nat) (n : NodeL) (hi : l[i]? = some n) : cntL [n] ≤ cntL l := by
  have := cntL_take_mem l i n hi
  simp only [cntL]; omega

/-- What is known ahead of each round. -/
structure ReadI (w1 : World) (mb : Nat) (nodes : List NodeL) (q : Nat) (v : Value) (out : List CalL) (wr : World) : Prop where
  same : readGo [] nodes = readGo out (nodes.drop q)
  own : OwnCals wr (mb + 1) v out
  map : wr.heap[mb]? = some (.map (atMap (out.map CalL.name)) (out.map CalL.name).length)
  below : Below mb w1 wr
  size : mb + 1 ≤ wr.heap.size
  len : out.length = q
  few : out.length ≤ 32

set_option maxHeartbeats 8000000 in
theorem conf_Read (s : ByteArray) (w : World) (hs : s.size ≤ maxLen) (hcn : cntL (treeL s.data.toList).nodes ≤ 100000) (hfit : fitNs (treeL s.data.toList).nodes) :
    Calls Try.prog 8 #[.string s] w (ConfPost w (confRead s.data.toList)) := by
  have HP := Lib.hid (tree_Parse s w hs)
  have HCR := Lib.hid (show confRead s.data.toList = if (treeL s.data.toList).err ≠ 0 then ⟨[], (treeL s.data.toList).pos, (treeL s.data.toList).err⟩ else readGo [] (treeL s.data.toList).nodes from rfl)
  have HFIT := Lib.hid hfit
  clear hfit
  generalize confRead s.data.toList = CR at *
  generalize treeL s.data.toList = R at *
  obtain ⟨nds, pos, err⟩ := R
  simp only at hcn HCR HFIT
  obtain ⟨ic, hic, hcz⟩ := Option.map_eq_some_iff.1 info_cal
  simp only [Prod.mk.injEq] at hcz
  obtain ⟨hcs, hcby, hcz⟩ := hcz
  obtain ⟨zc, hzc, hczs⟩ := Option.map_eq_some_iff.1 hcz
  have hmm := @run_makeMap Try.prog
  by_cases he : err = 0
  case neg =>
    have HR := Lib.hid (show CR = ⟨[], pos, err⟩ by rw [HCR.out, if_pos he])
    have hne : (err == 0) = false := beq_false_of_ne he
    have HE := Lib.hid he
    clear he hcn hmm hcz hic hcs hcby hzc hczs
    go_enter Try.func8, Try.ntmps8
    go_wp2_with fail
    refine HP.out.mono ?_
    rintro e1 w1 ⟨A, c, kcs, rfl, _, hr, hn, hb1⟩
    have HB1 := Lib.hid hb1
    clear hr hn hb1
    go_wp2_with fail
    go_ret3
    rw [HR.out]
    exact conf_nil HB1.out
  subst he
  have HR := Lib.hid (show CR = readGo [] nds by rw [HCR.out, if_neg (by simp)])
  have hlen := Nat.le_trans (cntL_len nds) hcn
  go_enter Try.func8, Try.ntmps8
  go_wp2_with fail
  refine HP.out.mono ?_
  rintro e1 w1 ⟨A, c, kcs, rfl, _, hr, hn, hb1⟩
  have HB1 := Lib.hid hb1
  have HRD := Lib.hid (And.intro hr hn)
  have hz1 := hb1.size
  clear hr hn hb1
  go_wp2_with fail
  obtain ⟨mb, hmb⟩ : ∃ g, g = w1.heap.size := ⟨_, rfl⟩
  have hstart : ReadI w1 mb nds 0 (.slice none 0 0) [] (w1.alloc (.map #[] 0)) :=
    ⟨by rw [List.drop_zero], OwnCals.nil _ _, by rw [hmb]; exact heap_alloc_new w1 _, by rw [hmb]; exact (Below.refl _ _).alloc (Nat.le_refl _) _, by rw [hmb]; simp, rfl, Nat.zero_le _⟩
  rw [← hmb]
  have HMB := Lib.hid hmb
  have HST := Lib.hid hstart
  have hwm : w.heap.size ≤ mb := by omega
  clear hmb hstart
  go_loopw [8, 28] (fun v iv wr => ∃ (q : Nat) (out : List CalL), q ≤ nds.length ∧ iv = .int .i64 q ∧ ReadI w1 mb nds q v out wr) (fun _ iv _ => nds.length - (intOf iv).toNat)
  case atStart => exact ⟨0, [], Nat.zero_le _, rfl, HST.out⟩
  case round =>
    obtain ⟨q, out, hq, rfl, hi⟩ := hrel
    obtain ⟨Ao, co, hv, hco⟩ := own_form hi.own
    have HOL := Lib.hid hi.len
    have hfew := hi.few
    subst hv
    by_cases hlt : q < nds.length
    · obtain ⟨n, hn⟩ : ∃ n, nds[q]? = some n := ⟨_, List.getElem?_eq_getElem hlt⟩
      have hsame := hi.same
      rw [List.drop_eq_getElem_cons hlt] at hsame
      have hnq : nds[q] = n := Option.some.inj ((List.getElem?_eq_getElem hlt).symm.trans hn)
      rw [hnq] at hsame
      have hkeep : ∀ p : Addr, w.heap.size ≤ p.block ∧ p.block < w1.heap.size → wr.cell? p = w1.cell? p := fun p hp => hi.below.cell (by have := HMB.out; omega)
      obtain ⟨ad, Aw, cw, Ak, ck, hA, hM, c0, c1, c2, c3, c4, hok⟩ := node_at (HRD.out.1.keep (w' := wr) (fun _ h => h) hkeep) (NodesOk.keep (fun _ h => h) hkeep _ _ HRD.out.2) q n hn
      subst hA
      have hok1 : NodeOk wr (· < mb) n _ := NodeOk.keep (fun b h => by have := HMB.out; omega) (fun _ _ => rfl) _ _ hok
      have hsz := hi.size
      have lk : (q : Int) < nds.length := by omega
      have lk0 : (0 : Int) ≤ q := by omega
      have w1f : IntKind.i64.wrap ((q : Int) + 1) = (q : Int) + 1 := by rw [IntKind.wrap_i64]; omega
      have HOK := Lib.hid hok1
      have HI := Lib.hid hi
      have HSM := Lib.hid hsame
      have HNN := Lib.hid hn
      clear hi hsame hnq hn hok hok1 hkeep hM
      by_cases h32 : out.length = 32
      · have ho : ((out.length : Int) == 32) = true := by rw [h32]; rfl
        have HX := Lib.hid (show CR = ⟨[], n.pos, 6⟩ by rw [HR.out, HSM.out, readGo_long _ _ _ h32])
        have HBX := Lib.hid (HB1.out.trans ((HI.out.below.alloc (by omega) (.cells #[.string ⟨n.name.toArray⟩, .int .i64 n.pos, .slice Aw n.words.length cw, .bool n.block, .slice Ak n.kids.length ck] 40)).mono hwm))
        clear h32
        go_wp2_with fail
        go_region
        all_goals (
          go_wp2_with fail
          go_ret3
          rw [HX.out]
          exact conf_nil HBX.out.drew)
      · have ho : ((out.length : Int) == 32) = false := beq_false_of_ne (by omega)
        have hol32 : out.length ≤ 100000 := by have := HOL.out; omega
        have hb2 := (Below.refl wr.heap.size wr).alloc (Nat.le_refl _) (.cells #[.string ⟨n.name.toArray⟩, .int .i64 n.pos, .slice Aw n.words.length cw, .bool n.block, .slice Ak n.kids.length ck] 40)
        have hrd := field_Read n [.string ⟨n.name.toArray⟩, .int .i64 n.pos, .slice Aw n.words.length cw, .bool n.block, .slice Ak n.kids.length ck] (wr.alloc (.cells #[.string ⟨n.name.toArray⟩, .int .i64 n.pos, .slice Aw n.words.length cw, .bool n.block, .slice Ak n.kids.length ck] 40)) mb (by simp; omega)
          (NodeOk.keep (fun _ h => h) (fun p hp => hb2.cell (by omega)) _ _ HOK.out) (Nat.le_trans (cnt_one nds q n HNN.out) hcn) (fit_one nds q n HFIT.out HNN.out)
        unfold ReadPost at hrd
        have HN0 := Lib.hid (heap_alloc_new wr (.cells #[.string ⟨n.name.toArray⟩, .int .i64 n.pos, .slice Aw n.words.length cw, .bool n.block, .slice Ak n.kids.length ck] 40))
        have HB2 := Lib.hid hb2
        have H32 := Lib.hid h32
        generalize hrc : readC n = RC at hrd
        have HRC := Lib.hid hrc
        obtain ⟨cal, cat, cerr⟩ := RC
        obtain ⟨cal0, hcal0⟩ : ∃ x, x = cal := ⟨_, rfl⟩
        obtain ⟨nm, kind, day, month, shift, shape, p0, p1, p2, cycle, extra, first, last, policy⟩ := cal
        dsimp only [calV] at hrd
        have HRD2 := Lib.hid hrd
        have HCAL := Lib.hid hcal0
        clear hb2 hrd h32 hrc hcal0
        by_cases hce : cerr = 0
        case neg =>
          have hne : (cerr == 0) = false := beq_false_of_ne hce
          have HX := Lib.hid (show CR = ⟨[], cat, cerr⟩ by rw [HR.out, HSM.out, readGo_bad _ _ _ H32.out (by rw [HRC.out]; exact hce), HRC.out])
          have HCE := Lib.hid hce
          clear hce
          go_wp2_with fail
          refine HRD2.out.mono ?_
          rintro e3 w3 ⟨rfl, hb3⟩
          have HB3 := Lib.hid (HB1.out.trans ((HI.out.below.trans ((HB2.out.trans (hb3.mono (by simp))).mono (by omega))).mono hwm))
          have hzz : w.heap.size ≤ w3.heap.size := HB3.out.size
          have HB4 := Lib.hid (HB3.out.alloc hzz (.cells #[.string ⟨nm.toArray⟩, .int .i64 kind, .int .i64 day, .int .i64 month, .int .i64 shift, .int .i64 shape, .int .i64 p0, .int .i64 p1, .int .i64 p2, .int .i64 cycle, .int .i64 extra, .int .i64 first, .int .i64 last, .int .i64 policy] 31))
          clear hb3
          go_wp2_with fail
          go_ret3
          rw [HX.out]
          exact conf_nil HB4.out
        subst hce
        go_wp2_with fail
        refine HRD2.out.mono ?_
        rintro e3 w3 ⟨rfl, hb3⟩
        have hzr := hb3.size
        have hzw : wr.heap.size + 1 ≤ w3.heap.size := by simpa using hzr
        have hb23 : Below wr.heap.size wr w3 := HB2.out.trans (hb3.mono (by simp))
        have hb4 := hb23.alloc (by omega) (.cells #[.string ⟨nm.toArray⟩, .int .i64 kind, .int .i64 day, .int .i64 month, .int .i64 shift, .int .i64 shape, .int .i64 p0, .int .i64 p1, .int .i64 p2, .int .i64 cycle, .int .i64 extra, .int .i64 first, .int .i64 last, .int .i64 policy] 31)
        have hnode : w3.heap[wr.heap.size]? = _ := (hb3.block _ (by simp)).trans HN0.out
        have hcal : (w3.alloc (.cells #[.string ⟨nm.toArray⟩, .int .i64 kind, .int .i64 day, .int .i64 month, .int .i64 shift, .int .i64 shape, .int .i64 p0, .int .i64 p1, .int .i64 p2, .int .i64 cycle, .int .i64 extra, .int .i64 first, .int .i64 last, .int .i64 policy] 31)).heap[w3.heap.size]? = _ := heap_alloc_new w3 _
        obtain ⟨cb, hcb⟩ : ∃ g, g = w3.heap.size := ⟨_, rfl⟩
        obtain ⟨nb, hnb⟩ : ∃ g, g = wr.heap.size := ⟨_, rfl⟩
        have hnode4 := (heap_alloc_old w3 (.cells #[.string ⟨nm.toArray⟩, .int .i64 kind, .int .i64 day, .int .i64 month, .int .i64 shift, .int .i64 shape, .int .i64 p0, .int .i64 p1, .int .i64 p2, .int .i64 cycle, .int .i64 extra, .int .i64 first, .int .i64 last, .int .i64 policy] 31) (show wr.heap.size < w3.heap.size by omega)).trans hnode
        have hz4 : (w3.alloc (.cells #[.string ⟨nm.toArray⟩, .int .i64 kind, .int .i64 day, .int .i64 month, .int .i64 shift, .int .i64 shape, .int .i64 p0, .int .i64 p1, .int .i64 p2, .int .i64 cycle, .int .i64 extra, .int .i64 first, .int .i64 last, .int .i64 policy] 31)).heap.size = w3.heap.size + 1 := by simp
        go_wp2_with fail
        generalize hW4 : World.alloc w3 _ = W4 at *
        rw [← hcb] at hcal
        rw [← hnb] at hnode4
        rw [← hnb, ← hcb]
        have hmap4 := (hb4.block mb (by omega)).trans HI.out.map
        have hmet := names_met W4 mb (out.map CalL.name) nm hmap4 (by rw [List.length_map]; omega)
        have HMET := Lib.hid hmet
        have HNODE := Lib.hid hnode4
        have HCB := Lib.hid hcal
        have HB4 := Lib.hid (And.intro hb4 (And.intro hcb (And.intro hnb hz4)))
        have hmbn : mb < nb := by omega
        have hnbc : nb < cb := by omega
        have hwb : w.heap.size ≤ mb := hwm
        clear hmet hnode4 hcal hb4 hcb hnb hz4 hmap4 hnode hb23 hb3 hzr hzw hW4
        refine HMET.out.mono ?_
        rintro e5 w5 ⟨rfl, o, rfl, hnew⟩
        cases hct : (out.map CalL.name).contains nm with
        | true =>
          have HX := Lib.hid (show CR = ⟨[], n.pos, 9⟩ by rw [HR.out, HSM.out, readGo_twice _ _ _ H32.out (by rw [HRC.out]) (by rw [HRC.out, ← HCAL.out]; exact (by rw [HCAL.out]; exact hct))])
          have e1 := (setB_cell W4 mb o ⟨nb, 1, none⟩ (show nb ≠ mb by omega)).trans (Joins.cell_of_block HNODE.out 1)
          have HBX := Lib.hid (HB1.out.trans ((Below.setB (HI.out.below.trans (HB4.out.1.mono (by have := HB4.out.2.2.1; omega))) (Nat.le_refl mb) o).mono hwm))
          clear hnew hct
          go_wp2_with fail
          go_region
          all_goals (
            go_wp2_with fail
            go_ret3
            rw [HX.out]
            exact conf_nil HBX.out.drew)
        | false =>
          have ho5 := hnew hct
          subst ho5
          have hsm5 : readGo [] nds = readGo (out ++ [cal0]) (nds.drop (q + 1)) := by
            rw [HSM.out, readGo_on _ _ _ H32.out (by rw [HRC.out]) (by rw [HRC.out]; exact hct), HRC.out, HCAL.out]
          have hmbl : mb < W4.heap.size := by have := HB4.out.1.size; have := HB4.out.2.2.1; omega
          have hown5 := own_setB (b := mb) (o := .map (atMap (out.map CalL.name ++ [nm])) (out.map CalL.name ++ [nm]).length) (own_below HI.out.own HB4.out.1)
          have hmap5 := setB_new W4 mb (.map (atMap (out.map CalL.name ++ [nm])) (out.map CalL.name ++ [nm]).length) hmbl
          have hcb5 := (setB_other W4 mb cb (.map (atMap (out.map CalL.name ++ [nm])) (out.map CalL.name ++ [nm]).length) (by omega)).trans HCB.out
          have hbl5 := Below.setB (HI.out.below.trans (HB4.out.1.mono (show mb ≤ wr.heap.size by have := HB4.out.2.2.1; omega))) (Nat.le_refl mb) (.map (atMap (out.map CalL.name ++ [nm])) (out.map CalL.name ++ [nm]).length)
          have hsz5 := setB_size W4 mb (.map (atMap (out.map CalL.name ++ [nm])) (out.map CalL.name ++ [nm]).length)
          generalize setB W4 mb (.map (atMap (out.map CalL.name ++ [nm])) (out.map CalL.name ++ [nm]).length) = w5 at *
          have hcbl : cb < w5.heap.size := (Array.getElem?_eq_some_iff.1 hcb5).1
          have g0 := Joins.cell_of_block hcb5 0; have g1 := Joins.cell_of_block hcb5 1; have g2 := Joins.cell_of_block hcb5 2; have g3 := Joins.cell_of_block hcb5 3; have g4 := Joins.cell_of_block hcb5 4; have g5 := Joins.cell_of_block hcb5 5; have g6 := Joins.cell_of_block hcb5 6; have g7 := Joins.cell_of_block hcb5 7; have g8 := Joins.cell_of_block hcb5 8; have g9 := Joins.cell_of_block hcb5 9; have g10 := Joins.cell_of_block hcb5 10; have g11 := Joins.cell_of_block hcb5 11; have g12 := Joins.cell_of_block hcb5 12; have g13 := Joins.cell_of_block hcb5 13
          have t1 := cells_new w5 cal0.cc 31 w5.heap.size rfl
          have t2 := cells_one cal0
          have t3 : out.length + 1 ≤ maxLen := by unfold maxLen; omega
          have t4 : (out.length + 1) * 120 ≤ 140737488355328 := by omega
          have t5 : mb + 1 ≤ (w5.alloc (.cells cal0.cc.toArray 31)).heap.size := by simp; omega
          have t6 : (w5.alloc (.cells cal0.cc.toArray 31)).ownsRow (mb + 1) 31 14 (.slice Ao out.length co) out.length (out.flatMap CalL.cc) := hown5.alloc _
          have HMP := Lib.hid hmap5
          have HBL := Lib.hid hbl5
          have HOW := Lib.hid hown5
          have HSM5 := Lib.hid hsm5
          have hccs : cal0.cc = [.string ⟨nm.toArray⟩, .int .i64 kind, .int .i64 day, .int .i64 month, .int .i64 shift, .int .i64 shape, .int .i64 p0, .int .i64 p1, .int .i64 p2, .int .i64 cycle, .int .i64 extra, .int .i64 first, .int .i64 last, .int .i64 policy] := by rw [HCAL.out]; rfl
          rw [hccs] at t1 t2 t5 t6
          have HCC := Lib.hid hccs
          clear hnew hct hmap5 hbl5 hown5 hsm5 hsz5 hccs hcb5
          go_wp2_with (first | (at_builtin; go_loud (refine wpList_append_own _ rfl _ _ 23 rfl (mb + 1) 31 ic zc 14 120 Try.underlying23 hic hzc hcs hcby hczs (by decide) (.slice Ao out.length co) out.length _ rfl t6 ⟨w5.heap.size, 0, none⟩ 1 1 [.string ⟨nm.toArray⟩, .int .i64 kind, .int .i64 day, .int .i64 month, .int .i64 shift, .int .i64 shape, .int .i64 p0, .int .i64 p1, .int .i64 p2, .int .i64 cycle, .int .i64 extra, .int .i64 first, .int .i64 last, .int .i64 policy] rfl rfl t1 t2 t3 t4 t5 ?_); intro v6 w6 hown6 hgrow6 _; have HO6 := Lib.hid hown6; have HG6 := Lib.hid hgrow6; clear hown6 hgrow6) | fail)
          refine ⟨⟨q + 1, out ++ [cal0], by omega, by go_num, ⟨HSM5.out, OwnCals.push (by rw [HCC.out]; exact HO6.out), ?_, ?_, ?_, ?_, ?_⟩⟩, by simp [intOf]; omega⟩
          · have hnm : cal0.name = nm := by rw [HCAL.out]
            rw [List.map_append, List.map_cons, List.map_nil, hnm]
            refine (HG6.out.block mb (by simp; omega) (fun e => by have := (HOW.out.lt mb e.symm).1; omega)).trans ?_
            refine (heap_alloc_old w5 _ (show mb < w5.heap.size by omega)).trans ?_
            exact HMP.out
          · exact (HBL.out.alloc (show mb ≤ w5.heap.size by omega) _).grown HG6.out (by simp; omega) (fun k hk => by have := (HOW.out.lt k hk).1; omega)
          · have := HG6.out.size
            simp at this
            omega
          · rw [List.length_append, HOL.out]; rfl
          · rw [List.length_append]; have := H32.out; simp only [List.length_cons, List.length_nil]; omega
    · have hql : q = nds.length := by omega
      have lk : ¬ (q : Int) < nds.length := by omega
      have HX := Lib.hid (show CR = ⟨out, 0, 0⟩ by rw [HR.out, hi.same, hql, List.drop_length, readGo_done])
      have HI := Lib.hid hi
      clear hi hql
      go_wp2_with fail
      go_ret3
      rw [HX.out]
      exact ⟨_, rfl, own_downC (by omega) HI.out.own, HB1.out.trans (HI.out.below.mono hwm)⟩

end Go.Proofs.Ytjbniichcopnlaa
end

section
/- Layer 12 (conf), the laws: what their walks share; live. -/
set_option linter.unusedVariables false
set_option linter.unusedSimpArgs false
set_option maxRecDepth 100000
namespace Go.Proofs.Ytjbniichcopnlaa
open Go.RowKit

theorem run_neqCal (W : World) (a b : CalL) : (binOp .neq 31 (.agg a.cc.toArray) (.agg b.cc.toArray)).run Try.prog W = .ok (.bool (!decide (a = b))) W := by
  unfold CalL.cc
  rw [run_neq_struct, run_equalCal]; rfl

/-! ### What a text gives -/
theorem tree_right (s : Bytes) (hs : s.length ≤ 65536) (he : (treeL s).err = 0) : checkL 0 (treeL s).nodes = 0 ∧ cntL (treeL s).nodes ≤ s.length := by
  obtain ⟨h1, h2⟩ := treeL_err0 s he
  obtain ⟨_, _, hfl⟩ := tokens_law s he
  have hck : checkL 0 (treeL s).nodes = 0 := by
    rw [h2] at he ⊢
    exact parse_inv s.length _ _ _ (cutL_tokOk s) ⟨rfl, fun h => absurd rfl h, trivial⟩ trivial (by simp) he
  have a := cnt_flat (treeL s).nodes 0 hck
  rw [hfl, List.length_map] at a
  have b := cutL_len s
  exact ⟨hck, by omega⟩
theorem okfit_head (d : Nat) (nm : Bytes) (p : Int) (ws : List WordL) (b : Bool) (ks : List NodeL) (h : checkN d (.mk nm p ws b ks) = 0) : ws.all wordOk = true ∧ nameL nm = true := by
  simp only [checkN] at h
  by_cases h1 : (!ws.all wordOk || !nameL nm || decide (8 < ws.length) || (!b && decide (0 < ks.length))) = true
  · rw [if_pos h1] at h; simp at h
  · simp only [Bool.not_eq_true, Bool.or_eq_false_iff, Bool.not_eq_false'] at h1
    exact ⟨by simpa using h1.1.1.1, by simpa using h1.1.1.2⟩
theorem okfit_words : ∀ ws : List WordL, ws.all wordOk = true → ∀ t ∈ ws, t.s.length ≤ maxLen
  | ws, h, t, ht => by
    have := List.all_eq_true.1 h t ht
    obtain ⟨nu, n, s, p⟩ := t
    unfold wordOk at this
    unfold maxLen
    cases nu
    · simp only [Bool.false_eq_true, if_false, Bool.and_eq_true, decide_eq_true_eq] at this
      have := name16 s this.2
      simp only; omega
    · simp only [if_true, Bool.and_eq_true, decide_eq_true_eq] at this
      obtain ⟨⟨rfl, _⟩, _⟩ := this
      simp
mutual
theorem okfit_n : ∀ (n : NodeL) (d : Nat), checkN d n = 0 → cntN n ≤ 100000 → fitN n
  | .mk nm p ws b ks, d, h, hc => by
    obtain ⟨h1, h2⟩ := okfit_head d nm p ws b ks h
    obtain ⟨h3, h4, _, h6⟩ := check_parts d nm p ws b ks h
    simp only [cntN] at hc
    have h7 := okfit_l ks (d + 1) h6 (by omega)
    have h8 := name16 nm h2
    have h9 := cntL_len ks
    refine ⟨by unfold maxLen; omega, by unfold maxLen; omega, okfit_words ws h1, by unfold maxLen; omega, h7⟩
theorem okfit_l : ∀ (l : List NodeL) (d : Nat), checkL d l = 0 → cntL l ≤ 100000 → fitNs l
  | [], _, _, _ => trivial
  | n :: r, d, h, hc => by
    obtain ⟨h1, h2⟩ := checkL_cons d n r h
    simp only [cntL] at hc
    exact ⟨okfit_n n d h1 (by omega), okfit_l r d h2 (by omega)⟩
end
theorem text_in (s : Bytes) (hs : s.length ≤ 65536) : cntL (treeL s).nodes ≤ 100000 ∧ fitNs (treeL s).nodes := by
  by_cases he : (treeL s).err = 0
  · obtain ⟨h1, h2⟩ := tree_right s hs he
    exact ⟨by omega, okfit_l _ 0 h1 (by omega)⟩
  · obtain ⟨h1, _⟩ := tree_err s hs he
    rw [h1]
    exact ⟨by simp [cntL], trivial⟩

/-! ### What Read tells -/
theorem readGo_facts : ∀ (nodes : List NodeL) (out : List CalL), ((readGo out nodes).err ≠ 0 → (readGo out nodes).cals = []) ∧
    ((readGo out nodes).err = 0 → (readGo out nodes).pos = 0 ∧ (readGo out nodes).cals = out ++ nodes.map (fun n => (readC n).cal) ∧ (∀ n ∈ nodes, (readC n).err = 0) ∧ (out.length ≤ 32 → out.length + nodes.length ≤ 32))
  | [], out => ⟨fun h => absurd rfl h, fun _ => ⟨rfl, by simp [readGo], by simp, fun h => by simpa using h⟩⟩
  | n :: r, out => by
    by_cases h1 : out.length = 32
    · rw [readGo_long out n r h1]
      exact ⟨fun _ => rfl, fun h => by simp at h⟩
    by_cases h2 : (readC n).err = 0
    case neg =>
      rw [readGo_bad out n r h1 h2]
      exact ⟨fun _ => rfl, fun h => absurd h h2⟩
    cases h3 : (out.map CalL.name).contains (readC n).cal.name with
    | true =>
      rw [readGo_twice out n r h1 h2 h3]
      exact ⟨fun _ => rfl, fun h => by simp at h⟩
    | false =>
      rw [readGo_on out n r h1 h2 h3]
      obtain ⟨a, b⟩ := readGo_facts r (out ++ [(readC n).cal])
      refine ⟨a, fun h => ?_⟩
      obtain ⟨b1, b2, b3, b4⟩ := b h
      refine ⟨b1, by rw [b2]; simp, fun m hm => ?_, fun hl => ?_⟩
      · rcases List.mem_cons.1 hm with rfl | hm
        · exact h2
        · exact b3 m hm
      · have := b4 (by rw [List.length_append]; simp only [List.length_cons, List.length_nil]; omega)
        rw [List.length_append] at this
        simp only [List.length_cons, List.length_nil] at this ⊢
        omega
theorem conf_facts (s : Bytes) : ((confRead s).err ≠ 0 → (confRead s).cals = []) ∧
    ((confRead s).err = 0 → (confRead s).pos = 0 ∧ (treeL s).err = 0 ∧ (confRead s).cals = (treeL s).nodes.map (fun n => (readC n).cal) ∧ (∀ n ∈ (treeL s).nodes, (readC n).err = 0) ∧ (treeL s).nodes.length ≤ 32) := by
  unfold confRead
  by_cases he : (treeL s).err = 0
  · rw [if_neg (by simp [he])]
    obtain ⟨a, b⟩ := readGo_facts (treeL s).nodes []
    refine ⟨a, fun h => ?_⟩
    obtain ⟨b1, b2, b3, b4⟩ := b h
    exact ⟨b1, he, by simpa using b2, b3, by simpa using b4 (by simp)⟩
  · rw [if_pos he]
    exact ⟨fun _ => rfl, fun h => absurd h he⟩

/-! ### Calendars in memory -/
theorem ccells_length (l : List CalL) : (l.flatMap CalL.cc).length = l.length * 14 := by
  induction l with
  | nil => rfl
  | cons t l ih => simp only [List.flatMap_cons, List.length_append, ih, List.length_cons, CalL.cc, List.length_nil]; omega
theorem cflat_get (l : List CalL) (i : Nat) (t : CalL) (h : l[i]? = some t) : ∀ j, j < 14 → (l.flatMap CalL.cc)[i * 14 + j]? = t.cc[j]? := by
  induction l generalizing i with
  | nil => simp at h
  | cons a l ih =>
    intro j hj
    rw [List.flatMap_cons]
    cases i with
    | zero =>
      simp only [List.getElem?_cons_zero, Option.some.injEq] at h
      subst h
      rw [List.getElem?_append_left (by simp [CalL.cc]; omega)]
      simp
    | succ i =>
      rw [List.getElem?_append_right (by simp [CalL.cc]; omega)]
      have : (i + 1) * 14 + j - a.cc.length = i * 14 + j := by simp [CalL.cc]; omega
      rw [this]
      exact ih i (by simpa using h) j hj
/-- The fourteen cells of a calendar. -/
def Cal14 (w : World) (p : Addr) (c : CalL) : Prop :=
  w.cell? p = some (.string ⟨c.name.toArray⟩) ∧ w.cell? ⟨p.block, p.off + 1, none⟩ = some (.int .i64 c.kind) ∧ w.cell? ⟨p.block, p.off + 2, none⟩ = some (.int .i64 c.day) ∧ w.cell? ⟨p.block, p.off + 3, none⟩ = some (.int .i64 c.month) ∧
  w.cell? ⟨p.block, p.off + 4, none⟩ = some (.int .i64 c.shift) ∧ w.cell? ⟨p.block, p.off + 5, none⟩ = some (.int .i64 c.shape) ∧ w.cell? ⟨p.block, p.off + 6, none⟩ = some (.int .i64 c.p0) ∧ w.cell? ⟨p.block, p.off + 7, none⟩ = some (.int .i64 c.p1) ∧
  w.cell? ⟨p.block, p.off + 8, none⟩ = some (.int .i64 c.p2) ∧ w.cell? ⟨p.block, p.off + 9, none⟩ = some (.int .i64 c.cycle) ∧ w.cell? ⟨p.block, p.off + 10, none⟩ = some (.int .i64 c.extra) ∧ w.cell? ⟨p.block, p.off + 11, none⟩ = some (.int .i64 c.first) ∧
  w.cell? ⟨p.block, p.off + 12, none⟩ = some (.int .i64 c.last) ∧ w.cell? ⟨p.block, p.off + 13, none⟩ = some (.int .i64 c.policy)
theorem cal_at {w : World} {M : Nat → Prop} {A : Option Addr} {l : List CalL} (h : ReadsM w M 14 A l.length (l.flatMap CalL.cc)) (i : Nat) (t : CalL) (hi : l[i]? = some t) :
    ∃ ad, A = some ad ∧ M ad.block ∧ Cal14 w (ad.add (i * 14)) t := by
  have hlt : i < l.length := (List.getElem?_eq_some_iff.1 hi).1
  obtain ⟨ad, rfl, hb, hc⟩ := h.2 (by omega)
  have hg := cflat_get l i t hi
  have hs : ∀ j, j ≠ 0 → ad.add (i * 14 + j) = ⟨(ad.add (i * 14)).block, (ad.add (i * 14)).off + j, none⟩ := fun j hj => by
    rw [← add_of_add]; unfold Addr.add; rw [if_neg hj]
  exact ⟨ad, rfl, hb, hc _ _ (hg 0 (by omega)), hs 1 (by omega) ▸ hc _ _ (hg 1 (by omega)), hs 2 (by omega) ▸ hc _ _ (hg 2 (by omega)), hs 3 (by omega) ▸ hc _ _ (hg 3 (by omega)), hs 4 (by omega) ▸ hc _ _ (hg 4 (by omega)), hs 5 (by omega) ▸ hc _ _ (hg 5 (by omega)),
    hs 6 (by omega) ▸ hc _ _ (hg 6 (by omega)), hs 7 (by omega) ▸ hc _ _ (hg 7 (by omega)), hs 8 (by omega) ▸ hc _ _ (hg 8 (by omega)), hs 9 (by omega) ▸ hc _ _ (hg 9 (by omega)), hs 10 (by omega) ▸ hc _ _ (hg 10 (by omega)), hs 11 (by omega) ▸ hc _ _ (hg 11 (by omega)),
    hs 12 (by omega) ▸ hc _ _ (hg 12 (by omega)), hs 13 (by omega) ▸ hc _ _ (hg 13 (by omega))⟩
theorem own_readsC {w : World} {base : Nat} {v : Value} {l : List CalL} (h : OwnCals w base v l) : ∃ A cap, v = .slice A l.length cap ∧ ReadsM w (· < w.heap.size) 14 A l.length (l.flatMap CalL.cc) := by
  unfold OwnCals at h
  rcases h.2 with ⟨rfl, hn⟩ | ⟨g, cap, cur, rfl, hb, hg, h1, h2, h3, h4⟩
  · exact ⟨none, 0, by rw [hn], by rw [hn]; have : l = [] := List.eq_nil_of_length_eq_zero hn; rw [this]; exact ReadsM.nil _ _ _ _⟩
  · refine ⟨some ⟨g, 0, none⟩, cap, rfl, ⟨h.1, fun _ => ⟨_, rfl, (Array.getElem?_eq_some_iff.1 hg).1, fun j u hu => ?_⟩⟩⟩
    have hz : (⟨g, 0, none⟩ : Addr).add j = ⟨g, j, none⟩ := by unfold Addr.add; split <;> simp_all
    rw [hz, Joins.cell_of_block hg j]
    have hj := (List.getElem?_eq_some_iff.1 hu).1
    rw [← h4] at hu hj
    rw [List.getElem?_take_of_lt (by rw [List.length_take] at hj; omega)] at hu
    simpa using hu

def exR : ConfR := ⟨[⟨[120], 3, 6, 1, 1, 1, 4, 5, 4, 0, 12, 2000, 2030, 2⟩], 0, 0⟩
theorem ex_conf : confRead exT = exR := by
  unfold confRead
  rw [ex_tree]
  simp only [ne_eq, not_true_eq_false, if_false]
  rw [readGo_on [] exN [] (by decide) (by rw [ex_read]) (by simp), ex_read]
  rfl
theorem none_tree : treeL [35, 32, 110, 111, 110, 101, 10] = ⟨[], 0, 0⟩ := by kernel_rfl
theorem none_conf : confRead [35, 32, 110, 111, 110, 101, 10] = ⟨[], 0, 0⟩ := by
  unfold confRead
  rw [none_tree]
  simp [readGo]

set_option maxHeartbeats 4000000 in
theorem law12_live (w : World) :
    Calls Try.prog 7 #[] w fun e w' => e = .returned (.bool true) ∧ Below w.heap.size w w' := by
  have hP := fun W => conf_Read ⟨#[35, 32, 110, 111, 110, 101, 10]⟩ W (by decide) (text_in _ (by decide)).1 (text_in _ (by decide)).2
  rw [show (ByteArray.mk #[35, 32, 110, 111, 110, 101, 10]).data.toList = [35, 32, 110, 111, 110, 101, 10] from rfl, none_conf] at hP
  have hQ := fun W => conf_Read ⟨exT.toArray⟩ W (by decide) (text_in _ (by decide)).1 (text_in _ (by decide)).2
  rw [show (ByteArray.mk exT.toArray).data.toList = exT from rfl, ex_conf] at hQ
  unfold exT exR at hQ
  have HP := Lib.hid hP
  have HQ := Lib.hid hQ
  clear hP hQ
  go_enter Try.func7, Try.ntmps7
  go_wp2_with fail
  refine (HP.out w).mono ?_
  rintro e w1 ⟨v1, rfl, hown1, hb1⟩
  obtain ⟨A1, c1, rfl, _⟩ := own_form hown1
  have HB1 := Lib.hid hb1
  clear hown1 hb1
  dsimp only [List.length_nil]
  go_wp2_with fail
  refine (HQ.out w1).mono ?_
  rintro e w2 ⟨v2, rfl, hown2, hb2⟩
  obtain ⟨A2, c2, rfl, hr2⟩ := own_readsC hown2
  obtain ⟨ad, rfl, _, hc14⟩ := cal_at hr2 0 _ rfl
  have x0 := hc14.1
  rw [Nat.zero_mul, add_zero] at x0
  have HB2 := Lib.hid (HB1.out.trans (hb2.mono HB1.out.size))
  clear hown2 hb2 hr2 hc14
  dsimp only [List.length_nil, List.length_cons] at x0 ⊢
  go_wp2_with fail
  go_ret
  exact ⟨rfl, HB2.out⟩

end Go.Proofs.Ytjbniichcopnlaa
end
