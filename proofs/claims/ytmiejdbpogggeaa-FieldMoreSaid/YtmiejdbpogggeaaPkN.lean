import Derived.Test.YtmiejdbpogggeaaPkA
import Derived.Test.YtmiejdbpogggeaaPkM
import Derived.Test.YtmiejdbpogggeaaPkH
import Derived.Test.YtmiejdbpogggeaaPkI
import Derived.Deep.AppendLies
import Derived.Deep.DeepCutAuto
import Derived.Deep.RegionHeld3
section
/- append onto a row of the call's own, from a slice that reads as a list (nil and empty let in). Over any program. -/
namespace Go.Proofs.Ytmiejdbpogggeaa
open Go.RowKit

theorem run_append_reads {P : Program} {w : World} (base : Nat) (t ty e : TypeId) (i : TypeInfo) (z : Value) (size bytes : Nat) (ht : P.underlying t = some (.slice e)) (hi : P.info? e = some i) (hz : i.zero = some z)
    (hsize : i.size = size) (hby : i.bytes = bytes) (hzs : z.cells.size = size) (hsz : 0 < size)
    (v : Value) (n : Nat) (xs : List Value) (hown : w.ownsRow base e size v n xs)
    (A : Option Addr) (m c B : Nat) (news : List Value) (hr : Reads w B size A m news) (hnil : A = none → c = 0) (h1 : ∀ u ∈ news, u.oneCell' = true)
    (h63 : n + m ≤ maxLen) (hbytes : (n + m) * bytes ≤ 140737488355328) (hbase : base ≤ w.heap.size) :
    ∃ v' w', (Builtin.append_ #[t, t] ty #[v, .slice A m c]).run P w = .ok v' w' ∧ w'.ownsRow base e size v' (n + m) (xs ++ news) ∧ w.grownBy w' v.ownBlock := by
  cases A with
  | some ad =>
    have hnews : ∀ j u, news[j]? = some u → w.cell? (ad.add j) = some u := by
      intro j u hu
      by_cases hm : 0 < m
      · obtain ⟨ad', h, _, hc⟩ := hr.2 hm
        cases h
        exact hc j u hu
      · have : news = [] := List.eq_nil_of_length_eq_zero (by rw [hr.1, Nat.eq_zero_of_not_pos hm, Nat.zero_mul])
        subst this; simp at hu
    obtain ⟨v', w', h, ho, hg, _⟩ := run_append_own (P := P) w base t ty e i z size bytes ht hi hz hsize hby hzs hsz v n xs hown ad m c news hr.1 hnews h1 h63 hbytes hbase
    exact ⟨v', w', h, ho, hg⟩
  | none =>
    have hm : m = 0 := by
      rcases Nat.eq_zero_or_pos m with h | h
      · exact h
      · obtain ⟨_, h', _⟩ := hr.2 h; cases h'
    subst hm
    have : news = [] := List.eq_nil_of_length_eq_zero (by rw [hr.1]; simp)
    subst this
    obtain rfl := hnil rfl
    refine ⟨v, w, run_append_owned_none w base t ty e i size ht hi v n xs hown, by simpa using hown, rfl, rfl, rfl, Nat.le_refl _, fun _ _ _ => rfl⟩

/-- An append whose run is known, guarded or not. -/
theorem wpList_append_run {P : Program} {w : World} {ops : Array Oper} {rest : List Oper} {o : Oper} {a : Act} {Q : Exit → Act → World → Prop} (s x : Operand) (t : TypeId)
    (ho : o.op = .call { callee := .builtin .append, args := #[s, x], argTypes := #[t, t] }) (hg : Region.wanted o (yielded ops a.tmps) = true) (v1 v2 : Value) (hs : a.eval s = v1) (hx : a.eval x = v2)
    (ty : TypeId) (hty : o.type = ty) (v' : Value) (w' : World) (hrun : (Builtin.append_ #[t, t] ty #[v1, v2]).run P w = .ok v' w') (h : wpList P ops Q rest (a.put o.dst v') w') : wpList P ops Q (o :: rest) a w := by
  refine wpList_step fun K hK => ?_
  simp only [hg, if_true]
  unfold Oper.wp execOp
  simp only [ho, resolve, invoke, builtin, Sem.run_bind, Sem.run_pure, Result.andThen_ok, List.map_toArray, List.map_cons, List.map_nil, hs, hx, hty, hrun]
  exact hK _ _ h

end Go.Proofs.Ytmiejdbpogggeaa
end

section
/- Layer 11 (field): the walk of item. -/
set_option linter.unusedVariables false
set_option linter.unusedSimpArgs false
set_option maxRecDepth 100000
namespace Go.Proofs.Ytmiejdbpogggeaa
open Go.RowKit

def wS (s : Bytes) : WordL := ⟨false, 0, s, 0⟩
def wN (k : Int) : WordL := ⟨true, k, [], 0⟩
/-- An item of names, and then numbers. -/
def itemL (nm : Bytes) (ss : List Bytes) (ks : List Int) : NodeL := .mk nm 0 (ss.map wS ++ ks.map wN) false []

/-- The block of an item. -/
def NodeBlk (w : World) (g : Nat) (nm : Bytes) (p : Int) (v : Value) (b : Bool) (kv : Value) : Prop := w.heap[g]? = some (.cells #[.string ⟨nm.toArray⟩, .int .i64 p, v, .bool b, kv] 25 (0, 0))
section
variable {w : World} {g : Nat} {nm : Bytes} {p : Int} {v : Value} {b : Bool} {kv : Value}
theorem NodeBlk.keep {w' : World} (h : NodeBlk w g nm p v b kv) (hb : Below w.heap.size w w') : NodeBlk w' g nm p v b kv := (hb.block g (Array.getElem?_eq_some_iff.1 h).1).trans h
theorem NodeBlk.lt (h : NodeBlk w g nm p v b kv) : g < w.heap.size := (Array.getElem?_eq_some_iff.1 h).1
theorem NodeBlk.grown {w' : World} {row : Option Nat} (h : NodeBlk w g nm p v b kv) (hg : w.grownBy w' row) (hne : some g ≠ row) : NodeBlk w' g nm p v b kv := (hg.block g h.lt hne).trans h
theorem NodeBlk.sname (h : NodeBlk w g nm p v b kv) (x : Bytes) : NodeBlk (w.setCell ⟨g, 0, none⟩ (.string ⟨x.toArray⟩)) g x p v b kv := by
  have := Joins.block_setCell h (i := 0) (.string ⟨x.toArray⟩)
  simpa [NodeBlk] using this
theorem NodeBlk.spos (h : NodeBlk w g nm p v b kv) (x : Int) : NodeBlk (w.setCell ⟨g, 1, none⟩ (.int .i64 x)) g nm x v b kv := by
  have := Joins.block_setCell h (i := 1) (.int .i64 x)
  simpa [NodeBlk] using this
theorem NodeBlk.swords (h : NodeBlk w g nm p v b kv) (x : Value) : NodeBlk (w.setCell ⟨g, 2, none⟩ x) g nm p x b kv := by
  have := Joins.block_setCell h (i := 2) x
  simpa [NodeBlk] using this
theorem NodeBlk.sblock (h : NodeBlk w g nm p v b kv) (x : Bool) : NodeBlk (w.setCell ⟨g, 3, none⟩ (.bool x)) g nm p v x kv := by
  have := Joins.block_setCell h (i := 3) (.bool x)
  simpa [NodeBlk] using this
theorem NodeBlk.skids (h : NodeBlk w g nm p v b kv) (x : Value) : NodeBlk (w.setCell ⟨g, 4, none⟩ x) g nm p v b x := by
  have := Joins.block_setCell h (i := 4) x
  simpa [NodeBlk] using this
theorem NodeBlk.other (h : NodeBlk w g nm p v b kv) {q : Addr} (hq : q.block ≠ g) (x : Value) : NodeBlk (w.setCell q x) g nm p v b kv := (heap_setCell_other w q g x (fun e => hq e.symm)).trans h
theorem NodeBlk.put5 (h : NodeBlk w g nm p v b kv) (nm' : Bytes) (p' : Int) (v' : Value) (b' : Bool) (kv' : Value) :
    NodeBlk (((((w.setCell ⟨g, 0, none⟩ (.string ⟨nm'.toArray⟩)).setCell ⟨g, 1, none⟩ (.int .i64 p')).setCell ⟨g, 2, none⟩ v').setCell ⟨g, 3, none⟩ (.bool b')).setCell ⟨g, 4, none⟩ kv') g nm' p' v' b' kv' :=
  ((((h.sname nm').spos p').swords v').sblock b').skids kv'
end

theorem info_wordI : (Try.prog.info? 40).map (fun i => (i.zero, i.size, i.bytes)) = some (some (.agg #[.bool false, .int .i64 0, .string ⟨#[]⟩, .int .i64 0]), 4, 40) := by kernel_rfl

/-- Words of a row of the call's own. -/
def OwnWords (w : World) (base : Nat) (v : Value) (l : List WordL) : Prop := w.ownsRow base 40 4 v l.length (l.flatMap WordL.cells)
theorem OwnWords.node {w : World} {base : Nat} {v : Value} {l : List WordL} (h : OwnWords w base v l) (nm : Bytes) :
    NodeOk w (· < w.heap.size) (.mk nm 0 l false []) [.string ⟨nm.toArray⟩, .int .i64 0, v, .bool false, .slice none 0 0] := by
  simp only [NodeOk]
  unfold OwnWords at h
  rcases h.2 with ⟨rfl, hn⟩ | ⟨g, cap, cur, rfl, hb, hg, h1, h2, h3, h4⟩
  · have : l = [] := List.eq_nil_of_length_eq_zero hn
    subst this
    exact ⟨none, 0, none, 0, [], rfl, fun _ => rfl, fun _ => rfl, ReadsM.nil _ _ _ _, ReadsM.nil _ _ _ _, rfl⟩
  · refine ⟨some ⟨g, 0, none⟩, cap, none, 0, [], rfl, (fun h => by cases h), (fun _ => rfl), ⟨h.1, fun _ => ⟨_, rfl, (Array.getElem?_eq_some_iff.1 hg).1, fun j u hu => ?_⟩⟩, ReadsM.nil _ _ _ _, rfl⟩
    rw [add_blk0, Joins.cell_of_block hg j]
    have hj := (List.getElem?_eq_some_iff.1 hu).1
    rw [← h4] at hu hj
    rw [List.getElem?_take_of_lt (by rw [List.length_take] at hj; omega)] at hu
    simpa using hu

theorem own_down {w : World} {b b' : Nat} {e : TypeId} {size n : Nat} {v : Value} {xs : List Value} (hb : b' ≤ b) (h : w.ownsRow b e size v n xs) : w.ownsRow b' e size v n xs := by
  refine ⟨h.1, ?_⟩
  rcases h.2 with h2 | ⟨g, cap, cur, h1, h2, h3⟩
  · exact .inl h2
  · exact .inr ⟨g, cap, cur, h1, by omega, h3⟩
theorem own_push {w : World} {base : Nat} {v : Value} {l : List WordL} {x : WordL} (h : w.ownsRow base 40 4 v (l.length + 1) (l.flatMap WordL.cells ++ x.cells)) : OwnWords w base v (l ++ [x]) := by
  unfold OwnWords
  rw [List.length_append, List.flatMap_append]
  simpa using h
theorem item_keep {w wr w3 : World} {n : Nat} {v : Value} {xs : List Value} {o : Obj} {g6 g7 : Nat} {nm nm' : Bytes} {v6 v7 k6 k7 : Value} {b6 b7 : Bool} {p6 p7 : Int} (hown : wr.ownsRow (w.heap.size + 2) 40 4 v n xs) (hb : Below w.heap.size w wr) (hsz : w.heap.size + 2 ≤ wr.heap.size)
    (h6 : NodeBlk wr g6 nm p6 v6 b6 k6) (h7 : NodeBlk wr g7 nm' p7 v7 b7 k7) (hg : (wr.alloc o).grownBy w3 v.ownBlock) (e6 : g6 = w.heap.size) (e7 : g7 = w.heap.size + 1) :
    Below w.heap.size w w3 ∧ w.heap.size + 2 ≤ w3.heap.size ∧ NodeBlk w3 g6 nm p6 v6 b6 k6 ∧ NodeBlk w3 g7 nm' p7 v7 b7 k7 := by
  have hba := Below.alloc hb hb.size o
  have hs := hg.size
  have hs' : (wr.alloc o).heap.size = wr.heap.size + 1 := by simp
  refine ⟨below_own hba hg hba.size (hown.alloc o) (by omega), by omega, ?_, ?_⟩
  · exact (NodeBlk.keep h6 ((Below.refl _ _).alloc (Nat.le_refl _) o)).grown hg (fun e => by have := (hown.lt g6 e.symm).1; omega)
  · exact (NodeBlk.keep h7 ((Below.refl _ _).alloc (Nat.le_refl _) o)).grown hg (fun e => by have := (hown.lt g7 e.symm).1; omega)

set_option maxHeartbeats 8000000 in
theorem field_item (nm : Bytes) (ss : List Bytes) (ks : List Int) (A1 A2 : Option Addr) (c1 c2 : Nat) (w : World) (hs : ss.length ≤ 100) (hk : ks.length ≤ 100)
    (h1 : ∀ k s, ss[k]? = some s → ∃ a, A1 = some a ∧ a.block < w.heap.size ∧ w.cell? (a.add k) = some (.string ⟨s.toArray⟩))
    (h2 : ∀ k n, ks[k]? = some n → ∃ a, A2 = some a ∧ a.block < w.heap.size ∧ w.cell? (a.add k) = some (.int .i64 n)) :
    Calls Try.prog 46 #[.string ⟨nm.toArray⟩, .slice A1 ss.length c1, .slice A2 ks.length c2] w fun e w' =>
      ∃ v, e = .returned (.agg #[.string ⟨nm.toArray⟩, .int .i64 0, v, .bool false, .slice none 0 0]) ∧ OwnWords w' w.heap.size v (ss.map wS ++ ks.map wN) ∧ Below w.heap.size w w' := by
  obtain ⟨i0, hi, hz0, hz1, hz2⟩ := info_parts info_wordI
  have H1 := Lib.hid h1
  have H2 := Lib.hid h2
  clear h1 h2
  go_enter Try.func46, Try.ntmps46
  go_wp2_with fail
  obtain ⟨g6, hg6⟩ : ∃ g, g = w.heap.size := ⟨_, rfl⟩
  obtain ⟨g7, hg7⟩ : ∃ g, g = w.heap.size + 1 := ⟨_, rfl⟩
  generalize hW0 : World.alloc (World.alloc _ _) _ = W0
  have hb0 : Below w.heap.size w W0 := by rw [← hW0]; (repeat (first | exact Below.refl _ _ | assumption | refine Below.setCell ?_ (by first | (simp; done) | (simp; omega) | omega) _ | refine Below.alloc ?_ (by first | (simp; done) | (simp; omega) | omega) _ | refine Below.drew ?_ | refine below_drewN ?_ _ | refine Below.trans ?_ (Below.mono (by assumption) (by first | (simp; done) | (simp; omega) | omega))))
  have h6 : NodeBlk W0 g6 [] 0 (.slice none 0 0) false (.slice none 0 0) := by
    rw [← hW0, hg6]
    exact (Below.block ((Below.refl (w.alloc _).heap.size (w.alloc _)).alloc (Nat.le_refl _) _) w.heap.size (by simp)).trans (heap_alloc_new w _)
  have h7 : NodeBlk W0 g7 nm 0 (.slice none 0 0) false (.slice none 0 0) := by
    rw [← hW0, hg7]
    have := heap_alloc_new (w.alloc (.cells #[.string ⟨#[]⟩, .int .i64 0, .slice none 0 0, .bool false, .slice none 0 0] 25)) (.cells #[.string ⟨nm.toArray⟩, .int .i64 0, .slice none 0 0, .bool false, .slice none 0 0] 25)
    simpa [NodeBlk] using this
  have hz0' : w.heap.size + 2 ≤ W0.heap.size := by have := h7.lt; omega
  rw [← hg7, ← hg6]
  have HG := Lib.hid (And.intro hg6 hg7)
  have H0 := Lib.hid (And.intro hb0 (And.intro h6 h7))
  have hne : g6 ≠ g7 := by omega
  clear hW0 hb0 h6 h7 hg6 hg7
  go_loopw [16] (fun i wr => ∃ (k : Nat) (v : Value), k ≤ ss.length ∧ i = .int .i64 k ∧ Below w.heap.size w wr ∧ w.heap.size + 2 ≤ wr.heap.size ∧ NodeBlk wr g6 [] 0 (.slice none 0 0) false (.slice none 0 0) ∧ NodeBlk wr g7 nm 0 v false (.slice none 0 0) ∧ OwnWords wr (w.heap.size + 2) v ((ss.take k).map wS)) (fun i _ => ss.length - (intOf i).toNat)
  case atStart => exact ⟨0, _, Nat.zero_le _, rfl, H0.out.1, hz0', H0.out.2.1, H0.out.2.2, World.ownsRow_nil _ _ _ _⟩
  case round =>
    obtain ⟨k, v, hkl, rfl, hb, hsz, h6, h7, hown⟩ := hrel
    obtain ⟨A, c, hv, hnc⟩ := own_form hown
    have hlenk : ((ss.take k).map wS).length = k := by simp; omega
    rw [hlenk] at hv hnc
    subst hv
    by_cases hlt : k < ss.length
    · obtain ⟨x, hx⟩ : ∃ x, ss[k]? = some x := ⟨_, List.getElem?_eq_getElem hlt⟩
      obtain ⟨a, hA1, hal, hc⟩ := H1.out k x hx
      have hcr := (hb.cell (p := a.add k) (by rw [block_of_add]; exact hal)).trans hc
      subst hA1
      have htk : ss.take (k + 1) = ss.take k ++ [x] := by rw [List.take_add_one, hx]; rfl
      have HTK := Lib.hid htk
      have c72 := Joins.cell_of_block h7 2
      have lk : (k : Int) < ss.length := by omega
      have lk0 : (0 : Int) ≤ k := by omega
      have w1f : IntKind.i64.wrap ((k : Int) + 1) = (k : Int) + 1 := by rw [IntKind.wrap_i64]; omega
      have HOW := Lib.hid hown
      have HL := Lib.hid hlenk
      have HB := Lib.hid hb
      have H67 := Lib.hid (And.intro h6 h7)
      clear htk hx hown hb h6 h7 hc hlenk
      have t1 := cells_new wr [.bool false, .int .i64 0, .string ⟨x.toArray⟩, .int .i64 0] 40 wr.heap.size rfl
      have t2 : ∀ u ∈ [Value.bool false, .int .i64 0, .string ⟨x.toArray⟩, .int .i64 0], u.oneCell' = true := by intro y hy; simp only [List.mem_cons, List.not_mem_nil, or_false] at hy; rcases hy with rfl | rfl | rfl | rfl <;> rfl
      have t3 : ((ss.take k).map wS).length + 1 ≤ maxLen := by rw [HL.out]; unfold maxLen; omega
      have t4 : (((ss.take k).map wS).length + 1) * 40 ≤ 140737488355328 := by rw [HL.out]; omega
      have t5 : w.heap.size + 2 ≤ (wr.alloc (.cells #[.bool false, .int .i64 0, .string ⟨x.toArray⟩, .int .i64 0] 40)).heap.size := by simp; omega
      have t6 : (wr.alloc (.cells #[.bool false, .int .i64 0, .string ⟨x.toArray⟩, .int .i64 0] 40)).ownsRow (w.heap.size + 2) 40 4 (.slice A k c) ((ss.take k).map wS).length _ := HOW.out.alloc _
      go_wp2_with (first | (at_builtin; go_loud (refine wpList_append_own _ rfl _ _ 22 rfl (w.heap.size + 2) 40 i0 _ 4 40 Try.underlying22 hi hz0 hz1 hz2 rfl (by decide) (.slice A k c) ((ss.take k).map wS).length _ rfl t6 ⟨wr.heap.size, 0, none⟩ 1 1 [.bool false, .int .i64 0, .string ⟨x.toArray⟩, .int .i64 0] rfl rfl t1 t2 t3 t4 t5 ?_); intro v' w3 hown3 hgrow3 _; go_loud (have H672 := item_keep HOW.out HB.out hsz H67.out.1 H67.out.2 hgrow3 HG.out.1 HG.out.2); have H673 := Lib.hid H672; have HOW3 := Lib.hid hown3; obtain ⟨A', c', rfl, hc'⟩ := own_form hown3; have c73 := Joins.cell_of_block H672.2.2.2 2; have f73 := Joins.unfrozen_of_block H672.2.2.2 2; clear H672 hown3 hgrow3))
      refine ⟨⟨k + 1, _, by omega, by go_num, Below.setCell H673.out.1 (by show w.heap.size ≤ g7; have := HG.out.2; omega) _, ?_, NodeBlk.other H673.out.2.2.1 (fun e => hne e.symm) _, H673.out.2.2.2.swords _, ?_⟩, by simp [intOf]; omega⟩
      · have := H673.out.2.1; simpa using this
      · rw [HTK.out, List.map_append]
        have ho3 := own_push (x := wS x) HOW3.out
        simp only [HL.out] at ho3
        exact own_set ho3 (fun e => by have := (World.ownsRow.lt ho3 g7 e).1; have := HG.out.2; omega) _
    · have hk2 : k = ss.length := by omega
      have lk : ¬ (k : Int) < ss.length := by omega
      have hown' : OwnWords wr (w.heap.size + 2) (.slice A k c) (ss.map wS ++ (ks.take 0).map wN) := by
        rw [hk2, List.take_length] at hown
        simpa [hk2] using hown
      have HI := Lib.hid (And.intro hb (And.intro hsz (And.intro h6 (And.intro h7 hown'))))
      clear hb hsz h6 h7 hown hown' hlenk hnc
      go_wp2_with fail
      go_loopw [30] (fun i wr => ∃ (k : Nat) (v : Value), k ≤ ks.length ∧ i = .int .i64 k ∧ Below w.heap.size w wr ∧ w.heap.size + 2 ≤ wr.heap.size ∧ NodeBlk wr g6 [] 0 (.slice none 0 0) false (.slice none 0 0) ∧ NodeBlk wr g7 nm 0 v false (.slice none 0 0) ∧ OwnWords wr (w.heap.size + 2) v (ss.map wS ++ (ks.take k).map wN)) (fun i _ => ks.length - (intOf i).toNat)
      case atStart => exact ⟨0, _, Nat.zero_le _, rfl, HI.out.1, HI.out.2.1, HI.out.2.2.1, HI.out.2.2.2.1, HI.out.2.2.2.2⟩
      case round =>
        clear HI hk2 lk hkl
        obtain ⟨k', v, hkl, rfl, hb, hsz, h6, h7, hown⟩ := hrel
        obtain ⟨A', c', hv, hnc⟩ := own_form hown
        have hlenk : (ss.map wS ++ (ks.take k').map wN).length = ss.length + k' := by simp; omega
        rw [hlenk] at hv hnc
        subst hv
        by_cases hlt : k' < ks.length
        · obtain ⟨x, hx⟩ : ∃ x, ks[k']? = some x := ⟨_, List.getElem?_eq_getElem hlt⟩
          obtain ⟨a, hA2, hal, hc⟩ := H2.out k' x hx
          have hcr := (hb.cell (p := a.add k') (by rw [block_of_add]; exact hal)).trans hc
          subst hA2
          have htk : ks.take (k' + 1) = ks.take k' ++ [x] := by rw [List.take_add_one, hx]; rfl
          have HTK := Lib.hid htk
          have c72 := Joins.cell_of_block h7 2
          have lk : (k' : Int) < ks.length := by omega
          have lk0 : (0 : Int) ≤ k' := by omega
          have w1f : IntKind.i64.wrap ((k' : Int) + 1) = (k' : Int) + 1 := by rw [IntKind.wrap_i64]; omega
          have HOW := Lib.hid hown
          have HL := Lib.hid hlenk
          have HB := Lib.hid hb
          have H67 := Lib.hid (And.intro h6 h7)
          clear htk hx hown hb h6 h7 hc hlenk
          have t1 := cells_new wr [.bool true, .int .i64 x, .string ⟨#[]⟩, .int .i64 0] 40 wr.heap.size rfl
          have t2 : ∀ u ∈ [Value.bool true, .int .i64 x, .string ⟨#[]⟩, .int .i64 0], u.oneCell' = true := by intro y hy; simp only [List.mem_cons, List.not_mem_nil, or_false] at hy; rcases hy with rfl | rfl | rfl | rfl <;> rfl
          have t3 : (ss.map wS ++ (ks.take k').map wN).length + 1 ≤ maxLen := by rw [HL.out]; unfold maxLen; omega
          have t4 : ((ss.map wS ++ (ks.take k').map wN).length + 1) * 40 ≤ 140737488355328 := by rw [HL.out]; omega
          have t5 : w.heap.size + 2 ≤ (wr.alloc (.cells #[.bool true, .int .i64 x, .string ⟨#[]⟩, .int .i64 0] 40)).heap.size := by simp; omega
          have t6 : (wr.alloc (.cells #[.bool true, .int .i64 x, .string ⟨#[]⟩, .int .i64 0] 40)).ownsRow (w.heap.size + 2) 40 4 (.slice A' (ss.length + k') c') (ss.map wS ++ (ks.take k').map wN).length _ := HOW.out.alloc _
          go_wp2_with (first | (at_builtin; go_loud (refine wpList_append_own _ rfl _ _ 22 rfl (w.heap.size + 2) 40 i0 _ 4 40 Try.underlying22 hi hz0 hz1 hz2 rfl (by decide) (.slice A' (ss.length + k') c') (ss.map wS ++ (ks.take k').map wN).length _ rfl t6 ⟨wr.heap.size, 0, none⟩ 1 1 [.bool true, .int .i64 x, .string ⟨#[]⟩, .int .i64 0] rfl rfl t1 t2 t3 t4 t5 ?_); intro v' w3 hown3 hgrow3 _; go_loud (have H672 := item_keep HOW.out HB.out hsz H67.out.1 H67.out.2 hgrow3 HG.out.1 HG.out.2); have H673 := Lib.hid H672; have HOW3 := Lib.hid hown3; obtain ⟨A'', c'', rfl, hc''⟩ := own_form hown3; have c73 := Joins.cell_of_block H672.2.2.2 2; have f73 := Joins.unfrozen_of_block H672.2.2.2 2; clear H672 hown3 hgrow3))
          refine ⟨⟨k' + 1, _, by omega, by go_num, Below.setCell H673.out.1 (by show w.heap.size ≤ g7; have := HG.out.2; omega) _, ?_, NodeBlk.other H673.out.2.2.1 (fun e => hne e.symm) _, H673.out.2.2.2.swords _, ?_⟩, by simp [intOf]; omega⟩
          · have := H673.out.2.1; simpa using this
          · rw [HTK.out, List.map_append, ← List.append_assoc]
            have ho3 := own_push (x := wN x) HOW3.out
            simp only [HL.out] at ho3
            exact own_set ho3 (fun e => by have := (World.ownsRow.lt ho3 g7 e).1; have := HG.out.2; omega) _
        · have hk2 : k' = ks.length := by omega
          have lk : ¬ (k' : Int) < ks.length := by omega
          rw [hk2, List.take_length] at hown
          have hc6 := h6
          have q60 := Joins.unfrozen_of_block h6 0
          have q61 := Joins.unfrozen_of_block h6 1
          have q62 := Joins.unfrozen_of_block h6 2
          have q63 := Joins.unfrozen_of_block h6 3
          have q64 := Joins.unfrozen_of_block h6 4
          have p60 := Joins.cell_of_block h6 0
          have p61 := Joins.cell_of_block h6 1
          have p62 := Joins.cell_of_block h6 2
          have p63 := Joins.cell_of_block h6 3
          have p64 := Joins.cell_of_block h6 4
          have p70 := Joins.cell_of_block h7 0
          have p71 := Joins.cell_of_block h7 1
          have p72 := Joins.cell_of_block h7 2
          have p73 := Joins.cell_of_block h7 3
          have p74 := Joins.cell_of_block h7 4
          have HI := Lib.hid (And.intro hb (And.intro hsz (And.intro h6 (And.intro h7 hown))))
          clear hb hsz h6 h7 hown hlenk hnc hc6
          go_wp2_with fail
          refine bodyPost_ret (v := .agg #[.string ⟨nm.toArray⟩, .int .i64 0, .slice A' (ss.length + ks.length) c', .bool false, .slice none 0 0]) (by simp [results, Try.results46, go_sem, *]) rfl ⟨_, rfl, ?_, ?_⟩
          · have ho := HI.out.2.2.2.2
            have e6 := HG.out.1
            refine own_down (b := w.heap.size + 2) (by omega) ?_
            have hq : ∀ j, (Value.slice A' (ss.length + ks.length) c').ownBlock ≠ some (⟨g6, j, none⟩ : Addr).block := fun j e => by have := (World.ownsRow.lt ho g6 e).1; omega
            exact own_set (own_set (own_set (own_set (own_set ho (hq 0) _) (hq 1) _) (hq 2) _) (hq 3) _) (hq 4) _
          · have hb := HI.out.1
            have e6 : w.heap.size ≤ g6 := by have := HG.out.1; omega
            exact ((((hb.setCell e6 _).setCell e6 _).setCell e6 _).setCell e6 _).setCell e6 _

end Go.Proofs.Ytmiejdbpogggeaa
end

section
/- Layer 11 (field), in plain Lean: the block that tells a calendar. -/
set_option linter.unusedVariables false
namespace Go.Proofs.Ytmiejdbpogggeaa
open Go.RowKit

def saysC (c : CalL) : List Bytes := [endsL.getD (c.kind - 1).toNat []] ++ (if c.kind = 1 ∨ c.kind = 2 then [days.getD (c.day - 1).toNat []] else []) ++ (if standsC c.kind b_named then [mons.getD (c.month - 1).toNat []] else [])
def shapeC (c : CalL) : List NodeL := if c.shape = 1 then [itemL b_periods [] [c.p0, c.p1, c.p2]] else if c.shape = 2 then [itemL b_periods [] [4]] else if c.shape = 3 then [itemL b_pay [] [c.cycle]] else []
def endI (c : CalL) : List NodeL := [itemL b_end (saysC c) []]
def namedI (c : CalL) : List NodeL := if standsC c.kind b_named then [itemL b_named [shifts.getD c.shift.toNat []] []] else []
def extraI (c : CalL) : List NodeL := if standsC c.kind b_extra then shapeC c ++ [itemL b_extra [] [c.extra]] else []
def serveI (c : CalL) : List NodeL := [itemL b_serve [] [c.first, c.last], itemL b_compare [pols.getD (c.policy - 1).toNat []] []]
def kidsC (c : CalL) : List NodeL := endI c ++ namedI c ++ extraI c ++ serveI c
def nodeC (c : CalL) : NodeL := .mk b_calendar 0 [wS c.name] true (kidsC c)
def nodeZ : NodeL := .mk [] 0 [] false []

/-- What holds of a calendar that may be, as far as its block wants it. -/
structure NodeFit (c : CalL) : Prop where
  k1 : 1 ≤ c.kind
  k6 : c.kind ≤ 6
  day : c.kind = 1 ∨ c.kind = 2 → 1 ≤ c.day ∧ c.day ≤ 7
  mon : 1 ≤ c.month ∧ c.month ≤ 12
  shf : 0 ≤ c.shift ∧ c.shift ≤ 1
  pol : 1 ≤ c.policy ∧ c.policy ≤ 4
theorem nodeFit (c : CalL) (h : okC c = true) : NodeFit c := by
  unfold okC at h
  simp only [Bool.and_eq_true] at h
  obtain ⟨⟨⟨_, hp⟩, _⟩, hr⟩ := h
  have hp' : 1 ≤ c.policy ∧ c.policy ≤ 4 := by
    unfold policyC tween at hp
    simp at hp
    exact hp.1
  have hr' := hr
  unfold ruledC fixedC at hr'
  by_cases h3 : c.kind = 3
  · rw [if_pos h3] at hr'
    have h' := of_decide_eq_true hr'
    have e1 : c.month = 1 := by rw [h']; rfl
    have e2 : c.shift = 1 := by rw [h']; rfl
    exact ⟨by omega, by omega, fun h => by omega, by omega, by omega, hp'⟩
  rw [if_neg h3] at hr'
  by_cases h4 : c.kind = 4
  · rw [if_pos h4] at hr'
    have h' := of_decide_eq_true hr'
    have e1 : c.month = 12 := by rw [h']; rfl
    have e2 : c.shift = 0 := by rw [h']; rfl
    exact ⟨by omega, by omega, fun h => by omega, by omega, by omega, hp'⟩
  rw [if_neg h4] at hr'
  dsimp only at hr'
  split at hr'
  · simp at hr'
  · next hms =>
    have hm : 1 ≤ c.month ∧ c.month ≤ 12 ∧ 0 ≤ c.shift ∧ c.shift ≤ 1 := by
      unfold tween at hms
      simp at hms
      omega
    split at hr'
    · next hk =>
      have hd : 1 ≤ c.day ∧ c.day ≤ 7 := by
        simp only [Bool.and_eq_true] at hr'
        have := hr'.1
        unfold tween at this
        simp at this
        exact this
      exact ⟨by omega, by omega, fun _ => hd, ⟨hm.1, hm.2.1⟩, hm.2.2, hp'⟩
    · split at hr'
      · exact ⟨by omega, by omega, fun h => by omega, ⟨hm.1, hm.2.1⟩, hm.2.2, hp'⟩
      · split at hr'
        · exact ⟨by omega, by omega, fun h => by omega, ⟨hm.1, hm.2.1⟩, hm.2.2, hp'⟩
        · simp at hr'

/-! ### What is known while the block is made -/
def NdI (c : CalL) (w wx : World) : Prop := Below w.heap.size w wx ∧ CalBlk wx w.heap.size c ∧ NodeBlk wx (w.heap.size + 1) [] 0 (.slice none 0 0) false (.slice none 0 0) ∧ w.heap.size + 2 ≤ wx.heap.size
theorem NdI.below {c : CalL} {w wx wy : World} (h : NdI c w wx) (hb : Below wx.heap.size wx wy) : NdI c w wy :=
  ⟨h.1.trans (hb.mono h.1.size), h.2.1.keep hb, h.2.2.1.keep hb, Nat.le_trans h.2.2.2 hb.size⟩
theorem NdI.grown {c : CalL} {w wx wy : World} {row : Option Nat} (h : NdI c w wx) (hg : wx.grownBy wy row) (hr : ∀ k, row = some k → w.heap.size + 2 ≤ k) : NdI c w wy :=
  ⟨h.1.grown hg h.1.size (fun k hk => by have := hr k hk; omega), (hg.block _ h.2.1.lt (fun e => by have := hr _ e.symm; omega)).trans h.2.1, h.2.2.1.grown hg (fun e => by have := hr _ e.symm; omega), Nat.le_trans h.2.2.2 hg.size⟩

/-- Texts of a row of the call's own. -/
def OwnStrs (w : World) (base : Nat) (v : Value) (l : List Bytes) : Prop := w.ownsRow base 9 1 v l.length (l.map fun s => .string ⟨s.toArray⟩)
theorem OwnStrs.new (w : World) (base : Nat) (s : Bytes) (hb : base ≤ w.heap.size) : OwnStrs (w.alloc (.cells #[.string ⟨s.toArray⟩] 9)) base (.slice (some ⟨w.heap.size, 0, none⟩) 1 1) [s] :=
  ⟨rfl, .inr ⟨w.heap.size, 1, _, rfl, hb, heap_alloc_new w _, Nat.le_refl _, by decide, rfl, rfl⟩⟩
theorem OwnStrs.below {w w' : World} {base : Nat} {v : Value} {l : List Bytes} (h : OwnStrs w base v l) (hb : Below w.heap.size w w') : OwnStrs w' base v l := own_below h hb
theorem OwnStrs.read {w : World} {base : Nat} {A : Option Addr} {n c : Nat} {l : List Bytes} (h : OwnStrs w base (.slice A n c) l) : ∀ k s, l[k]? = some s → ∃ a, A = some a ∧ a.block < w.heap.size ∧ w.cell? (a.add k) = some (.string ⟨s.toArray⟩) := by
  intro k s hk
  rcases h.2 with ⟨_, hn⟩ | ⟨g, cap, cur, hv, hb, hg, h1, h2, h3, h4⟩
  · rw [List.eq_nil_of_length_eq_zero hn] at hk; cases hk
  · injection hv with e1 e2 e3
    refine ⟨⟨g, 0, none⟩, e1, (Array.getElem?_eq_some_iff.1 hg).1, ?_⟩
    rw [add_blk0, Joins.cell_of_block hg k]
    have hl := (List.getElem?_eq_some_iff.1 hk).1
    have h5 : (cur.toList.take (l.length * 1))[k]? = some (.string ⟨s.toArray⟩) := by rw [h4, List.getElem?_map, hk]; rfl
    rw [List.getElem?_take_of_lt (by omega)] at h5
    simpa using h5
theorem StrBlk.cell {w : World} {g : Nat} {l : List Bytes} (h : StrBlk w g l) (k : Nat) (s : Bytes) (hk : l[k]? = some s) : w.cell? ⟨g, k, none⟩ = some (.string ⟨s.toArray⟩) := by
  obtain ⟨T, h⟩ := h
  rw [Joins.cell_of_block h k]
  simp [hk]

theorem below_alloc1 {w w' : World} (h : Below w.heap.size w w') (o : Obj) : Below w.heap.size w (w'.alloc o) := h.alloc h.size o
/-- Items of a row of the call's own. -/
def OwnNodes (w : World) (base : Nat) (v : Value) (l : List NodeL) : Prop := ∃ kcs, w.ownsRow base 25 5 v l.length kcs ∧ NodesOk w (fun b => base ≤ b ∧ (b < w.heap.size ∧ some b ≠ v.ownBlock)) l kcs
theorem NodeOk.keepB {w w' : World} {M M' : Nat → Prop} {n : NodeL} {cs : List Value} (hm : ∀ b, M b → M' b) (hk : ∀ b, M b → w'.heap[b]? = w.heap[b]?) (h : NodeOk w M n cs) : NodeOk w' M' n cs :=
  NodeOk.keep hm (fun p hp => World.cell?_of_block (hk _ hp)) _ _ h
theorem NodesOk.keepB {w w' : World} {M M' : Nat → Prop} {l : List NodeL} {cs : List Value} (hm : ∀ b, M b → M' b) (hk : ∀ b, M b → w'.heap[b]? = w.heap[b]?) (h : NodesOk w M l cs) : NodesOk w' M' l cs :=
  NodesOk.keep hm (fun p hp => World.cell?_of_block (hk _ hp)) _ _ h
theorem OwnNodes.below {w w' : World} {base : Nat} {v : Value} {l : List NodeL} (h : OwnNodes w base v l) (hb : Below w.heap.size w w') : OwnNodes w' base v l := by
  obtain ⟨kcs, h1, h2⟩ := h
  exact ⟨kcs, own_below h1 hb, h2.keepB (fun b h => ⟨h.1, Nat.lt_of_lt_of_le h.2.1 hb.size, h.2.2⟩) (fun b h => hb.block b h.2.1)⟩
/-- Items put behind: their cells have been laid into a block, and are appended. -/
theorem OwnNodes.push {wa wr wx : World} {base g cap m : Nat} {v : Value} {l r : List NodeL} {kcs ncs : List Value} (hb : Below wa.heap.size wa wr) (h1 : wa.ownsRow base 25 5 v l.length kcs)
    (h2 : NodesOk wa (fun b => base ≤ b ∧ (b < wa.heap.size ∧ some b ≠ v.ownBlock)) l kcs) (hba : base ≤ wa.heap.size) (hn : NodesOk wr (fun b => wa.heap.size ≤ b ∧ b < wr.heap.size) r ncs)
    (hown : wx.ownsRow base 25 5 (.slice (some ⟨g, 0, none⟩) m cap) (l.length + r.length) (kcs ++ ncs)) (hgr : wr.grownBy wx v.ownBlock) (hat : v.ownBlock = some g ∨ wr.heap.size ≤ g) :
    OwnNodes wx base (.slice (some ⟨g, 0, none⟩) m cap) (l ++ r) := by
  have hs := hgr.size
  have hsb := hb.size
  refine ⟨kcs ++ ncs, by rw [List.length_append]; exact hown, NodesOk.append ?_ ?_⟩
  · refine NodesOk.keepB (fun b h => ⟨h.1, by omega, fun e => ?_⟩) (fun b h => ?_) h2
    · have e' : b = g := by injection e
      rcases hat with hat | hat
      · exact h.2.2 (by rw [hat, e'])
      · have := h.2.1; omega
    · exact (hgr.block b (by have := h.2.1; omega) h.2.2).trans (hb.block b h.2.1)
  · refine NodesOk.keepB (fun b h => ⟨by omega, by omega, fun e => ?_⟩) (fun b h => ?_) hn
    · have e' : b = g := by injection e
      rcases hat with hat | hat
      · have := (h1.lt g hat).2; omega
      · omega
    · exact hgr.block b h.2 (fun e => by have := (h1.lt b e.symm).2; omega)

theorem OwnWords.nodeM {w : World} {base : Nat} {v : Value} {l : List WordL} (h : OwnWords w base v l) (nm : Bytes) :
    NodeOk w (fun b => base ≤ b ∧ b < w.heap.size) (.mk nm 0 l false []) [.string ⟨nm.toArray⟩, .int .i64 0, v, .bool false, .slice none 0 0] := by
  simp only [NodeOk]
  unfold OwnWords at h
  rcases h.2 with ⟨rfl, hn⟩ | ⟨g, cap, cur, rfl, hb, hg, h1, h2, h3, h4⟩
  · have : l = [] := List.eq_nil_of_length_eq_zero hn
    subst this
    exact ⟨none, 0, none, 0, [], rfl, fun _ => rfl, fun _ => rfl, ReadsM.nil _ _ _ _, ReadsM.nil _ _ _ _, rfl⟩
  · refine ⟨some ⟨g, 0, none⟩, cap, none, 0, [], rfl, (fun h => by cases h), (fun _ => rfl), ⟨h.1, fun _ => ⟨_, rfl, ⟨hb, (Array.getElem?_eq_some_iff.1 hg).1⟩, fun j u hu => ?_⟩⟩, ReadsM.nil _ _ _ _, rfl⟩
    rw [add_blk0, Joins.cell_of_block hg j]
    have hj := (List.getElem?_eq_some_iff.1 hu).1
    rw [← h4] at hu hj
    rw [List.getElem?_take_of_lt (by rw [List.length_take] at hj; omega)] at hu
    simpa using hu
theorem OwnNodes.new {w : World} {B base : Nat} {n : NodeL} {cs : List Value} (h : NodeOk w (fun b => B ≤ b ∧ b < w.heap.size) n cs) (hb : base ≤ w.heap.size) (hB : base ≤ B) :
    OwnNodes (w.alloc (.cells cs.toArray 25)) base (.slice (some ⟨w.heap.size, 0, none⟩) 1 1) [n] := by
  refine ⟨cs, ⟨h.len, .inr ⟨w.heap.size, 1, _, rfl, hb, heap_alloc_new w _, Nat.le_refl _, by decide, by simpa using h.len, by simpa using List.take_of_length_le (Nat.le_of_eq h.len)⟩⟩, NodesOk.one ?_⟩
  refine NodeOk.keepB (fun b hb => ⟨by omega, by have := hb.2; simp; omega, fun e => ?_⟩) (fun b hb => heap_alloc_old w _ hb.2) h
  injection e with e
  have := hb.2
  have e' : b = w.heap.size := e
  omega
/-- What the append of one item leaves. -/
theorem push_item {c : CalL} {w wc w3 wx : World} {B g cap m : Nat} {v6 v : Value} {l : List NodeL} {kcs : List Value} {nm : Bytes} {ws : List WordL} (hnd : NdI c w wc) (hb : Below wc.heap.size wc w3)
    (ho : wc.ownsRow (w.heap.size + 2) 25 5 v6 l.length kcs) (hk : NodesOk wc (fun b => w.heap.size + 2 ≤ b ∧ (b < wc.heap.size ∧ some b ≠ v6.ownBlock)) l kcs) (hw : OwnWords w3 B v ws) (hB : wc.heap.size ≤ B)
    (hown : wx.ownsRow (w.heap.size + 2) 25 5 (.slice (some ⟨g, 0, none⟩) m cap) (l.length + 1) (kcs ++ [.string ⟨nm.toArray⟩, .int .i64 0, v, .bool false, .slice none 0 0]))
    (hgr : (w3.alloc (.cells #[.string ⟨nm.toArray⟩, .int .i64 0, v, .bool false, .slice none 0 0] 25)).grownBy wx v6.ownBlock) (hat : v6.ownBlock = some g ∨ g = w3.heap.size + 1) :
    NdI c w wx ∧ OwnNodes wx (w.heap.size + 2) (.slice (some ⟨g, 0, none⟩) m cap) (l ++ [.mk nm 0 ws false []]) := by
  have hba := below_alloc1 hb (.cells #[.string ⟨nm.toArray⟩, .int .i64 0, v, .bool false, .slice none 0 0] 25)
  have hs := hb.size
  refine ⟨(hnd.below hba).grown hgr (fun k hk => (ho.lt k hk).1), ?_⟩
  refine OwnNodes.push hba ho hk hnd.2.2.2 (NodesOk.one (NodeOk.keepB (fun b h => ⟨by omega, by simp; omega⟩) (fun b h => heap_alloc_old w3 _ h.2) (hw.nodeM nm))) hown hgr ?_
  rcases hat with h | h
  · exact .inl h
  · right; rw [h]; simp
/-- What the append of two items leaves. -/
theorem push_two {c : CalL} {w wc w3 w5 wx : World} {B3 B5 g cap m : Nat} {v6 v3 v5 : Value} {l : List NodeL} {kcs : List Value} {nm3 nm5 : Bytes} {ws3 ws5 : List WordL} (hnd : NdI c w wc) (hb3 : Below wc.heap.size wc w3) (hb5 : Below w3.heap.size w3 w5)
    (ho : wc.ownsRow (w.heap.size + 2) 25 5 v6 l.length kcs) (hk : NodesOk wc (fun b => w.heap.size + 2 ≤ b ∧ (b < wc.heap.size ∧ some b ≠ v6.ownBlock)) l kcs) (hw3 : OwnWords w3 B3 v3 ws3) (hB3 : wc.heap.size ≤ B3) (hw5 : OwnWords w5 B5 v5 ws5) (hB5 : wc.heap.size ≤ B5)
    (hown : wx.ownsRow (w.heap.size + 2) 25 5 (.slice (some ⟨g, 0, none⟩) m cap) (l.length + 2) (kcs ++ [.string ⟨nm3.toArray⟩, .int .i64 0, v3, .bool false, .slice none 0 0, .string ⟨nm5.toArray⟩, .int .i64 0, v5, .bool false, .slice none 0 0]))
    (hgr : (w5.alloc (.cells #[.string ⟨nm3.toArray⟩, .int .i64 0, v3, .bool false, .slice none 0 0, .string ⟨nm5.toArray⟩, .int .i64 0, v5, .bool false, .slice none 0 0] 25)).grownBy wx v6.ownBlock) (hat : v6.ownBlock = some g ∨ g = w5.heap.size + 1) :
    NdI c w wx ∧ OwnNodes wx (w.heap.size + 2) (.slice (some ⟨g, 0, none⟩) m cap) (l ++ [.mk nm3 0 ws3 false [], .mk nm5 0 ws5 false []]) := by
  have hb35 : Below wc.heap.size wc w5 := hb3.trans (hb5.mono hb3.size)
  have hba := below_alloc1 hb35 (.cells #[.string ⟨nm3.toArray⟩, .int .i64 0, v3, .bool false, .slice none 0 0, .string ⟨nm5.toArray⟩, .int .i64 0, v5, .bool false, .slice none 0 0] 25)
  have hs3 := hb3.size
  have hs5 := hb5.size
  refine ⟨(hnd.below hba).grown hgr (fun k hk => (ho.lt k hk).1), ?_⟩
  have n3 := (hw3.nodeM nm3).keepB (w' := w5.alloc (.cells #[.string ⟨nm3.toArray⟩, .int .i64 0, v3, .bool false, .slice none 0 0, .string ⟨nm5.toArray⟩, .int .i64 0, v5, .bool false, .slice none 0 0] 25)) (M' := fun b => wc.heap.size ≤ b ∧ b < (w5.alloc (.cells #[.string ⟨nm3.toArray⟩, .int .i64 0, v3, .bool false, .slice none 0 0, .string ⟨nm5.toArray⟩, .int .i64 0, v5, .bool false, .slice none 0 0] 25)).heap.size) (fun b h => ⟨by omega, by simp; omega⟩) (fun b h => (heap_alloc_old w5 _ (by omega)).trans (hb5.block b h.2))
  have n5 := (hw5.nodeM nm5).keepB (w' := w5.alloc (.cells #[.string ⟨nm3.toArray⟩, .int .i64 0, v3, .bool false, .slice none 0 0, .string ⟨nm5.toArray⟩, .int .i64 0, v5, .bool false, .slice none 0 0] 25)) (M' := fun b => wc.heap.size ≤ b ∧ b < (w5.alloc (.cells #[.string ⟨nm3.toArray⟩, .int .i64 0, v3, .bool false, .slice none 0 0, .string ⟨nm5.toArray⟩, .int .i64 0, v5, .bool false, .slice none 0 0] 25)).heap.size) (fun b h => ⟨by omega, by simp; omega⟩) (fun b h => heap_alloc_old w5 _ h.2)
  refine OwnNodes.push hba ho hk hnd.2.2.2 (r := [.mk nm3 0 ws3 false [], .mk nm5 0 ws5 false []]) (ncs := [.string ⟨nm3.toArray⟩, .int .i64 0, v3, .bool false, .slice none 0 0] ++ [.string ⟨nm5.toArray⟩, .int .i64 0, v5, .bool false, .slice none 0 0]) (NodesOk.append (l := [_]) (m := [_]) (NodesOk.one n3) (NodesOk.one n5)) hown hgr ?_
  rcases hat with h | h
  · exact .inl h
  · right; rw [h]; simp
theorem ints2_ok (x y : Int) : ∀ k n, [x, y][k]? = some n → #[Value.int .i64 x, .int .i64 y][0 + k]? = some (.int .i64 n)
  | 0, n, h => by injection h with h; subst h; rfl
  | 1, n, h => by injection h with h; subst h; rfl
  | k + 2, n, h => by simp at h
theorem item_strs (nm s : Bytes) (W : World) (A : Option Addr) (cc : Nat) (h : ∀ k x, [s][k]? = some x → ∃ a, A = some a ∧ a.block < W.heap.size ∧ W.cell? (a.add k) = some (.string ⟨x.toArray⟩)) :
    Calls Try.prog 46 #[.string ⟨nm.toArray⟩, .slice A 1 cc, .slice none 0 0] W fun e w' =>
      ∃ v, e = .returned (.agg #[.string ⟨nm.toArray⟩, .int .i64 0, v, .bool false, .slice none 0 0]) ∧ OwnWords w' W.heap.size v ([s].map wS ++ ([] : List Int).map wN) ∧ Below W.heap.size W w' :=
  field_item nm [s] [] A none cc 0 W (by simp) (by simp) h (fun k n h => by simp at h)
theorem one_str {W : World} {g off : Nat} {s : Bytes} {cs : Array Value} {T : TypeId} {fr : Nat × Nat} (h : W.heap[g]? = some (.cells cs T fr)) (hc : cs[off]? = some (.string ⟨s.toArray⟩)) :
    ∀ k x, [s][k]? = some x → ∃ a, some (⟨g, off, none⟩ : Addr) = some a ∧ a.block < W.heap.size ∧ W.cell? (a.add k) = some (.string ⟨x.toArray⟩) := by
  intro k x hk
  have hk0 : k = 0 := by
    have := (List.getElem?_eq_some_iff.1 hk).1
    simpa using this
  subst hk0
  injection hk with hk
  subst hk
  refine ⟨_, rfl, (Array.getElem?_eq_some_iff.1 h).1, ?_⟩
  rw [show (⟨g, off, none⟩ : Addr).add 0 = ⟨g, off, none⟩ from rfl, Joins.cell_of_block h off, hc]
theorem StrBlk.one {w : World} {g : Nat} {l : List Bytes} (h : StrBlk w g l) (k : Nat) (s : Bytes) (hk : l[k]? = some s) : ∀ j x, [s][j]? = some x → ∃ a, some (⟨g, k, none⟩ : Addr) = some a ∧ a.block < w.heap.size ∧ w.cell? (a.add j) = some (.string ⟨x.toArray⟩) := by
  obtain ⟨T, h⟩ := h
  exact one_str h (by simp [hk])
theorem ints_at {W : World} {g off : Nat} {l : List Int} {cs : Array Value} {T : TypeId} {fr : Nat × Nat} (h : W.heap[g]? = some (.cells cs T fr)) (hc : ∀ k n, l[k]? = some n → cs[off + k]? = some (.int .i64 n)) :
    ∀ k n, l[k]? = some n → ∃ a, some (⟨g, off, none⟩ : Addr) = some a ∧ a.block < W.heap.size ∧ W.cell? (a.add k) = some (.int .i64 n) := by
  intro k n hk
  refine ⟨_, rfl, (Array.getElem?_eq_some_iff.1 h).1, ?_⟩
  have : (⟨g, off, none⟩ : Addr).add k = ⟨g, off + k, none⟩ := by
    unfold Addr.add
    split
    · next h0 => subst h0; rfl
    · rfl
  rw [this, Joins.cell_of_block h (off + k), hc k n hk]
theorem int1_ok (x : Int) : ∀ k n, [x][k]? = some n → #[Value.int .i64 x][0 + k]? = some (.int .i64 n)
  | 0, n, h => by injection h with h; subst h; rfl
  | k + 1, n, h => by simp at h
theorem len1 (l : List NodeL) (h : l.length ≤ 20) (X : NodeL) : (l ++ [X]).length + 1 ≤ maxLen ∧ ((l ++ [X]).length + 1) * 80 ≤ 140737488355328 := by
  rw [List.length_append, List.length_singleton]
  unfold maxLen
  omega
theorem pat_ok (nm : Bytes) (a b c d e p q r f g i j k x : Int) : ∀ m n, [p, q, r][m]? = some n → #[Value.string ⟨nm.toArray⟩, .int .i64 a, .int .i64 b, .int .i64 c, .int .i64 d, .int .i64 e, .int .i64 p, .int .i64 q, .int .i64 r, .int .i64 f, .int .i64 g, .int .i64 i, .int .i64 j, .int .i64 k][6 + m]? = some (.int .i64 n)
  | 0, n, h => by injection h with h; subst h; rfl
  | 1, n, h => by injection h with h; subst h; rfl
  | 2, n, h => by injection h with h; subst h; rfl
  | m + 3, n, h => by simp at h
theorem item_nums (nm : Bytes) (ks : List Int) (hk : ks.length ≤ 100) (W : World) (A : Option Addr) (cc : Nat) (h : ∀ k n, ks[k]? = some n → ∃ a, A = some a ∧ a.block < W.heap.size ∧ W.cell? (a.add k) = some (.int .i64 n)) :
    Calls Try.prog 46 #[.string ⟨nm.toArray⟩, .slice none 0 0, .slice A ks.length cc] W fun e w' =>
      ∃ v, e = .returned (.agg #[.string ⟨nm.toArray⟩, .int .i64 0, v, .bool false, .slice none 0 0]) ∧ OwnWords w' W.heap.size v (([] : List Bytes).map wS ++ ks.map wN) ∧ Below W.heap.size W w' :=
  field_item nm [] ks none A 0 cc W (by simp) hk (fun k s h => by simp at h) h
/-- What Node leaves of a calendar that may be. -/
def NodePost (c : CalL) (w : World) (e : Ending) (w' : World) : Prop :=
  ∃ gw g cap, e = .returned (.tuple #[.agg #[.string ⟨b_calendar.toArray⟩, .int .i64 0, .slice (some ⟨gw, 0, none⟩) 1 1, .bool true, .slice (some ⟨g, 0, none⟩) (kidsC c).length cap], .int .i64 0]) ∧
    w.heap.size ≤ gw ∧ gw ≠ g ∧ w'.heap[gw]? = some (.cells #[.bool false, .int .i64 0, .string ⟨c.name.toArray⟩, .int .i64 0] 40 (0, 0)) ∧
    OwnNodes w' w.heap.size (.slice (some ⟨g, 0, none⟩) (kidsC c).length cap) (kidsC c) ∧ Below w.heap.size w w'

/-- The last store: the block that is told, and its name's word. -/
theorem node_fin {w wc : World} {gr g N cap : Nat} {l : List NodeL} {kcs : List Value} {nm : Bytes} (hb : Below w.heap.size w wc) (ho : wc.ownsRow (w.heap.size + 2) 25 5 (.slice (some ⟨g, 0, none⟩) N cap) N kcs)
    (hk : NodesOk wc (fun b => w.heap.size + 2 ≤ b ∧ (b < wc.heap.size ∧ some b ≠ (Value.slice (some ⟨g, 0, none⟩) N cap).ownBlock)) l kcs) (hgr : w.heap.size ≤ gr ∧ gr < w.heap.size + 2) (hg : w.heap.size + 2 ≤ g) (hl : gr < wc.heap.size) (hN : l.length = N)
    (v0 v1 v2 v3 v4 : Value) :
    (((((((wc.setCell ⟨gr, 0, none⟩ v0).setCell ⟨gr, 1, none⟩ v1).setCell ⟨gr, 2, none⟩ v2).setCell ⟨gr, 3, none⟩ v3).setCell ⟨gr, 4, none⟩ v4).alloc (.cells #[.bool false, .int .i64 0, .string ⟨nm.toArray⟩, .int .i64 0] 40)).heap[wc.heap.size]? = some (.cells #[.bool false, .int .i64 0, .string ⟨nm.toArray⟩, .int .i64 0] 40 (0, 0))) ∧
    OwnNodes (((((((wc.setCell ⟨gr, 0, none⟩ v0).setCell ⟨gr, 1, none⟩ v1).setCell ⟨gr, 2, none⟩ v2).setCell ⟨gr, 3, none⟩ v3).setCell ⟨gr, 4, none⟩ v4).alloc (.cells #[.bool false, .int .i64 0, .string ⟨nm.toArray⟩, .int .i64 0] 40))) w.heap.size (.slice (some ⟨g, 0, none⟩) N cap) l ∧
    Below w.heap.size w (((((((wc.setCell ⟨gr, 0, none⟩ v0).setCell ⟨gr, 1, none⟩ v1).setCell ⟨gr, 2, none⟩ v2).setCell ⟨gr, 3, none⟩ v3).setCell ⟨gr, 4, none⟩ v4).alloc (.cells #[.bool false, .int .i64 0, .string ⟨nm.toArray⟩, .int .i64 0] 40))) := by
  obtain ⟨Wz, hWz⟩ : ∃ Wz, ((((wc.setCell ⟨gr, 0, none⟩ v0).setCell ⟨gr, 1, none⟩ v1).setCell ⟨gr, 2, none⟩ v2).setCell ⟨gr, 3, none⟩ v3).setCell ⟨gr, 4, none⟩ v4 = Wz := ⟨_, rfl⟩
  rw [hWz]
  have hs : Wz.heap.size = wc.heap.size := by rw [← hWz]; simp
  have hz : ∀ b, b ≠ gr → Wz.heap[b]? = wc.heap[b]? := fun b hb => by
    rw [← hWz]
    rw [heap_setCell_other _ _ _ _ hb, heap_setCell_other _ _ _ _ hb, heap_setCell_other _ _ _ _ hb, heap_setCell_other _ _ _ _ hb, heap_setCell_other _ _ _ _ hb]
  have hbz : Below w.heap.size w Wz := by
    rw [← hWz]
    exact ((((hb.setCell hgr.1 _).setCell hgr.1 _).setCell hgr.1 _).setCell hgr.1 _).setCell hgr.1 _
  refine ⟨?_, ?_, hbz.alloc hbz.size _⟩
  · rw [← hs]; exact heap_alloc_new Wz _
  · have hoz : Wz.ownsRow (w.heap.size + 2) 25 5 (.slice (some ⟨g, 0, none⟩) N cap) N kcs := by
      have hq : ∀ j, (Value.slice (some ⟨g, 0, none⟩) N cap).ownBlock ≠ some (⟨gr, j, none⟩ : Addr).block := fun j e => by
        have e' : g = gr := by injection e
        omega
      rw [← hWz]
      exact own_set (own_set (own_set (own_set (own_set ho (hq 0) _) (hq 1) _) (hq 2) _) (hq 3) _) (hq 4) _
    have hkz : NodesOk Wz (fun b => w.heap.size ≤ b ∧ (b < Wz.heap.size ∧ some b ≠ (Value.slice (some ⟨g, 0, none⟩) N cap).ownBlock)) l kcs :=
      hk.keepB (fun b h => ⟨by omega, by rw [hs]; exact h.2.1, h.2.2⟩) (fun b h => hz b (by omega))
    exact OwnNodes.below ⟨kcs, by rw [hN]; exact own_down (by omega) hoz, hkz⟩ ((Below.refl _ _).alloc (Nat.le_refl _) _)

end Go.Proofs.Ytmiejdbpogggeaa
end

section
/- Layer 11 (field): the walk of Node. -/
set_option linter.unusedVariables false
set_option linter.unusedSimpArgs false
set_option maxRecDepth 100000
namespace Go.Proofs.Ytmiejdbpogggeaa
open Go.RowKit

theorem info_str1 : (Try.prog.info? 9).map (fun i => (i.zero, i.size, i.bytes)) = some (some (.string ⟨#[]⟩), 1, 16) := by kernel_rfl
theorem info_nodeN : (Try.prog.info? 25).map (fun i => (i.zero, i.size, i.bytes)) = some (some (.agg #[.string ⟨#[]⟩, .int .i64 0, .slice none 0 0, .bool false, .slice none 0 0]), 5, 80) := by kernel_rfl
theorem getD_some {α : Type} (l : List α) (k : Nat) (d : α) (h : k < l.length) : l[k]? = some (l.getD k d) := by rw [List.getD_eq_getElem?_getD, List.getElem?_eq_getElem h]; rfl

theorem four_cases (p : Int) (k : Nat) (h : p = (k : Int) + 1 ∧ k < 4) : (p = 1 ∧ k = 0) ∨ (p = 2 ∧ k = 1) ∨ (p = 3 ∧ k = 2) ∨ (p = 4 ∧ k = 3) := by omega
theorem field_policies4 (w : World) : Calls Try.prog 47 #[] w fun e w' => e = .returned (.slice (some ⟨w.heap.size, 0, none⟩) 4 4) ∧ StrBlk w' w.heap.size pols ∧ Below w.heap.size w w' := field_policies w
theorem own_one {w : World} {base : Nat} {e : TypeId} {size : Nat} {v : Value} {n : Nat} {xs : List Value} (h : w.ownsRow base e size v n xs) (o : Obj) : (w.alloc o).ownsRow base e size v n xs := h.alloc o
theorem pre_idx (l : List Bytes) (x : Int) (k : Nat) (hx : x = (k : Int) + 1) (hk : k < l.length) (hs : l.length ≤ 100) : l[k]? = some (l.getD (x - 1).toNat []) ∧ (0 : Int) ≤ k ∧ (k : Int) < (l.length : Int) ∧ IntKind.i64.wrap (x - 1) = (k : Int) :=
  ⟨by rw [show (x - 1).toNat = k by omega]; exact getD_some l k [] hk, by omega, by omega, by rw [IntKind.wrap_i64]; omega⟩

set_option maxHeartbeats 16000000 in
theorem field_Node_ok (c : CalL) (hok : okC c = true) (hl : c.name.length ≤ maxLen) (w : World) : Calls Try.prog 18 #[calV c] w (NodePost c w) := by
  obtain ⟨k1, k6, hday, hmon, hshf, hpol⟩ := nodeFit c hok
  obtain ⟨i0, hi0, hz0, hz1, hz2⟩ := info_parts info_str1
  obtain ⟨j0, hj0, hy0, hy1, hy2⟩ := info_parts info_nodeN
  have HCH := Lib.hid (fun W => field_Check c hl W)
  have hec : errC c = 0 := by unfold errC; rw [hok]; rfl
  rw [hec] at HCH
  obtain ⟨k, hk⟩ : ∃ k : Nat, c.kind = (k : Int) + 1 := ⟨(c.kind - 1).toNat, by omega⟩
  have HEN := Lib.hid (pre_idx endsL c.kind k hk (by show k < 6; omega) (by decide))
  obtain ⟨km, hkm⟩ : ∃ k : Nat, c.month = (k : Int) + 1 := ⟨(c.month - 1).toNat, by omega⟩
  have HMN := Lib.hid (pre_idx mons c.month km hkm (by show km < 12; omega) (by decide))
  obtain ⟨kp, hkp⟩ : ∃ k : Nat, c.policy = (k : Int) + 1 := ⟨(c.policy - 1).toNat, by omega⟩
  have HKQ := Lib.hid (show c.policy = (kp : Int) + 1 ∧ kp < 4 from ⟨hkp, by omega⟩)
  have HPN := Lib.hid (pre_idx pols c.policy kp hkp (by show kp < 4; omega) (by decide))
  obtain ⟨b1, hb1⟩ : ∃ b, (c.kind == 1) = b := ⟨_, rfl⟩
  obtain ⟨b2, hb2⟩ : ∃ b, (c.kind == 2) = b := ⟨_, rfl⟩
  obtain ⟨bb, hbb⟩ : ∃ b, (b1 || b2) = b := ⟨_, rfl⟩
  have HDN : Hid (bb = true → ∃ kd : Nat, days[kd]? = some (days.getD (c.day - 1).toNat []) ∧ (0 : Int) ≤ kd ∧ (kd : Int) < (days.length : Int) ∧ IntKind.i64.wrap (c.day - 1) = (kd : Int)) := Lib.hid (fun h => by
    have hd := hday (by rw [← hbb, ← hb1, ← hb2] at h; simpa using h)
    exact ⟨(c.day - 1).toNat, pre_idx days c.day _ (by omega) (by show (c.day - 1).toNat < 7; omega) (by decide)⟩)
  have HSTN := Lib.hid (fun W => field_stands c.kind b_named W)
  have HSTE := Lib.hid (fun W => field_stands c.kind b_extra W)
  have hsay : saysC c = [endsL.getD (c.kind - 1).toNat []] ++ (if bb = true then [days.getD (c.day - 1).toNat []] else []) ++ (if standsC c.kind b_named then [mons.getD (c.month - 1).toNat []] else []) := by
    unfold saysC
    rw [← hbb, ← hb1, ← hb2]
    simp only [Bool.or_eq_true, beq_iff_eq]
  have HSAY := Lib.hid hsay
  generalize endsL.getD (c.kind - 1).toNat [] = en at *
  generalize days.getD (c.day - 1).toNat [] = dn at *
  generalize mons.getD (c.month - 1).toNat [] = mn at *
  obtain ⟨pn, hpn⟩ : ∃ s, pols.getD (c.policy - 1).toNat [] = s := ⟨_, rfl⟩
  rw [hpn] at HPN
  have HPV := Lib.hid hpn
  generalize hQ : NodePost c w = Q
  have HQ := Lib.hid hQ
  clear hpn hec hok hl hQ k1 k6 hk hkm hkp hday hmon hpol hsay
  obtain ⟨nm, kind, day, month, shift, shape, p0, p1, p2, cycle, extra, first, last, policy⟩ := c
  obtain ⟨c, hcd⟩ : ∃ c : CalL, c = ⟨nm, kind, day, month, shift, shape, p0, p1, p2, cycle, extra, first, last, policy⟩ := ⟨_, rfl⟩
  have HCD := Lib.hid hcd
  dsimp only at *
  generalize hstn : standsC kind b_named = stn at *
  generalize hste : standsC kind b_extra = ste at *
  have HSN := Lib.hid hstn
  have HSE := Lib.hid hste
  clear hstn hste
  dsimp only [calV] at HCH
  dsimp only [calV]
  go_enter Try.func18, Try.ntmps18
  go_wp2_with fail
  refine (HCH.out _).mono ?_
  rintro e w1 ⟨rfl, hb1⟩
  have hnd : NdI c w w1 := by
    refine NdI.below (wx := (w.alloc _).alloc _) ⟨?_, ?_, ?_, ?_⟩ hb1
    · (repeat (first | exact Below.refl _ _ | assumption | refine Below.setCell ?_ (by first | (simp; done) | (simp; omega) | omega) _ | refine Below.alloc ?_ (by first | (simp; done) | (simp; omega) | omega) _ | refine Below.drew ?_ | refine below_drewN ?_ _ | refine Below.trans ?_ (Below.mono (by assumption) (by first | (simp; done) | (simp; omega) | omega))))
    · rw [HCD.out]
      exact (Below.block ((Below.refl (w.alloc _).heap.size (w.alloc _)).alloc (Nat.le_refl _) _) w.heap.size (by simp)).trans (heap_alloc_new w _)
    · have := heap_alloc_new (w.alloc (.cells #[.string ⟨nm.toArray⟩, .int .i64 kind, .int .i64 day, .int .i64 month, .int .i64 shift, .int .i64 shape, .int .i64 p0, .int .i64 p1, .int .i64 p2, .int .i64 cycle, .int .i64 extra, .int .i64 first, .int .i64 last, .int .i64 policy] 30)) (.cells #[.string ⟨#[]⟩, .int .i64 0, .slice none 0 0, .bool false, .slice none 0 0] 25)
      simpa [NodeBlk] using this
    · simp
  have HCB : Hid (∀ W, NdI c w W → CalBlk W w.heap.size ⟨nm, kind, day, month, shift, shape, p0, p1, p2, cycle, extra, first, last, policy⟩) := Lib.hid (fun W h => by rw [← HCD.out]; exact h.2.1)
  have HND := Lib.hid hnd
  clear hb1 HCH hnd hcd
  go_wp2_with fail
  go_cut [5] (fun s5 wx => NdI c w wx ∧ OwnStrs wx (w.heap.size + 2) s5 [en])
  case first =>
    have hc := HCB.out _ HND.out
    have c1 := Joins.cell_of_block hc 1
    have lc := hc.lt
    obtain ⟨x0, x1, x2, x3⟩ := HEN.out
    have HX := Lib.hid x0
    clear hc x0
    go_region_with (first | (go_at_call 42; refine (field_ends _).mono ?_; rintro e w2 ⟨rfl, hg2, hb2⟩; replace hg2 : StrBlk w2 w1.heap.size endsL := hg2; have y1 := (hb2.cell (p := ⟨w.heap.size, 1, none⟩) lc).trans c1; have ys := hg2.cell k _ HX.out))
    all_goals (
      go_wp2_with fail
      go_meet
      have hw2 : Below w1.heap.size w1 w2 := ⟨hb2.os, hb2.tape, hb2.output, hb2.size, hb2.block⟩
      have hn2 := HND.out.below hw2
      exact ⟨hn2.below (below_cal w2 _), OwnStrs.new w2 (w.heap.size + 2) en hn2.2.2.2⟩)
  case rest =>
    obtain ⟨hnd, hos⟩ := hcut
    obtain ⟨A, cp, rfl, hcp⟩ := own_form hos
    have HND := Lib.hid hnd
    have HOS := Lib.hid hos
    clear hnd hos
    obtain ⟨wa, hwa⟩ : ∃ wa, wa = wc := ⟨_, rfl⟩
    subst hwa
    go_upto_region 5 with fail
    go_cut [27] (fun s27 wx => s27 = .bool bb ∧ wx = wa)
    case first =>
      have hc := HCB.out _ HND.out
      have c1 := Joins.cell_of_block hc 1
      clear hc
      have HBB := Lib.hid hbb
      clear hbb
      cases b1 <;> cases b2 <;> (
        go_wp2_with fail
        go_meet
        exact ⟨congrArg Value.bool HBB.out, rfl⟩)
    case rest =>
    clear hb1 hb2 hbb
    obtain ⟨rfl, hwc⟩ := hcut
    subst hwc
    go_upto_if 27 with fail
    go_cut [5] (fun s5 wx => NdI c w wx ∧ OwnStrs wx (w.heap.size + 2) s5 ([en] ++ if bb = true then [dn] else []))
    case first =>
      have hc := HCB.out _ HND.out
      have c2 := Joins.cell_of_block hc 2
      have lc := hc.lt
      cases bb
      · clear hc
        go_wp2_with fail
        go_meet
        exact ⟨HND.out, HOS.out⟩
      · obtain ⟨kd, x0, x1, x2, x3⟩ := HDN.out rfl
        have HX := Lib.hid x0
        clear hc x0
        go_wp2_with fail
        go_region_law (first
          | (refine step_append_lies _ (by rfl) _ _ _ (by rfl) (w.heap.size + 2) 9 i0 _ 1 16 Try.underlying49 hi0 hz0 hz1 hz2 rfl (by omega) (.slice A [en].length cp) [en].length _ (by rfl) hw5 ⟨w2.heap.size, 0, none⟩ 1 1 [.string ⟨dn.toArray⟩] (by rfl) (by rfl) (World.news_of_block (cs := #[.string ⟨dn.toArray⟩]) (t := 9) (fr := (0, 0)) (heap_alloc_new w2 _)) h1c (by omega) (by show 1 + 1 ≤ maxLen; decide) (by show (1 + 1) * 16 ≤ 140737488355328; decide) hbs (w2.heap.size + 1) (by simp) ?_; intro g cap w4 hown4 hgrow4 hat hlt)
          | (go_simp; go_at_call 43; refine (field_weekdays _).mono ?_; rintro e w2 ⟨rfl, hg2, hb2⟩; replace hg2 : StrBlk w2 wc.heap.size days := hg2; have y2 := (hb2.cell (p := ⟨w.heap.size, 2, none⟩) lc).trans c2; have ys := hg2.cell kd _ HX.out; have hw2 : Below wc.heap.size wc w2 := ⟨hb2.os, hb2.tape, hb2.output, hb2.size, hb2.block⟩; have hn2 := HND.out.below hw2; have hw5 := own_one (HOS.out.below hw2) (.cells #[.string ⟨dn.toArray⟩] 9); have h1c : ∀ u ∈ [Value.string ⟨dn.toArray⟩], u.oneCell' = true := (by simp [Value.oneCell']); have hbs : w.heap.size + 2 ≤ (w2.alloc (.cells #[.string ⟨dn.toArray⟩] 9)).heap.size := Nat.le_trans hn2.2.2.2 (by simp)))
        all_goals (
          go_wp2_with fail
          go_meet
          refine ⟨(hn2.below (below_cal w2 _)).grown hgrow4 (fun k hk => (hw5.lt k hk).1), hown4⟩)
    case rest =>
    clear HND HOS HDN
    obtain ⟨hnd, hos⟩ := hcut
    generalize hL1 : ([en] ++ if bb = true then [dn] else []) = L1 at *
    have hll : L1.length ≤ 2 := by rw [← hL1]; cases bb <;> simp
    clear hL1
    obtain ⟨A, cp, rfl, hcp⟩ := own_form hos
    have HND := Lib.hid hnd
    have HOS := Lib.hid hos
    have hc := HCB.out _ HND.out
    have c1 := Joins.cell_of_block hc 1
    clear hnd hos hc
    go_upto_if 39 with (go_at_call 44; refine (HSTN.out _).mono ?_; rintro e w2 ⟨rfl, hb2⟩)
    replace HND := Lib.hid (HND.out.below hb2)
    replace HOS := Lib.hid (HOS.out.below hb2)
    clear hb2 c1
    go_cut [5] (fun s5 wx => NdI c w wx ∧ OwnStrs wx (w.heap.size + 2) s5 (L1 ++ if stn = true then [mn] else []))
    case first =>
      have hc := HCB.out _ HND.out
      have c3 := Joins.cell_of_block hc 3
      have lc := hc.lt
      cases stn
      · clear hc
        go_wp2_with fail
        go_meet
        exact ⟨HND.out, by simpa using HOS.out⟩
      · obtain ⟨x0, x1, x2, x3⟩ := HMN.out
        have HX := Lib.hid x0
        clear hc x0
        go_wp2_with fail
        go_region_law (first
          | (refine step_append_lies _ (by rfl) _ _ _ (by rfl) (w.heap.size + 2) 9 i0 _ 1 16 Try.underlying49 hi0 hz0 hz1 hz2 rfl (by omega) (.slice A L1.length cp) L1.length _ (by rfl) hw5 ⟨w3.heap.size, 0, none⟩ 1 1 [.string ⟨mn.toArray⟩] (by rfl) (by rfl) (World.news_of_block (cs := #[.string ⟨mn.toArray⟩]) (t := 9) (fr := (0, 0)) (heap_alloc_new w3 _)) h1c (by omega) (by unfold maxLen; omega) (by omega) hbs (w3.heap.size + 1) (by simp) ?_; intro g cap w4 hown4 hgrow4 hat hlt)
          | (go_simp; go_at_call 45; refine (field_months _).mono ?_; rintro e w3 ⟨rfl, hg3, hb3⟩; replace hg3 : StrBlk w3 w2.heap.size mons := hg3; have y3 := (hb3.cell (p := ⟨w.heap.size, 3, none⟩) lc).trans c3; have ys := hg3.cell km _ HX.out; have hw3 : Below w2.heap.size w2 w3 := ⟨hb3.os, hb3.tape, hb3.output, hb3.size, hb3.block⟩; have hn3 := HND.out.below hw3; have hw5 := own_one (HOS.out.below hw3) (.cells #[.string ⟨mn.toArray⟩] 9); have h1c : ∀ u ∈ [Value.string ⟨mn.toArray⟩], u.oneCell' = true := (by simp [Value.oneCell']); have hbs : w.heap.size + 2 ≤ (w3.alloc (.cells #[.string ⟨mn.toArray⟩] 9)).heap.size := Nat.le_trans hn3.2.2.2 (by simp)))
        all_goals (
          go_wp2_with fail
          go_meet
          refine ⟨(hn3.below (below_cal w3 _)).grown hgrow4 (fun k hk => (hw5.lt k hk).1), ?_⟩
          unfold OwnStrs
          simp only [if_true, List.length_append, List.map_append]
          exact hown4)
    case rest =>
    clear HND HOS HMN
    obtain ⟨hnd, hos⟩ := hcut
    obtain ⟨LS, hLS⟩ : ∃ LS, (L1 ++ if stn = true then [mn] else []) = LS := ⟨_, rfl⟩
    rw [hLS] at hos
    have hll' : LS.length ≤ 3 := by
      rw [← hLS, List.length_append]
      cases stn <;> simp <;> omega
    have HLS := Lib.hid (HSAY.out.trans hLS)
    clear HSAY hLS hll
    obtain ⟨A', cp', rfl, hcp'⟩ := own_form hos
    have HND := Lib.hid hnd
    have HOS := Lib.hid hos
    clear hnd hos
    go_upto_region 9 with fail
    go_cut [6] (fun s6 wx => NdI c w wx ∧ OwnNodes wx (w.heap.size + 2) s6 [itemL b_end LS []])
    case first =>
      have hr := HOS.out.read
      have HIT := Lib.hid (field_item b_end LS [] A' none cp' 0 wc (by omega) (by simp) hr (fun k n h => by simp at h))
      clear hr
      unfold b_end at HIT
      go_wp2_with (go_at_call 46; refine HIT.out.mono ?_; rintro e w3 ⟨v, rfl, hw3, hb3⟩)
      go_meet
      have hn3 := HND.out.below hb3
      exact ⟨hn3.below (below_cal w3 _), OwnNodes.new (B := wc.heap.size) (n := itemL b_end LS []) (hw3.nodeM b_end) hn3.2.2.2 HND.out.2.2.2⟩
    case rest =>
    clear HOS
    obtain ⟨hnd, hos⟩ := hcut
    generalize hL6 : [itemL b_end LS []] = L6 at *
    have hl6 : L6.length ≤ 1 := by rw [← hL6]; exact Nat.le_refl 1
    have HL6 := Lib.hid hL6
    clear hL6
    obtain ⟨kcs, ho, hk⟩ := hos
    obtain ⟨A6, cp6, rfl, hcp6⟩ := own_form ho
    have HND := Lib.hid hnd
    have HO := Lib.hid ho
    have HK := Lib.hid hk
    have hc := HCB.out _ HND.out
    have c1 := Joins.cell_of_block hc 1
    clear hnd ho hk hc
    go_upto_if 54 with (go_at_call 44; refine (HSTN.out _).mono ?_; rintro e w2 ⟨rfl, hb2⟩)
    replace HK := Lib.hid (HK.out.keepB (w' := w2) (M' := fun b => w.heap.size + 2 ≤ b ∧ (b < w2.heap.size ∧ some b ≠ (Value.slice A6 L6.length cp6).ownBlock)) (fun b h => ⟨h.1, Nat.lt_of_lt_of_le h.2.1 hb2.size, h.2.2⟩) (fun b h => hb2.block b h.2.1))
    replace HND := Lib.hid (HND.out.below hb2)
    replace HO := Lib.hid (own_below HO.out hb2)
    clear hb2 c1
    have HSH := Lib.hid hshf
    go_cut [6] (fun s6 wx => NdI c w wx ∧ OwnNodes wx (w.heap.size + 2) s6 (L6 ++ if stn = true then [itemL b_named [shifts.getD shift.toNat []] []] else []))
    case first =>
      have hc := HCB.out _ HND.out
      have c4 := Joins.cell_of_block hc 4
      have lc := hc.lt
      have h63 : L6.length + 1 ≤ maxLen := by unfold maxLen; omega
      have hby : (L6.length + 1) * 80 ≤ 140737488355328 := by omega
      cases stn
      · clear hc
        go_wp2_with fail
        go_meet
        exact ⟨HND.out, kcs, by simpa using HO.out, by simpa using HK.out⟩
      · obtain ⟨off, sh, hsh, hsc, hof⟩ : ∃ (off : Nat) (sh : Bytes), shifts.getD shift.toNat [] = sh ∧ (#[Value.string ⟨#[108, 97, 115, 116]⟩, .string ⟨#[102, 105, 114, 115, 116]⟩])[off]? = some (.string ⟨sh.toArray⟩) ∧ (shift = off ∧ (off = 0 ∨ off = 1)) := by
          have : shift = 0 ∨ shift = 1 := by have := HSH.out; omega
          rcases this with h | h <;> subst h
          · exact ⟨0, [108, 97, 115, 116], rfl, rfl, rfl, .inl rfl⟩
          · exact ⟨1, [102, 105, 114, 115, 116], rfl, rfl, rfl, .inr rfl⟩
        have HSV := Lib.hid hsh
        have HIT := Lib.hid (fun c1 => field_item b_named [sh] [] (some ⟨w2.heap.size, off, none⟩) none c1 0 (w2.alloc (.cells #[.string ⟨#[108, 97, 115, 116]⟩, .string ⟨#[102, 105, 114, 115, 116]⟩] 9)) (by simp) (by simp) (one_str (heap_alloc_new w2 _) hsc) (fun k n h => by simp at h))
        unfold b_named at HIT
        clear hc hsh hsc
        obtain ⟨rfl, rfl | rfl⟩ := hof <;> (
          go_wp2_with (first
            | (go_at_call 46; refine (HIT.out _).mono ?_; rintro e w3 ⟨v3, rfl, hw3, hb3⟩; obtain ⟨Av3, cv3, rfl, hcv3⟩ := own_form hw3; have hB3 := (below_cal w2 (.cells #[.string ⟨#[108, 97, 115, 116]⟩, .string ⟨#[102, 105, 114, 115, 116]⟩] 9)).trans (hb3.mono (below_cal w2 (.cells #[.string ⟨#[108, 97, 115, 116]⟩, .string ⟨#[102, 105, 114, 115, 116]⟩] 9)).size); have ho3 := own_one (own_below HO.out hB3) (.cells #[.string ⟨b_named.toArray⟩, .int .i64 0, .slice Av3 ([sh].map wS ++ ([] : List Int).map wN).length cv3, .bool false, .slice none 0 0] 25); have hn3 := World.news_of_block (cs := #[.string ⟨b_named.toArray⟩, .int .i64 0, .slice Av3 ([sh].map wS ++ ([] : List Int).map wN).length cv3, .bool false, .slice none 0 0]) (t := 25) (fr := (0, 0)) (heap_alloc_new w3 _); have h1c3 : ∀ u ∈ [Value.string ⟨b_named.toArray⟩, .int .i64 0, .slice Av3 ([sh].map wS ++ ([] : List Int).map wN).length cv3, .bool false, .slice none 0 0], u.oneCell' = true := (by simp [Value.oneCell']); have hbs3 : w.heap.size + 2 ≤ (w3.alloc (.cells #[.string ⟨b_named.toArray⟩, .int .i64 0, .slice Av3 ([sh].map wS ++ ([] : List Int).map wN).length cv3, .bool false, .slice none 0 0] 25)).heap.size := Nat.le_trans (HND.out.below hB3).2.2.2 (by simp))
            | (at_builtin; refine wpList_append_lies _ (by rfl) _ _ _ (by rfl) (w.heap.size + 2) 25 j0 _ 5 80 Try.underlying23 hj0 hy0 hy1 hy2 rfl (by omega) (.slice A6 L6.length cp6) (L6.length) (kcs) (by rfl) ho3 ⟨w3.heap.size, 0, none⟩ 1 1 [.string ⟨b_named.toArray⟩, .int .i64 0, .slice Av3 ([sh].map wS ++ ([] : List Int).map wN).length cv3, .bool false, .slice none 0 0] (by rfl) (by rfl) hn3 h1c3 (by omega) h63 hby hbs3 (w3.heap.size + 1) (by simp) ?_; intro g4 cap4 w4 hown4 hgrow4 hat4 hlt4; skip))
          go_meet
          simp only [if_true]
          rw [HSV.out]
          exact push_item HND.out hB3 HO.out HK.out hw3 (below_cal w2 _).size hown4 hgrow4 hat4)
    case rest =>
    clear HND HO HK HSH
    obtain ⟨hnd, hos⟩ := hcut
    obtain ⟨L7, hL7⟩ : ∃ L, (L6 ++ if stn = true then [itemL b_named [shifts.getD shift.toNat []] []] else []) = L := ⟨_, rfl⟩
    rw [hL7] at hos
    have hl7 : L7.length ≤ 2 := by
      rw [← hL7, List.length_append]
      cases stn <;> simp <;> omega
    have HL7 := Lib.hid hL7
    obtain ⟨XS, hXS⟩ : ∃ XS, (if shape = 1 then [itemL b_periods [] [p0, p1, p2]] else if shape = 2 then [itemL b_periods [] [4]] else if shape = 3 then [itemL b_pay [] [cycle]] else []) = XS := ⟨_, rfl⟩
    have HXS := Lib.hid hXS
    clear hL7 hl6 hXS
    obtain ⟨kcs7, ho, hk⟩ := hos
    obtain ⟨A7, cp7, rfl, hcp7⟩ := own_form ho
    have HND := Lib.hid hnd
    have HO := Lib.hid ho
    have HK := Lib.hid hk
    have hc := HCB.out _ HND.out
    have c1 := Joins.cell_of_block hc 1
    clear hnd ho hk hc
    go_upto_if 66 with (go_at_call 44; refine (HSTE.out _).mono ?_; rintro e w2 ⟨rfl, hb2⟩)
    replace HK := Lib.hid (HK.out.keepB (w' := w2) (M' := fun b => w.heap.size + 2 ≤ b ∧ (b < w2.heap.size ∧ some b ≠ (Value.slice A7 L7.length cp7).ownBlock)) (fun b h => ⟨h.1, Nat.lt_of_lt_of_le h.2.1 hb2.size, h.2.2⟩) (fun b h => hb2.block b h.2.1))
    replace HND := Lib.hid (HND.out.below hb2)
    replace HO := Lib.hid (own_below HO.out hb2)
    clear hb2 c1
    go_cut [6] (fun s6 wx => NdI c w wx ∧ OwnNodes wx (w.heap.size + 2) s6 (L7 ++ if ste = true then XS ++ [itemL b_extra [] [extra]] else []))
    case first =>
      have hc := HCB.out _ HND.out
      have lc := hc.lt
      have c5 := Joins.cell_of_block hc 5
      have h63 : L7.length + 1 ≤ maxLen := by unfold maxLen; omega
      have hby : (L7.length + 1) * 80 ≤ 140737488355328 := by omega
      have HLEN := Lib.hid (len1 L7 (by omega))
      have HITX := Lib.hid (fun W A cc h => item_nums b_extra [extra] (Nat.le_of_ble_eq_true rfl) W A cc h)
      have HCX := Lib.hid (int1_ok extra)
      unfold b_extra at HITX
      cases ste
      · clear hc
        go_wp2_with fail
        go_meet
        exact ⟨HND.out, kcs7, by simpa using HO.out, by simpa using HK.out⟩
      · by_cases hs1 : shape = 1
        · subst hs1
          have HX := Lib.hid (HXS.out.symm.trans (if_pos rfl))
          have hci := ints_at (off := 6) (l := [p0, p1, p2]) hc (pat_ok nm kind day month shift 1 p0 p1 p2 cycle extra first last policy 0)
          have HIT := Lib.hid (fun cc => item_nums b_periods [p0, p1, p2] (Nat.le_of_ble_eq_true rfl) w2 (some ⟨w.heap.size, 6, none⟩) cc hci)
          unfold b_periods at HIT
          clear hc hci
          go_wp2_with (first
            | (go_at_call 46; have hq4 := hown4; refine (HITX.out (w4.alloc (.cells #[.int .i64 extra] 3)) (some ⟨w4.heap.size, 0, none⟩) _ (ints_at (off := 0) (l := [extra]) (heap_alloc_new w4 _) HCX.out)).mono ?_; rintro e w5 ⟨v5, rfl, hw5, hb5⟩; obtain ⟨Av5, cv5, rfl, hcv5⟩ := own_form hw5; have hB5 := (below_cal w4 (.cells #[.int .i64 extra] 3)).trans (hb5.mono (below_cal w4 (.cells #[.int .i64 extra] 3)).size); have ho5 := own_one (own_below ho4 hB5) (.cells #[.string ⟨b_extra.toArray⟩, .int .i64 0, .slice Av5 (([] : List Bytes).map wS ++ [extra].map wN).length cv5, .bool false, .slice none 0 0] 25); have hn5 := World.news_of_block (cs := #[.string ⟨b_extra.toArray⟩, .int .i64 0, .slice Av5 (([] : List Bytes).map wS ++ [extra].map wN).length cv5, .bool false, .slice none 0 0]) (t := 25) (fr := (0, 0)) (heap_alloc_new w5 _); have h1c5 : ∀ u ∈ [Value.string ⟨b_extra.toArray⟩, .int .i64 0, .slice Av5 (([] : List Bytes).map wS ++ [extra].map wN).length cv5, .bool false, .slice none 0 0], u.oneCell' = true := (by simp [Value.oneCell']); have hbs5 : w.heap.size + 2 ≤ (w5.alloc (.cells #[.string ⟨b_extra.toArray⟩, .int .i64 0, .slice Av5 (([] : List Bytes).map wS ++ [extra].map wN).length cv5, .bool false, .slice none 0 0] 25)).heap.size := Nat.le_trans (hnd4.below hB5).2.2.2 (by simp))
            | (go_at_call 46; refine (HIT.out _).mono ?_; rintro e w3 ⟨v3, rfl, hw3, hb3⟩; obtain ⟨Av3, cv3, rfl, hcv3⟩ := own_form hw3; have hB3 := hb3; have ho3 := own_one (own_below HO.out hB3) (.cells #[.string ⟨b_periods.toArray⟩, .int .i64 0, .slice Av3 (([] : List Bytes).map wS ++ [p0, p1, p2].map wN).length cv3, .bool false, .slice none 0 0] 25); have hn3 := World.news_of_block (cs := #[.string ⟨b_periods.toArray⟩, .int .i64 0, .slice Av3 (([] : List Bytes).map wS ++ [p0, p1, p2].map wN).length cv3, .bool false, .slice none 0 0]) (t := 25) (fr := (0, 0)) (heap_alloc_new w3 _); have h1c3 : ∀ u ∈ [Value.string ⟨b_periods.toArray⟩, .int .i64 0, .slice Av3 (([] : List Bytes).map wS ++ [p0, p1, p2].map wN).length cv3, .bool false, .slice none 0 0], u.oneCell' = true := (by simp [Value.oneCell']); have hbs3 : w.heap.size + 2 ≤ (w3.alloc (.cells #[.string ⟨b_periods.toArray⟩, .int .i64 0, .slice Av3 (([] : List Bytes).map wS ++ [p0, p1, p2].map wN).length cv3, .bool false, .slice none 0 0] 25)).heap.size := Nat.le_trans (HND.out.below hB3).2.2.2 (by simp))
            | (at_builtin; have hq5 := hw5; refine wpList_append_lies _ (by rfl) _ _ _ (by rfl) (w.heap.size + 2) 25 j0 _ 5 80 Try.underlying23 hj0 hy0 hy1 hy2 rfl (by omega) (.slice (some ⟨g4, 0, none⟩) (L7.length + 1) cap4) ((L7 ++ [itemL b_periods [] [p0, p1, p2]]).length) (kcs4) (by rfl) ho5 ⟨w5.heap.size, 0, none⟩ 1 1 [.string ⟨b_extra.toArray⟩, .int .i64 0, .slice Av5 (([] : List Bytes).map wS ++ [extra].map wN).length cv5, .bool false, .slice none 0 0] (by rfl) (by rfl) hn5 h1c5 (by omega) (HLEN.out _).1 (HLEN.out _).2 hbs5 (w5.heap.size + 1) (by simp) ?_; intro g6 cap6 w6 hown6 hgrow6 hat6 hlt6; skip)
            | (at_builtin; refine wpList_append_lies _ (by rfl) _ _ _ (by rfl) (w.heap.size + 2) 25 j0 _ 5 80 Try.underlying23 hj0 hy0 hy1 hy2 rfl (by omega) (.slice A7 L7.length cp7) (L7.length) (kcs7) (by rfl) ho3 ⟨w3.heap.size, 0, none⟩ 1 1 [.string ⟨b_periods.toArray⟩, .int .i64 0, .slice Av3 (([] : List Bytes).map wS ++ [p0, p1, p2].map wN).length cv3, .bool false, .slice none 0 0] (by rfl) (by rfl) hn3 h1c3 (by omega) h63 hby hbs3 (w3.heap.size + 1) (by simp) ?_; intro g4 cap4 w4 hown4 hgrow4 hat4 hlt4; obtain ⟨hnd4, kcs4, ho4, hk4⟩ := push_item HND.out hB3 HO.out HK.out hw3 (Nat.le_refl _) hown4 hgrow4 hat4; have hc4 := HCB.out _ hnd4; have c410 := Joins.cell_of_block hc4 10; have lc4 := hc4.lt; clear hc4))
          go_meet
          simp only [if_true]
          rw [HX.out, ← List.append_assoc]
          have hp := push_item hnd4 hB5 ho4 hk4 hw5 (below_cal w4 _).size hown6 hgrow6 hat6
          rw [List.length_append, List.length_singleton] at hp
          exact hp
        · by_cases hs2 : shape = 2
          · subst hs2
            have HX := Lib.hid (HXS.out.symm.trans ((if_neg hs1).trans (if_pos rfl)))
            have HIT := Lib.hid (fun cc => item_nums b_periods [4] (Nat.le_of_ble_eq_true rfl) (w2.alloc (.cells #[.int .i64 4] 3)) (some ⟨w2.heap.size, 0, none⟩) cc (ints_at (off := 0) (l := [4]) (heap_alloc_new w2 _) (int1_ok 4)))
            unfold b_periods at HIT
            clear hc
            go_wp2_with (first
              | (go_at_call 46; have hq4 := hown4; refine (HITX.out (w4.alloc (.cells #[.int .i64 extra] 3)) (some ⟨w4.heap.size, 0, none⟩) _ (ints_at (off := 0) (l := [extra]) (heap_alloc_new w4 _) HCX.out)).mono ?_; rintro e w5 ⟨v5, rfl, hw5, hb5⟩; obtain ⟨Av5, cv5, rfl, hcv5⟩ := own_form hw5; have hB5 := (below_cal w4 (.cells #[.int .i64 extra] 3)).trans (hb5.mono (below_cal w4 (.cells #[.int .i64 extra] 3)).size); have ho5 := own_one (own_below ho4 hB5) (.cells #[.string ⟨b_extra.toArray⟩, .int .i64 0, .slice Av5 (([] : List Bytes).map wS ++ [extra].map wN).length cv5, .bool false, .slice none 0 0] 25); have hn5 := World.news_of_block (cs := #[.string ⟨b_extra.toArray⟩, .int .i64 0, .slice Av5 (([] : List Bytes).map wS ++ [extra].map wN).length cv5, .bool false, .slice none 0 0]) (t := 25) (fr := (0, 0)) (heap_alloc_new w5 _); have h1c5 : ∀ u ∈ [Value.string ⟨b_extra.toArray⟩, .int .i64 0, .slice Av5 (([] : List Bytes).map wS ++ [extra].map wN).length cv5, .bool false, .slice none 0 0], u.oneCell' = true := (by simp [Value.oneCell']); have hbs5 : w.heap.size + 2 ≤ (w5.alloc (.cells #[.string ⟨b_extra.toArray⟩, .int .i64 0, .slice Av5 (([] : List Bytes).map wS ++ [extra].map wN).length cv5, .bool false, .slice none 0 0] 25)).heap.size := Nat.le_trans (hnd4.below hB5).2.2.2 (by simp))
              | (go_at_call 46; refine (HIT.out _).mono ?_; rintro e w3 ⟨v3, rfl, hw3, hb3⟩; obtain ⟨Av3, cv3, rfl, hcv3⟩ := own_form hw3; have hB3 := (below_cal w2 (.cells #[.int .i64 4] 3)).trans (hb3.mono (below_cal w2 (.cells #[.int .i64 4] 3)).size); have ho3 := own_one (own_below HO.out hB3) (.cells #[.string ⟨b_periods.toArray⟩, .int .i64 0, .slice Av3 (([] : List Bytes).map wS ++ [(4 : Int)].map wN).length cv3, .bool false, .slice none 0 0] 25); have hn3 := World.news_of_block (cs := #[.string ⟨b_periods.toArray⟩, .int .i64 0, .slice Av3 (([] : List Bytes).map wS ++ [(4 : Int)].map wN).length cv3, .bool false, .slice none 0 0]) (t := 25) (fr := (0, 0)) (heap_alloc_new w3 _); have h1c3 : ∀ u ∈ [Value.string ⟨b_periods.toArray⟩, .int .i64 0, .slice Av3 (([] : List Bytes).map wS ++ [(4 : Int)].map wN).length cv3, .bool false, .slice none 0 0], u.oneCell' = true := (by simp [Value.oneCell']); have hbs3 : w.heap.size + 2 ≤ (w3.alloc (.cells #[.string ⟨b_periods.toArray⟩, .int .i64 0, .slice Av3 (([] : List Bytes).map wS ++ [(4 : Int)].map wN).length cv3, .bool false, .slice none 0 0] 25)).heap.size := Nat.le_trans (HND.out.below hB3).2.2.2 (by simp))
              | (at_builtin; have hq5 := hw5; refine wpList_append_lies _ (by rfl) _ _ _ (by rfl) (w.heap.size + 2) 25 j0 _ 5 80 Try.underlying23 hj0 hy0 hy1 hy2 rfl (by omega) (.slice (some ⟨g4, 0, none⟩) (L7.length + 1) cap4) ((L7 ++ [itemL b_periods [] [(4 : Int)]]).length) (kcs4) (by rfl) ho5 ⟨w5.heap.size, 0, none⟩ 1 1 [.string ⟨b_extra.toArray⟩, .int .i64 0, .slice Av5 (([] : List Bytes).map wS ++ [extra].map wN).length cv5, .bool false, .slice none 0 0] (by rfl) (by rfl) hn5 h1c5 (by omega) (HLEN.out _).1 (HLEN.out _).2 hbs5 (w5.heap.size + 1) (by simp) ?_; intro g6 cap6 w6 hown6 hgrow6 hat6 hlt6; skip)
              | (at_builtin; refine wpList_append_lies _ (by rfl) _ _ _ (by rfl) (w.heap.size + 2) 25 j0 _ 5 80 Try.underlying23 hj0 hy0 hy1 hy2 rfl (by omega) (.slice A7 L7.length cp7) (L7.length) (kcs7) (by rfl) ho3 ⟨w3.heap.size, 0, none⟩ 1 1 [.string ⟨b_periods.toArray⟩, .int .i64 0, .slice Av3 (([] : List Bytes).map wS ++ [(4 : Int)].map wN).length cv3, .bool false, .slice none 0 0] (by rfl) (by rfl) hn3 h1c3 (by omega) h63 hby hbs3 (w3.heap.size + 1) (by simp) ?_; intro g4 cap4 w4 hown4 hgrow4 hat4 hlt4; obtain ⟨hnd4, kcs4, ho4, hk4⟩ := push_item HND.out hB3 HO.out HK.out hw3 (below_cal w2 _).size hown4 hgrow4 hat4; have hc4 := HCB.out _ hnd4; have c410 := Joins.cell_of_block hc4 10; have lc4 := hc4.lt; clear hc4))
            go_meet
            simp only [if_true]
            rw [HX.out, ← List.append_assoc]
            have hp := push_item hnd4 hB5 ho4 hk4 hw5 (below_cal w4 _).size hown6 hgrow6 hat6
            rw [List.length_append, List.length_singleton] at hp
            exact hp
          · by_cases hs3 : shape = 3
            · subst hs3
              have HX := Lib.hid (HXS.out.symm.trans ((if_neg hs1).trans ((if_neg hs2).trans (if_pos rfl))))
              have c9 := Joins.cell_of_block hc 9
              have HIT := Lib.hid (fun cc => item_nums b_pay [cycle] (Nat.le_of_ble_eq_true rfl) (w2.alloc (.cells #[.int .i64 cycle] 3)) (some ⟨w2.heap.size, 0, none⟩) cc (ints_at (off := 0) (l := [cycle]) (heap_alloc_new w2 _) (int1_ok cycle)))
              unfold b_pay at HIT
              clear hc
              go_wp2_with (first
                | (go_at_call 46; have hq4 := hown4; refine (HITX.out (w4.alloc (.cells #[.int .i64 extra] 3)) (some ⟨w4.heap.size, 0, none⟩) _ (ints_at (off := 0) (l := [extra]) (heap_alloc_new w4 _) HCX.out)).mono ?_; rintro e w5 ⟨v5, rfl, hw5, hb5⟩; obtain ⟨Av5, cv5, rfl, hcv5⟩ := own_form hw5; have hB5 := (below_cal w4 (.cells #[.int .i64 extra] 3)).trans (hb5.mono (below_cal w4 (.cells #[.int .i64 extra] 3)).size); have ho5 := own_one (own_below ho4 hB5) (.cells #[.string ⟨b_extra.toArray⟩, .int .i64 0, .slice Av5 (([] : List Bytes).map wS ++ [extra].map wN).length cv5, .bool false, .slice none 0 0] 25); have hn5 := World.news_of_block (cs := #[.string ⟨b_extra.toArray⟩, .int .i64 0, .slice Av5 (([] : List Bytes).map wS ++ [extra].map wN).length cv5, .bool false, .slice none 0 0]) (t := 25) (fr := (0, 0)) (heap_alloc_new w5 _); have h1c5 : ∀ u ∈ [Value.string ⟨b_extra.toArray⟩, .int .i64 0, .slice Av5 (([] : List Bytes).map wS ++ [extra].map wN).length cv5, .bool false, .slice none 0 0], u.oneCell' = true := (by simp [Value.oneCell']); have hbs5 : w.heap.size + 2 ≤ (w5.alloc (.cells #[.string ⟨b_extra.toArray⟩, .int .i64 0, .slice Av5 (([] : List Bytes).map wS ++ [extra].map wN).length cv5, .bool false, .slice none 0 0] 25)).heap.size := Nat.le_trans (hnd4.below hB5).2.2.2 (by simp))
                | (go_at_call 46; refine (HIT.out _).mono ?_; rintro e w3 ⟨v3, rfl, hw3, hb3⟩; obtain ⟨Av3, cv3, rfl, hcv3⟩ := own_form hw3; have hB3 := (below_cal w2 (.cells #[.int .i64 cycle] 3)).trans (hb3.mono (below_cal w2 (.cells #[.int .i64 cycle] 3)).size); have ho3 := own_one (own_below HO.out hB3) (.cells #[.string ⟨b_pay.toArray⟩, .int .i64 0, .slice Av3 (([] : List Bytes).map wS ++ [cycle].map wN).length cv3, .bool false, .slice none 0 0] 25); have hn3 := World.news_of_block (cs := #[.string ⟨b_pay.toArray⟩, .int .i64 0, .slice Av3 (([] : List Bytes).map wS ++ [cycle].map wN).length cv3, .bool false, .slice none 0 0]) (t := 25) (fr := (0, 0)) (heap_alloc_new w3 _); have h1c3 : ∀ u ∈ [Value.string ⟨b_pay.toArray⟩, .int .i64 0, .slice Av3 (([] : List Bytes).map wS ++ [cycle].map wN).length cv3, .bool false, .slice none 0 0], u.oneCell' = true := (by simp [Value.oneCell']); have hbs3 : w.heap.size + 2 ≤ (w3.alloc (.cells #[.string ⟨b_pay.toArray⟩, .int .i64 0, .slice Av3 (([] : List Bytes).map wS ++ [cycle].map wN).length cv3, .bool false, .slice none 0 0] 25)).heap.size := Nat.le_trans (HND.out.below hB3).2.2.2 (by simp))
                | (at_builtin; have hq5 := hw5; refine wpList_append_lies _ (by rfl) _ _ _ (by rfl) (w.heap.size + 2) 25 j0 _ 5 80 Try.underlying23 hj0 hy0 hy1 hy2 rfl (by omega) (.slice (some ⟨g4, 0, none⟩) (L7.length + 1) cap4) ((L7 ++ [itemL b_pay [] [cycle]]).length) (kcs4) (by rfl) ho5 ⟨w5.heap.size, 0, none⟩ 1 1 [.string ⟨b_extra.toArray⟩, .int .i64 0, .slice Av5 (([] : List Bytes).map wS ++ [extra].map wN).length cv5, .bool false, .slice none 0 0] (by rfl) (by rfl) hn5 h1c5 (by omega) (HLEN.out _).1 (HLEN.out _).2 hbs5 (w5.heap.size + 1) (by simp) ?_; intro g6 cap6 w6 hown6 hgrow6 hat6 hlt6; skip)
                | (at_builtin; refine wpList_append_lies _ (by rfl) _ _ _ (by rfl) (w.heap.size + 2) 25 j0 _ 5 80 Try.underlying23 hj0 hy0 hy1 hy2 rfl (by omega) (.slice A7 L7.length cp7) (L7.length) (kcs7) (by rfl) ho3 ⟨w3.heap.size, 0, none⟩ 1 1 [.string ⟨b_pay.toArray⟩, .int .i64 0, .slice Av3 (([] : List Bytes).map wS ++ [cycle].map wN).length cv3, .bool false, .slice none 0 0] (by rfl) (by rfl) hn3 h1c3 (by omega) h63 hby hbs3 (w3.heap.size + 1) (by simp) ?_; intro g4 cap4 w4 hown4 hgrow4 hat4 hlt4; obtain ⟨hnd4, kcs4, ho4, hk4⟩ := push_item HND.out hB3 HO.out HK.out hw3 (below_cal w2 _).size hown4 hgrow4 hat4; have hc4 := HCB.out _ hnd4; have c410 := Joins.cell_of_block hc4 10; have lc4 := hc4.lt; clear hc4))
              go_meet
              simp only [if_true]
              rw [HX.out, ← List.append_assoc]
              have hp := push_item hnd4 hB5 ho4 hk4 hw5 (below_cal w4 _).size hown6 hgrow6 hat6
              rw [List.length_append, List.length_singleton] at hp
              exact hp
            · have HX := Lib.hid (HXS.out.symm.trans ((if_neg hs1).trans ((if_neg hs2).trans (if_neg hs3))))
              have k1 : (shape == 1) = false := beq_false_of_ne hs1
              have k2 : (shape == 2) = false := beq_false_of_ne hs2
              have k3 : (shape == 3) = false := beq_false_of_ne hs3
              have c10 := Joins.cell_of_block hc 10
              clear hc hs1 hs2 hs3
              go_wp2_with (first
                | (go_at_call 46; refine (HITX.out (w2.alloc (.cells #[.int .i64 extra] 3)) (some ⟨w2.heap.size, 0, none⟩) _ (ints_at (off := 0) (l := [extra]) (heap_alloc_new w2 _) HCX.out)).mono ?_; rintro e w3 ⟨v3, rfl, hw3, hb3⟩; obtain ⟨Av3, cv3, rfl, hcv3⟩ := own_form hw3; have hB3 := (below_cal w2 (.cells #[.int .i64 extra] 3)).trans (hb3.mono (below_cal w2 (.cells #[.int .i64 extra] 3)).size); have ho3 := own_one (own_below HO.out hB3) (.cells #[.string ⟨b_extra.toArray⟩, .int .i64 0, .slice Av3 (([] : List Bytes).map wS ++ [extra].map wN).length cv3, .bool false, .slice none 0 0] 25); have hn3 := World.news_of_block (cs := #[.string ⟨b_extra.toArray⟩, .int .i64 0, .slice Av3 (([] : List Bytes).map wS ++ [extra].map wN).length cv3, .bool false, .slice none 0 0]) (t := 25) (fr := (0, 0)) (heap_alloc_new w3 _); have h1c3 : ∀ u ∈ [Value.string ⟨b_extra.toArray⟩, .int .i64 0, .slice Av3 (([] : List Bytes).map wS ++ [extra].map wN).length cv3, .bool false, .slice none 0 0], u.oneCell' = true := (by simp [Value.oneCell']); have hbs3 : w.heap.size + 2 ≤ (w3.alloc (.cells #[.string ⟨b_extra.toArray⟩, .int .i64 0, .slice Av3 (([] : List Bytes).map wS ++ [extra].map wN).length cv3, .bool false, .slice none 0 0] 25)).heap.size := Nat.le_trans (HND.out.below hB3).2.2.2 (by simp))
                | (at_builtin; refine wpList_append_lies _ (by rfl) _ _ _ (by rfl) (w.heap.size + 2) 25 j0 _ 5 80 Try.underlying23 hj0 hy0 hy1 hy2 rfl (by omega) (.slice A7 L7.length cp7) (L7.length) (kcs7) (by rfl) ho3 ⟨w3.heap.size, 0, none⟩ 1 1 [.string ⟨b_extra.toArray⟩, .int .i64 0, .slice Av3 (([] : List Bytes).map wS ++ [extra].map wN).length cv3, .bool false, .slice none 0 0] (by rfl) (by rfl) hn3 h1c3 (by omega) h63 hby hbs3 (w3.heap.size + 1) (by simp) ?_; intro g4 cap4 w4 hown4 hgrow4 hat4 hlt4; skip))
              go_meet
              simp only [if_true]
              rw [HX.out, List.nil_append]
              exact push_item HND.out hB3 HO.out HK.out hw3 (below_cal w2 _).size hown4 hgrow4 hat4
    case rest =>
    clear HND HO HK HSTN HSTE
    obtain ⟨hnd, hos⟩ := hcut
    obtain ⟨L8, hL8⟩ : ∃ L, (L7 ++ if ste = true then XS ++ [itemL b_extra [] [extra]] else []) = L := ⟨_, rfl⟩
    rw [hL8] at hos
    have hl8 : L8.length ≤ 4 := by
      have hx : XS.length ≤ 1 := by
        rw [← HXS.out]
        split
        · exact Nat.le_refl 1
        · split
          · exact Nat.le_refl 1
          · split
            · exact Nat.le_refl 1
            · exact Nat.zero_le 1
      rw [← hL8, List.length_append]
      cases ste <;> simp <;> omega
    have HL8 := Lib.hid hL8
    clear hL8 hl7
    obtain ⟨kcs8, ho, hk⟩ := hos
    obtain ⟨A8, cp8, rfl, hcp8⟩ := own_form ho
    have HND := Lib.hid hnd
    have HO := Lib.hid ho
    have HK := Lib.hid hk
    clear hnd ho hk
    go_upto_region 21 with fail
    go_cut [6] (fun s6 wx => NdI c w wx ∧ OwnNodes wx (w.heap.size + 2) s6 (L8 ++ [itemL b_serve [] [first, last], itemL b_compare [pn] []]))
    case first =>
      have hc := HCB.out _ HND.out
      have lc := hc.lt
      have c11 := Joins.cell_of_block hc 11
      have c12 := Joins.cell_of_block hc 12
      have c13 := Joins.cell_of_block hc 13
      have h63 : L8.length + 2 ≤ maxLen := by unfold maxLen; omega
      have hby : (L8.length + 2) * 80 ≤ 140737488355328 := by omega
      have HX := Lib.hid HPN.out.1
      have HON := Lib.hid (fun (W : World) (g : Nat) (h : StrBlk W g pols) => h.one kp pn HX.out)
      clear HX
      have hw0 : IntKind.i64.wrap 0 = 0 := rfl
      have hw1 : IntKind.i64.wrap 1 = 1 := rfl
      have hw2 : IntKind.i64.wrap 2 = 2 := rfl
      have hw3' : IntKind.i64.wrap 3 = 3 := rfl
      have hwa : IntKind.i64.wrap (1 - 1) = 0 := rfl
      have hwb : IntKind.i64.wrap (2 - 1) = 1 := rfl
      have hwc' : IntKind.i64.wrap (3 - 1) = 2 := rfl
      have hwd : IntKind.i64.wrap (4 - 1) = 3 := rfl
      have HITS := Lib.hid (fun cc => (show Calls Try.prog 46 #[.string ⟨#[115, 101, 114, 118, 101]⟩, .slice none 0 0, .slice (some ⟨wc.heap.size, 0, none⟩) 2 cc] (wc.alloc (.cells #[.int .i64 first, .int .i64 last] 3)).drew (fun e w' => ∃ v, e = .returned (.agg #[.string ⟨#[115, 101, 114, 118, 101]⟩, .int .i64 0, v, .bool false, .slice none 0 0]) ∧ OwnWords w' (wc.alloc (.cells #[.int .i64 first, .int .i64 last] 3)).drew.heap.size v (([] : List Bytes).map wS ++ [first, last].map wN) ∧ Below (wc.alloc (.cells #[.int .i64 first, .int .i64 last] 3)).drew.heap.size (wc.alloc (.cells #[.int .i64 first, .int .i64 last] 3)).drew w') from item_nums b_serve [first, last] (Nat.le_of_ble_eq_true rfl) (wc.alloc (.cells #[.int .i64 first, .int .i64 last] 3)).drew (some ⟨wc.heap.size, 0, none⟩) cc (ints_at (off := 0) (l := [first, last]) (heap_alloc_new wc _) (ints2_ok first last))))
      have HITC := Lib.hid (fun W A cc h => item_strs b_compare pn W A cc h)
      unfold b_compare at HITC
      have TT := Lib.hid (fun (W : World) (g : Nat) (h : StrBlk W g pols) (cc : Nat) => HITC.out W _ cc (HON.out W g h))
      clear HITC HON
      have hbA := (below_cal wc (.cells #[.int .i64 first, .int .i64 last] 3)).drew
      have hkeep : ∀ W, Below wc.heap.size wc W → (∀ j, W.cell? ⟨w.heap.size, j, none⟩ = wc.cell? ⟨w.heap.size, j, none⟩) ∧ w.heap.size < W.heap.size := fun W hb => ⟨fun j => hb.cell (p := ⟨w.heap.size, j, none⟩) lc, Nat.lt_of_lt_of_le lc hb.size⟩
      have HKP := Lib.hid hkeep
      have hk0 := hkeep _ (Below.refl wc.heap.size wc).drew
      have hkA := hkeep _ hbA
      clear hkeep
      clear hc
      have hpc : (policy = 1 ∧ kp = 0) ∨ (policy = 2 ∧ kp = 1) ∨ (policy = 3 ∧ kp = 2) ∨ (policy = 4 ∧ kp = 3) := four_cases policy kp HKQ.out
      rcases hpc with ⟨rfl, rfl⟩ | ⟨rfl, rfl⟩ | ⟨rfl, rfl⟩ | ⟨rfl, rfl⟩ <;> (
      go_region_held3 (fun W => (∀ j, W.cell? ⟨w.heap.size, j, none⟩ = wc.cell? ⟨w.heap.size, j, none⟩) ∧ w.heap.size < W.heap.size)
        (first | (with_reducible exact hk0) | (with_reducible exact hkA) | (with_reducible exact hkS) | (with_reducible exact hkP) | (with_reducible exact hkC) | (with_reducible exact hkD) | (with_reducible exact hbF) | exact hkD | fail)
        (first
        | (go_at_call 46; have hq := HCMP; (with_reducible refine Calls.mono (HCMP.out _) ?_); rintro e w5 ⟨v5, rfl, hw5, hb5⟩; obtain ⟨Av5, cv5, rfl, hcv5⟩ := own_form hw5; have hB5 : Below w3.heap.size w3 w5 := hb4.trans (hb5.mono hb4.size); have hbC := hbS.trans (hB5.mono hbS.size); have hbD := below_alloc1 hbC (.cells #[.string ⟨b_serve.toArray⟩, .int .i64 0, .slice Av3 (([] : List Bytes).map wS ++ [first, last].map wN).length cv3, .bool false, .slice none 0 0, .string ⟨b_compare.toArray⟩, .int .i64 0, .slice Av5 ([pn].map wS ++ ([] : List Int).map wN).length cv5, .bool false, .slice none 0 0] 25); have hkC := HKP.out _ hbC; have hkD := HKP.out _ hbD; have ho5 := own_one (own_below HO.out hbC) (.cells #[.string ⟨b_serve.toArray⟩, .int .i64 0, .slice Av3 (([] : List Bytes).map wS ++ [first, last].map wN).length cv3, .bool false, .slice none 0 0, .string ⟨b_compare.toArray⟩, .int .i64 0, .slice Av5 ([pn].map wS ++ ([] : List Int).map wN).length cv5, .bool false, .slice none 0 0] 25); have hn5 := World.news_of_block (cs := #[.string ⟨b_serve.toArray⟩, .int .i64 0, .slice Av3 (([] : List Bytes).map wS ++ [first, last].map wN).length cv3, .bool false, .slice none 0 0, .string ⟨b_compare.toArray⟩, .int .i64 0, .slice Av5 ([pn].map wS ++ ([] : List Int).map wN).length cv5, .bool false, .slice none 0 0]) (t := 25) (fr := (0, 0)) (heap_alloc_new w5 _); have h1c5 : ∀ u ∈ [Value.string ⟨b_serve.toArray⟩, .int .i64 0, .slice Av3 (([] : List Bytes).map wS ++ [first, last].map wN).length cv3, .bool false, .slice none 0 0, .string ⟨b_compare.toArray⟩, .int .i64 0, .slice Av5 ([pn].map wS ++ ([] : List Int).map wN).length cv5, .bool false, .slice none 0 0], u.oneCell' = true := (by simp [Value.oneCell']); have hbs5 : w.heap.size + 2 ≤ (w5.alloc (.cells #[.string ⟨b_serve.toArray⟩, .int .i64 0, .slice Av3 (([] : List Bytes).map wS ++ [first, last].map wN).length cv3, .bool false, .slice none 0 0, .string ⟨b_compare.toArray⟩, .int .i64 0, .slice Av5 ([pn].map wS ++ ([] : List Int).map wN).length cv5, .bool false, .slice none 0 0] 25)).heap.size := Nat.le_trans (HND.out.below hbC).2.2.2 (by simp))
        | (go_at_call 46; go_loud (refine (HITS.out _).mono ?_); rintro e w3 ⟨v3, rfl, hw3, hb3⟩; obtain ⟨Av3, cv3, rfl, hcv3⟩ := own_form hw3; have hbS : Below wc.heap.size wc w3 := hbA.trans (hb3.mono hbA.size); have hkS := HKP.out _ hbS)
        | (go_at_call 47; (with_reducible refine Calls.mono (field_policies4 _) ?_); rintro e w4 ⟨rfl, hg4, hb4'⟩; have hb4 : Below w3.heap.size w3 w4 := ⟨hb4'.os, hb4'.tape, hb4'.output, hb4'.size, hb4'.block⟩; replace hg4 : StrBlk w4 w3.heap.size pols := hg4; have hbP := hbS.trans (hb4.mono hbS.size); have hkP := HKP.out _ hbP; have HCMP := Lib.hid (TT.out w4 w3.heap.size hg4))
        | (have hq5 := hn5; refine step_append_lies _ (by rfl) _ _ _ (by rfl) (w.heap.size + 2) 25 j0 _ 5 80 Try.underlying23 hj0 hy0 hy1 hy2 rfl (by decide) (.slice A8 L8.length cp8) L8.length kcs8 (by rfl) ho5 ⟨w5.heap.size, 0, none⟩ 2 2 [.string ⟨b_serve.toArray⟩, .int .i64 0, .slice Av3 (([] : List Bytes).map wS ++ [first, last].map wN).length cv3, .bool false, .slice none 0 0, .string ⟨b_compare.toArray⟩, .int .i64 0, .slice Av5 ([pn].map wS ++ ([] : List Int).map wN).length cv5, .bool false, .slice none 0 0] (by rfl) (by rfl) hn5 h1c5 (by decide) h63 hby hbs5 (w5.heap.size + 1) (by simp) ?_; intro g6 cap6 w6 hown6 hgrow6 hat6 hlt6; have hpp := push_two (nm3 := b_serve) (nm5 := b_compare) HND.out hbS hB5 HO.out HK.out hw3 hbA.size hw5 hbP.size hown6 hgrow6 hat6; have hbF : (∀ j, w6.cell? ⟨w.heap.size, j, none⟩ = wc.cell? ⟨w.heap.size, j, none⟩) ∧ w.heap.size < w6.heap.size := ⟨fun j => (Joins.cell_of_block (HCB.out _ hpp.1) j).trans (Joins.cell_of_block (HCB.out _ HND.out) j).symm, (HCB.out _ hpp.1).lt⟩)
        | fail)
      all_goals (
        go_wp2_with fail
        go_meet
        exact hpp))
    case rest =>
    clear HND HO HK HPN HKQ
    obtain ⟨hnd, hos⟩ := hcut
    have hall : L8 ++ [itemL b_serve [] [first, last], itemL b_compare [pn] []] = kidsC c := by
      rw [HCD.out]
      unfold kidsC endI namedI extraI serveI shapeC
      dsimp only
      rw [HLS.out, HPV.out, HSN.out, HSE.out, HXS.out, ← HL8.out, ← HL7.out, ← HL6.out]
    rw [hall] at hos
    obtain ⟨kcs9, ho, hk⟩ := hos
    obtain ⟨N, hN⟩ : ∃ N, (kidsC c).length = N := ⟨_, rfl⟩
    have hpos : 0 < (kidsC c).length := by rw [← hall]; simp
    rw [hN] at ho hpos
    obtain ⟨g9, cp9, rfl, hg9a, hg9b⟩ := own_head ho hpos
    have HOS := Lib.hid (And.intro ho hk)
    have HND := Lib.hid hnd
    have HNN := Lib.hid hN
    have hc := HCB.out _ HND.out
    have lc := hc.lt
    have c0 := Joins.cell_of_block hc 0
    have h2 := hnd.2.2.1
    have l2 := h2.lt
    have q0 := Joins.unfrozen_of_block h2 0
    have q1 := Joins.unfrozen_of_block h2 1
    have q2 := Joins.unfrozen_of_block h2 2
    have q3 := Joins.unfrozen_of_block h2 3
    have q4 := Joins.unfrozen_of_block h2 4
    have p0' := Joins.cell_of_block h2 0
    have p1' := Joins.cell_of_block h2 1
    have p2' := Joins.cell_of_block h2 2
    have p3' := Joins.cell_of_block h2 3
    have p4' := Joins.cell_of_block h2 4
    have HFIN := Lib.hid (node_fin (gr := w.heap.size + 1) (nm := nm) hnd.1 ho hk (by omega) hg9a l2 hN)
    clear hnd hc h2 ho hk hall hpos hN
    go_wp2_with fail
    refine bodyPost_ret (v := .tuple #[.agg #[.string ⟨b_calendar.toArray⟩, .int .i64 0, .slice (some ⟨wc.heap.size, 0, none⟩) 1 1, .bool true, .slice (some ⟨g9, 0, none⟩) N cp9], .int .i64 0]) (by simp [results, b_calendar, Try.results18, go_sem, *]) rfl ?_
    rw [← HQ.out]
    refine ⟨wc.heap.size, g9, cp9, ?_, HND.out.1.size, by omega, ?_⟩
    · rw [← HCD.out, HNN.out]
    · rw [← HCD.out, HNN.out]
      rw [show c.name = nm by rw [HCD.out]]
      exact HFIN.out _ _ _ _ _

end Go.Proofs.Ytmiejdbpogggeaa
end
