/- An argument that is a slice of tokens, opened. -/
import Derived.Test.YtmfaoglehopoiaaDoorClose2
import Derived.Test.YtmfaoglehopoiaaDoorReadToks
import Derived.Deep.Slices
import Derived.Deep.Fields
import Derived.ChangeSame
import Derived.DataShut
namespace Go.Proofs.YtmfaoglehopoiaaDoor
open Go.RowKit Go.WideShapes Go.ChangeShapes Go.WideElems Go.Deep

section
variable {H : Type} {enc : TypeId × Value → H} {P : Program} {w : World} {base : Nat} {spare : Nat → Bool} {held : Bool}
/-- (the kit's extra-structs.md, section 1) -/
theorem open_slice_fields {t e : TypeId} {fs : Array Field} {fuel : Nat} {cs : List Value} {x : DataW H × List MemPlace} (ht : P.underlying t = some (.slice e)) (he : P.underlying e = some (.struct fs))
    (hone : oneCellFields P fs = true) (hC : P.cellsOf e = fs.size) (h : DataW.trod enc P w base spare held fuel t cs = some x) :
    cs = [.slice none 0 0] ∨
    ∃ (a : Addr) (len cap : Nat), cs = [.slice (some a) len cap] ∧ len ≤ cap ∧ cap ≤ maxLen ∧
      ∀ i, i < len → ∀ (j : Nat) (f : Field), fs[j]? = some f → ∃ (v : Value) (y : DataW H × List MemPlace) (n : Nat), w.cell? (a.add (i * fs.size + j)) = some v ∧ DataW.trod enc P w base spare held n f.type [v] = some y := by
  rcases open_slice ht h with h0 | ⟨a, len, cap, m, n, D, Pl, hcs, hb, hl, hm, hmm, hx, hi⟩
  · exact .inl h0.1
  · refine .inr ⟨a, len, cap, hcs, hl, hm, fun i him j f hj => ?_⟩
    obtain ⟨cs', hc, ht'⟩ := hi i (by rw [hmm]; split <;> omega)
    rw [hC] at hc
    obtain ⟨ys, n', hn', hy, hlen, hyl, hf⟩ := DataW.trod_struct he ht'
    obtain ⟨_, hcl, hat⟩ := World.cells?_some hc
    obtain ⟨ho, hk⟩ := hone_of hone j f hj
    have hjl : j < fs.size := (Array.getElem?_eq_some_iff.1 hj).1
    have hcell := hat j hjl
    have hv : cs'[j]? = some (cs'[j]'(by omega)) := List.getElem?_eq_getElem (by omega)
    have h1 := hf j f hj
    rw [ho, hk] at h1
    have hone' : (cs'.drop j).take 1 = [cs'[j]'(by omega)] := by
      rw [List.drop_eq_getElem_cons (by omega)]
      rfl
    rw [hone'] at h1
    have hys : ys[j]? = some (ys[j]'(by omega)) := List.getElem?_eq_getElem (by omega)
    refine ⟨_, _, n', ?_, h1.trans hys⟩
    rw [← Go.Deep.add_add, hcell, hv]
end

theorem exists_list {α : Type} (n : Nat) (p : Nat → α → Prop) (h : ∀ i, i < n → ∃ a, p i a) : ∃ l : List α, l.length = n ∧ ∀ i a, l[i]? = some a → p i a := by
  induction n with
  | zero => exact ⟨[], rfl, fun i a h => by simp at h⟩
  | succ n ih =>
    obtain ⟨l, hl, hp⟩ := ih fun i hi => h i (by omega)
    obtain ⟨a, ha⟩ := h n (by omega)
    refine ⟨l ++ [a], by simp [hl], fun i b hb => ?_⟩
    by_cases hi : i < l.length
    · rw [List.getElem?_append_left hi] at hb
      exact hp i b hb
    · rw [List.getElem?_append_right (by omega)] at hb
      have h0 : i - l.length = 0 := by
        have := (List.getElem?_eq_some_iff.1 hb).1
        simp at this
        omega
      rw [h0] at hb
      simp at hb
      subst hb
      rw [show i = n by omega]
      exact ha

theorem flat_len (l : List Tok) : (l.flatMap Tok.cells).length = l.length * 4 := by
  induction l with
  | nil => rfl
  | cons t l ih => rw [List.flatMap_cons, List.length_append, ih, List.length_cons]; simp [Tok.cells]; omega

def I64 (n : Int) : Prop := -9223372036854775808 ≤ n ∧ n ≤ 9223372036854775807
theorem i64_of_wf {n : Int} (h : (Lit.int .i64 n).wf = true) : I64 n := by
  have := (Lit.wf_int_iff .i64 n).1 h
  simpa [I64, IntKind.min, IntKind.max, IntKind.signed, IntKind.bits] using this

def TokFits (t : Tok) : Prop := I64 t.kind ∧ I64 t.pos ∧ I64 t.n ∧ t.s.length ≤ maxLen

theorem open_toks {H : Type} {enc : TypeId × Value → H} {w : World} {r : Reach} {b0 base : Nat} {spare : Nat → Bool} {held : Bool} {v : Value} {d : DataW H} {ps : List MemPlace}
    (hval : Value.okWide Tryd.prog w r b0 22 v) (hd : DataW.Trod enc Tryd.prog w base spare held 22 v d ps) :
    ∃ (A : Option Addr) (c : Nat) (l : List Tok), v = .slice A l.length c ∧ Reads w w.heap.size 4 A l.length (l.flatMap Tok.cells) ∧ l.length ≤ maxLen ∧ ∀ t ∈ l, TokFits t := by
  obtain ⟨A, n, c, rfl⟩ := okWide_slice Tryd.underlying22 hval
  obtain ⟨fuel, hf⟩ := hd
  rcases open_slice_fields Tryd.underlying22 Tryd.underlying33 (by kernel_rfl) (by kernel_rfl) hf with h0 | ⟨a, len, cap, hcs, hl, hm, hi⟩
  · simp [Value.cells] at h0
    obtain ⟨rfl, rfl, rfl⟩ := h0
    exact ⟨none, 0, [], rfl, Reads.none_, by simp, by simp⟩
  · simp [Value.cells] at hcs
    obtain ⟨rfl, rfl, rfl⟩ := hcs
    obtain ⟨l, hlen, hp⟩ := exists_list n (fun i t => TokFits t ∧ w.cell? (a.add (i * 4)) = some (.int .i64 t.kind) ∧ w.cell? (a.add (i * 4 + 1)) = some (.int .i64 t.pos) ∧ w.cell? (a.add (i * 4 + 2)) = some (.int .i64 t.n) ∧ w.cell? (a.add (i * 4 + 3)) = some (.string ⟨t.s.toArray⟩)) (fun i him => by
      obtain ⟨v0, y0, n0, c0, t0⟩ := hi i him 0 _ rfl
      obtain ⟨v1, y1, n1, c1, t1⟩ := hi i him 1 _ rfl
      obtain ⟨v2, y2, n2, c2, t2⟩ := hi i him 2 _ rfl
      obtain ⟨v3, y3, n3, c3, t3⟩ := hi i him 3 _ rfl
      obtain ⟨k0, h0, _, w0⟩ := DataW.trod_int (k := .i64) Tryd.underlying3 t0
      obtain ⟨k1, h1, _, w1⟩ := DataW.trod_int (k := .i64) Tryd.underlying3 t1
      obtain ⟨k2, h2, _, w2⟩ := DataW.trod_int (k := .i64) Tryd.underlying3 t2
      obtain ⟨k3, h3, _, w3⟩ := DataW.trod_string Tryd.underlying9 t3
      simp only [List.cons.injEq, and_true] at h0 h1 h2 h3
      subst h0 h1 h2 h3
      exact ⟨⟨k0, k1, k2, k3.data.toList⟩, ⟨i64_of_wf w0, i64_of_wf w1, i64_of_wf w2, by rw [ba_len]; exact w3⟩, c0, c1, c2, by simpa using c3⟩)
    subst hlen
    refine ⟨some a, c, l, rfl, ⟨flat_len l, fun h0 => ⟨a, rfl, ?_, fun j u hj => ?_⟩⟩, by omega, fun t ht => ?_⟩
    · have h1 := (hp 0 _ (List.getElem?_eq_getElem h0)).2.1
      rw [Nat.zero_mul] at h1
      have hb := block_of_add a 0
      rcases Nat.lt_or_ge a.block w.heap.size with hlt | hge
      · exact hlt
      · exfalso
        unfold World.cell? at h1
        rw [hb, Array.getElem?_eq_none hge] at h1
        simp at h1
    · have hj4 : j < l.length * 4 := by
        have := (List.getElem?_eq_some_iff.1 hj).1
        rwa [flat_len] at this
      have hi4 : j / 4 < l.length := by omega
      have hg := flat_get l (j / 4) _ (List.getElem?_eq_getElem hi4) (j % 4) (by omega)
      rw [show j / 4 * 4 + j % 4 = j by omega, hj] at hg
      obtain ⟨_, q0, q1, q2, q3⟩ := hp (j / 4) _ (List.getElem?_eq_getElem hi4)
      have hm4 : j % 4 = 0 ∨ j % 4 = 1 ∨ j % 4 = 2 ∨ j % 4 = 3 := by omega
      rcases hm4 with h4 | h4 | h4 | h4
      · rw [h4] at hg; simp [Tok.cells] at hg; rw [show j = j / 4 * 4 by omega, hg]; exact q0
      · rw [h4] at hg; simp [Tok.cells] at hg; rw [show j = j / 4 * 4 + 1 by omega, hg]; exact q1
      · rw [h4] at hg; simp [Tok.cells] at hg; rw [show j = j / 4 * 4 + 2 by omega, hg]; exact q2
      · rw [h4] at hg; simp [Tok.cells] at hg; rw [show j = j / 4 * 4 + 3 by omega, hg]; exact q3
    · obtain ⟨i, hi, rfl⟩ := List.mem_iff_getElem.1 ht
      exact (hp i _ (List.getElem?_eq_getElem hi)).1

end Go.Proofs.YtmfaoglehopoiaaDoor
