/- An argument that is a slice of items, opened. -/
import Derived.Test.YtaffbnjdlgcaiaaDoorClose2
import Derived.Test.YtaffbnjdlgcaiaaDoorTreeG1
import Derived.Deep.Slices
import Derived.Deep.Fields
import Derived.ChangeSame
import Derived.DataShut
set_option maxRecDepth 100000
namespace Go.Proofs.YtaffbnjdlgcaiaaDoor
open Go.RowKit Go.WideShapes Go.ChangeShapes Go.WideElems Go.Deep

section
variable {H : Type} {enc : TypeId × Value → H} {P : Program} {w : World} {base : Nat} {spare : Nat → Bool} {held : Bool}
/-- A slice of structs whose fields are one cell each, opened; each field is read with less fuel. -/
theorem open_slice_less {t e : TypeId} {fs : Array Field} {fuel : Nat} {cs : List Value} {x : DataW H × List MemPlace} (ht : P.underlying t = some (.slice e)) (he : P.underlying e = some (.struct fs))
    (hone : oneCellFields P fs = true) (hC : P.cellsOf e = fs.size) (h : DataW.trod enc P w base spare held fuel t cs = some x) :
    cs = [.slice none 0 0] ∨
    ∃ (a : Addr) (len cap : Nat), cs = [.slice (some a) len cap] ∧ len ≤ cap ∧ cap ≤ maxLen ∧
      ∀ i, i < len → ∀ (j : Nat) (f : Field), fs[j]? = some f → ∃ (v : Value) (y : DataW H × List MemPlace) (n : Nat), n < fuel ∧ w.cell? (a.add (i * fs.size + j)) = some v ∧ DataW.trod enc P w base spare held n f.type [v] = some y := by
  rcases DataW.trod_slice ht h with h0 | ⟨a, len, cap, elems, rest, n, hfu, hcs, hx, hb, hl, hm, hlen, hel, _, _⟩
  · exact .inl h0.1
  · refine .inr ⟨a, len, cap, hcs, hl, hm, fun i him j f hj => ?_⟩
    have hi := hel i him
    rw [List.getElem?_eq_getElem (by omega)] at hi
    obtain ⟨cs', hc, ht'⟩ := Option.bind_eq_some_iff.1 hi
    rw [hC] at hc
    obtain ⟨ys, n', hn', hy, hlen', hyl, hf⟩ := DataW.trod_struct he ht'
    obtain ⟨_, hcl, hat⟩ := World.cells?_some hc
    obtain ⟨ho, hk⟩ := hone_of hone j f hj
    have hjl : j < fs.size := (Array.getElem?_eq_some_iff.1 hj).1
    have hcell := hat j hjl
    have hv : cs'[j]? = some (cs'[j]'(by omega)) := List.getElem?_eq_getElem (by omega)
    have h1 := hf j f hj
    rw [ho, hk] at h1
    have hone' : (cs'.drop j).take 1 = [cs'[j]'(by omega)] := by
      rw [List.drop_eq_getElem_cons (by omega)]
      rfl
    rw [hone'] at h1
    have hys : ys[j]? = some (ys[j]'(by omega)) := List.getElem?_eq_getElem (by omega)
    refine ⟨_, _, n', by omega, ?_, h1.trans hys⟩
    rw [← Go.Deep.add_add, hcell, hv]
end

theorem exists_list {α : Type} (n : Nat) (p : Nat → α → Prop) (h : ∀ i, i < n → ∃ a, p i a) : ∃ l : List α, l.length = n ∧ ∀ i a, l[i]? = some a → p i a := by
  induction n with
  | zero => exact ⟨[], rfl, fun i a h => by simp at h⟩
  | succ n ih =>
    obtain ⟨l, hl, hp⟩ := ih fun i hi => h i (by omega)
    obtain ⟨a, ha⟩ := h n (by omega)
    refine ⟨l ++ [a], by simp [hl], fun i b hb => ?_⟩
    by_cases hi : i < l.length
    · rw [List.getElem?_append_left hi] at hb
      exact hp i b hb
    · rw [List.getElem?_append_right (by omega)] at hb
      have h0 : i - l.length = 0 := by
        have := (List.getElem?_eq_some_iff.1 hb).1
        simp at this
        omega
      rw [h0] at hb
      simp at hb
      subst hb
      rw [show i = n by omega]
      exact ha

theorem cell_lt {w : World} {p : Addr} {v : Value} (h : w.cell? p = some v) : p.block < w.heap.size := by
  rcases Nat.lt_or_ge p.block w.heap.size with hlt | hge
  · exact hlt
  · exfalso
    unfold World.cell? at h
    rw [Array.getElem?_eq_none hge] at h
    simp at h

theorem open_words {H : Type} {enc : TypeId × Value → H} {w : World} {base : Nat} {spare : Nat → Bool} {held : Bool} {fuel : Nat} {cs : List Value} {x : DataW H × List MemPlace}
    (h : DataW.trod enc Tryd.prog w base spare held fuel 36 cs = some x) :
    ∃ (A : Option Addr) (c : Nat) (l : List WordL), cs = [.slice A l.length c] ∧ NilOk A c ∧ ReadsM w (· < w.heap.size) 4 A l.length (l.flatMap WordL.cells) ∧ l.length ≤ maxLen ∧ ∀ t ∈ l, t.s.length ≤ maxLen := by
  rcases open_slice_less Tryd.underlying36 Tryd.underlying75 (by kernel_rfl) (by kernel_rfl) h with rfl | ⟨a, len, cap, rfl, hl, hm, hi⟩
  · exact ⟨none, 0, [], rfl, fun _ => rfl, ReadsM.nil _ _ _ _, by simp, by simp⟩
  · obtain ⟨l, hlen, hp⟩ := exists_list len (fun (i : Nat) (t : WordL) => t.s.length ≤ maxLen ∧ w.cell? (a.add (i * 4)) = some (.bool t.num) ∧ w.cell? (a.add (i * 4 + 1)) = some (.int .i64 t.n) ∧ w.cell? (a.add (i * 4 + 2)) = some (.string ⟨t.s.toArray⟩) ∧ w.cell? (a.add (i * 4 + 3)) = some (.int .i64 t.pos)) (fun i him => by
      obtain ⟨v0, y0, n0, _, c0, t0⟩ := hi i him 0 _ rfl
      obtain ⟨v1, y1, n1, _, c1, t1⟩ := hi i him 1 _ rfl
      obtain ⟨v2, y2, n2, _, c2, t2⟩ := hi i him 2 _ rfl
      obtain ⟨v3, y3, n3, _, c3, t3⟩ := hi i him 3 _ rfl
      obtain ⟨k0, h0, _⟩ := DataW.trod_bool Tryd.underlying4 t0
      obtain ⟨k1, h1, _, w1⟩ := DataW.trod_int (k := .i64) Tryd.underlying3 t1
      obtain ⟨k2, h2, _, w2⟩ := DataW.trod_string Tryd.underlying9 t2
      obtain ⟨k3, h3, _, w3⟩ := DataW.trod_int (k := .i64) Tryd.underlying3 t3
      simp only [List.cons.injEq, and_true] at h0 h1 h2 h3
      subst h0 h1 h2 h3
      exact ⟨⟨k0, k1, k2.data.toList, k3⟩, by rw [ba_len]; exact w2, c0, c1, by simpa using c2, c3⟩)
    subst hlen
    refine ⟨some a, cap, l, rfl, fun h => by simp at h, ⟨wcells_length l, fun h0 => ⟨a, rfl, ?_, fun j u hj => ?_⟩⟩, by omega, fun t ht => ?_⟩
    · have h1 := (hp 0 _ (List.getElem?_eq_getElem h0)).2.1
      have := cell_lt h1
      rwa [block_of_add] at this
    · have hj4 : j < l.length * 4 := by
        have := (List.getElem?_eq_some_iff.1 hj).1
        rwa [wcells_length] at this
      have hi4 : j / 4 < l.length := by omega
      have hg := wflat_get l (j / 4) _ (List.getElem?_eq_getElem hi4) (j % 4) (by omega)
      rw [show j / 4 * 4 + j % 4 = j by omega, hj] at hg
      obtain ⟨_, q0, q1, q2, q3⟩ := hp (j / 4) _ (List.getElem?_eq_getElem hi4)
      have hm4 : j % 4 = 0 ∨ j % 4 = 1 ∨ j % 4 = 2 ∨ j % 4 = 3 := by omega
      rcases hm4 with h4 | h4 | h4 | h4
      · rw [h4] at hg; simp [WordL.cells] at hg; rw [show j = j / 4 * 4 by omega, hg]; exact q0
      · rw [h4] at hg; simp [WordL.cells] at hg; rw [show j = j / 4 * 4 + 1 by omega, hg]; exact q1
      · rw [h4] at hg; simp [WordL.cells] at hg; rw [show j = j / 4 * 4 + 2 by omega, hg]; exact q2
      · rw [h4] at hg; simp [WordL.cells] at hg; rw [show j = j / 4 * 4 + 3 by omega, hg]; exact q3
    · obtain ⟨i, hi, rfl⟩ := List.mem_iff_getElem.1 ht
      exact (hp i _ (List.getElem?_eq_getElem hi)).1

/-- Five cells from an address on. -/
def At5 (w : World) (a : Addr) (i : Nat) (cs : List Value) : Prop := cs.length = 5 ∧ ∀ j u, cs[j]? = some u → w.cell? (a.add (i * 5 + j)) = some u
theorem nodes_ok {w : World} {M : Nat → Prop} {a : Addr} : ∀ (l : List NodeL) (i : Nat), (∀ (j : Nat) (n : NodeL), l[j]? = some n → ∃ cs, At5 w a (i + j) cs ∧ NodeOk w M n cs) →
    ∃ kcs, kcs.length = l.length * 5 ∧ (∀ j u, kcs[j]? = some u → w.cell? (a.add (i * 5 + j)) = some u) ∧ NodesOk w M l kcs
  | [], i, _ => ⟨[], rfl, fun j u h => by simp at h, by simp only [NodesOk]⟩
  | n :: r, i, h => by
    obtain ⟨cs, ⟨h1, h2⟩, h3⟩ := h 0 n rfl
    obtain ⟨kcs, k1, k2, k3⟩ := nodes_ok r (i + 1) (fun j m hj => by
      have := h (j + 1) m (by simpa using hj)
      rwa [show i + (j + 1) = i + 1 + j by omega] at this)
    refine ⟨cs ++ kcs, by rw [List.length_append, h1, k1, List.length_cons]; omega, fun j u hj => ?_, by simp only [NodesOk]; exact ⟨cs, kcs, rfl, h3, k3⟩⟩
    by_cases hj5 : j < 5
    · rw [List.getElem?_append_left (by omega)] at hj
      simpa using h2 j u hj
    · rw [List.getElem?_append_right (by omega), h1] at hj
      have := k2 (j - 5) u hj
      rwa [show (i + 1) * 5 + (j - 5) = i * 5 + j by omega] at this
theorem fitNs_of : ∀ (l : List NodeL), (∀ (j : Nat) (n : NodeL), l[j]? = some n → fitN n) → fitNs l
  | [], _ => trivial
  | n :: r, h => ⟨h 0 n rfl, fitNs_of r fun j m hj => h (j + 1) m (by simpa using hj)⟩

theorem open_nodes_fuel {H : Type} {enc : TypeId × Value → H} {w : World} {base : Nat} {spare : Nat → Bool} {held : Bool} : ∀ (N fuel : Nat), fuel < N → ∀ {cs : List Value} {x : DataW H × List MemPlace},
    DataW.trod enc Tryd.prog w base spare held fuel 22 cs = some x →
    ∃ (A : Option Addr) (c : Nat) (l : List NodeL), cs = [.slice A l.length c] ∧ NilOk A c ∧ ROk w w.heap.size A l ∧ l.length ≤ maxLen ∧ fitNs l
  | 0, fuel, hf, _, _, _ => by omega
  | N + 1, fuel, hf, cs, x, h => by
    rcases open_slice_less Tryd.underlying22 Tryd.underlying38 (by kernel_rfl) (by kernel_rfl) h with rfl | ⟨a, len, cap, rfl, hl, hm, hi⟩
    · exact ⟨none, 0, [], rfl, fun _ => rfl, ⟨[], ReadsM.nil _ _ _ _, by simp only [NodesOk]⟩, by simp, trivial⟩
    · obtain ⟨l, hlen, hp⟩ := exists_list len (fun (i : Nat) (n : NodeL) => fitN n ∧ ∃ cs, At5 w a i cs ∧ NodeOk w (· < w.heap.size) n cs) (fun i him => by
        obtain ⟨v0, y0, n0, _, c0, t0⟩ := hi i him 0 _ rfl
        obtain ⟨v1, y1, n1, _, c1, t1⟩ := hi i him 1 _ rfl
        obtain ⟨v2, y2, n2, _, c2, t2⟩ := hi i him 2 _ rfl
        obtain ⟨v3, y3, n3, _, c3, t3⟩ := hi i him 3 _ rfl
        obtain ⟨v4, y4, n4, l4, c4, t4⟩ := hi i him 4 _ rfl
        obtain ⟨k0, h0, _, w0⟩ := DataW.trod_string Tryd.underlying9 t0
        obtain ⟨k1, h1, _, w1⟩ := DataW.trod_int (k := .i64) Tryd.underlying3 t1
        obtain ⟨Aw, cw, ws, h2, g1, g2, g3, g4⟩ := open_words t2
        obtain ⟨k3, h3, _⟩ := DataW.trod_bool Tryd.underlying4 t3
        obtain ⟨Ak, ck, ks, h4, g5, ⟨kcs, g6, g7⟩, g8, g9⟩ := open_nodes_fuel N n4 (by omega) t4
        simp only [List.cons.injEq, and_true] at h0 h1 h2 h3 h4
        subst h0 h1 h2 h3 h4
        refine ⟨.mk k0.data.toList k1 ws k3 ks, ⟨by rw [ba_len]; exact w0, g3, g4, g8, g9⟩, [.string k0, .int .i64 k1, .slice Aw ws.length cw, .bool k3, .slice Ak ks.length ck], ⟨rfl, fun j u hj => ?_⟩, ?_⟩
        · have hj5 : j < 5 := (List.getElem?_eq_some_iff.1 hj).1
          have hm5 : j = 0 ∨ j = 1 ∨ j = 2 ∨ j = 3 ∨ j = 4 := by omega
          rcases hm5 with rfl | rfl | rfl | rfl | rfl <;> (simp only [List.getElem?_cons_zero, List.getElem?_cons_succ, Option.some.injEq] at hj; subst hj; assumption)
        · simp only [NodeOk]
          exact ⟨Aw, cw, Ak, ck, kcs, by simp, g1, g5, g2, g6, g7⟩)
      subst hlen
      obtain ⟨kcs, k1, k2, k3⟩ := nodes_ok l 0 (fun j n hj => by
        have := (hp j n hj).2
        rwa [Nat.zero_add])
      refine ⟨some a, cap, l, rfl, fun h => by simp at h, ⟨kcs, ⟨k1, fun h0 => ⟨a, rfl, ?_, fun j u hj => by simpa using k2 j u hj⟩⟩, k3⟩, by omega, fitNs_of l fun j n hj => (hp j n hj).1⟩
      have hk0 : 0 < kcs.length := by omega
      have := cell_lt (k2 0 _ (List.getElem?_eq_getElem hk0))
      rwa [block_of_add] at this

theorem open_nodes {H : Type} {enc : TypeId × Value → H} {w : World} {base : Nat} {spare : Nat → Bool} {held : Bool} {v : Value} {d : DataW H} {ps : List MemPlace} {r : Reach} {b0 : Nat}
    (hval : Value.okWide Tryd.prog w r b0 22 v) (hd : DataW.Trod enc Tryd.prog w base spare held 22 v d ps) :
    ∃ (A : Option Addr) (c : Nat) (l : List NodeL), v = .slice A l.length c ∧ NilOk A c ∧ ROk w w.heap.size A l ∧ l.length ≤ maxLen ∧ fitNs l := by
  obtain ⟨A, n, c, rfl⟩ := okWide_slice Tryd.underlying22 hval
  obtain ⟨fuel, hf⟩ := hd
  obtain ⟨A', c', l, h1, h2⟩ := open_nodes_fuel (fuel + 1) fuel (by omega) hf
  simp only [Value.cells] at h1
  refine ⟨A', c', l, ?_, h2⟩
  simpa using h1

end Go.Proofs.YtaffbnjdlgcaiaaDoor
