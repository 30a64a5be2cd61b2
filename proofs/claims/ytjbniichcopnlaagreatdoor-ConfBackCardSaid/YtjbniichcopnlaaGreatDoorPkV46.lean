import Derived.Test.YtjbniichcopnlaaGreatDoorPkV45
import Derived.Test.YtjbniichcopnlaaGreatDoorPkV6
import Derived.Laws.IdiomArrays
import Derived.Test.YtjbniichcopnlaaGreatDoorPkV42
section
/- Arguments that are an item, a calendar, opened. -/
set_option maxRecDepth 100000
namespace Go.Proofs.YtjbniichcopnlaaGreatDoor
open Go.RowKit Go.WideShapes Go.ChangeShapes Go.WideElems Go.Deep

theorem cells_string : Tryz.prog.cellsOf 9 = 1 := by kernel_rfl
theorem cells_bool : Tryz.prog.cellsOf 4 = 1 := by kernel_rfl
theorem cells_pat : Tryz.prog.cellsOf 35 = 3 := by kernel_rfl
theorem cells_words : Tryz.prog.cellsOf 42 = 1 := by kernel_rfl
theorem cells_nodes : Tryz.prog.cellsOf 41 = 1 := by kernel_rfl

theorem arr5 {α : Type} (cs : Array α) (h : cs.size = 5) : ∃ a b c d e, cs = #[a, b, c, d, e] := by
  obtain ⟨l⟩ := cs
  match l, h with
  | [a, b, c, d, e], _ => exact ⟨a, b, c, d, e, rfl⟩
theorem arr14 {α : Type} (cs : Array α) (h : cs.size = 14) : ∃ a b c d e f g i j k l m n o, cs = #[a, b, c, d, e, f, g, i, j, k, l, m, n, o] := by
  obtain ⟨x⟩ := cs
  match x, h with
  | [a, b, c, d, e, f, g, i, j, k, l, m, n, o], _ => exact ⟨a, b, c, d, e, f, g, i, j, k, l, m, n, o, rfl⟩

theorem open_node {H : Type} {enc : TypeId × Value → H} {w : World} {base : Nat} {spare : Nat → Bool} {held : Bool} {v : Value} {d : DataW H} {ps : List MemPlace} {r : Reach} {b0 : Nat}
    (hval : Value.okWide Tryz.prog w r b0 44 v) (hd : DataW.Trod enc Tryz.prog w base spare held 44 v d ps) :
    ∃ (cs : List Value) (n : NodeL), v = .agg cs.toArray ∧ NodeOk w (· < w.heap.size) n cs ∧ fitN n := by
  obtain ⟨cs, rfl, hsz⟩ := okWide_struct Tryz.underlying44 hval
  obtain ⟨c0, c1, c2, c3, c4, rfl⟩ := arr5 cs (hsz.trans (by kernel_rfl))
  obtain ⟨fuel, hf⟩ := hd
  obtain ⟨xs, n, _, _, _, hlen, hfs⟩ := DataW.trod_struct Tryz.underlying44 hf
  have hlen' : xs.length = 5 := hlen
  have t0 := hfs 0 _ rfl
  have t1 := hfs 1 _ rfl
  have t2 := hfs 2 _ rfl
  have t3 := hfs 3 _ rfl
  have t4 := hfs 4 _ rfl
  rw [List.getElem?_eq_getElem (by omega)] at t0 t1 t2 t3 t4
  simp only [List.getElem_toArray, List.getElem_cons_zero, List.getElem_cons_succ] at t0 t1 t2 t3 t4
  rw [cells_string] at t0
  rw [cells_int] at t1
  rw [cells_words] at t2
  rw [cells_bool] at t3
  rw [cells_nodes] at t4
  obtain ⟨k0, h0, _, w0⟩ := DataW.trod_string Tryz.underlying9 t0
  obtain ⟨k1, h1, _, w1⟩ := DataW.trod_int (k := .i64) Tryz.underlying3 t1
  obtain ⟨Aw, cw, ws, h2, g1, g2, g3, g4⟩ := open_words t2
  obtain ⟨k3, h3, _⟩ := DataW.trod_bool Tryz.underlying4 t3
  obtain ⟨Ak, ck, ks, h4, g5, ⟨kcs, g6, g7⟩, g8, g9⟩ := open_nodes_fuel (n + 1) n (by omega) t4
  simp [Value.cells] at h0 h1 h2 h3 h4
  subst h0 h1 h2 h3 h4
  refine ⟨[.string k0, .int .i64 k1, .slice Aw ws.length cw, .bool k3, .slice Ak ks.length ck], .mk k0.data.toList k1 ws k3 ks, rfl, ?_, ⟨by rw [ba_len]; exact w0, g3, g4, g8, g9⟩⟩
  simp only [NodeOk]
  exact ⟨Aw, cw, Ak, ck, kcs, by simp, g1, g5, g2, g6, g7⟩

theorem open_cal {H : Type} {enc : TypeId × Value → H} {w : World} {base : Nat} {spare : Nat → Bool} {held : Bool} {v : Value} {d : DataW H} {ps : List MemPlace} {r : Reach} {b0 : Nat}
    (hval : Value.okWide Tryz.prog w r b0 37 v) (hd : DataW.Trod enc Tryz.prog w base spare held 37 v d ps) :
    ∃ c : CalL, v = calV c ∧ c.name.length ≤ maxLen := by
  obtain ⟨cs, rfl, hsz⟩ := okWide_struct Tryz.underlying37 hval
  obtain ⟨c0, c1, c2, c3, c4, c5, c6, c7, c8, c9, c10, c11, c12, c13, rfl⟩ := arr14 cs (hsz.trans (by kernel_rfl))
  obtain ⟨fuel, hf⟩ := hd
  obtain ⟨xs, n, _, _, _, hlen, hfs⟩ := DataW.trod_struct Tryz.underlying37 hf
  have hlen' : xs.length = 12 := hlen
  have t0 := hfs 0 _ rfl
  have t1 := hfs 1 _ rfl
  have t2 := hfs 2 _ rfl
  have t3 := hfs 3 _ rfl
  have t4 := hfs 4 _ rfl
  have t5 := hfs 5 _ rfl
  have t6 := hfs 6 _ rfl
  have t7 := hfs 7 _ rfl
  have t8 := hfs 8 _ rfl
  have t9 := hfs 9 _ rfl
  have t10 := hfs 10 _ rfl
  have t11 := hfs 11 _ rfl
  rw [List.getElem?_eq_getElem (by omega)] at t0 t1 t2 t3 t4 t5 t6 t7 t8 t9 t10 t11
  simp only [List.getElem_toArray, List.getElem_cons_zero, List.getElem_cons_succ] at t0 t1 t2 t3 t4 t5 t6 t7 t8 t9 t10 t11
  rw [cells_string] at t0
  rw [cells_int] at t1 t2 t3 t4 t5 t7 t8 t9 t10 t11
  rw [cells_pat] at t6
  simp only [Value.cells, List.drop_succ_cons, List.drop_zero, List.take_succ_cons, List.take_zero] at t0 t1 t2 t3 t4 t5 t6 t7 t8 t9 t10 t11
  obtain ⟨y0, y1, y2, m, _, p0, p1, p2⟩ := trod_array3 und_pat cells_int t6
  obtain ⟨k0, h0, _, w0⟩ := DataW.trod_string Tryz.underlying9 t0
  obtain ⟨k1, h1, _, _⟩ := DataW.trod_int (k := .i64) Tryz.underlying3 t1
  obtain ⟨k2, h2, _, _⟩ := DataW.trod_int (k := .i64) Tryz.underlying3 t2
  obtain ⟨k3, h3, _, _⟩ := DataW.trod_int (k := .i64) Tryz.underlying3 t3
  obtain ⟨k4, h4, _, _⟩ := DataW.trod_int (k := .i64) Tryz.underlying3 t4
  obtain ⟨k5, h5, _, _⟩ := DataW.trod_int (k := .i64) Tryz.underlying3 t5
  obtain ⟨q0, e0, _, _⟩ := DataW.trod_int (k := .i64) Tryz.underlying3 p0
  obtain ⟨q1, e1, _, _⟩ := DataW.trod_int (k := .i64) Tryz.underlying3 p1
  obtain ⟨q2, e2, _, _⟩ := DataW.trod_int (k := .i64) Tryz.underlying3 p2
  obtain ⟨k7, h7, _, _⟩ := DataW.trod_int (k := .i64) Tryz.underlying3 t7
  obtain ⟨k8, h8, _, _⟩ := DataW.trod_int (k := .i64) Tryz.underlying3 t8
  obtain ⟨k9, h9, _, _⟩ := DataW.trod_int (k := .i64) Tryz.underlying3 t9
  obtain ⟨k10, h10, _, _⟩ := DataW.trod_int (k := .i64) Tryz.underlying3 t10
  obtain ⟨k11, h11, _, _⟩ := DataW.trod_int (k := .i64) Tryz.underlying3 t11
  simp only [List.cons.injEq, and_true] at h0 h1 h2 h3 h4 h5 h7 h8 h9 h10 h11 e0 e1 e2
  subst h0 h1 h2 h3 h4 h5 h7 h8 h9 h10 h11 e0 e1 e2
  exact ⟨⟨k0.data.toList, k1, k2, k3, k4, k5, q0, q1, q2, k7, k8, k9, k10, k11⟩, by simp [calV], by rw [ba_len]; exact w0⟩

end Go.Proofs.YtjbniichcopnlaaGreatDoor
end

section
/- An argument that is a slice of calendars, opened. -/
set_option maxRecDepth 100000
namespace Go.Proofs.YtjbniichcopnlaaGreatDoor
open Go.RowKit Go.WideShapes Go.ChangeShapes Go.WideElems Go.Deep

theorem arr14l {α : Type} (cs : List α) (h : cs.length = 14) : ∃ a b c d e f g i j k l m n o, cs = [a, b, c, d, e, f, g, i, j, k, l, m, n, o] := by
  match cs, h with
  | [a, b, c, d, e, f, g, i, j, k, l, m, n, o], _ => exact ⟨a, b, c, d, e, f, g, i, j, k, l, m, n, o, rfl⟩
theorem trod_cal {H : Type} {enc : TypeId × Value → H} {w : World} {base : Nat} {spare : Nat → Bool} {held : Bool} {fuel : Nat} {cs : List Value} {x : DataW H × List MemPlace}
    (hl : cs.length = 14) (h : DataW.trod enc Tryz.prog w base spare held fuel 37 cs = some x) : ∃ c : CalL, cs = c.cc ∧ c.name.length ≤ maxLen := by
  obtain ⟨c0, c1, c2, c3, c4, c5, c6, c7, c8, c9, c10, c11, c12, c13, rfl⟩ := arr14l cs hl
  obtain ⟨xs, n, _, _, _, hlen, hfs⟩ := DataW.trod_struct Tryz.underlying37 h
  have hlen' : xs.length = 12 := hlen
  have t0 := hfs 0 _ rfl
  have t1 := hfs 1 _ rfl
  have t2 := hfs 2 _ rfl
  have t3 := hfs 3 _ rfl
  have t4 := hfs 4 _ rfl
  have t5 := hfs 5 _ rfl
  have t6 := hfs 6 _ rfl
  have t7 := hfs 7 _ rfl
  have t8 := hfs 8 _ rfl
  have t9 := hfs 9 _ rfl
  have t10 := hfs 10 _ rfl
  have t11 := hfs 11 _ rfl
  rw [List.getElem?_eq_getElem (by omega)] at t0 t1 t2 t3 t4 t5 t6 t7 t8 t9 t10 t11
  simp only [List.getElem_toArray, List.getElem_cons_zero, List.getElem_cons_succ] at t0 t1 t2 t3 t4 t5 t6 t7 t8 t9 t10 t11
  rw [cells_string] at t0
  rw [cells_int] at t1 t2 t3 t4 t5 t7 t8 t9 t10 t11
  rw [cells_pat] at t6
  simp only [List.drop_succ_cons, List.drop_zero, List.take_succ_cons, List.take_zero] at t0 t1 t2 t3 t4 t5 t6 t7 t8 t9 t10 t11
  obtain ⟨y0, y1, y2, m, _, p0, p1, p2⟩ := trod_array3 und_pat cells_int t6
  obtain ⟨k0, h0, _, w0⟩ := DataW.trod_string Tryz.underlying9 t0
  obtain ⟨k1, h1, _, _⟩ := DataW.trod_int (k := .i64) Tryz.underlying3 t1
  obtain ⟨k2, h2, _, _⟩ := DataW.trod_int (k := .i64) Tryz.underlying3 t2
  obtain ⟨k3, h3, _, _⟩ := DataW.trod_int (k := .i64) Tryz.underlying3 t3
  obtain ⟨k4, h4, _, _⟩ := DataW.trod_int (k := .i64) Tryz.underlying3 t4
  obtain ⟨k5, h5, _, _⟩ := DataW.trod_int (k := .i64) Tryz.underlying3 t5
  obtain ⟨q0, e0, _, _⟩ := DataW.trod_int (k := .i64) Tryz.underlying3 p0
  obtain ⟨q1, e1, _, _⟩ := DataW.trod_int (k := .i64) Tryz.underlying3 p1
  obtain ⟨q2, e2, _, _⟩ := DataW.trod_int (k := .i64) Tryz.underlying3 p2
  obtain ⟨k7, h7, _, _⟩ := DataW.trod_int (k := .i64) Tryz.underlying3 t7
  obtain ⟨k8, h8, _, _⟩ := DataW.trod_int (k := .i64) Tryz.underlying3 t8
  obtain ⟨k9, h9, _, _⟩ := DataW.trod_int (k := .i64) Tryz.underlying3 t9
  obtain ⟨k10, h10, _, _⟩ := DataW.trod_int (k := .i64) Tryz.underlying3 t10
  obtain ⟨k11, h11, _, _⟩ := DataW.trod_int (k := .i64) Tryz.underlying3 t11
  simp only [List.cons.injEq, and_true] at h0 h1 h2 h3 h4 h5 h7 h8 h9 h10 h11 e0 e1 e2
  subst h0 h1 h2 h3 h4 h5 h7 h8 h9 h10 h11 e0 e1 e2
  exact ⟨⟨k0.data.toList, k1, k2, k3, k4, k5, q0, q1, q2, k7, k8, k9, k10, k11⟩, by simp [CalL.cc], by rw [ba_len]; exact w0⟩

theorem cellsof_cal : Tryz.prog.cellsOf 37 = 14 := by kernel_rfl
theorem open_cals_fuel {H : Type} {enc : TypeId × Value → H} {w : World} {base : Nat} {spare : Nat → Bool} {held : Bool} {fuel : Nat} {cs : List Value} {x : DataW H × List MemPlace}
    (h : DataW.trod enc Tryz.prog w base spare held fuel 22 cs = some x) :
    ∃ (A : Option Addr) (c : Nat) (l : List CalL), cs = [.slice A l.length c] ∧ NilOk A c ∧ ReadsM w (· < w.heap.size) 14 A l.length (l.flatMap CalL.cc) ∧ l.length ≤ maxLen ∧ ∀ t ∈ l, t.name.length ≤ maxLen := by
  rcases DataW.trod_slice Tryz.underlying22 h with h0 | ⟨a, len, cap, elems, rest, n, hfu, hcs, hx, hb, hl, hm, hlen, hel, _, _⟩
  · exact ⟨none, 0, [], h0.1, fun _ => rfl, ReadsM.nil _ _ _ _, by simp, by simp⟩
  · subst hcs
    obtain ⟨l, hll, hp⟩ := exists_list len (fun (i : Nat) (t : CalL) => t.name.length ≤ maxLen ∧ ∀ j u, t.cc[j]? = some u → w.cell? (a.add (i * 14 + j)) = some u) (fun i him => by
      have hi := hel i him
      rw [List.getElem?_eq_getElem (by omega)] at hi
      obtain ⟨cs', hc, ht'⟩ := Option.bind_eq_some_iff.1 hi
      rw [cellsof_cal] at hc
      obtain ⟨_, hcl, hat⟩ := World.cells?_some hc
      obtain ⟨c, rfl, hn⟩ := trod_cal hcl ht'
      refine ⟨c, hn, fun j u hj => ?_⟩
      have hjl : j < 14 := by rw [← hcl]; exact (List.getElem?_eq_some_iff.1 hj).1
      have := hat j hjl
      rw [Go.Deep.add_add] at this
      rw [this, hj])
    subst hll
    refine ⟨some a, cap, l, rfl, fun h => by simp at h, ⟨ccells_length l, fun h0 => ⟨a, rfl, ?_, fun j u hj => ?_⟩⟩, by omega, fun t ht => ?_⟩
    · have h1 := (hp 0 _ (List.getElem?_eq_getElem h0)).2 0 _ rfl
      have := cell_lt h1
      rwa [block_of_add] at this
    · have hj4 : j < l.length * 14 := by
        have := (List.getElem?_eq_some_iff.1 hj).1
        rwa [ccells_length] at this
      have hi4 : j / 14 < l.length := by omega
      have hg := cflat_get l (j / 14) _ (List.getElem?_eq_getElem hi4) (j % 14) (by omega)
      rw [show j / 14 * 14 + j % 14 = j by omega, hj] at hg
      have := (hp (j / 14) _ (List.getElem?_eq_getElem hi4)).2 (j % 14) u hg.symm
      rwa [show j / 14 * 14 + j % 14 = j by omega] at this
    · obtain ⟨i, hi, rfl⟩ := List.mem_iff_getElem.1 ht
      exact (hp i _ (List.getElem?_eq_getElem hi)).1
theorem open_cals {H : Type} {enc : TypeId × Value → H} {w : World} {base : Nat} {spare : Nat → Bool} {held : Bool} {v : Value} {d : DataW H} {ps : List MemPlace} {r : Reach} {b0 : Nat}
    (hval : Value.okWide Tryz.prog w r b0 22 v) (hd : DataW.Trod enc Tryz.prog w base spare held 22 v d ps) :
    ∃ (A : Option Addr) (c : Nat) (l : List CalL), v = .slice A l.length c ∧ NilOk A c ∧ ReadsM w (· < w.heap.size) 14 A l.length (l.flatMap CalL.cc) ∧ l.length ≤ maxLen ∧ ∀ t ∈ l, t.name.length ≤ maxLen := by
  obtain ⟨A, n, c, rfl⟩ := okWide_slice Tryz.underlying22 hval
  obtain ⟨fuel, hf⟩ := hd
  obtain ⟨A', c', l, h1, h2⟩ := open_cals_fuel hf
  simp only [Value.cells] at h1
  refine ⟨A', c', l, ?_, h2⟩
  simpa using h1

end Go.Proofs.YtjbniichcopnlaaGreatDoor
end
