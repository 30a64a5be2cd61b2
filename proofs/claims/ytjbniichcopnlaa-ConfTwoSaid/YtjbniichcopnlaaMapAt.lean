/- A map from texts to places, laid by the call itself in the order of the texts; a block of the heap laid anew. -/
import Derived.Test.YtjbniichcopnlaaMap
import Derived.Test.YtjbniichcopnlaaTreeMem
import Derived.Test.YtjbniichcopnlaaStep
import Derived.Laws.Closers25
set_option linter.unusedVariables false
set_option linter.unusedSimpArgs false
namespace Go.Proofs.Ytjbniichcopnlaa
open Go.RowKit

theorem toList_mk (a : Bytes) : (ByteArray.mk a.toArray).toList = a := by
  rw [ByteArray.toList_eq]
theorem ba_injM (a s : Bytes) : (ByteArray.mk a.toArray = ByteArray.mk s.toArray) ↔ a = s := by
  constructor
  · intro h
    injection h with h
    simpa using h
  · intro h; rw [h]
theorem sameKey_str (a b : Bytes) : sameKey (.string ⟨a.toArray⟩) (.string ⟨b.toArray⟩) = decide (a = b) := by
  show (ByteArray.mk a.toArray == ByteArray.mk b.toArray) = decide (a = b)
  rw [beq_toListBytes, toList_mk, toList_mk]
  by_cases h : a = b <;> simp [h]

/-- Block b laid anew. -/
def setB (w : World) (b : Nat) (o : Obj) : World := { w with heap := w.heap.setIfInBounds b o }
theorem setB_size (w : World) (b : Nat) (o : Obj) : (setB w b o).heap.size = w.heap.size := by simp [setB]
theorem setB_new (w : World) (b : Nat) (o : Obj) (h : b < w.heap.size) : (setB w b o).heap[b]? = some o := by simp [setB, h]
theorem setB_other (w : World) (b k : Nat) (o : Obj) (h : k ≠ b) : (setB w b o).heap[k]? = w.heap[k]? := by
  show (w.heap.setIfInBounds b o)[k]? = _
  rw [Array.getElem?_setIfInBounds]
  simp [Ne.symm h]
theorem setB_cell (w : World) (b : Nat) (o : Obj) (p : Addr) (h : p.block ≠ b) : (setB w b o).cell? p = w.cell? p := by
  unfold World.cell?
  rw [setB_other w b p.block o h]
theorem setB_frozen (w : World) (b : Nat) (o : Obj) (p : Addr) (h : p.block ≠ b) : (setB w b o).frozen? p = w.frozen? p := by
  unfold World.frozen?
  rw [setB_other w b p.block o h]
theorem Below.setB {B : Nat} {w w' : World} (h : Below B w w') {b : Nat} (hb : B ≤ b) (o : Obj) : Below B w (setB w' b o) :=
  ⟨h.os, h.tape, h.output, by rw [setB_size]; exact h.size, fun k hk => by rw [setB_other w' b k o (by omega)]; exact h.block k hk⟩
attribute [irreducible] setB

/-- The entries: each text's place. -/
def atL : List Bytes → Nat → List MapEntry
  | [], _ => []
  | s :: r, i => ⟨.string ⟨s.toArray⟩, .int .i64 i, i⟩ :: atL r (i + 1)
def atMap (l : List Bytes) : Array MapEntry := (atL l 0).toArray
def atV (l : List Bytes) (s : Bytes) : Int := if l.contains s then (l.idxOf s : Int) else 0
theorem atL_snoc : ∀ (l : List Bytes) (s : Bytes) (i : Nat), atL (l ++ [s]) i = atL l i ++ [⟨.string ⟨s.toArray⟩, .int .i64 (i + l.length : Nat), i + l.length⟩]
  | [], s, i => by simp [atL]
  | a :: r, s, i => by
    simp only [List.cons_append, atL, List.length_cons]
    rw [atL_snoc r s (i + 1), show i + 1 + r.length = i + (r.length + 1) by omega]
theorem atL_keys : ∀ (l : List Bytes) (i : Nat), ∀ e ∈ atL l i, KeyOk .string e.key
  | [], _, e, he => by simp [atL] at he
  | a :: r, i, e, he => by
    simp only [atL, List.mem_cons] at he
    rcases he with rfl | he
    · exact KeyOk.str _
    · exact atL_keys r (i + 1) e he
theorem atL_find : ∀ (l : List Bytes) (s : Bytes) (i j : Nat), ((findE (.string ⟨s.toArray⟩) (atL l i) j).map (·.2)).getD (.int .i64 0) = .int .i64 (if l.contains s then ((i + l.idxOf s : Nat) : Int) else 0) ∧ (findE (.string ⟨s.toArray⟩) (atL l i) j).isSome = l.contains s
  | [], s, i, j => by simp [atL, findE]
  | a :: r, s, i, j => by
    have ih := atL_find r s (i + 1) (j + 1)
    simp only [atL, findE, sameKey_str, decide_eq_true_eq, List.contains_cons, List.idxOf_cons]
    by_cases h : s = a
    · subst h; simp
    · have h1 : (s == a) = false := beq_false_of_ne h
      have h2 : (a == s) = false := beq_false_of_ne (Ne.symm h)
      rw [if_neg h, h1, h2, Bool.false_or]
      refine ⟨ih.1.trans ?_, ih.2⟩
      by_cases hc : r.contains s = true
      · rw [if_pos hc, if_pos hc]; simp; omega
      · rw [if_neg hc, if_neg hc]
section
variable {P : Program} {T K E : TypeId}
theorem run_at_look (hT : P.underlying T = some (.map K E)) (hK : P.underlying K = some .string) (hz : ∀ w, (zeroValue E).run P w = .ok (.int .i64 0) w) (W : World) (g c : Nat) (l : List Bytes) (s : Bytes) (hb : W.heap[g]? = some (.map (atMap l) c)) :
    (Instr.lookup T (.map (some g)) (.string ⟨s.toArray⟩) true).run P W = .ok (.tuple #[.int .i64 (atV l s), .bool (l.contains s)]) W := by
  have h := run_lookup_ok (k := .string ⟨s.toArray⟩) hT hK (KeyOk.str _) (fun e he => atL_keys l 0 e (by simpa [atMap] using he)) (hz W) hb
  have hf := atL_find l s 0 0
  refine h.trans ?_
  have e : (atMap l).toList = atL l 0 := by simp [atMap]
  rw [e, hf.1, hf.2, Nat.zero_add]
  rfl
theorem run_at_put (hT : P.underlying T = some (.map K E)) (hK : P.underlying K = some .string) (W : World) (g : Nat) (l : List Bytes) (s : Bytes) (hb : W.heap[g]? = some (.map (atMap l) l.length)) (hn : l.contains s = false) :
    (Instr.mapUpdate T (.map (some g)) (.string ⟨s.toArray⟩) (.int .i64 (l.length : Nat))).run P W = .ok () (setB W g (.map (atMap (l ++ [s])) (l ++ [s]).length)) := by
  have hf := (atL_find l s 0 0).2
  rw [hn] at hf
  have e : (atMap l).toList = atL l 0 := by simp [atMap]
  have h := run_mapUpdate_new (k := .string ⟨s.toArray⟩) (v := .int .i64 (l.length : Nat)) hT hK (KeyOk.str _) (fun x he => atL_keys l 0 x (by rw [← e]; exact he)) (by rw [e]; cases hh : findE (.string ⟨s.toArray⟩) (atL l 0) 0 with
    | none => rfl
    | some _ => rw [hh] at hf; cases hf) hb
  refine h.trans ?_
  unfold setB
  congr 3
  have e2 := atL_snoc l s 0
  rw [Nat.zero_add] at e2
  simp only [atMap, e2, List.length_append, List.length_cons, List.length_nil]
  congr 1
  simp
end

end Go.Proofs.Ytjbniichcopnlaa
