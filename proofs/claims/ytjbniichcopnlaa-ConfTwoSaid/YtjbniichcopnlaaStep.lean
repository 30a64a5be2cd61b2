/- Worlds that differ in some cells, and in one row, of what was there. Over any program. -/
import Derived.Test.YtjbniichcopnlaaWords
import Derived.Laws.OwnMore
import Derived.Deep.AppendLies
namespace Go.Proofs.Ytjbniichcopnlaa
open Go.RowKit

/-- Of what lay in w, only the cells of C, and the row's block, differ in w'. -/
structure Step (w w' : World) (C : List (Nat × Nat)) (row : Option Nat) : Prop where
  os : w'.os = w.os
  tape : w'.tape = w.tape
  output : w'.output = w.output
  size : w.heap.size ≤ w'.heap.size
  block : ∀ k, k < w.heap.size → (∀ j, (k, j) ∉ C) → some k ≠ row → w'.heap[k]? = w.heap[k]?
  cell : ∀ k, k < w.heap.size → some k ≠ row → ∀ j, (k, j) ∉ C → w'.cell? ⟨k, j, none⟩ = w.cell? ⟨k, j, none⟩
  froz : ∀ k, k < w.heap.size → some k ≠ row → ∀ j, w'.frozen? ⟨k, j, none⟩ = w.frozen? ⟨k, j, none⟩
  shape : ∀ k, k < w.heap.size → some k ≠ row → ∀ cs t f, w.heap[k]? = some (.cells cs t f) → ∃ cs', w'.heap[k]? = some (.cells cs' t f)

section
variable {w w' w2 : World} {C : List (Nat × Nat)} {row : Option Nat}

theorem Step.refl (w : World) (C : List (Nat × Nat)) (row : Option Nat) : Step w w C row :=
  ⟨rfl, rfl, rfl, Nat.le_refl _, fun _ _ _ _ => rfl, fun _ _ _ _ _ => rfl, fun _ _ _ _ => rfl, fun _ _ _ cs _ _ h => ⟨cs, h⟩⟩
theorem Step.drew (h : Step w w' C row) : Step w w'.drew C row := ⟨h.os, h.tape, h.output, h.size, h.block, h.cell, h.froz, h.shape⟩
theorem Step.alloc (h : Step w w' C row) (o : Obj) : Step w (w'.alloc o) C row :=
  ⟨h.os, h.tape, h.output, by have := h.size; simp; omega,
    fun k hk hC hr => by
      have := h.size
      rw [show (w'.alloc o).heap[k]? = w'.heap[k]? from Go.heap_alloc_old w' o (by omega)]
      exact h.block k hk hC hr,
    fun k hk hr j hj => by
      have := h.size
      rw [World.cell?_alloc_lt w' o ⟨k, j, none⟩ (by show k < _; omega)]
      exact h.cell k hk hr j hj,
    fun k hk hr j => by
      have := h.size
      rw [World.frozen?_alloc_old w' o ⟨k, j, none⟩ (by show k ≠ _; omega)]
      exact h.froz k hk hr j,
    fun k hk hr cs t f hh => by
      have := h.size
      obtain ⟨cs', h'⟩ := h.shape k hk hr cs t f hh
      exact ⟨cs', (show (w'.alloc o).heap[k]? = w'.heap[k]? from Go.heap_alloc_old w' o (by omega)).trans h'⟩⟩
theorem Step.setCell (h : Step w w' C row) {b o : Nat} (hb : w.heap.size ≤ b ∨ (b, o) ∈ C ∨ some b = row) (u : Value) : Step w (w'.setCell ⟨b, o, none⟩ u) C row :=
  ⟨h.os, h.tape, h.output, by simpa using h.size,
    fun k hk hC hr => by
      rw [Go.heap_setCell_other w' ⟨b, o, none⟩ k u (by
        show k ≠ b
        intro e; subst e
        rcases hb with hb | hb | hb
        · omega
        · exact hC _ hb
        · exact hr hb)]
      exact h.block k hk hC hr,
    fun k hk hr j hj => by
      rw [World.cell?_setCell_other w' ⟨b, o, none⟩ ⟨k, j, none⟩ u (by
        intro e
        simp only [Addr.mk.injEq, and_true] at e
        obtain ⟨rfl, rfl⟩ := e
        rcases hb with hb | hb | hb
        · omega
        · exact hj hb
        · exact hr hb)]
      exact h.cell k hk hr j hj,
    fun k hk hr j => by
      rw [World.frozen?_setCell]
      exact h.froz k hk hr j,
    fun k hk hr cs t f hh => by
      obtain ⟨cs', h'⟩ := h.shape k hk hr cs t f hh
      by_cases hkb : k = b
      · subst hkb
        exact ⟨cs'.setIfInBounds o u, by simp [World.setCell, Array.getElem?_modify, h']⟩
      · exact ⟨cs', (Go.heap_setCell_other w' ⟨b, o, none⟩ k u hkb).trans h'⟩⟩
theorem Step.grown (h : Step w w' C row) {row' : Option Nat} (hg : w'.grownBy w2 row') (hr' : ∀ k, row' = some k → some k = row ∨ w.heap.size ≤ k) : Step w w2 C row := by
  have hs := h.size
  have hn : ∀ k, k < w.heap.size → some k ≠ row → some k ≠ row' := fun k hk hr e => by
    rcases hr' k e.symm with h1 | h1
    · exact hr h1
    · omega
  refine ⟨hg.os.trans h.os, hg.tape.trans h.tape, hg.output.trans h.output, Nat.le_trans h.size hg.size, fun k hk hC hr => ?_, fun k hk hr j hj => ?_, fun k hk hr j => ?_, fun k hk hr cs t f hh => ?_⟩
  · exact (hg.block k (by omega) (hn k hk hr)).trans (h.block k hk hC hr)
  · exact (hg.cell_far ⟨k, j, none⟩ (by show k < _; omega) (hn k hk hr)).trans (h.cell k hk hr j hj)
  · exact (hg.frozen_far ⟨k, j, none⟩ (by show k < _; omega) (hn k hk hr)).trans (h.froz k hk hr j)
  · obtain ⟨cs', h'⟩ := h.shape k hk hr cs t f hh
    exact ⟨cs', (hg.block k (by omega) (hn k hk hr)).trans h'⟩
theorem Step.below (h : Step w w' C row) (hb : Below w'.heap.size w' w2) : Step w w2 C row := by
  have hs := h.size
  refine ⟨hb.os.trans h.os, hb.tape.trans h.tape, hb.output.trans h.output, Nat.le_trans h.size hb.size, fun k hk hC hr => ?_, fun k hk hr j hj => ?_, fun k hk hr j => ?_, fun k hk hr cs t f hh => ?_⟩
  · exact (hb.block k (by omega)).trans (h.block k hk hC hr)
  · exact (hb.cell (p := ⟨k, j, none⟩) (by show k < _; omega)).trans (h.cell k hk hr j hj)
  · exact (hb.frozen (p := ⟨k, j, none⟩) (by show k < _; omega)).trans (h.froz k hk hr j)
  · obtain ⟨cs', h'⟩ := h.shape k hk hr cs t f hh
    exact ⟨cs', (hb.block k (by omega)).trans h'⟩
theorem Step.own (h : Step w w' C row) {base : Nat} {e : TypeId} {size n : Nat} {v : Value} {xs : List Value} (ho : w.ownsRow base e size v n xs) (hC : ∀ k, v.ownBlock = some k → ∀ j, (k, j) ∉ C) (hr : v.ownBlock = none ∨ v.ownBlock ≠ row) :
    w'.ownsRow base e size v n xs := by
  refine ⟨ho.1, ?_⟩
  rcases ho.2 with h2 | ⟨g, cap, cur, hv, hg, hh, r⟩
  · exact Or.inl h2
  · subst hv
    refine Or.inr ⟨g, cap, cur, rfl, hg, ?_, r⟩
    have hlt : g < w.heap.size := by
      rcases Nat.lt_or_ge g w.heap.size with hlt | hge
      · exact hlt
      · rw [Array.getElem?_eq_none hge] at hh; cases hh
    rw [h.block g hlt (hC g rfl) (by rcases hr with h0 | h0; · cases h0
                                     · exact h0)]
    exact hh
end

end Go.Proofs.Ytjbniichcopnlaa
