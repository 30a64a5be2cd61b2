/- Slices that read as tokens. -/
import Derived.Test.YtjbniichcopnlaaLexW5
namespace Go.Proofs.Ytjbniichcopnlaa
open Go.RowKit

/-- The slice v reads as the tokens l, below block B. -/
def ReadToks (w : World) (B : Nat) (v : Value) (l : List Tok) : Prop := ∃ A c, v = .slice A l.length c ∧ Reads w B 4 A l.length (l.flatMap Tok.cells)

theorem ReadToks.of_own {w : World} {base : Nat} {v : Value} {l : List Tok} (h : OwnToks w base v l) : ReadToks w w.heap.size v l := by
  obtain ⟨A, c, rfl, _⟩ := own_form h
  exact ⟨A, c, rfl, Reads.of_own h⟩
theorem ReadToks.below {w w' : World} {B : Nat} {v : Value} {l : List Tok} (h : ReadToks w B v l) (hb : Below B w w') : ReadToks w' B v l := by
  obtain ⟨A, c, rfl, hr⟩ := h
  exact ⟨A, c, rfl, hr.below hb⟩
theorem ReadToks.more {w : World} {B B' : Nat} {v : Value} {l : List Tok} (h : ReadToks w B v l) (hB : B ≤ B') : ReadToks w B' v l := by
  obtain ⟨A, c, rfl, hr⟩ := h
  exact ⟨A, c, rfl, hr.more hB⟩

theorem flat_get (l : List Tok) (i : Nat) (t : Tok) (h : l[i]? = some t) : ∀ j, j < 4 → (l.flatMap Tok.cells)[i * 4 + j]? = t.cells[j]? := by
  induction l generalizing i with
  | nil => simp at h
  | cons a l ih =>
    intro j hj
    rw [List.flatMap_cons]
    cases i with
    | zero =>
      simp only [List.getElem?_cons_zero, Option.some.injEq] at h
      subst h
      rw [List.getElem?_append_left (by simp [Tok.cells]; omega)]
      simp
    | succ i =>
      rw [List.getElem?_append_right (by simp [Tok.cells]; omega)]
      have : (i + 1) * 4 + j - a.cells.length = i * 4 + j := by simp [Tok.cells]; omega
      rw [this]
      exact ih i (by simpa using h) j hj

/-- The four cells of token i. -/
theorem tok_cells {w : World} {B : Nat} {A : Option Addr} {l : List Tok} (h : Reads w B 4 A l.length (l.flatMap Tok.cells)) (i : Nat) (t : Tok) (hi : l[i]? = some t) :
    ∃ ad, A = some ad ∧ ad.block < B ∧ w.cell? (ad.add (i * 4)) = some (.int .i64 t.kind) ∧ w.cell? ⟨(ad.add (i * 4)).block, (ad.add (i * 4)).off + 1, none⟩ = some (.int .i64 t.pos) ∧
      w.cell? ⟨(ad.add (i * 4)).block, (ad.add (i * 4)).off + 2, none⟩ = some (.int .i64 t.n) ∧ w.cell? ⟨(ad.add (i * 4)).block, (ad.add (i * 4)).off + 3, none⟩ = some (.string ⟨t.s.toArray⟩) := by
  have hlt : i < l.length := (List.getElem?_eq_some_iff.1 hi).1
  obtain ⟨ad, rfl, hb, hc⟩ := h.2 (by omega)
  have hg := flat_get l i t hi
  have hs : ∀ j, j ≠ 0 → ad.add (i * 4 + j) = ⟨(ad.add (i * 4)).block, (ad.add (i * 4)).off + j, none⟩ := fun j hj => by
    rw [← add_of_add]; unfold Addr.add; rw [if_neg hj]
  exact ⟨ad, rfl, hb, hc _ _ (hg 0 (by omega)), hs 1 (by omega) ▸ hc _ _ (hg 1 (by omega)), hs 2 (by omega) ▸ hc _ _ (hg 2 (by omega)), hs 3 (by omega) ▸ hc _ _ (hg 3 (by omega))⟩

end Go.Proofs.Ytjbniichcopnlaa
