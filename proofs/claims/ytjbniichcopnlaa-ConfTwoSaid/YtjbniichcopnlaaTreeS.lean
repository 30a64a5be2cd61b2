/- Layer 9 (tree): the walk of Same. -/
import Derived.Test.YtjbniichcopnlaaTreeR1
set_option linter.unusedVariables false
set_option linter.unusedSimpArgs false
namespace Go.Proofs.Ytjbniichcopnlaa
open Go.RowKit

def wordV (t : WordL) : Value := .agg #[.bool t.num, .int .i64 t.n, .string ⟨t.s.toArray⟩, .int .i64 t.pos]
theorem sameWs_len : ∀ (l m : List WordL), l.length ≠ m.length → sameWs l m = false
  | [], [], h => absurd rfl h
  | [], _ :: _, _ => rfl
  | _ :: _, [], _ => rfl
  | a :: l, b :: m, h => by
    rw [sameWs, sameWs_len l m (by simpa using h)]; simp
theorem sameWs_step : ∀ (l m : List WordL) (k : Nat) (a b : WordL), l[k]? = some a → m[k]? = some b → sameWs (l.drop k) (m.drop k) = (sameW a b && sameWs (l.drop (k + 1)) (m.drop (k + 1)))
  | [], _, k, a, b, h, _ => by simp at h
  | _ :: _, [], k, a, b, _, h => by simp at h
  | x :: l, y :: m, 0, a, b, h1, h2 => by
    simp only [List.getElem?_cons_zero, Option.some.injEq] at h1 h2
    subst h1 h2
    simp [sameWs]
  | x :: l, y :: m, k + 1, a, b, h1, h2 => by
    simpa using sameWs_step l m k a b (by simpa using h1) (by simpa using h2)

mutual
/-- No item has more than twenty words. -/
def fewN : NodeL → Bool
  | .mk _ _ ws _ ks => decide (ws.length ≤ 20) && fewNs ks
def fewNs : List NodeL → Bool
  | [] => true
  | n :: r => fewN n && fewNs r
end
mutual
theorem few_of_checkN : ∀ (n : NodeL) (d : Nat), checkN d n = 0 → fewN n = true
  | .mk nm p ws b ks, d, h => by
    rw [checkN] at h
    split at h
    · simp at h
    rename_i h1
    split at h
    · simp at h
    have hk := few_of_checkL ks (d + 1) h
    simp only [Bool.or_eq_true, decide_eq_true_eq, not_or] at h1
    simp only [fewN, hk, Bool.and_true, decide_eq_true_eq]
    omega
theorem few_of_checkL : ∀ (l : List NodeL) (d : Nat), checkL d l = 0 → fewNs l = true
  | [], d, _ => rfl
  | n :: r, d, h => by
    obtain ⟨h1, h2⟩ := checkL_cons d _ _ h
    simp only [fewNs, few_of_checkN n d h1, few_of_checkL r d h2, Bool.and_self]
end
theorem few_at : ∀ (l : List NodeL) (k : Nat) (n : NodeL), fewNs l = true → l[k]? = some n → n.words.length ≤ 20 ∧ fewNs n.kids = true
  | [], k, n, _, h => by simp at h
  | x :: r, 0, n, h, hk => by
    simp only [List.getElem?_cons_zero, Option.some.injEq] at hk
    subst hk
    obtain ⟨nm, p, ws, b, ks⟩ := x
    simp only [fewNs, fewN, Bool.and_eq_true, decide_eq_true_eq] at h
    exact h.1
  | x :: r, k + 1, n, h, hk => by
    simp only [fewNs, Bool.and_eq_true] at h
    exact few_at r k n h.2 (by simpa using hk)
theorem sameN_eq (x y : NodeL) : sameN x y = (sameWs x.words y.words && decide (x.name = y.name) && (x.block == y.block) && sameNs x.kids y.kids) := by
  obtain ⟨a, b, c, d, e⟩ := x
  obtain ⟨a', b', c', d', e'⟩ := y
  rfl
theorem sameNs_len : ∀ (l m : List NodeL), l.length ≠ m.length → sameNs l m = false
  | [], [], h => absurd rfl h
  | [], _ :: _, _ => rfl
  | _ :: _, [], _ => rfl
  | a :: l, b :: m, h => by
    rw [sameNs, sameNs_len l m (by simpa using h)]; simp
theorem sameNs_step : ∀ (l m : List NodeL) (k : Nat) (a b : NodeL), l[k]? = some a → m[k]? = some b → sameNs (l.drop k) (m.drop k) = (sameN a b && sameNs (l.drop (k + 1)) (m.drop (k + 1)))
  | [], _, k, a, b, h, _ => by simp at h
  | _ :: _, [], k, a, b, _, h => by simp at h
  | x :: l, y :: m, 0, a, b, h1, h2 => by
    simp only [List.getElem?_cons_zero, Option.some.injEq] at h1 h2
    subst h1 h2
    simp [sameNs]
  | x :: l, y :: m, k + 1, a, b, h1, h2 => by
    simpa using sameNs_step l m k a b (by simpa using h1) (by simpa using h2)

end Go.Proofs.Ytjbniichcopnlaa
