import Derived.Test.YtjbniichcopnlaaGreatDoorPkV12
section
/- Layer 9 (tree): the walk of Same. -/
set_option linter.unusedVariables false
set_option linter.unusedSimpArgs false
namespace Go.Proofs.YtjbniichcopnlaaGreatDoor
open Go.RowKit

def wordV (t : WordL) : Value := .agg #[.bool t.num, .int .i64 t.n, .string ⟨t.s.toArray⟩, .int .i64 t.pos]
theorem sameWs_len : ∀ (l m : List WordL), l.length ≠ m.length → sameWs l m = false
  | [], [], h => absurd rfl h
  | [], _ :: _, _ => rfl
  | _ :: _, [], _ => rfl
  | a :: l, b :: m, h => by
    rw [sameWs, sameWs_len l m (by simpa using h)]; simp
theorem sameWs_step : ∀ (l m : List WordL) (k : Nat) (a b : WordL), l[k]? = some a → m[k]? = some b → sameWs (l.drop k) (m.drop k) = (sameW a b && sameWs (l.drop (k + 1)) (m.drop (k + 1)))
  | [], _, k, a, b, h, _ => by simp at h
  | _ :: _, [], k, a, b, _, h => by simp at h
  | x :: l, y :: m, 0, a, b, h1, h2 => by
    simp only [List.getElem?_cons_zero, Option.some.injEq] at h1 h2
    subst h1 h2
    simp [sameWs]
  | x :: l, y :: m, k + 1, a, b, h1, h2 => by
    simpa using sameWs_step l m k a b (by simpa using h1) (by simpa using h2)

mutual
/-- No item has more than twenty words. -/
def fewN : NodeL → Bool
  | .mk _ _ ws _ ks => decide (ws.length ≤ 20) && fewNs ks
def fewNs : List NodeL → Bool
  | [] => true
  | n :: r => fewN n && fewNs r
end
mutual
theorem few_of_checkN : ∀ (n : NodeL) (d : Nat), checkN d n = 0 → fewN n = true
  | .mk nm p ws b ks, d, h => by
    rw [checkN] at h
    split at h
    · simp at h
    rename_i h1
    split at h
    · simp at h
    have hk := few_of_checkL ks (d + 1) h
    simp only [Bool.or_eq_true, decide_eq_true_eq, not_or] at h1
    simp only [fewN, hk, Bool.and_true, decide_eq_true_eq]
    omega
theorem few_of_checkL : ∀ (l : List NodeL) (d : Nat), checkL d l = 0 → fewNs l = true
  | [], d, _ => rfl
  | n :: r, d, h => by
    obtain ⟨h1, h2⟩ := checkL_cons d _ _ h
    simp only [fewNs, few_of_checkN n d h1, few_of_checkL r d h2, Bool.and_self]
end
theorem few_at : ∀ (l : List NodeL) (k : Nat) (n : NodeL), fewNs l = true → l[k]? = some n → n.words.length ≤ 20 ∧ fewNs n.kids = true
  | [], k, n, _, h => by simp at h
  | x :: r, 0, n, h, hk => by
    simp only [List.getElem?_cons_zero, Option.some.injEq] at hk
    subst hk
    obtain ⟨nm, p, ws, b, ks⟩ := x
    simp only [fewNs, fewN, Bool.and_eq_true, decide_eq_true_eq] at h
    exact h.1
  | x :: r, k + 1, n, h, hk => by
    simp only [fewNs, Bool.and_eq_true] at h
    exact few_at r k n h.2 (by simpa using hk)
theorem sameN_eq (x y : NodeL) : sameN x y = (sameWs x.words y.words && decide (x.name = y.name) && (x.block == y.block) && sameNs x.kids y.kids) := by
  obtain ⟨a, b, c, d, e⟩ := x
  obtain ⟨a', b', c', d', e'⟩ := y
  rfl
theorem sameNs_len : ∀ (l m : List NodeL), l.length ≠ m.length → sameNs l m = false
  | [], [], h => absurd rfl h
  | [], _ :: _, _ => rfl
  | _ :: _, [], _ => rfl
  | a :: l, b :: m, h => by
    rw [sameNs, sameNs_len l m (by simpa using h)]; simp
theorem sameNs_step : ∀ (l m : List NodeL) (k : Nat) (a b : NodeL), l[k]? = some a → m[k]? = some b → sameNs (l.drop k) (m.drop k) = (sameN a b && sameNs (l.drop (k + 1)) (m.drop (k + 1)))
  | [], _, k, a, b, h, _ => by simp at h
  | _ :: _, [], k, a, b, _, h => by simp at h
  | x :: l, y :: m, 0, a, b, h1, h2 => by
    simp only [List.getElem?_cons_zero, Option.some.injEq] at h1 h2
    subst h1 h2
    simp [sameNs]
  | x :: l, y :: m, k + 1, a, b, h1, h2 => by
    simpa using sameNs_step l m k a b (by simpa using h1) (by simpa using h2)

end Go.Proofs.YtjbniichcopnlaaGreatDoor
end

section
/- Layer 9 (tree): whether any items are few: the walk of left. -/
set_option linter.unusedVariables false
set_option linter.unusedSimpArgs false
namespace Go.Proofs.YtjbniichcopnlaaGreatDoor
open Go.RowKit

mutual
/-- Names, texts, and lists are no longer than may be. -/
def fitN : NodeL → Prop
  | .mk nm _ ws _ ks => nm.length ≤ maxLen ∧ ws.length ≤ maxLen ∧ (∀ w ∈ ws, w.s.length ≤ maxLen) ∧ ks.length ≤ maxLen ∧ fitNs ks
def fitNs : List NodeL → Prop
  | [] => True
  | n :: r => fitN n ∧ fitNs r
end
theorem fit_at : ∀ (l : List NodeL) (k : Nat) (n : NodeL), fitNs l → l[k]? = some n → fitN n
  | [], k, n, _, h => by simp at h
  | x :: r, 0, n, h, hk => by
    simp only [List.getElem?_cons_zero, Option.some.injEq] at hk
    subst hk
    exact h.1
  | x :: r, k + 1, n, h, hk => fit_at r k n h.2 (by simpa using hk)
theorem fit_parts (n : NodeL) (h : fitN n) : n.name.length ≤ maxLen ∧ n.words.length ≤ maxLen ∧ (∀ w ∈ n.words, w.s.length ≤ maxLen) ∧ n.kids.length ≤ maxLen ∧ fitNs n.kids := by
  obtain ⟨a, b, c, d, e⟩ := n
  exact ⟨h.1, h.2.1, h.2.2.1, h.2.2.2.1, h.2.2.2.2⟩

theorem leftN_eq (most deep : Int) (n : NodeL) : leftN most deep n = if most < 0 ∨ 20 < n.words.length then -1 else leftL (most - 1) (deep - 1) n.kids := by
  obtain ⟨a, b, c, d, e⟩ := n
  simp only [leftN, NodeL.words, NodeL.kids]
  congr 1
theorem leftL_go (most deep : Int) (l : List NodeL) (h : deep ≠ 0) : leftL most deep l = leftGo most deep l := by
  cases l with
  | nil => simp only [leftL, leftGo]
  | cons n r => rw [leftL, if_neg h]
theorem leftGo_step : ∀ (l : List NodeL) (k : Nat) (n : NodeL) (most deep : Int), l[k]? = some n → leftGo most deep (l.drop k) = leftGo (leftN most deep n) deep (l.drop (k + 1))
  | [], k, n, _, _, h => by simp at h
  | x :: r, 0, n, most, deep, h => by
    simp only [List.getElem?_cons_zero, Option.some.injEq] at h
    subst h
    simp only [List.drop_zero, leftGo, Nat.zero_add, List.drop_succ_cons]
  | x :: r, k + 1, n, most, deep, h => by simpa using leftGo_step r k n most deep (by simpa using h)
mutual
theorem left_geN : ∀ (n : NodeL) (most deep : Int), -1 ≤ most → -1 ≤ leftN most deep n ∧ leftN most deep n ≤ most ∧ (0 ≤ leftN most deep n → fewN n = true ∧ (cntN n : Int) ≤ 21 * (most - leftN most deep n))
  | .mk nm p ws b ks, most, deep, h => by
    simp only [leftN]
    split
    · exact ⟨by omega, by omega, fun h => by omega⟩
    · rename_i h1
      obtain ⟨a1, a2, a3⟩ := left_geL ks (most - 1) (deep - 1) (by omega)
      refine ⟨a1, by omega, fun h0 => ?_⟩
      obtain ⟨b1, b2⟩ := a3 h0
      simp only [fewN, b1, Bool.and_true, decide_eq_true_eq, cntN]
      refine ⟨by omega, by omega⟩
theorem left_geL : ∀ (l : List NodeL) (most deep : Int), -1 ≤ most → -1 ≤ leftL most deep l ∧ leftL most deep l ≤ most ∧ (0 ≤ leftL most deep l → fewNs l = true ∧ (cntL l : Int) ≤ 21 * (most - leftL most deep l))
  | [], most, deep, h => by simp only [leftL, cntL]; exact ⟨h, Int.le_refl _, fun _ => ⟨rfl, by omega⟩⟩
  | n :: r, most, deep, h => by
    simp only [leftL]
    split
    · exact ⟨by omega, by omega, fun h => by omega⟩
    · simp only [leftGo]
      obtain ⟨a1, a2, a3⟩ := left_geN n most deep h
      obtain ⟨b1, b2, b3⟩ := left_geG r (leftN most deep n) deep a1
      refine ⟨b1, by omega, fun h0 => ?_⟩
      obtain ⟨c1, c2⟩ := b3 h0
      obtain ⟨d1, d2⟩ := a3 (by omega)
      simp only [fewNs, c1, d1, Bool.and_self, cntL]
      refine ⟨trivial, by omega⟩
theorem left_geG : ∀ (l : List NodeL) (most deep : Int), -1 ≤ most → -1 ≤ leftGo most deep l ∧ leftGo most deep l ≤ most ∧ (0 ≤ leftGo most deep l → fewNs l = true ∧ (cntL l : Int) ≤ 21 * (most - leftGo most deep l))
  | [], most, deep, h => by simp only [leftGo, cntL]; exact ⟨h, Int.le_refl _, fun _ => ⟨rfl, by omega⟩⟩
  | n :: r, most, deep, h => by
    simp only [leftGo]
    obtain ⟨a1, a2, a3⟩ := left_geN n most deep h
    obtain ⟨b1, b2, b3⟩ := left_geG r (leftN most deep n) deep a1
    refine ⟨b1, by omega, fun h0 => ?_⟩
    obtain ⟨c1, c2⟩ := b3 h0
    obtain ⟨d1, d2⟩ := a3 (by omega)
    simp only [fewNs, c1, d1, Bool.and_self, cntL]
    refine ⟨trivial, by omega⟩
end

end Go.Proofs.YtjbniichcopnlaaGreatDoor
end
