/- Layer 9 (tree): items in memory. -/
import Derived.Test.YtjbniichcopnlaaLexW5
import Derived.Test.YtjbniichcopnlaaTreeSpec
namespace Go.Proofs.Ytjbniichcopnlaa
open Go.RowKit

def WordL.cells (w : WordL) : List Value := [.bool w.num, .int .i64 w.n, .string ⟨w.s.toArray⟩, .int .i64 w.pos]
theorem wcells_length (l : List WordL) : (l.flatMap WordL.cells).length = l.length * 4 := by
  induction l with
  | nil => rfl
  | cons t l ih => simp only [List.flatMap_cons, List.length_append, ih, List.length_cons, WordL.cells, List.length_nil]; omega

/-- The slice with the address A, of n elements of so many cells each, reads as the cells xs, in blocks of M. -/
def ReadsM (w : World) (M : Nat → Prop) (size : Nat) (A : Option Addr) (n : Nat) (xs : List Value) : Prop :=
  xs.length = n * size ∧ (0 < n → ∃ ad, A = some ad ∧ M ad.block ∧ ∀ j u, xs[j]? = some u → w.cell? (ad.add j) = some u)

theorem ReadsM.keep {w w' : World} {M M' : Nat → Prop} {size : Nat} {A : Option Addr} {n : Nat} {xs : List Value} (h : ReadsM w M size A n xs)
    (hm : ∀ b, M b → M' b) (hk : ∀ p : Addr, M p.block → w'.cell? p = w.cell? p) : ReadsM w' M' size A n xs :=
  ⟨h.1, fun hn => by
    obtain ⟨ad, e, hb, hc⟩ := h.2 hn
    exact ⟨ad, e, hm _ hb, fun j u hu => (hk _ (by rw [block_of_add]; exact hb)).trans (hc j u hu)⟩⟩
theorem ReadsM.reads {w : World} {B size : Nat} {A : Option Addr} {n : Nat} {xs : List Value} (h : ReadsM w (· < B) size A n xs) : Reads w B size A n xs := h
theorem ReadsM.nil (w : World) (M : Nat → Prop) (size : Nat) (A : Option Addr) : ReadsM w M size A 0 [] := ⟨by simp, fun h => absurd h (by omega)⟩

/-- A nil slice has no room. -/
def NilOk (A : Option Addr) (c : Nat) : Prop := A = none → c = 0

mutual
/-- The five cells read as the item, all it leads to in blocks of M. -/
def NodeOk (w : World) (M : Nat → Prop) : NodeL → List Value → Prop
  | .mk nm p ws b ks, cs => ∃ Aw cw Ak ck kcs, cs = [.string ⟨nm.toArray⟩, .int .i64 p, .slice Aw ws.length cw, .bool b, .slice Ak ks.length ck] ∧
      NilOk Aw cw ∧ NilOk Ak ck ∧ ReadsM w M 4 Aw ws.length (ws.flatMap WordL.cells) ∧ ReadsM w M 5 Ak ks.length kcs ∧ NodesOk w M ks kcs
/-- The cells read as items. -/
def NodesOk (w : World) (M : Nat → Prop) : List NodeL → List Value → Prop
  | [], cs => cs = []
  | n :: r, cs => ∃ a b, cs = a ++ b ∧ NodeOk w M n a ∧ NodesOk w M r b
end

theorem NodeOk.len {w : World} {M : Nat → Prop} {n : NodeL} {cs : List Value} (h : NodeOk w M n cs) : cs.length = 5 := by
  cases n with
  | mk nm p ws b ks =>
    simp only [NodeOk] at h
    obtain ⟨_, _, _, _, _, rfl, _⟩ := h
    rfl

theorem NodesOk.len {w : World} {M : Nat → Prop} : ∀ {l : List NodeL} {cs : List Value}, NodesOk w M l cs → cs.length = l.length * 5
  | [], cs, h => by simp only [NodesOk] at h; subst h; rfl
  | n :: r, cs, h => by
    simp only [NodesOk] at h
    obtain ⟨a, b, rfl, h1, h2⟩ := h
    have e1 := NodeOk.len h1
    have e2 := NodesOk.len h2
    rw [List.length_append, e1, e2, List.length_cons]; omega

mutual
theorem NodeOk.keep {w w' : World} {M M' : Nat → Prop} (hm : ∀ b, M b → M' b) (hk : ∀ p : Addr, M p.block → w'.cell? p = w.cell? p) : ∀ (n : NodeL) (cs : List Value), NodeOk w M n cs → NodeOk w' M' n cs
  | .mk nm p ws b ks, cs, h => by
    simp only [NodeOk] at h ⊢
    obtain ⟨Aw, cw, Ak, ck, kcs, h1, h2, h3, h4, h5, h6⟩ := h
    exact ⟨Aw, cw, Ak, ck, kcs, h1, h2, h3, h4.keep hm hk, h5.keep hm hk, NodesOk.keep hm hk ks kcs h6⟩
theorem NodesOk.keep {w w' : World} {M M' : Nat → Prop} (hm : ∀ b, M b → M' b) (hk : ∀ p : Addr, M p.block → w'.cell? p = w.cell? p) : ∀ (l : List NodeL) (cs : List Value), NodesOk w M l cs → NodesOk w' M' l cs
  | [], cs, h => by simpa only [NodesOk] using h
  | n :: r, cs, h => by
    simp only [NodesOk] at h ⊢
    obtain ⟨a, b, h1, h2, h3⟩ := h
    exact ⟨a, b, h1, NodeOk.keep hm hk n a h2, NodesOk.keep hm hk r b h3⟩
end

theorem NodesOk.append {w : World} {M : Nat → Prop} : ∀ {l m : List NodeL} {cs ds : List Value}, NodesOk w M l cs → NodesOk w M m ds → NodesOk w M (l ++ m) (cs ++ ds)
  | [], m, cs, ds, h, h' => by simp only [NodesOk] at h; subst h; exact h'
  | n :: r, m, cs, ds, h, h' => by
    simp only [NodesOk] at h
    obtain ⟨a, b, rfl, h2, h3⟩ := h
    simp only [List.cons_append, NodesOk]
    exact ⟨a, b ++ ds, by rw [List.append_assoc], h2, NodesOk.append h3 h'⟩
theorem NodesOk.one {w : World} {M : Nat → Prop} {n : NodeL} {cs : List Value} (h : NodeOk w M n cs) : NodesOk w M [n] cs := by
  simp only [NodesOk]
  exact ⟨cs, [], by simp, h, rfl⟩

/-- The cells of item i. -/
theorem NodesOk.at {w : World} {M : Nat → Prop} : ∀ {l : List NodeL} {cs : List Value}, NodesOk w M l cs → ∀ (i : Nat) (n : NodeL), l[i]? = some n →
    ∃ a, NodeOk w M n a ∧ ∀ j, j < 5 → cs[i * 5 + j]? = a[j]?
  | [], _, _, i, n, hi => by simp at hi
  | x :: r, cs, h, i, n, hi => by
    simp only [NodesOk] at h
    obtain ⟨a, b, rfl, h2, h3⟩ := h
    have hl := h2.len
    cases i with
    | zero =>
      simp only [List.getElem?_cons_zero, Option.some.injEq] at hi
      subst hi
      exact ⟨a, h2, fun j hj => by rw [Nat.zero_mul, Nat.zero_add, List.getElem?_append_left (by omega)]⟩
    | succ i =>
      obtain ⟨c, h4, h5⟩ := NodesOk.at h3 i n (by simpa using hi)
      refine ⟨c, h4, fun j hj => ?_⟩
      rw [List.getElem?_append_right (by rw [hl]; omega), hl, ← h5 j hj]
      congr 1
      omega

/-- The cells that the walk reads of item i of a slice. -/
theorem node_cells {w : World} {M : Nat → Prop} {A : Option Addr} {l : List NodeL} {cs : List Value} (h : ReadsM w M 5 A l.length cs) (hn : NodesOk w M l cs) (i : Nat) (n : NodeL) (hi : l[i]? = some n) :
    ∃ ad Aw cw Ak ck kcs, A = some ad ∧ M ad.block ∧ w.cell? (ad.add (i * 5)) = some (.string ⟨n.name.toArray⟩) ∧ w.cell? ⟨(ad.add (i * 5)).block, (ad.add (i * 5)).off + 1, none⟩ = some (.int .i64 n.pos) ∧
      w.cell? ⟨(ad.add (i * 5)).block, (ad.add (i * 5)).off + 2, none⟩ = some (.slice Aw n.words.length cw) ∧ w.cell? ⟨(ad.add (i * 5)).block, (ad.add (i * 5)).off + 3, none⟩ = some (.bool n.block) ∧
      w.cell? ⟨(ad.add (i * 5)).block, (ad.add (i * 5)).off + 4, none⟩ = some (.slice Ak n.kids.length ck) ∧
      NilOk Aw cw ∧ NilOk Ak ck ∧ ReadsM w M 4 Aw n.words.length (n.words.flatMap WordL.cells) ∧ ReadsM w M 5 Ak n.kids.length kcs ∧ NodesOk w M n.kids kcs := by
  have hlt : i < l.length := (List.getElem?_eq_some_iff.1 hi).1
  obtain ⟨ad, rfl, hb, hc⟩ := h.2 (by omega)
  obtain ⟨a, ha, hg⟩ := hn.at i n hi
  obtain ⟨nm, p, ws, b, ks⟩ := n
  simp only [NodeOk] at ha
  obtain ⟨Aw, cw, Ak, ck, kcs, rfl, h2, h3, h4, h5, h6⟩ := ha
  have hs : ∀ j, j ≠ 0 → ad.add (i * 5 + j) = ⟨(ad.add (i * 5)).block, (ad.add (i * 5)).off + j, none⟩ := fun j hj => by
    rw [← add_of_add]; unfold Addr.add; rw [if_neg hj]
  exact ⟨ad, Aw, cw, Ak, ck, kcs, rfl, hb, hc _ _ (hg 0 (by omega)), hs 1 (by omega) ▸ hc _ _ (hg 1 (by omega)), hs 2 (by omega) ▸ hc _ _ (hg 2 (by omega)),
    hs 3 (by omega) ▸ hc _ _ (hg 3 (by omega)), hs 4 (by omega) ▸ hc _ _ (hg 4 (by omega)), h2, h3, h4, h5, h6⟩

theorem wflat_get (l : List WordL) (i : Nat) (t : WordL) (h : l[i]? = some t) : ∀ j, j < 4 → (l.flatMap WordL.cells)[i * 4 + j]? = t.cells[j]? := by
  induction l generalizing i with
  | nil => simp at h
  | cons a l ih =>
    intro j hj
    rw [List.flatMap_cons]
    cases i with
    | zero =>
      simp only [List.getElem?_cons_zero, Option.some.injEq] at h
      subst h
      rw [List.getElem?_append_left (by simp [WordL.cells]; omega)]
      simp
    | succ i =>
      rw [List.getElem?_append_right (by simp [WordL.cells]; omega)]
      have : (i + 1) * 4 + j - a.cells.length = i * 4 + j := by simp [WordL.cells]; omega
      rw [this]
      exact ih i (by simpa using h) j hj

/-- The four cells of word i. -/
theorem word_cells {w : World} {M : Nat → Prop} {A : Option Addr} {l : List WordL} (h : ReadsM w M 4 A l.length (l.flatMap WordL.cells)) (i : Nat) (t : WordL) (hi : l[i]? = some t) :
    ∃ ad, A = some ad ∧ M ad.block ∧ w.cell? (ad.add (i * 4)) = some (.bool t.num) ∧ w.cell? ⟨(ad.add (i * 4)).block, (ad.add (i * 4)).off + 1, none⟩ = some (.int .i64 t.n) ∧
      w.cell? ⟨(ad.add (i * 4)).block, (ad.add (i * 4)).off + 2, none⟩ = some (.string ⟨t.s.toArray⟩) ∧ w.cell? ⟨(ad.add (i * 4)).block, (ad.add (i * 4)).off + 3, none⟩ = some (.int .i64 t.pos) := by
  have hlt : i < l.length := (List.getElem?_eq_some_iff.1 hi).1
  obtain ⟨ad, rfl, hb, hc⟩ := h.2 (by omega)
  have hg := wflat_get l i t hi
  have hs : ∀ j, j ≠ 0 → ad.add (i * 4 + j) = ⟨(ad.add (i * 4)).block, (ad.add (i * 4)).off + j, none⟩ := fun j hj => by
    rw [← add_of_add]; unfold Addr.add; rw [if_neg hj]
  exact ⟨ad, rfl, hb, hc _ _ (hg 0 (by omega)), hs 1 (by omega) ▸ hc _ _ (hg 1 (by omega)), hs 2 (by omega) ▸ hc _ _ (hg 2 (by omega)), hs 3 (by omega) ▸ hc _ _ (hg 3 (by omega))⟩

end Go.Proofs.Ytjbniichcopnlaa
