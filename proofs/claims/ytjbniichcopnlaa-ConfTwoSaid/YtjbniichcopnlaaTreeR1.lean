/- Layer 9 (tree): items that are read: the walks of Deep, and of Few. -/
import Derived.Test.YtjbniichcopnlaaTreeP7
import Derived.Test.YtjbniichcopnlaaTreeR0
set_option linter.unusedVariables false
set_option linter.unusedSimpArgs false
namespace Go.Proofs.Ytjbniichcopnlaa
open Go.RowKit

/-- The slice reads as items, all they lead to below block B. -/
def ROk (w : World) (B : Nat) (A : Option Addr) (l : List NodeL) : Prop := ∃ cs, ReadsM w (· < B) 5 A l.length cs ∧ NodesOk w (· < B) l cs
theorem ROk.below {w w' : World} {B : Nat} {A : Option Addr} {l : List NodeL} (h : ROk w B A l) (hb : Below B w w') : ROk w' B A l := by
  obtain ⟨cs, h1, h2⟩ := h
  have hk : ∀ p : Addr, p.block < B → w'.cell? p = w.cell? p := fun p hp => hb.cell hp
  exact ⟨cs, h1.keep (fun _ h => h) hk, NodesOk.keep (fun _ h => h) hk _ _ h2⟩
theorem ROk.of_parse {w w' : World} {A : Option Addr} {l : List NodeL} {kcs : List Value} (h1 : ReadsM w' (fun b => w.heap.size ≤ b ∧ b < w'.heap.size) 5 A l.length kcs) (h2 : NodesOk w' (fun b => w.heap.size ≤ b ∧ b < w'.heap.size) l kcs) : ROk w' w'.heap.size A l :=
  ⟨kcs, h1.keep (fun _ h => h.2) (fun _ _ => rfl), NodesOk.keep (fun _ h => h.2) (fun _ _ => rfl) _ _ h2⟩
/-- The cells of item i, as a walk reads them. -/
theorem ROk.at {w : World} {B : Nat} {A : Option Addr} {l : List NodeL} (h : ROk w B A l) (i : Nat) (n : NodeL) (hi : l[i]? = some n) :
    ∃ ad Aw cw Ak ck, A = some ad ∧ ad.block < B ∧ w.cell? (ad.add (i * 5)) = some (.string ⟨n.name.toArray⟩) ∧ w.cell? ⟨(ad.add (i * 5)).block, (ad.add (i * 5)).off + 1, none⟩ = some (.int .i64 n.pos) ∧
      w.cell? ⟨(ad.add (i * 5)).block, (ad.add (i * 5)).off + 2, none⟩ = some (.slice Aw n.words.length cw) ∧ w.cell? ⟨(ad.add (i * 5)).block, (ad.add (i * 5)).off + 3, none⟩ = some (.bool n.block) ∧
      w.cell? ⟨(ad.add (i * 5)).block, (ad.add (i * 5)).off + 4, none⟩ = some (.slice Ak n.kids.length ck) ∧ ReadsM w (· < B) 4 Aw n.words.length (n.words.flatMap WordL.cells) ∧ ROk w B Ak n.kids := by
  obtain ⟨cs, h1, h2⟩ := h
  obtain ⟨ad, Aw, cw, Ak, ck, kcs, e, hM, c0, c1, c2, c3, c4, _, _, hw, hk, hkn⟩ := node_cells h1 h2 i n hi
  exact ⟨ad, Aw, cw, Ak, ck, e, hM, c0, c1, c2, c3, c4, hw, kcs, hk, hkn⟩

theorem deepL_cnt : ∀ l : List NodeL, deepL l ≤ cntL l
  | [] => Nat.le_refl _
  | .mk nm p ws b ks :: r => by
    have h1 := deepL_cnt ks
    have h2 := deepL_cnt r
    simp only [deepL, deepN, cntL, cntN]
    split <;> omega
theorem cntL_take : ∀ (l : List NodeL) (k : Nat), cntL (l.take k) ≤ cntL l
  | [], k => by simp [cntL]
  | x :: r, 0 => by simp [cntL]
  | x :: r, k + 1 => by
    have := cntL_take r k
    simp only [List.take_succ_cons, cntL]; omega
theorem deepN_eq (n : NodeL) : deepN n = deepL n.kids + (if n.block then 1 else 0) := by obtain ⟨nm, p, ws, b, ks⟩ := n; rfl
theorem deepL_take (l : List NodeL) (k : Nat) (n : NodeL) (h : l[k]? = some n) : deepL (l.take (k + 1)) = max (deepL (l.take k)) (deepN n) := by
  induction l generalizing k with
  | nil => simp at h
  | cons x r ih =>
    cases k with
    | zero =>
      simp only [List.getElem?_cons_zero, Option.some.injEq] at h
      subst h
      simp [deepL]
    | succ k =>
      have := ih k (by simpa using h)
      simp only [List.take_succ_cons, deepL, this]
      omega

mutual
/-- How many items. -/
def ndN : NodeL → Nat
  | .mk _ _ _ _ ks => 1 + ndL ks
def ndL : List NodeL → Nat
  | [] => 0
  | n :: r => ndN n + ndL r
end
theorem ndN_eq (n : NodeL) : ndN n = 1 + ndL n.kids := by obtain ⟨nm, p, ws, b, ks⟩ := n; rfl
theorem ndL_take (l : List NodeL) (k : Nat) (n : NodeL) (h : l[k]? = some n) : ndL (l.take (k + 1)) = ndL (l.take k) + ndN n := by
  induction l generalizing k with
  | nil => simp at h
  | cons x r ih =>
    cases k with
    | zero =>
      simp only [List.getElem?_cons_zero, Option.some.injEq] at h
      subst h
      simp [ndL]
    | succ k =>
      have := ih k (by simpa using h)
      simp only [List.take_succ_cons, ndL, this]
      omega
theorem ndL_cnt : ∀ l : List NodeL, ndL l ≤ cntL l
  | [] => Nat.le_refl _
  | .mk nm p ws b ks :: r => by
    have h1 := ndL_cnt ks
    have h2 := ndL_cnt r
    simp only [ndL, ndN, cntL, cntN]; omega
theorem cntL_take_mem (l : List NodeL) (k : Nat) (n : NodeL) (h : l[k]? = some n) : cntL (l.take k) + cntN n ≤ cntL l := by
  induction l generalizing k with
  | nil => simp at h
  | cons x r ih =>
    cases k with
    | zero =>
      simp only [List.getElem?_cons_zero, Option.some.injEq] at h
      subst h
      simp [cntL]
    | succ k =>
      have := ih k (by simpa using h)
      simp only [List.take_succ_cons, cntL]
      omega
theorem cntN_eq (n : NodeL) : cntN n = 1 + n.words.length + cntL n.kids := by obtain ⟨nm, p, ws, b, ks⟩ := n; rfl
/-- What is known of each item of a list that may be. -/
theorem check_at : ∀ (l : List NodeL) (d i : Nat) (n : NodeL), checkL d l = 0 → l[i]? = some n → n.words.length ≤ 8 ∧ n.words.all wordOk = true ∧ nameL n.name = true ∧ (n.block = false → n.kids = []) ∧ (n.block = true → d ≠ 6) ∧ checkL (d + 1) n.kids = 0
  | [], d, i, n, _, h => by simp at h
  | x :: r, d, 0, n, hl, h => by
    simp only [List.getElem?_cons_zero, Option.some.injEq] at h
    subst h
    obtain ⟨h1, _⟩ := checkL_cons d _ _ hl
    obtain ⟨nm, p, ws, b, ks⟩ := x
    obtain ⟨p1, p2, p3, p4⟩ := check_parts d nm p ws b ks h1
    refine ⟨p1, ?_, ?_, p2, p3, p4⟩
    · simp only [checkN] at h1
      show ws.all wordOk = true
      cases hw : ws.all wordOk
      · rw [hw] at h1; simp at h1
      · rfl
    · simp only [checkN] at h1
      show nameL nm = true
      cases hw : nameL nm
      · rw [hw] at h1; simp at h1
      · rfl
  | x :: r, d, i + 1, n, hl, h => by
    obtain ⟨_, h2⟩ := checkL_cons d _ _ hl
    exact check_at r d i n h2 (by simpa using h)

end Go.Proofs.Ytjbniichcopnlaa
