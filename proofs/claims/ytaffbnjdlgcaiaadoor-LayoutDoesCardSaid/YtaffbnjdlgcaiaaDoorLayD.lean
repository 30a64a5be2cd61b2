/- Layer 10 (layout), the laws: what their walks share; live. -/
import Derived.Test.YtaffbnjdlgcaiaaDoorLayC
import Derived.Test.YtaffbnjdlgcaiaaDoorRef8S
set_option linter.unusedVariables false
set_option linter.unusedSimpArgs false
namespace Go.Proofs.YtaffbnjdlgcaiaaDoor
open Go.RowKit

theorem tab_lt {P : Program} {w : World} {n : String} {k : IntKind} {zs : List Int} {g : Nat} (hg : P.globalNamed n = some g) (h : Lib.TabIs P w n k zs) : g < w.heap.size := by
  unfold Lib.TabIs World.var? at h
  rw [hg] at h
  simp only [Option.bind_some] at h
  rcases Nat.lt_or_ge g w.heap.size with h1 | h1
  · exact h1
  · rw [Array.getElem?_eq_none h1] at h
    cases h
theorem Tab.lt {w : World} (h : Tab w) : 3 < w.heap.size := tab_lt (by kernel_rfl) h
theorem SpaceTab.lt {w : World} (h : SpaceTab w) : 0 < w.heap.size := tab_lt (by kernel_rfl) h

mutual
theorem cnt_zN : ∀ (n : NodeL), cntN (zN n) = cntN n
  | .mk nm p ws b ks => by simp only [zN, cntN, List.length_map, cnt_z ks]
theorem cnt_z : ∀ (l : List NodeL), cntL (zNs l) = cntL l
  | [] => rfl
  | n :: r => by simp only [zNs, cntL, cnt_zN n, cnt_z r]
end
mutual
theorem nd_zN : ∀ (n : NodeL), ndN (zN n) = ndN n
  | .mk nm p ws b ks => by simp only [zN, ndN, nd_z ks]
theorem nd_z : ∀ (l : List NodeL), ndL (zNs l) = ndL l
  | [] => rfl
  | n :: r => by simp only [zNs, ndL, nd_zN n, nd_z r]
end
theorem sameL_eq : ∀ l m : List Tok, l.map Tok.bare0 = m.map Tok.bare0 → sameL l m = true
  | [], [], _ => rfl
  | [], _ :: _, h => by simp at h
  | _ :: _, [], h => by simp at h
  | a :: l, b :: m, h => by
    simp only [List.map_cons, List.cons.injEq] at h
    rw [sameL, sameL_eq l m h.2]
    obtain ⟨a1, a2, a3, a4⟩ := a
    obtain ⟨b1, b2, b3, b4⟩ := b
    have h1 := h.1
    simp only [Tok.bare0, Tok.mk.injEq] at h1
    obtain ⟨rfl, _, rfl, rfl⟩ := h1
    simp [sameTok]
theorem canon_err (s : Bytes) (h : (canonL s).2.2 ≠ 0) : (canonL s).1 = [] := by
  unfold canonL at h ⊢
  by_cases he : (treeL s).err ≠ 0
  · rw [if_pos he]
  · rw [if_neg he] at h ⊢
    simp only at h ⊢
    unfold layL at h ⊢
    by_cases hc : checkL 0 (treeL s).nodes ≠ 0
    · rw [if_pos hc]
    · rw [if_neg hc] at h ⊢
      by_cases hl : 8192 < (flatL (treeL s).nodes).length ∨ 65536 < (printL 0 (treeL s).nodes).length
      · rw [if_pos hl]
      · rw [if_neg hl] at h; exact absurd rfl h
theorem canon_in (s : Bytes) (hs : s.length ≤ 400) : (treeL s).err = 0 → checkL 0 (treeL s).nodes = 0 ∧ cntL (treeL s).nodes ≤ 100000 := fun he => by
  obtain ⟨h1, _, _, h4⟩ := right_law s hs he
  exact ⟨h1, by omega⟩
/-- What was written anew is read, and is small. -/
theorem canon_out (s : Bytes) (hs : s.length ≤ 400) (h : (canonL s).2.2 = 0) :
    (canonL s).1.length ≤ 65536 ∧ ((treeL (canonL s).1).err = 0 → checkL 0 (treeL (canonL s).1).nodes = 0 ∧ cntL (treeL (canonL s).1).nodes ≤ 100000) := by
  unfold canonL at h ⊢
  by_cases he : (treeL s).err ≠ 0
  · rw [if_pos he] at h; exact absurd h he
  rw [if_neg he] at h ⊢
  simp only at h ⊢
  obtain ⟨h1, h2, h3, h4⟩ := lay_ok _ h
  obtain ⟨p1, p2, p3⟩ := print_tree _ h
  obtain ⟨_, _, _, r4⟩ := right_law s hs (by simpa using he)
  refine ⟨by rw [h4]; exact h3, fun _ => ⟨?_, ?_⟩⟩
  · rw [← check_z, p3, check_z]; exact h1
  · rw [← cnt_z, p3, cnt_z]; omega

theorem cut_err_nil (s : Bytes) (h : (cutL s).err ≠ 0) : (cutL s).toks = [] := by
  unfold cutL at h ⊢
  by_cases hl : s.length > 65536
  · rw [if_pos hl]
  · rw [if_neg hl] at h ⊢
    exact (cutM_err false 0 0 0 s).2 h
theorem ROk.wide {w : World} {B B' : Nat} {A : Option Addr} {l : List NodeL} (h : ROk w B A l) (hB : B ≤ B') : ROk w B' A l := by
  obtain ⟨cs, h1, h2⟩ := h
  exact ⟨cs, h1.keep (fun _ h => Nat.lt_of_lt_of_le h hB) (fun _ _ => rfl), NodesOk.keep (fun _ h => Nat.lt_of_lt_of_le h hB) (fun _ _ => rfl) _ _ h2⟩

theorem live_tree10 : treeL [97, 32, 49, 123, 98, 59, 125] = ⟨[.mk [97] 0 [⟨true, 1, [], 2⟩] true [.mk [98] 4 [] false []]], 0, 0⟩ := by kernel_rfl
theorem live_canon : canonL [97, 32, 49, 123, 98, 59, 125] = ([97, 32, 49, 32, 123, 10, 32, 32, 98, 59, 10, 125, 10], 0, 0) := by
  unfold canonL
  rw [live_tree10]
  simp [layL, checkL, checkN, wordOk, nameL, isLetter, isInner, flatL, flatN, printL, printN, lineB, wordB, Lib.itoa, Lib.decDigits_one, Lib.join_cons, Lib.join_nil, Lib.joinTail, List.replicate_succ, wordT]

set_option maxRecDepth 100000 in
theorem law10_live (w : World) (ht : Tab w) (hsp : SpaceTab w) :
    Calls Tryd.prog 9 #[] w fun e w' => e = .returned (.bool true) ∧ Below w.heap.size w w' := by
  have hC := layout_Canon ⟨#[97, 32, 49, 123, 98, 59, 125]⟩ w (by decide) (canon_in _ (by decide)) ht hsp hsp.lt ht.lt
  rw [show (ByteArray.mk #[97, 32, 49, 123, 98, 59, 125]).data.toList = [97, 32, 49, 123, 98, 59, 125] from rfl, live_canon] at hC
  have HC := Lib.hid hC
  clear hC ht hsp
  go_enter Tryd.func9, Tryd.ntmps9
  go_wp2_with fail
  refine HC.out.mono ?_
  rintro e w1 ⟨rfl, hb⟩
  have HB := Lib.hid hb
  clear hb
  go_wp2_with fail
  go_ret
  exact ⟨rfl, HB.out⟩

end Go.Proofs.YtaffbnjdlgcaiaaDoor
