/- Layer 9 (tree): whether any items are few: the walk of left. -/
import Derived.Test.YtaffbnjdlgcaiaaDoorTreeS
set_option linter.unusedVariables false
set_option linter.unusedSimpArgs false
namespace Go.Proofs.YtaffbnjdlgcaiaaDoor
open Go.RowKit

mutual
/-- Names, texts, and lists are no longer than may be. -/
def fitN : NodeL → Prop
  | .mk nm _ ws _ ks => nm.length ≤ maxLen ∧ ws.length ≤ maxLen ∧ (∀ w ∈ ws, w.s.length ≤ maxLen) ∧ ks.length ≤ maxLen ∧ fitNs ks
def fitNs : List NodeL → Prop
  | [] => True
  | n :: r => fitN n ∧ fitNs r
end
theorem fit_at : ∀ (l : List NodeL) (k : Nat) (n : NodeL), fitNs l → l[k]? = some n → fitN n
  | [], k, n, _, h => by simp at h
  | x :: r, 0, n, h, hk => by
    simp only [List.getElem?_cons_zero, Option.some.injEq] at hk
    subst hk
    exact h.1
  | x :: r, k + 1, n, h, hk => fit_at r k n h.2 (by simpa using hk)
theorem fit_parts (n : NodeL) (h : fitN n) : n.name.length ≤ maxLen ∧ n.words.length ≤ maxLen ∧ (∀ w ∈ n.words, w.s.length ≤ maxLen) ∧ n.kids.length ≤ maxLen ∧ fitNs n.kids := by
  obtain ⟨a, b, c, d, e⟩ := n
  exact ⟨h.1, h.2.1, h.2.2.1, h.2.2.2.1, h.2.2.2.2⟩

theorem leftN_eq (most deep : Int) (n : NodeL) : leftN most deep n = if most < 0 ∨ 20 < n.words.length then -1 else leftL (most - 1) (deep - 1) n.kids := by
  obtain ⟨a, b, c, d, e⟩ := n
  simp only [leftN, NodeL.words, NodeL.kids]
  congr 1
theorem leftL_go (most deep : Int) (l : List NodeL) (h : deep ≠ 0) : leftL most deep l = leftGo most deep l := by
  cases l with
  | nil => simp only [leftL, leftGo]
  | cons n r => rw [leftL, if_neg h]
theorem leftGo_step : ∀ (l : List NodeL) (k : Nat) (n : NodeL) (most deep : Int), l[k]? = some n → leftGo most deep (l.drop k) = leftGo (leftN most deep n) deep (l.drop (k + 1))
  | [], k, n, _, _, h => by simp at h
  | x :: r, 0, n, most, deep, h => by
    simp only [List.getElem?_cons_zero, Option.some.injEq] at h
    subst h
    simp only [List.drop_zero, leftGo, Nat.zero_add, List.drop_succ_cons]
  | x :: r, k + 1, n, most, deep, h => by simpa using leftGo_step r k n most deep (by simpa using h)
mutual
theorem left_geN : ∀ (n : NodeL) (most deep : Int), -1 ≤ most → -1 ≤ leftN most deep n ∧ leftN most deep n ≤ most ∧ (0 ≤ leftN most deep n → fewN n = true ∧ (cntN n : Int) ≤ 21 * (most - leftN most deep n))
  | .mk nm p ws b ks, most, deep, h => by
    simp only [leftN]
    split
    · exact ⟨by omega, by omega, fun h => by omega⟩
    · rename_i h1
      obtain ⟨a1, a2, a3⟩ := left_geL ks (most - 1) (deep - 1) (by omega)
      refine ⟨a1, by omega, fun h0 => ?_⟩
      obtain ⟨b1, b2⟩ := a3 h0
      simp only [fewN, b1, Bool.and_true, decide_eq_true_eq, cntN]
      refine ⟨by omega, by omega⟩
theorem left_geL : ∀ (l : List NodeL) (most deep : Int), -1 ≤ most → -1 ≤ leftL most deep l ∧ leftL most deep l ≤ most ∧ (0 ≤ leftL most deep l → fewNs l = true ∧ (cntL l : Int) ≤ 21 * (most - leftL most deep l))
  | [], most, deep, h => by simp only [leftL, cntL]; exact ⟨h, Int.le_refl _, fun _ => ⟨rfl, by omega⟩⟩
  | n :: r, most, deep, h => by
    simp only [leftL]
    split
    · exact ⟨by omega, by omega, fun h => by omega⟩
    · simp only [leftGo]
      obtain ⟨a1, a2, a3⟩ := left_geN n most deep h
      obtain ⟨b1, b2, b3⟩ := left_geG r (leftN most deep n) deep a1
      refine ⟨b1, by omega, fun h0 => ?_⟩
      obtain ⟨c1, c2⟩ := b3 h0
      obtain ⟨d1, d2⟩ := a3 (by omega)
      simp only [fewNs, c1, d1, Bool.and_self, cntL]
      refine ⟨trivial, by omega⟩
theorem left_geG : ∀ (l : List NodeL) (most deep : Int), -1 ≤ most → -1 ≤ leftGo most deep l ∧ leftGo most deep l ≤ most ∧ (0 ≤ leftGo most deep l → fewNs l = true ∧ (cntL l : Int) ≤ 21 * (most - leftGo most deep l))
  | [], most, deep, h => by simp only [leftGo, cntL]; exact ⟨h, Int.le_refl _, fun _ => ⟨rfl, by omega⟩⟩
  | n :: r, most, deep, h => by
    simp only [leftGo]
    obtain ⟨a1, a2, a3⟩ := left_geN n most deep h
    obtain ⟨b1, b2, b3⟩ := left_geG r (leftN most deep n) deep a1
    refine ⟨b1, by omega, fun h0 => ?_⟩
    obtain ⟨c1, c2⟩ := b3 h0
    obtain ⟨d1, d2⟩ := a3 (by omega)
    simp only [fewNs, c1, d1, Bool.and_self, cntL]
    refine ⟨trivial, by omega⟩
end

set_option maxRecDepth 100000 in
set_option maxHeartbeats 2000000 in
theorem ref9_leftG : ∀ (D : Nat) (l : List NodeL) (A : Option Addr) (c : Nat) (w : World) (B : Nat) (most : Int), D ≤ 100 → -1 ≤ most → most ≤ 100000 → l.length ≤ maxLen → fitNs l → B ≤ w.heap.size → ROk w B A l →
    Calls Tryd.prog 22 #[.slice A l.length c, .int .i64 most, .int .i64 D] w fun e w' => e = .returned (.int .i64 (leftL most D l)) ∧ Below w.heap.size w w' := by
  intro D
  induction D with
  | zero =>
    intro l A c w B most _ _ _ hlen hfit hB hok
    by_cases h0 : 0 < l.length
    · have hd : ((0 : Nat) : Int) = 0 := rfl
      have h0' : (0 : Int) < l.length := by omega
      have hr : leftL most ((0 : Nat) : Int) l = -1 := by
        cases l with
        | nil => simp at h0
        | cons n r => simp only [leftL]; rw [if_pos hd]
      rw [hr]
      clear hok hfit
      go_enter Tryd.func22, Tryd.ntmps22
      go_wp2_with fail
      go_ret
      exact ⟨rfl, Below.refl _ _⟩
    · have hl0 : l = [] := List.eq_nil_of_length_eq_zero (by omega)
      subst hl0
      have hr : leftL most ((0 : Nat) : Int) [] = most := by simp only [leftL]
      rw [hr]
      clear hok hfit h0
      go_enter Tryd.func22, Tryd.ntmps22
      go_wp2_with fail
      go_loopw [1, 18] (fun m i wr => m = .int .i64 most ∧ i = .int .i64 0 ∧ wr = w) (fun _ _ _ => 0)
      case atStart => exact ⟨rfl, rfl, rfl⟩
      case round =>
        obtain ⟨rfl, rfl, rfl⟩ := hrel
        go_wp2_with fail
        go_ret
        exact ⟨rfl, Below.refl _ _⟩
  | succ D ih =>
    intro l A c w B most hD hm0 hm1 hlen hfit hB hok
    have hlen' := hlen
    unfold maxLen at hlen'
    have hd0 : (((D + 1 : Nat) : Int) == 0) = false := beq_false_of_ne (by omega)
    have hr : leftL most ((D + 1 : Nat) : Int) l = leftGo most ((D + 1 : Nat) : Int) l := leftL_go _ _ _ (by omega)
    rw [hr]
    have w2f : IntKind.i64.wrap (((D + 1 : Nat) : Int) - 1) = (D : Int) := by rw [IntKind.wrap_i64]; omega
    have hdd : ((D + 1 : Nat) : Int) - 1 = (D : Int) := by omega
    have HDD := Lib.hid hdd
    generalize hde : ((D + 1 : Nat) : Int) = dp at *
    have HOK := Lib.hid hok
    have HFIT := Lib.hid hfit
    have HIH := Lib.hid ih
    clear ih hok hfit hr hde hdd
    go_enter Tryd.func22, Tryd.ntmps22
    go_wp2_with fail
    go_loopw [1, 18] (fun m i wr => ∃ (k : Nat) (x : Int), k ≤ l.length ∧ -1 ≤ x ∧ x ≤ 100000 ∧ m = .int .i64 x ∧ i = .int .i64 k ∧ Below w.heap.size w wr ∧ leftGo most dp l = leftGo x dp (l.drop k)) (fun _ i _ => l.length - (intOf i).toNat)
    case atStart => exact ⟨0, most, Nat.zero_le _, hm0, hm1, rfl, rfl, Below.refl _ _, by simp⟩
    case round =>
      obtain ⟨k, x, hk, hx0, hx1, rfl, rfl, hb, hs⟩ := hrel
      have hbs := hb.size
      by_cases hlt : k < l.length
      · obtain ⟨n, hn⟩ : ∃ n, l[k]? = some n := ⟨_, List.getElem?_eq_getElem hlt⟩
        obtain ⟨ad, Aw, cw, Ak, ck, hA, hadB, c0, c1, c2, c3, c4, hw, hkk⟩ := (HOK.out.below (hb.mono hB)).at k n hn
        subst hA
        obtain ⟨_, f2, _, f4, f5⟩ := fit_parts n (fit_at l k n HFIT.out hn)
        rw [leftGo_step l k n x dp hn, leftN_eq] at hs
        have lk : (k : Int) < l.length := by omega
        have lk0 : (0 : Int) ≤ k := by omega
        have w1f : IntKind.i64.wrap ((k : Int) + 1) = (k : Int) + 1 := by rw [IntKind.wrap_i64]; omega
        have hneg : ∀ (r : List NodeL), leftGo (-1) dp r = -1 := fun r => by
          cases r with
          | nil => simp only [leftGo]
          | cons y r =>
            have := left_geG (y :: r) (-1) dp (by omega)
            omega
        by_cases hneg0 : x < 0
        · have hres : leftGo most dp l = -1 := by rw [hs, if_pos (Or.inl hneg0)]; exact hneg _
          have HRES := Lib.hid hres
          have HB := Lib.hid (hb.alloc (by omega) (.cells #[.string ⟨n.name.toArray⟩, .int .i64 n.pos, .slice Aw n.words.length cw, .bool n.block, .slice Ak n.kids.length ck] 38))
          clear hs hres hneg hb hw hkk f2 f4 f5
          go_wp2_with fail
          go_ret
          exact ⟨by rw [HRES.out]; rfl, HB.out⟩
        · by_cases hw20 : 20 < n.words.length
          · have hres : leftGo most dp l = -1 := by rw [hs, if_pos (Or.inr hw20)]; exact hneg _
            have hw20' : (20 : Int) < n.words.length := by omega
            have HRES := Lib.hid hres
            have HB := Lib.hid (hb.alloc (by omega) (.cells #[.string ⟨n.name.toArray⟩, .int .i64 n.pos, .slice Aw n.words.length cw, .bool n.block, .slice Ak n.kids.length ck] 38))
            clear hs hres hneg hb hw hkk f2 f4 f5 hw20
            go_wp2_with fail
            go_ret
            exact ⟨by rw [HRES.out]; rfl, HB.out⟩
          · rw [if_neg (by omega), HDD.out] at hs
            have hle := left_geL n.kids (x - 1) D (by omega)
            have hw20' : ¬ ((20 : Int) < n.words.length) := by omega
            have w3f : IntKind.i64.wrap (x - 1) = x - 1 := by rw [IntKind.wrap_i64]; omega
            have HI := Lib.hid (fun W (h1 : B ≤ W.heap.size) (h2 : ROk W B Ak n.kids) => HIH.out n.kids Ak ck W B (x - 1) (by omega) (by omega) (by omega) f4 f5 h1 h2)
            have HS := Lib.hid hs
            have HB := Lib.hid hb
            have HKK := Lib.hid hkk
            generalize leftL (x - 1) (D : Int) n.kids = y at *
            clear hs hneg hb hw hkk f2 f4 f5 hw20
            go_wp2_with fail
            refine (HI.out _ (by simp; omega) (HKK.out.below ((Below.refl _ _).alloc (by omega) _))).mono ?_
            rintro e w2 ⟨rfl, hb2⟩
            have hb3 : Below w.heap.size w w2 := HB.out.trans (((Below.refl wr.heap.size wr).alloc (Nat.le_refl _) _ |>.trans (hb2.mono (by simp))).mono hbs)
            have HB3 := Lib.hid hb3
            clear hb2 hb3
            go_wp2_with fail
            exact ⟨⟨k + 1, y, by omega, hle.1, by omega, rfl, by go_num, HB3.out, HS.out⟩, by simp [intOf]; omega⟩
      · have hkl : k = l.length := by omega
        have hs2 : leftGo most dp l = x := by rw [hs, List.drop_eq_nil_of_le (by omega)]; simp only [leftGo]
        have HS2 := Lib.hid hs2
        have lk : ¬ (k : Int) < l.length := by omega
        clear hs hs2
        go_wp2_with fail
        go_ret
        exact ⟨by rw [HS2.out]; rfl, hb⟩

theorem ref9_FewG (l : List NodeL) (A : Option Addr) (c : Nat) (w : World) (B : Nat) (most : Int) (hm0 : 0 ≤ most) (hm1 : most ≤ 100000) (hlen : l.length ≤ maxLen) (hfit : fitNs l) (hB : B ≤ w.heap.size) (hok : ROk w B A l) :
    Calls Tryd.prog 10 #[.slice A l.length c, .int .i64 most] w fun e w' => e = .returned (.bool (decide (0 ≤ leftL most 12 l))) ∧ Below w.heap.size w w' := by
  have H := Lib.hid (ref9_leftG 12 l A c w B most (by omega) (by omega) hm1 hlen hfit hB hok)
  clear hok hfit
  have e12 : ((12 : Nat) : Int) = 12 := rfl
  rw [e12] at H
  generalize leftL most 12 l = r at *
  go_enter Tryd.func10, Tryd.ntmps10
  go_wp2_with fail
  refine H.out.mono ?_
  rintro e w1 ⟨rfl, hb1⟩
  go_wp2
  go_ret
  exact ⟨by first | rfl | exact ret_bool (by simp), hb1⟩

end Go.Proofs.YtaffbnjdlgcaiaaDoor
