/- Layer 8 (lex): the walk of Join. -/
import Derived.Test.YtaffbnjdlgcaiaaDoorLexText
import Derived.Test.YtaffbnjdlgcaiaaDoorReadToks
import Derived.Lib.Join
import Derived.Lib.ItoaNum
import Derived.Deep.OwnRows
import Derived.Laws.OwnMore
namespace Go.Proofs.YtaffbnjdlgcaiaaDoor
open Go.RowKit

/-- What Join makes of tokens. -/
def textsL (l : List Tok) : List Bytes := l.map fun t => (textL t).1
def joinL (l : List Tok) : Bytes × Int :=
  if 8192 < l.length then ([], 1)
  else if l.all (fun t => (textL t).2) then
    (if 65536 < (Lib.join (textsL l) [32]).length then ([], 6) else (Lib.join (textsL l) [32], 0))
  else ([], 1)

theorem ret_se {a b : ByteArray} {x y : Int} (h : a = b) (h' : x = y) : Ending.returned (.tuple #[.string a, .int .i64 x]) = .returned (.tuple #[.string b, .int .i64 y]) := by rw [h, h']

theorem all_step (l : List Tok) (k : Nat) (t : Tok) (h : l[k]? = some t) : (l.drop k).all (fun t => (textL t).2) = ((textL t).2 && (l.drop (k + 1)).all (fun t => (textL t).2)) := by
  obtain ⟨h1, rfl⟩ := List.getElem?_eq_some_iff.1 h
  rw [List.drop_eq_getElem_cons h1]
  rfl

theorem nDigits_pow (k u : Nat) (h : u < 10 ^ (k + 1)) : Lib.nDigits u ≤ k + 1 := by
  induction k generalizing u with
  | zero => rw [Lib.nDigits_small (by omega)]; omega
  | succ k ih =>
    by_cases h0 : u < 10
    · rw [Lib.nDigits_small h0]; omega
    · rw [Lib.nDigits_big h0]
      have := ih (u / 10) (by rw [Nat.pow_succ] at h; omega)
      omega

/-- A token that may be has a short text. -/
theorem text_len (t : Tok) (h : (textL t).2 = true) : (textL t).1.length ≤ 16 := by
  unfold textL at h ⊢
  by_cases h1 : t.kind = 1
  · rw [if_pos h1] at h ⊢
    simp only [Bool.and_eq_true] at h
    have := h.1
    unfold nameL at this
    split at this
    · simp at this
    · simp only [Bool.and_eq_true, decide_eq_true_eq] at this
      exact this.1.1
  by_cases h2 : t.kind = 2
  · rw [if_neg h1, if_pos h2] at h ⊢
    simp only [decide_eq_true_eq] at h
    show (Lib.itoa t.n).length ≤ 16
    rw [Lib.itoa, if_neg (by omega), Lib.decDigits_length]
    have := nDigits_pow 8 t.n.toNat (by omega)
    omega
  rw [if_neg h1, if_neg h2]
  repeat' split
  all_goals simp

theorem joinTail_len (xs : List Bytes) (h : ∀ x ∈ xs, x.length ≤ 16) : (Lib.joinTail [32] xs).length ≤ 17 * xs.length := by
  induction xs with
  | nil => simp [Lib.joinTail]
  | cons x r ih =>
    have h1 := h x (List.mem_cons_self ..)
    have h2 := ih fun y hy => h y (List.mem_cons_of_mem _ hy)
    simp only [Lib.joinTail, List.map_cons, List.flatten_cons, List.length_append, List.length_cons, List.length_nil] at h2 ⊢
    omega
theorem join_len (xs : List Bytes) (h : ∀ x ∈ xs, x.length ≤ 16) : (Lib.join xs [32]).length ≤ 17 * xs.length := by
  cases xs with
  | nil => simp [Lib.join_nil]
  | cons x r =>
    have h1 := h x (List.mem_cons_self ..)
    have h2 := joinTail_len r fun y hy => h y (List.mem_cons_of_mem _ hy)
    rw [Lib.join_cons, List.length_append, List.length_cons]
    omega
theorem texts_len (l : List Tok) (h : l.all (fun t => (textL t).2) = true) : (Lib.join (textsL l) [32]).length ≤ 17 * l.length := by
  have := join_len (textsL l) (fun x hx => by
    obtain ⟨t, ht, rfl⟩ := List.mem_map.1 hx
    exact text_len t (List.all_eq_true.1 h t ht))
  rwa [textsL, List.length_map] at this

/-- strings.Join, over texts that lie in the first cells of a block. -/
theorem join_at (l : List Tok) (g : Nat) (cs : Array Value) (w : World) (hg : g < w.heap.size) (hb : w.heap[g]? = some (.cells cs 9 (0, 0)))
    (hcs : ∀ (j : Nat) (t : Tok), l[j]? = some t → cs[j]? = some (Value.string ⟨(textL t).1.toArray⟩)) (hl : l.length ≤ 8192) (hlen : (Lib.join (textsL l) [32]).length ≤ 140737488355328) :
    Calls Tryd.prog 40 #[.slice (some ⟨g, 0, none⟩) l.length l.length, .string ⟨#[32]⟩] w fun e w' => e = .returned (.string ⟨(Lib.join (textsL l) [32]).toArray⟩) ∧ Below w.heap.size w w' := by
  have hx : (l.map fun t => (⟨(textL t).1.toArray⟩ : ByteArray)).map (·.data.toList) = textsL l := by
    simp [textsL, Function.comp_def]
  have h := Tryd.strings_Join g 0 l.length (l.map fun t => ⟨(textL t).1.toArray⟩) ⟨#[32]⟩ w (fun j x hj => by
    rw [List.getElem?_map] at hj
    cases ht : l[j]? with
    | none => rw [ht] at hj; cases hj
    | some t =>
      rw [ht] at hj
      injection hj with hj
      subst hj
      rw [Nat.zero_add, Joins.cell_of_block hb]
      exact hcs j t ht) hg (by rw [List.length_map]; omega) (by rw [List.length_map]; omega) (by rw [hx]; exact hlen)
  rw [hx, List.length_map] at h
  exact h

set_option maxRecDepth 100000 in
set_option maxHeartbeats 2000000 in
theorem lex_Join (A : Option Addr) (c : Nat) (l : List Tok) (w : World) (h : Reads w w.heap.size 4 A l.length (l.flatMap Tok.cells)) (ht : Tab w)
    (hl : l.length ≤ maxLen) (hs : ∀ t ∈ l, t.s.length ≤ maxLen ∧ -9223372036854775808 ≤ t.n ∧ t.n ≤ 9223372036854775807) :
    Calls Tryd.prog 21 #[.slice A l.length c] w fun e w' => e = .returned (.tuple #[.string ⟨(joinL l).1.toArray⟩, .int .i64 (joinL l).2]) ∧ Below w.heap.size w w' := by
  unfold maxLen at hl
  by_cases h8 : 8192 < l.length
  · have hj : joinL l = ([], 1) := by unfold joinL; rw [if_pos h8]
    have hc : decide ((l.length : Int) > 8192) = true := decide_eq_true (by omega)
    rw [hj]
    clear hs
    go_enter Tryd.func21, Tryd.ntmps21
    go_wp2
    go_ret2
    exact ⟨rfl, Below.refl _ _⟩
  have hmk := fun W => run_make_row' (P := Tryd.prog) 78 9 (.string ⟨#[]⟩) 16 Tryd.underlying78 (by kernel_rfl) rfl .i64 .i64 l.length (by omega) (by omega) W
  have HT := Lib.hid (fun (k : Nat) (t : Tok) (hk : l[k]? = some t) W (hb : Below w.heap.size w W) => lex_text t W (hs t (List.mem_of_getElem? hk)).1 (hs t (List.mem_of_getElem? hk)).2.1 (hs t (List.mem_of_getElem? hk)).2.2 (ht.below hb))
  clear hs ht
  have hc : decide ((l.length : Int) > 8192) = false := decide_eq_false (by omega)
  have HJ := Lib.hid (fun (g : Nat) (cs : Array Value) W => join_at l g cs W)
  have H8 := Lib.hid h8
  have hjl : joinL l = if l.all (fun t => (textL t).2) then (if 65536 < (Lib.join (textsL l) [32]).length then ([], 6) else (Lib.join (textsL l) [32], 0)) else ([], 1) := by
    unfold joinL; rw [if_neg h8]
  have HL := Lib.hid hjl
  clear h8 hjl
  go_enter Tryd.func21, Tryd.ntmps21
  go_wp2
  go_loopw [18] (fun i wr => ∃ (k : Nat) (cs : Array Value), k ≤ l.length ∧ i = .int .i64 k ∧ Below w.heap.size w wr ∧ w.heap.size < wr.heap.size ∧ wr.heap[w.heap.size]? = some (.cells cs 9 (0, 0)) ∧ cs.size = l.length ∧
    (∀ (j : Nat) (t : Tok), j < k → l[j]? = some t → cs[j]? = some (Value.string ⟨(textL t).1.toArray⟩)) ∧ l.all (fun t => (textL t).2) = (l.drop k).all (fun t => (textL t).2)) (fun i _ => l.length - (intOf i).toNat)
  case atStart => exact ⟨0, _, Nat.zero_le _, rfl, by (repeat (first | exact Below.refl _ _ | assumption | refine Below.setCell ?_ (by first | (simp; done) | (simp; omega) | omega) _ | refine Below.alloc ?_ (by first | (simp; done) | (simp; omega) | omega) _ | refine Below.drew ?_ | refine below_drewN ?_ _ | refine Below.trans ?_ (Below.mono (by assumption) (by first | (simp; done) | (simp; omega) | omega)))), by simp, heap_alloc_new w _, by rw [size_madeCells], fun j t hj => absurd hj (by omega), rfl⟩
  case round =>
    obtain ⟨k, cs, hk, rfl, hB, hlt0, hblk, hsz, hcs, hall⟩ := hrel
    have hbs := hB.size
    have HA := Lib.hid hall
    have HC := Lib.hid hcs
    have HBK := Lib.hid hblk
    clear hall hcs
    by_cases hlt : k < l.length
    · obtain ⟨a, ha⟩ : ∃ a, l[k]? = some a := ⟨_, List.getElem?_eq_getElem hlt⟩
      obtain ⟨ad, hA1, hb1, p0, p1, p2, p3⟩ := tok_cells (h.below hB) k a ha
      subst hA1
      have hs1 := all_step l k a ha
      have HS := Lib.hid hs1
      have HAA := Lib.hid ha
      clear hs1 ha hblk
      have hbl : (ad.add (k * 4)).block < wr.heap.size := by rw [block_of_add]; omega
      cases hab : (textL a).2
      · have H1 := Lib.hid (by rw [HL.out, HA.out, HS.out, hab]; rfl : joinL l = ([], 1))
        have HB := Lib.hid hab
        clear hab
        go_wp2_with fail
        refine (HT.out k a HAA.out _ (by (repeat (first | exact Below.refl _ _ | assumption | refine Below.setCell ?_ (by first | (simp; done) | (simp; omega) | omega) _ | refine Below.alloc ?_ (by first | (simp; done) | (simp; omega) | omega) _ | refine Below.drew ?_ | refine below_drewN ?_ _ | refine Below.trans ?_ (Below.mono (by assumption) (by first | (simp; done) | (simp; omega) | omega)))))).mono ?_
        rintro e w1 ⟨rfl, hb1⟩
        rw [HB.out]
        go_wp2
        go_ret2
        refine ⟨ret_se (by rw [H1.out]) (by rw [H1.out]), ?_⟩
        exact (hB.alloc hbs _).trans (hb1.mono (by simp; omega))
      · have HB := Lib.hid hab
        clear hab
        go_wp2_with fail
        refine (HT.out k a HAA.out _ (by (repeat (first | exact Below.refl _ _ | assumption | refine Below.setCell ?_ (by first | (simp; done) | (simp; omega) | omega) _ | refine Below.alloc ?_ (by first | (simp; done) | (simp; omega) | omega) _ | refine Below.drew ?_ | refine below_drewN ?_ _ | refine Below.trans ?_ (Below.mono (by assumption) (by first | (simp; done) | (simp; omega) | omega)))))).mono ?_
        rintro e w1 ⟨rfl, hb1⟩
        rw [HB.out]
        have hz1 := hb1.size
        simp at hz1
        have hblk1 : w1.heap[w.heap.size]? = some (.cells cs 9 (0, 0)) := by
          rw [hb1.block _ (by simp; omega)]
          show (wr.heap.push _)[w.heap.size]? = _
          rw [Array.getElem?_push_lt (by omega), ← HBK.out, Array.getElem?_eq_getElem]
        have hcell1 := Joins.cell_of_block hblk1 k
        have hfree1 := Joins.unfrozen_of_block hblk1 k
        rw [Array.getElem?_eq_getElem (by omega)] at hcell1
        go_wp2
        have hx := Joins.block_setCell (i := k) hblk1 (Value.string ⟨(textL a).1.toArray⟩)
        refine ⟨⟨k + 1, _, by omega, by go_num, ((hB.alloc hbs _).trans (hb1.mono (by simp; omega))).setCell (by simp) _, by simp; omega, hx, by simp [hsz], fun j t hj hjt => ?_, by rw [HA.out, HS.out, HB.out, Bool.true_and]⟩, by simp [intOf]; omega⟩
        by_cases hjk : j = k
        · subst hjk
          rw [HAA.out] at hjt
          injection hjt with hjt
          subst hjt
          rw [Array.getElem?_setIfInBounds_self_of_lt (by omega)]
        · rw [Array.getElem?_setIfInBounds_ne (by omega)]
          exact HC.out j t (by omega) hjt
    · have hkl : k = l.length := by omega
      have hjlx := HL.out
      have hT : l.all (fun t => (textL t).2) = true := by rw [HA.out, List.drop_eq_nil_of_le (by omega)]; rfl
      have HJ1 := HJ.out w.heap.size cs wr hlt0 hblk (fun j t hjt => HC.out j t (by have := (List.getElem?_eq_some_iff.1 hjt).1; omega) hjt) (Nat.le_of_not_lt H8.out) (by have := texts_len l hT; have := H8.out; omega)
      have HJJ := Lib.hid HJ1
      rw [hT, if_pos rfl] at hjlx
      clear hkl hT HJ1
      by_cases h6 : 65536 < (Lib.join (textsL l) [32]).length
      · have H1 := Lib.hid (by rw [hjlx, if_pos h6] : joinL l = ([], 6))
        have hc6 : decide (((Lib.join (textsL l) [32]).length : Int) > 65536) = true := decide_eq_true (by omega)
        clear hjlx
        generalize Lib.join (textsL l) [32] = J at *
        clear h6
        go_wp2_with fail
        refine HJJ.out.mono ?_
        rintro e w1 ⟨rfl, hb1⟩
        go_wp2
        go_ret2
        exact ⟨ret_se (by rw [H1.out]) (by rw [H1.out]), hB.trans (hb1.mono hbs)⟩
      · have H1 := Lib.hid (by rw [hjlx, if_neg h6] : joinL l = (Lib.join (textsL l) [32], 0))
        have hc6 : decide (((Lib.join (textsL l) [32]).length : Int) > 65536) = false := decide_eq_false (by omega)
        clear hjlx
        generalize Lib.join (textsL l) [32] = J at *
        clear h6
        go_wp2_with fail
        refine HJJ.out.mono ?_
        rintro e w1 ⟨rfl, hb1⟩
        go_wp2
        go_ret2
        exact ⟨ret_se (by rw [H1.out]) (by rw [H1.out]), hB.trans (hb1.mono hbs)⟩

end Go.Proofs.YtaffbnjdlgcaiaaDoor
