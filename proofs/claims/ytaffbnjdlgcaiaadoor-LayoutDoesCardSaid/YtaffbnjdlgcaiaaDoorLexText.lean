/- Layer 8 (lex): the walk of the program's text. -/
import Derived.Test.YtaffbnjdlgcaiaaDoorTokEq
import Derived.Test.YtaffbnjdlgcaiaaDoorShelf
import Derived.BigQuiet
import Derived.Deep.QuietTactic
import Derived.Deep.RegionWith
import Derived.RegionTactic
import Derived.Lib.SmallJoins
namespace Go.Proofs.YtaffbnjdlgcaiaaDoor
open Go.RowKit

/-- A token's text, and whether it may be. -/
def textL (t : Tok) : Bytes × Bool :=
  if t.kind = 1 then (t.s, nameL t.s && decide (t.n = 0))
  else if t.kind = 2 then (Lib.itoa t.n, decide (0 ≤ t.n ∧ t.n ≤ 999999999 ∧ t.s = []))
  else if t.kind = 3 then ([123], decide (t.n = 0 ∧ t.s = []))
  else if t.kind = 4 then ([125], decide (t.n = 0 ∧ t.s = []))
  else if t.kind = 5 then ([59], decide (t.n = 0 ∧ t.s = []))
  else ([], false)

/-- The table of powers of ten, as strconv has it. -/
def Tab (w : World) : Prop := Lib.TabIs Tryd.prog w "internal/strconv.uint64pow10" .u64 Lib.pow10Tab
theorem Tab.below {w w' : World} (h : Tab w) (hb : Below w.heap.size w w') : Tab w' :=
  Joins.tab_stays (g := 3) (by kernel_rfl) h hb (Nat.le_refl _)

theorem quiet_left {P : Program} {f : FuncId} {args : Array Value} {w : World} {n : Nat} {v : Value}
    (h : Calls P f args (w.drewN n) fun e w' => e = .returned v ∧ w.drewN n = w') : Calls P f args (w.drewN n) fun e w'' => e = .returned v ∧ ∃ m, w'' = w.drewN m :=
  h.mono fun _ _ ⟨he, hm⟩ => ⟨he, n, hm.symm⟩
theorem quiet_add_left {P : Program} {f : FuncId} {args : Array Value} {w : World} {a n : Nat} {v : Value}
    (h : Calls P f args (w.drewN (a + n)) fun e w' => e = .returned v ∧ w.drewN (a + n) = w') :
    Calls P f args (w.drewN (a + n)) fun e w'' => e = .returned v ∧ ∃ m, w'' = w.drewN (a + m) :=
  h.mono fun _ _ ⟨he, hm⟩ => ⟨he, n, hm.symm⟩

theorem ret_sb {a b : ByteArray} {x y : Bool} (h : a = b) (h' : x = y) : Ending.returned (.tuple #[.string a, .bool x]) = .returned (.tuple #[.string b, .bool y]) := by rw [h, h']

theorem s_nil (s : Bytes) : s = [] ∨ s ≠ [] := by cases s <;> simp

set_option maxRecDepth 100000 in
set_option maxHeartbeats 2000000 in
theorem lex_text_1 (t : Tok) (w : World) (hk : t.kind = 1) (hs : t.s.length ≤ maxLen) :
    Calls Tryd.prog 39 #[t.val] w fun e w' => e = .returned (.tuple #[.string ⟨(textL t).1.toArray⟩, .bool (textL t).2]) ∧ Below w.heap.size w w' := by
  obtain ⟨K, P, N, S⟩ := t
  simp only at hk hs
  subst hk
  have hn := fun w => lex_Name ⟨S.toArray⟩ w (by rw [← ba_len, ba_mk]; exact hs)
  rw [ba_mk] at hn
  have heq := fun W => run_eqlTok W ⟨1, P, N, S⟩ ⟨1, P, 0, S⟩
  have he : decide ((⟨1, P, N, S⟩ : Tok) = ⟨1, P, 0, S⟩) = decide (N = 0) := by simp
  rw [show textL ⟨1, P, N, S⟩ = (S, nameL S && decide (N = 0)) from rfl]
  simp only [he] at heq
  unfold Tok.val
  generalize nameL S = b at *
  generalize decide (N = 0) = c at *
  have HN := Lib.hid hn
  clear hn he
  cases b
  all_goals
    go_enter Tryd.func39, Tryd.ntmps39
    go_wp2
    go_region
    go_wp2
    go_quiet (first | (go_at_call 61; exact quiet_add_left (HN.out _)) | (go_at_call 61; exact quiet_left (HN.out _)))
    go_wp2
    go_ret2
    refine ⟨ret_sb rfl (by simp), ?_⟩
    (repeat (first | exact Below.refl _ _ | assumption | refine Below.setCell ?_ (by first | (simp; done) | (simp; omega) | omega) _ | refine Below.alloc ?_ (by first | (simp; done) | (simp; omega) | omega) _ | refine Below.drew ?_ | refine below_drewN ?_ _ | refine Below.trans ?_ (Below.mono (by assumption) (by first | (simp; done) | (simp; omega) | omega))))

theorem below_grow {B : Nat} {a w : World} (h : Below B a w) (hB : B ≤ w.heap.size) (k : Nat) (os : Array Obj) : Below B a (Go.Sort.grow (w.drewN k) os) :=
  h.trans ⟨rfl, rfl, rfl, by simp [Go.Sort.grow], fun i hi => by
    show (w.heap ++ os)[i]? = w.heap[i]?
    rw [Array.getElem?_append_left (by omega)]⟩

/-- strconv.Itoa: below the heap's end the world is as it was. -/
theorem itoa_any (n : Int) (h0 : -9223372036854775808 ≤ n) (h1 : n ≤ 9223372036854775807) (w : World) (ht : Tab w) :
    Calls Tryd.prog 41 #[.int .i64 n] w fun e w' => e = .returned (.string ⟨(Lib.itoa n).toArray⟩) ∧ Below w.heap.size w w' :=
  (Tryd.strconv_Itoa n h0 h1 w ht).mono fun _ _ ⟨he, k, os, hw⟩ => ⟨he, hw ▸ below_grow (Below.refl _ _) (Nat.le_refl _) k os⟩

set_option maxRecDepth 100000 in
set_option maxHeartbeats 2000000 in
theorem lex_text_2 (t : Tok) (w : World) (hk : t.kind = 2) (h0 : -9223372036854775808 ≤ t.n) (h1 : t.n ≤ 9223372036854775807) (ht : Tab w) :
    Calls Tryd.prog 39 #[t.val] w fun e w' => e = .returned (.tuple #[.string ⟨(textL t).1.toArray⟩, .bool (textL t).2]) ∧ Below w.heap.size w w' := by
  obtain ⟨K, P, N, S⟩ := t
  simp only at hk h0 h1
  subst hk
  have hn := fun w => itoa_any N h0 h1 w
  have HN := Lib.hid hn
  have HT := Lib.hid (fun W (hb : Below w.heap.size w W) => ht.below hb)
  have heq := fun W => run_eqlTok W ⟨2, P, N, S⟩ ⟨2, P, N, []⟩
  have he : decide ((⟨2, P, N, S⟩ : Tok) = ⟨2, P, N, []⟩) = decide (S = []) := by simp
  rw [show textL ⟨2, P, N, S⟩ = (Lib.itoa N, decide (0 ≤ N ∧ N ≤ 999999999 ∧ S = [])) from rfl]
  simp only [he] at heq
  unfold Tok.val
  clear hn ht he
  go_enter Tryd.func39, Tryd.ntmps39
  go_wp2
  go_region_with (go_at_call 41; refine Calls.mono (HN.out _ (HT.out _ (by (repeat (first | exact Below.refl _ _ | assumption | refine Below.setCell ?_ (by first | (simp; done) | (simp; omega) | omega) _ | refine Below.alloc ?_ (by first | (simp; done) | (simp; omega) | omega) _ | refine Below.drew ?_ | refine below_drewN ?_ _ | refine Below.trans ?_ (Below.mono (by assumption) (by first | (simp; done) | (simp; omega) | omega))))))) ?_; rintro e w1 ⟨rfl, hb1⟩; have a0 := hb1.cell (p := ⟨w.heap.size, 0, none⟩) (by simp <;> omega); have a1 := hb1.cell (p := ⟨w.heap.size, 1, none⟩) (by simp <;> omega); have a2 := hb1.cell (p := ⟨w.heap.size, 2, none⟩) (by simp <;> omega); have a3 := hb1.cell (p := ⟨w.heap.size, 3, none⟩) (by simp <;> omega); have b0 := hb1.cell (p := ⟨w.heap.size + 1, 0, none⟩) (by simp <;> omega); have b1 := hb1.cell (p := ⟨w.heap.size + 1, 1, none⟩) (by simp <;> omega); have b2 := hb1.cell (p := ⟨w.heap.size + 1, 2, none⟩) (by simp <;> omega); have b3 := hb1.cell (p := ⟨w.heap.size + 1, 3, none⟩) (by simp <;> omega); have f2 := hb1.frozen (p := ⟨w.heap.size + 1, 2, none⟩) (by simp <;> omega); have hz1 := hb1.size; simp at a0 a1 a2 a3 b0 b1 b2 b3 f2 hz1)
  all_goals
    by_cases hN0 : 0 ≤ N
    · have d0 : decide (0 ≤ N) = true := decide_eq_true hN0
      by_cases hN1 : N ≤ 999999999
      · have d1 : decide (N ≤ 999999999) = true := decide_eq_true hN1
        go_wp2
        go_quiet (fail)
        go_wp2
        go_ret2
        refine ⟨ret_sb rfl (by simp [hN0, hN1]), ?_⟩
        (repeat (first | exact Below.refl _ _ | assumption | refine Below.setCell ?_ (by first | (simp; done) | (simp; omega) | omega) _ | refine Below.alloc ?_ (by first | (simp; done) | (simp; omega) | omega) _ | refine Below.drew ?_ | refine below_drewN ?_ _ | refine Below.trans ?_ (Below.mono (by assumption) (by first | (simp; done) | (simp; omega) | omega))))
      · have d1 : decide (N ≤ 999999999) = false := decide_eq_false hN1
        go_wp2
        go_quiet (fail)
        go_wp2
        go_ret2
        refine ⟨ret_sb rfl (by simp; intro _ _; omega), ?_⟩
        (repeat (first | exact Below.refl _ _ | assumption | refine Below.setCell ?_ (by first | (simp; done) | (simp; omega) | omega) _ | refine Below.alloc ?_ (by first | (simp; done) | (simp; omega) | omega) _ | refine Below.drew ?_ | refine below_drewN ?_ _ | refine Below.trans ?_ (Below.mono (by assumption) (by first | (simp; done) | (simp; omega) | omega))))
    · have d0 : decide (0 ≤ N) = false := decide_eq_false hN0
      go_wp2
      go_quiet (fail)
      go_wp2
      go_ret2
      refine ⟨ret_sb rfl (by simp; intro _ _; omega), ?_⟩
      (repeat (first | exact Below.refl _ _ | assumption | refine Below.setCell ?_ (by first | (simp; done) | (simp; omega) | omega) _ | refine Below.alloc ?_ (by first | (simp; done) | (simp; omega) | omega) _ | refine Below.drew ?_ | refine below_drewN ?_ _ | refine Below.trans ?_ (Below.mono (by assumption) (by first | (simp; done) | (simp; omega) | omega))))

set_option maxRecDepth 100000 in
set_option maxHeartbeats 2000000 in
theorem lex_text_sign (t : Tok) (w : World) (hk : t.kind = 3 ∨ t.kind = 4 ∨ t.kind = 5) :
    Calls Tryd.prog 39 #[t.val] w fun e w' => e = .returned (.tuple #[.string ⟨(textL t).1.toArray⟩, .bool (textL t).2]) ∧ Below w.heap.size w w' := by
  obtain ⟨K, P, N, S⟩ := t
  simp only at hk
  rcases hk with rfl | rfl | rfl
  · have heq := fun W => run_eqlTok W ⟨3, P, N, S⟩ ⟨3, P, 0, []⟩
    have he : decide ((⟨3, P, N, S⟩ : Tok) = ⟨3, P, 0, []⟩) = decide (N = 0 ∧ S = []) := by simp
    rw [show textL ⟨3, P, N, S⟩ = ([123], decide (N = 0 ∧ S = [])) from rfl]
    simp only [he] at heq
    generalize decide (N = 0 ∧ S = []) = c at *
    unfold Tok.val
    clear he
    go_enter Tryd.func39, Tryd.ntmps39
    go_wp2
    go_quiet (fail)
    go_wp2
    go_ret2
    refine ⟨ret_sb rfl (by simp), ?_⟩
    (repeat (first | exact Below.refl _ _ | assumption | refine Below.setCell ?_ (by first | (simp; done) | (simp; omega) | omega) _ | refine Below.alloc ?_ (by first | (simp; done) | (simp; omega) | omega) _ | refine Below.drew ?_ | refine below_drewN ?_ _ | refine Below.trans ?_ (Below.mono (by assumption) (by first | (simp; done) | (simp; omega) | omega))))
  · have heq := fun W => run_eqlTok W ⟨4, P, N, S⟩ ⟨4, P, 0, []⟩
    have he : decide ((⟨4, P, N, S⟩ : Tok) = ⟨4, P, 0, []⟩) = decide (N = 0 ∧ S = []) := by simp
    rw [show textL ⟨4, P, N, S⟩ = ([125], decide (N = 0 ∧ S = [])) from rfl]
    simp only [he] at heq
    generalize decide (N = 0 ∧ S = []) = c at *
    unfold Tok.val
    clear he
    go_enter Tryd.func39, Tryd.ntmps39
    go_wp2
    go_quiet (fail)
    go_wp2
    go_ret2
    refine ⟨ret_sb rfl (by simp), ?_⟩
    (repeat (first | exact Below.refl _ _ | assumption | refine Below.setCell ?_ (by first | (simp; done) | (simp; omega) | omega) _ | refine Below.alloc ?_ (by first | (simp; done) | (simp; omega) | omega) _ | refine Below.drew ?_ | refine below_drewN ?_ _ | refine Below.trans ?_ (Below.mono (by assumption) (by first | (simp; done) | (simp; omega) | omega))))
  · have heq := fun W => run_eqlTok W ⟨5, P, N, S⟩ ⟨5, P, 0, []⟩
    have he : decide ((⟨5, P, N, S⟩ : Tok) = ⟨5, P, 0, []⟩) = decide (N = 0 ∧ S = []) := by simp
    rw [show textL ⟨5, P, N, S⟩ = ([59], decide (N = 0 ∧ S = [])) from rfl]
    simp only [he] at heq
    generalize decide (N = 0 ∧ S = []) = c at *
    unfold Tok.val
    clear he
    go_enter Tryd.func39, Tryd.ntmps39
    go_wp2
    go_quiet (fail)
    go_wp2
    go_ret2
    refine ⟨ret_sb rfl (by simp), ?_⟩
    (repeat (first | exact Below.refl _ _ | assumption | refine Below.setCell ?_ (by first | (simp; done) | (simp; omega) | omega) _ | refine Below.alloc ?_ (by first | (simp; done) | (simp; omega) | omega) _ | refine Below.drew ?_ | refine below_drewN ?_ _ | refine Below.trans ?_ (Below.mono (by assumption) (by first | (simp; done) | (simp; omega) | omega))))

set_option maxRecDepth 100000 in
set_option maxHeartbeats 2000000 in
theorem lex_text_none (t : Tok) (w : World) (h1 : ¬ t.kind = 1) (h2 : ¬ t.kind = 2) (h3 : ¬ t.kind = 3) (h4 : ¬ t.kind = 4) (h5 : ¬ t.kind = 5) :
    Calls Tryd.prog 39 #[t.val] w fun e w' => e = .returned (.tuple #[.string ⟨(textL t).1.toArray⟩, .bool (textL t).2]) ∧ Below w.heap.size w w' := by
  have htl : textL t = ([], false) := by unfold textL; simp only [h1, h2, h3, h4, h5, if_false]
  rw [htl]
  obtain ⟨K, P, N, S⟩ := t
  simp only at h1 h2 h3 h4 h5
  have e1 : (K == 1) = false := beq_eq_false_iff_ne.2 h1
  have e2 : (K == 2) = false := beq_eq_false_iff_ne.2 h2
  have e3 : (K == 3) = false := beq_eq_false_iff_ne.2 h3
  have e4 : (K == 4) = false := beq_eq_false_iff_ne.2 h4
  have e5 : (K == 5) = false := beq_eq_false_iff_ne.2 h5
  unfold Tok.val
  clear htl h1 h2 h3 h4 h5
  go_enter Tryd.func39, Tryd.ntmps39
  go_wp2
  go_quiet (fail)
  go_wp2
  go_ret2
  refine ⟨ret_sb rfl (by simp), ?_⟩
  (repeat (first | exact Below.refl _ _ | assumption | refine Below.setCell ?_ (by first | (simp; done) | (simp; omega) | omega) _ | refine Below.alloc ?_ (by first | (simp; done) | (simp; omega) | omega) _ | refine Below.drew ?_ | refine below_drewN ?_ _ | refine Below.trans ?_ (Below.mono (by assumption) (by first | (simp; done) | (simp; omega) | omega))))

/-- The text of whatever token. -/
theorem lex_text (t : Tok) (w : World) (hs : t.s.length ≤ maxLen) (h0 : -9223372036854775808 ≤ t.n) (h1 : t.n ≤ 9223372036854775807) (ht : Tab w) :
    Calls Tryd.prog 39 #[t.val] w fun e w' => e = .returned (.tuple #[.string ⟨(textL t).1.toArray⟩, .bool (textL t).2]) ∧ Below w.heap.size w w' := by
  by_cases k1 : t.kind = 1
  · exact lex_text_1 t w k1 hs
  by_cases k2 : t.kind = 2
  · exact lex_text_2 t w k2 h0 h1 ht
  by_cases k3 : t.kind = 3
  · exact lex_text_sign t w (.inl k3)
  by_cases k4 : t.kind = 4
  · exact lex_text_sign t w (.inr (.inl k4))
  by_cases k5 : t.kind = 5
  · exact lex_text_sign t w (.inr (.inr k5))
  exact lex_text_none t w k1 k2 k3 k4 k5

end Go.Proofs.YtaffbnjdlgcaiaaDoor
