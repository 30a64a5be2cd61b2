/- Layer 18 (label): small things, and strconv.Itoa. -/
import Derived.Test.YtmgoagncbmonlaaDoorLess
import Derived.Test.YtmgoagncbmonlaaDoorConv
import Derived.Test.YtmgoagncbmonlaaDoorWords
import Derived.Test.YtmgoagncbmonlaaDoorShelf
import Derived.Lib.SmallJoins
import Derived.WalkSmall
import Derived.Laws.OwnMore
import Derived.Lib.ItoaMem
import Derived.Lib.Hide
import Derived.WalkLawsBesides
import Derived.WalkSpells
import Derived.Lib.OthersKept
import Derived.Deep.RegionWith
import Derived.Deep.RegionHeld3
import Derived.Outline
import Derived.Deep.DrawnRows
set_option linter.unusedVariables false
namespace Go.Proofs.YtmgoagncbmonlaaDoor
open Go.RowKit
attribute [local go_sem ↓] Go.wp_at_zero Go.wp_at_succ
theorem ret_bool {a b : Bool} (h : a = b) : Ending.returned (.bool a) = .returned (.bool b) := by rw [h]
theorem val_int {k : IntKind} {a b : Int} (h : a = b) : Value.int k a = .int k b := by rw [h]
theorem ret_int {k : IntKind} {a b : Int} (h : a = b) : Ending.returned (.int k a) = .returned (.int k b) := by rw [h]
theorem ret_ii {k j : IntKind} {a b c d : Int} (h : a = b) (h' : c = d) : Ending.returned (.tuple #[.int k a, .int j c]) = .returned (.tuple #[.int k b, .int j d]) := by rw [h, h']
theorem beq_t {a b : Int} (h : a = b) : (a == b) = true := by rw [h]; simp
theorem beq_f {a b : Int} (h : ¬ a = b) : (a == b) = false := by simpa using h
theorem bne_t {a b : Int} (h : ¬ a = b) : (a != b) = true := by simpa using h
theorem bne_f {a b : Int} (h : a = b) : (a != b) = false := by rw [h]; simp
/-- The table of powers of ten, as strconv has it. -/
def Tab (w : World) : Prop := Lib.TabIs Tryd.prog w "internal/strconv.uint64pow10" .u64 Lib.pow10Tab
theorem Tab.below {w w' : World} (h : Tab w) (hb : Below w.heap.size w w') : Tab w' :=
  Joins.tab_stays (g := 0) (by kernel_rfl) h hb (Nat.le_refl _)
theorem Tab.drew {w : World} (h : Tab w) : Tab w.drew := h.below ((Below.refl _ _).drew)
theorem below_grow {B : Nat} {a w : World} (h : Below B a w) (hB : B ≤ w.heap.size) (k : Nat) (os : Array Obj) : Below B a (Go.Sort.grow (w.drewN k) os) :=
  h.trans ⟨rfl, rfl, rfl, by simp [Go.Sort.grow], fun i hi => by
    show (w.heap ++ os)[i]? = w.heap[i]?
    rw [Array.getElem?_append_left (by omega)]⟩
/-- strconv.Itoa: below the heap's end the world is as it was. -/
theorem itoa_any (n : Int) (h0 : -9223372036854775808 ≤ n) (h1 : n ≤ 9223372036854775807) (w : World) (ht : Tab w) :
    Calls Tryd.prog 21 #[.int .i64 n] w fun e w' => e = .returned (.string ⟨(Lib.itoa n).toArray⟩) ∧ Below w.heap.size w w' :=
  (Tryd.strconv_Itoa n h0 h1 w ht).mono fun _ _ ⟨he, k, os, hw⟩ => ⟨he, hw ▸ below_grow (Below.refl _ _) (Nat.le_refl _) k os⟩

theorem ret_s {a b : ByteArray} (h : a = b) : Ending.returned (.string a) = .returned (.string b) := by rw [h]
theorem ret_se {k : IntKind} {a b : ByteArray} {x y : Int} (h : a = b) (h' : x = y) : Ending.returned (.tuple #[.string a, .int k x]) = .returned (.tuple #[.string b, .int k y]) := by rw [h, h']

theorem nDigits_le (n : Nat) (k : Nat) (h : n < 10 ^ (k + 1)) : Lib.nDigits n ≤ k + 1 := by
  induction k generalizing n with
  | zero => rw [Lib.nDigits_small (by omega)]; omega
  | succ k ih =>
    by_cases h0 : n < 10
    · rw [Lib.nDigits_small h0]; omega
    · rw [Lib.nDigits_big h0]
      have := ih (n / 10) (by rw [Nat.pow_succ] at h; omega)
      omega
theorem itoa_digits (n : Nat) : Lib.itoa (n : Int) = digitsL n (Lib.nDigits n) := by
  rw [digitsL_dec _ _ rfl, Lib.itoa, if_neg (by omega), Int.toNat_natCast]

/-- A block that lay ahead of a call. -/
theorem blk3 {W1 w2 : World} {g : Nat} {a b c : Value} {t : TypeId} (hb : Below W1.heap.size W1 w2) (h : W1.heap[g]? = some (.cells #[a, b, c] t (0, 0))) :
    w2.heap[g]? = some (.cells #[a, b, c] t (0, 0)) ∧ w2.cell? ⟨g, 0, none⟩ = some a ∧ w2.cell? ⟨g, 1, none⟩ = some b ∧ w2.cell? ⟨g, 2, none⟩ = some c ∧ w2.frozen? ⟨g, 0, none⟩ = false ∧ w2.frozen? ⟨g, 1, none⟩ = false ∧ w2.frozen? ⟨g, 2, none⟩ = false := by
  have hx : w2.heap[g]? = some (.cells #[a, b, c] t (0, 0)) := by rw [hb.block g (Array.getElem?_eq_some_iff.1 h).1]; exact h
  exact ⟨hx, Joins.cell_of_block hx 0, Joins.cell_of_block hx 1, Joins.cell_of_block hx 2, Joins.unfrozen_of_block hx 0, Joins.unfrozen_of_block hx 1, Joins.unfrozen_of_block hx 2⟩
theorem below_step {w W1 w2 : World} {B : Nat} (h : Below B w W1) (hB : B ≤ W1.heap.size) (hb : Below W1.heap.size W1 w2) : Below B w w2 := h.trans (hb.mono hB)

theorem ba_mk_data (s : ByteArray) (L : Bytes) (h : s.data.toList = L) : (⟨L.toArray⟩ : ByteArray) = s := by
  subst h; cases s; simp


end Go.Proofs.YtmgoagncbmonlaaDoor
