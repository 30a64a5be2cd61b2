/- Layer 8, the reference: the walk of Same; the laws' live. -/
import Derived.Test.YtaffbnjdlgcaiaaDoorTokEq
import Derived.Test.YtaffbnjdlgcaiaaDoorReadToks
import Derived.BigQuiet
import Derived.Deep.QuietTactic
namespace Go.Proofs.YtaffbnjdlgcaiaaDoor
open Go.RowKit

/-- What Same asks of two tokens. -/
def sameTok (a b : Tok) : Bool := decide (a.kind = b.kind ∧ a.n = b.n ∧ a.s = b.s)
def sameL : List Tok → List Tok → Bool
  | [], [] => true
  | a :: l, b :: m => sameTok a b && sameL l m
  | _, _ => false

theorem sameTok_eq (a b : Tok) : sameTok a b = decide (Tok.mk a.kind b.pos a.n a.s = b) := by
  unfold sameTok
  rw [decide_eq_decide, tok_eq_iff]
  simp

theorem sameL_len : ∀ (l m : List Tok), sameL l m = true → l.length = m.length
  | [], [], _ => rfl
  | a :: l, b :: m, h => by
    simp only [sameL, Bool.and_eq_true] at h
    simp [sameL_len l m h.2]
  | [], b :: m, h => by simp [sameL] at h
  | a :: l, [], h => by simp [sameL] at h

theorem sameL_step : ∀ (l m : List Tok) (k : Nat) (a b : Tok), l[k]? = some a → m[k]? = some b → sameL (l.drop k) (m.drop k) = (sameTok a b && sameL (l.drop (k + 1)) (m.drop (k + 1))) := by
  intro l m k a b ha hb
  have h1 := (List.getElem?_eq_some_iff.1 ha)
  have h2 := (List.getElem?_eq_some_iff.1 hb)
  obtain ⟨h1, rfl⟩ := h1
  obtain ⟨h2, rfl⟩ := h2
  rw [List.drop_eq_getElem_cons h1, List.drop_eq_getElem_cons h2]
  rfl

set_option maxRecDepth 100000 in
set_option maxHeartbeats 1000000 in
theorem ref8_Same (A1 A2 : Option Addr) (c1 c2 : Nat) (l m : List Tok) (w : World) (h1 : Reads w w.heap.size 4 A1 l.length (l.flatMap Tok.cells)) (h2 : Reads w w.heap.size 4 A2 m.length (m.flatMap Tok.cells)) (hl : l.length ≤ maxLen) :
    Calls Tryd.prog 16 #[.slice A1 l.length c1, .slice A2 m.length c2] w fun e w' => e = .returned (.bool (sameL l m)) ∧ Below w.heap.size w w' := by
  unfold maxLen at hl
  by_cases hlen : l.length = m.length
  · have hne : ((l.length : Int) != (m.length : Int)) = false := by rw [bne_eq_false_iff_eq]; omega
    have HL := Lib.hid hlen
    clear hlen
    go_enter Tryd.func16, Tryd.ntmps16
    go_wp2
    go_loopw [14] (fun i wr => ∃ k : Nat, k ≤ l.length ∧ i = .int .i64 k ∧ Below w.heap.size w wr ∧ sameL l m = sameL (l.drop k) (m.drop k)) (fun i _ => l.length - (intOf i).toNat)
    case atStart => exact ⟨0, Nat.zero_le _, rfl, Below.refl _ _, rfl⟩
    case round =>
      obtain ⟨k, hk, rfl, hB, htk⟩ := hrel
      have hbs := hB.size
      by_cases hlt : k < l.length
      · obtain ⟨a, ha⟩ : ∃ a, l[k]? = some a := ⟨_, List.getElem?_eq_getElem hlt⟩
        obtain ⟨b, hb⟩ : ∃ b, m[k]? = some b := ⟨_, List.getElem?_eq_getElem (by rw [← HL.out]; exact hlt)⟩
        have hlt2 : k < m.length := by rw [← HL.out]; exact hlt
        obtain ⟨ad, hA1, hb1, p0, p1, p2, p3⟩ := tok_cells (h1.below hB) k a ha
        obtain ⟨bd, hA2, hb2, q0, q1, q2, q3⟩ := tok_cells (h2.below hB) k b hb
        subst hA1
        subst hA2
        rw [sameL_step l m k a b ha hb, sameTok_eq] at htk
        have hneq := fun W => run_neqTok W ⟨a.kind, b.pos, a.n, a.s⟩ b
        have HT := Lib.hid htk
        clear htk ha hb
        have hbl : (bd.add (k * 4)).block < wr.heap.size := by rw [block_of_add]; omega
        cases hab : decide (Tok.mk a.kind b.pos a.n a.s = b)
        · simp only [hab] at hneq
          rw [hab, Bool.false_and] at HT
          go_wp2
          go_quiet (fail)
          go_wp2
          go_ret
          exact ⟨ret_bool (by rw [HT.out]), below_drewN (hB.alloc hbs _) _⟩
        · simp only [hab] at hneq
          rw [hab, Bool.true_and] at HT
          clear hab
          go_wp2
          go_quiet (fail)
          go_wp2
          go_roundw
          case rel => exact ⟨k + 1, by omega, by go_num, below_drewN (hB.alloc hbs _) _, HT.out⟩
          case measure => simp [intOf]; omega
      · have hkl : k = l.length := by omega
        have hlm : sameL l m = true := by
          rw [htk, List.drop_eq_nil_of_le (by omega), List.drop_eq_nil_of_le (by rw [← HL.out]; omega)]; rfl
        have HLM := Lib.hid hlm
        clear hlm hkl htk
        go_wp2
        go_ret
        exact ⟨ret_bool (by rw [HLM.out]), hB⟩
  · have hne : ((l.length : Int) != (m.length : Int)) = true := by rw [bne_iff_ne]; omega
    go_enter Tryd.func16, Tryd.ntmps16
    go_wp2
    go_ret
    refine ⟨ret_bool ?_, Below.refl _ _⟩
    cases h : sameL l m
    · rfl
    · exact absurd (sameL_len l m h) hlen

end Go.Proofs.YtaffbnjdlgcaiaaDoor
