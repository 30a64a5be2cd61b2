/- Layer 18: the walks of Level, the program's and the reference's. -/
import Derived.Test.YtiedmfpinipppaaDoorLabC
set_option linter.unusedVariables false
namespace Go.Proofs.YtiedmfpinipppaaDoor
open Go.RowKit

def nmL : Nat → Bytes | 0 => [121, 101, 97, 114] | 1 => [104, 97, 108, 102] | 2 => [113, 117, 97, 114, 116, 101, 114] | 3 => [112, 101, 114, 105, 111, 100] | _ => [119, 101, 101, 107]
def lvNames : List ByteArray := [⟨#[121, 101, 97, 114]⟩, ⟨#[104, 97, 108, 102]⟩, ⟨#[113, 117, 97, 114, 116, 101, 114]⟩, ⟨#[112, 101, 114, 105, 111, 100]⟩, ⟨#[119, 101, 101, 107]⟩]
def lvA (n : Int) : Int := if 0 ≤ n then n + 1 else 0
def lvB (n : Int) : Int := if 0 ≤ n then 0 else 5
def lvI (s : ByteArray) : Int := Lib.idxOfS lvNames s
theorem lvI_bd (s : ByteArray) : lvI s = -1 ∨ (0 ≤ lvI s ∧ lvI s ≤ 4) := by
  unfold lvI Lib.idxOfS lvNames
  simp only [Lib.idxFromS]
  repeat' split
  all_goals simp
theorem lvI_from (s : ByteArray) (k : Nat) (hk : k < 5) (h : lvI s = Lib.idxFromS (lvNames.drop k) s k) :
    ((s.toList == nmL k) = true ∧ lvI s = k) ∨ ((s.toList == nmL k) = false ∧ lvI s = Lib.idxFromS (lvNames.drop (k + 1)) s (k + 1)) := by
  have hd : lvNames.drop k = ⟨(nmL k).toArray⟩ :: lvNames.drop (k + 1) := by
    rcases (by omega : k = 0 ∨ k = 1 ∨ k = 2 ∨ k = 3 ∨ k = 4) with rfl | rfl | rfl | rfl | rfl <;> rfl
  rw [hd, Lib.idxFromS] at h
  by_cases e : (⟨(nmL k).toArray⟩ : ByteArray) = s
  · rw [if_pos e] at h
    exact .inl ⟨by rw [← e, ba_toList, ba_mk]; simp, h⟩
  · rw [if_neg e] at h
    refine .inr ⟨?_, h⟩
    rw [beq_eq_false_iff_ne]
    intro h'
    rw [ba_toList] at h'
    exact e (by rw [← h', ba_mk_toList])

set_option maxHeartbeats 1000000 in
theorem label_Level (s : ByteArray) (w : World) :
    Calls Tryd.prog 14 #[.string s] w fun e w' => e = .returned (.tuple #[.int .i64 (lvA (lvI s)), .int .i64 (lvB (lvI s))]) ∧ Below w.heap.size w w' := by
  have hblk := heap_alloc_new w (.cells #[.string ⟨#[121, 101, 97, 114]⟩, .string ⟨#[104, 97, 108, 102]⟩, .string ⟨#[113, 117, 97, 114, 116, 101, 114]⟩, .string ⟨#[112, 101, 114, 105, 111, 100]⟩, .string ⟨#[119, 101, 101, 107]⟩] 9)
  have HL := Lib.hid (Tryd.slices_Index_string w.heap.size 0 5 5 lvNames s (w.alloc (.cells #[.string ⟨#[121, 101, 97, 114]⟩, .string ⟨#[104, 97, 108, 102]⟩, .string ⟨#[113, 117, 97, 114, 116, 101, 114]⟩, .string ⟨#[112, 101, 114, 105, 111, 100]⟩, .string ⟨#[119, 101, 101, 107]⟩] 9)) (by decide) (by omega) (fun j hj => by
    have hj5 : j < 5 := hj
    rcases (by omega : j = 0 ∨ j = 1 ∨ j = 2 ∨ j = 3 ∨ j = 4) with rfl | rfl | rfl | rfl | rfl <;> exact Joins.cell_of_block hblk _))
  rw [show Lib.idxOfS (lvNames.take 5) s = lvI s from rfl] at HL
  have hbd := lvI_bd s
  generalize lvI s = I at *
  clear hblk
  have hB : Below w.heap.size w (w.alloc (.cells #[.string ⟨#[121, 101, 97, 114]⟩, .string ⟨#[104, 97, 108, 102]⟩, .string ⟨#[113, 117, 97, 114, 116, 101, 114]⟩, .string ⟨#[112, 101, 114, 105, 111, 100]⟩, .string ⟨#[119, 101, 101, 107]⟩] 9)) := (Below.refl _ _).alloc (Nat.le_refl _) _
  have HB := Lib.hid hB
  clear hB
  rcases hbd with rfl | ⟨h0, h1⟩
  · rw [show lvA (-1) = 0 from rfl, show lvB (-1) = 5 from rfl]
    go_enter Tryd.func14, Tryd.ntmps14
    go_wp2_with fail
    refine HL.out.mono ?_
    rintro e w1 ⟨rfl, rfl⟩
    go_wp2
    go_ret2
    exact ⟨rfl, HB.out⟩
  · rw [show lvA I = I + 1 from if_pos h0, show lvB I = 0 from if_pos h0]
    go_enter Tryd.func14, Tryd.ntmps14
    go_wp2_with fail
    refine HL.out.mono ?_
    rintro e w1 ⟨rfl, rfl⟩
    go_wp2
    go_ret2
    exact ⟨rfl, HB.out⟩

set_option maxHeartbeats 2000000 in
theorem ref18_Level (s : ByteArray) (w : World) :
    Calls Tryd.prog 15 #[.string s] w fun e w' => e = .returned (.tuple #[.int .i64 (lvA (lvI s)), .int .i64 (lvB (lvI s))]) ∧ Below w.heap.size w w' := by
  have hB : Below w.heap.size w (w.alloc (.cells #[.string ⟨#[121, 101, 97, 114]⟩, .string ⟨#[104, 97, 108, 102]⟩, .string ⟨#[113, 117, 97, 114, 116, 101, 114]⟩, .string ⟨#[112, 101, 114, 105, 111, 100]⟩, .string ⟨#[119, 101, 101, 107]⟩] 9)) := (Below.refl _ _).alloc (Nat.le_refl _) _
  have HB := Lib.hid hB
  clear hB
  go_enter Tryd.func15, Tryd.ntmps15
  go_wp2_with fail
  go_loopw [8] (fun i wr => ∃ k : Nat, k ≤ 5 ∧ i = .int .i64 k ∧ wr = w.alloc (.cells #[.string ⟨#[121, 101, 97, 114]⟩, .string ⟨#[104, 97, 108, 102]⟩, .string ⟨#[113, 117, 97, 114, 116, 101, 114]⟩, .string ⟨#[112, 101, 114, 105, 111, 100]⟩, .string ⟨#[119, 101, 101, 107]⟩] 9) ∧ lvI s = Lib.idxFromS (lvNames.drop k) s k) (fun i _ => 5 - (intOf i).toNat)
  case atStart => exact ⟨0, by omega, rfl, rfl, rfl⟩
  case round =>
    obtain ⟨k, hk, rfl, rfl, hl⟩ := hrel
    rcases (by omega : k = 5 ∨ k = 0 ∨ k = 1 ∨ k = 2 ∨ k = 3 ∨ k = 4) with rfl | rfl | rfl | rfl | rfl | rfl
    · have hl' : lvI s = -1 := hl
      have HR := Lib.hid (show lvA (lvI s) = 0 ∧ lvB (lvI s) = 5 by rw [hl']; exact ⟨rfl, rfl⟩)
      clear hl hl'
      go_wp2
      go_ret2
      exact ⟨by rw [HR.out.1, HR.out.2]; rfl, HB.out⟩
    all_goals
      rcases lvI_from s _ (by omega) hl with ⟨he, hl'⟩ | ⟨he, hl'⟩
      · have HR := Lib.hid (show lvA (lvI s) = _ + 1 ∧ lvB (lvI s) = 0 by rw [hl']; exact ⟨if_pos (by omega), if_pos (by omega)⟩)
        clear hl hl'
        simp only [nmL] at he
        go_wp2_with fail
        go_ret2
        exact ⟨by rw [HR.out.1, HR.out.2]; rfl, HB.out⟩
      · have HR := Lib.hid hl'
        clear hl hl'
        simp only [nmL] at he
        go_wp2_with fail
        exact ⟨⟨_, by omega, by go_num, by first | trivial | rfl, HR.out⟩, by simp [intOf]⟩

end Go.Proofs.YtiedmfpinipppaaDoor
