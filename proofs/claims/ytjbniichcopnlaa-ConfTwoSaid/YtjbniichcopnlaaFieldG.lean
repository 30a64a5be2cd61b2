/- Layer 11 (field): the walks of the lists of names, place, named, stands, Periods. -/
import Derived.Test.YtjbniichcopnlaaFieldF
import Derived.Test.YtjbniichcopnlaaShelf
set_option linter.unusedVariables false
set_option linter.unusedSimpArgs false
set_option maxRecDepth 100000
namespace Go.Proofs.Ytjbniichcopnlaa
open Go.RowKit

/-- A block of texts. -/
def StrBlk (w : World) (g : Nat) (l : List Bytes) : Prop := ∃ T, w.heap[g]? = some (.cells (l.map fun s => Value.string ⟨s.toArray⟩).toArray T (0, 0))
theorem StrBlk.keep {w w' : World} {g : Nat} {l : List Bytes} (h : StrBlk w g l) (hb : Below w.heap.size w w') : StrBlk w' g l := by
  obtain ⟨T, h⟩ := h
  exact ⟨T, (hb.block g (Array.getElem?_eq_some_iff.1 h).1).trans h⟩
def StrsPost (l : List Bytes) (w : World) (e : Ending) (w' : World) : Prop := e = .returned (.slice (some ⟨w.heap.size, 0, none⟩) l.length l.length) ∧ StrBlk w' w.heap.size l ∧ Below w.heap.size w w'
theorem field_ends (w : World) : Calls Try.prog 78 #[] w (StrsPost endsL w) := by
  go_enter Try.func78, Try.ntmps78
  go_wp2_with fail
  go_ret
  refine ⟨rfl, ⟨_, heap_alloc_new w _⟩, ?_⟩
  (repeat (first | exact Below.refl _ _ | assumption | refine Below.setCell ?_ (by first | (simp; done) | (simp; omega) | omega) _ | refine Below.alloc ?_ (by first | (simp; done) | (simp; omega) | omega) _ | refine Below.drew ?_ | refine below_drewN ?_ _ | refine Below.trans ?_ (Below.mono (by assumption) (by first | (simp; done) | (simp; omega) | omega))))
theorem field_weekdays (w : World) : Calls Try.prog 80 #[] w (StrsPost days w) := by
  go_enter Try.func80, Try.ntmps80
  go_wp2_with fail
  go_ret
  refine ⟨rfl, ⟨_, heap_alloc_new w _⟩, ?_⟩
  (repeat (first | exact Below.refl _ _ | assumption | refine Below.setCell ?_ (by first | (simp; done) | (simp; omega) | omega) _ | refine Below.alloc ?_ (by first | (simp; done) | (simp; omega) | omega) _ | refine Below.drew ?_ | refine below_drewN ?_ _ | refine Below.trans ?_ (Below.mono (by assumption) (by first | (simp; done) | (simp; omega) | omega))))
theorem field_months (w : World) : Calls Try.prog 79 #[] w (StrsPost mons w) := by
  go_enter Try.func79, Try.ntmps79
  go_wp2_with fail
  go_ret
  refine ⟨rfl, ⟨_, heap_alloc_new w _⟩, ?_⟩
  (repeat (first | exact Below.refl _ _ | assumption | refine Below.setCell ?_ (by first | (simp; done) | (simp; omega) | omega) _ | refine Below.alloc ?_ (by first | (simp; done) | (simp; omega) | omega) _ | refine Below.drew ?_ | refine below_drewN ?_ _ | refine Below.trans ?_ (Below.mono (by assumption) (by first | (simp; done) | (simp; omega) | omega))))
theorem field_policies (w : World) : Calls Try.prog 52 #[] w (StrsPost pols w) := by
  go_enter Try.func52, Try.ntmps52
  go_wp2_with fail
  go_ret
  refine ⟨rfl, ⟨_, heap_alloc_new w _⟩, ?_⟩
  (repeat (first | exact Below.refl _ _ | assumption | refine Below.setCell ?_ (by first | (simp; done) | (simp; omega) | omega) _ | refine Below.alloc ?_ (by first | (simp; done) | (simp; omega) | omega) _ | refine Below.drew ?_ | refine below_drewN ?_ _ | refine Below.trans ?_ (Below.mono (by assumption) (by first | (simp; done) | (simp; omega) | omega))))
theorem posL_nonneg : ∀ (l : List Bytes) (s : Bytes), 0 ≤ posL l s ∧ posL l s ≤ l.length
  | [], _ => ⟨Int.le_refl _, by simp [posL]⟩
  | a :: r, s => by
    have := posL_nonneg r s
    simp only [posL, List.length_cons]
    split
    · omega
    · split <;> omega
theorem ba_inj (a s : Bytes) : (ByteArray.mk a.toArray = ByteArray.mk s.toArray) ↔ a = s := by
  constructor
  · intro h
    injection h with h
    simpa using h
  · intro h; rw [h]
theorem idx_posL : ∀ (l : List Bytes) (s : Bytes) (i : Nat), Lib.idxFromS (l.map fun a => ByteArray.mk a.toArray) ⟨s.toArray⟩ i = if posL l s = 0 then -1 else (i : Int) + posL l s - 1
  | [], s, i => by simp [Lib.idxFromS, posL]
  | a :: r, s, i => by
    have hr := posL_nonneg r s
    have ih := idx_posL r s (i + 1)
    simp only [List.map_cons, Lib.idxFromS, posL]
    by_cases h : a = s
    · subst h; simp
    · have h' : ¬ (ByteArray.mk a.toArray = ByteArray.mk s.toArray) := fun e => h ((ba_inj a s).1 e)
      simp only [h, h', if_false, ↓reduceIte, beq_iff_eq]
      rw [ih]
      by_cases h0 : posL r s = 0
      · simp [h0]
      · simp only [h0, if_false]
        rw [if_neg (by omega)]
        push_cast
        omega
theorem place_str (l : List Bytes) (s : Bytes) (g c : Nat) (w : World) (hl : 0 < l.length ∧ l.length ≤ 1000) (hg : StrBlk w g l) :
    Calls Try.prog 83 #[.slice (some ⟨g, 0, none⟩) l.length c, .string ⟨s.toArray⟩] w fun e w' => e = .returned (.int .i64 (posL l s)) ∧ w = w' := by
  obtain ⟨T, hg⟩ := hg
  have hI := Try.slices_Index_string g 0 l.length c (l.map fun a => ByteArray.mk a.toArray) ⟨s.toArray⟩ w (by simp) (by omega) (fun j hj => by
    simp only [List.length_map] at hj
    rw [Nat.zero_add, Joins.cell_of_block hg j]
    simp [List.getD, hj])
  have hm : (l.map fun a => ByteArray.mk a.toArray).take l.length = l.map fun a => ByteArray.mk a.toArray := by rw [List.take_of_length_le (by simp)]
  rw [hm] at hI
  have hi := idx_posL l s 0
  have hp := posL_nonneg l s
  have hz : IntKind.i64.wrap (Lib.idxOfS (l.map fun a => ByteArray.mk a.toArray) ⟨s.toArray⟩ + 1) = posL l s := by
    rw [IntKind.wrap_i64]
    unfold Lib.idxOfS
    rw [hi]
    split <;> omega
  generalize Lib.idxOfS (l.map fun a => ByteArray.mk a.toArray) ⟨s.toArray⟩ = z at *
  have HI := Lib.hid hI
  clear hI hi hm hg
  go_enter Try.func83, Try.ntmps83
  go_wp2_with fail
  refine HI.out.mono ?_
  rintro e w1 ⟨rfl, rfl⟩
  go_wp2_with fail
  go_ret
  exact ⟨rfl, rfl⟩
theorem field_named (l : List Bytes) (t : WordL) (g c : Nat) (w : World) (hl : 0 < l.length ∧ l.length ≤ 1000) (hg : StrBlk w g l) :
    Calls Try.prog 44 #[.slice (some ⟨g, 0, none⟩) l.length c, .agg #[.bool t.num, .int .i64 t.n, .string ⟨t.s.toArray⟩, .int .i64 t.pos]] w fun e w' => e = .returned (.int .i64 (placeW l t)) ∧ Below w.heap.size w w' := by
  have HB := Lib.hid (below_cal w (.cells #[.bool t.num, .int .i64 t.n, .string ⟨t.s.toArray⟩, .int .i64 t.pos] 62))
  have HP := Lib.hid (place_str l t.s g c _ hl (hg.keep HB.out))
  unfold placeW
  generalize posL l t.s = z at *
  obtain ⟨num, n, s, pos⟩ := t
  dsimp only at *
  clear hg hl
  cases num
  · go_enter Try.func44, Try.ntmps44
    go_wp2_with fail
    refine HP.out.mono ?_
    rintro e w1 ⟨rfl, rfl⟩
    go_wp2_with fail
    go_ret
    exact ⟨rfl, HB.out⟩
  · go_enter Try.func44, Try.ntmps44
    go_wp2_with fail
    go_ret
    exact ⟨rfl, HB.out⟩

end Go.Proofs.Ytjbniichcopnlaa
