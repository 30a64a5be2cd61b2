import Derived.Test.YtjbniichcopnlaaGreatDoorPkV0
import Derived.Test.YtjbniichcopnlaaGreatDoorPkV27
import Derived.Laws.IdiomRangeMap
section
/- Layer 11 (field), in plain Lean: what formed and fits tell, by places. No program in sight. -/
set_option linter.unusedSimpArgs false
namespace Go.Proofs.YtjbniichcopnlaaGreatDoor

/-- Whether an item is the second of the two shapes, by the places. -/
def laterB (names : List Bytes) (i : Nat) : Bool := names.contains b_periods && names.contains b_pay && decide ((i : Int) = max (atV names b_periods) (atV names b_pay))
theorem idx_nodup (l : List Bytes) (i : Nat) (x : Bytes) (hn : l.Nodup) (h : l[i]? = some x) : l.idxOf x = i := by
  have hi := (List.getElem?_eq_some_iff.1 h)
  obtain ⟨hlt, hx⟩ := hi
  rw [← hx]
  exact List.Nodup.idxOf_getElem hn i hlt
theorem mem_take_idx (l : List Bytes) (i : Nat) (x : Bytes) : x ∈ l.take i ↔ x ∈ l ∧ l.idxOf x < i := by
  induction l generalizing i with
  | nil => simp
  | cons a r ih =>
    cases i with
    | zero => simp
    | succ i =>
      rw [List.take_succ_cons, List.mem_cons, List.mem_cons, ih, List.idxOf_cons]
      by_cases h : x = a
      · subst h; simp
      · have : (a == x) = false := beq_false_of_ne (Ne.symm h)
        rw [this]
        simp [h]
theorem laterB_eq (names : List Bytes) (i : Nat) (x : Bytes) (hn : names.Nodup) (h : names[i]? = some x) :
    laterB names i = true ↔ (x = b_periods ∧ b_pay ∈ names.take i) ∨ (x = b_pay ∧ b_periods ∈ names.take i) := by
  have hix := idx_nodup names i x hn h
  have hxm : x ∈ names := List.mem_of_getElem? h
  have hne : b_periods ≠ b_pay := by decide
  have hidx : b_periods ∈ names → b_pay ∈ names → names.idxOf b_periods ≠ names.idxOf b_pay := by
    intro h1 h2 e
    have a1 := List.getElem_idxOf (List.idxOf_lt_length_iff.2 h1)
    have a2 := List.getElem_idxOf (List.idxOf_lt_length_iff.2 h2)
    apply hne
    rw [← a1, ← a2]
    congr 1
  rw [mem_take_idx, mem_take_idx]
  unfold laterB atV
  simp only [Bool.and_eq_true, List.contains_iff_mem, decide_eq_true_eq]
  constructor
  · rintro ⟨⟨h1, h2⟩, h3⟩
    rw [if_pos h1, if_pos h2] at h3
    have hd := hidx h1 h2
    have hg : ∀ y, y ∈ names → names.idxOf y = i → x = y := by
      intro y hy e
      have a1 := List.getElem_idxOf (List.idxOf_lt_length_iff.2 hy)
      have a2 := (List.getElem?_eq_some_iff.1 h).2
      rw [← a1, ← a2]
      congr 1
      exact e.symm
    rcases Nat.lt_or_ge (names.idxOf b_pay) (names.idxOf b_periods) with hl | hl
    · left
      have : names.idxOf b_periods = i := by omega
      exact ⟨hg _ h1 this, h2, by omega⟩
    · right
      have : names.idxOf b_pay = i := by omega
      exact ⟨hg _ h2 this, h1, by omega⟩
  · rintro (⟨rfl, h2, h3⟩ | ⟨rfl, h2, h3⟩)
    · refine ⟨⟨hxm, h2⟩, ?_⟩
      rw [if_pos hxm, if_pos h2]
      omega
    · refine ⟨⟨h2, hxm⟩, ?_⟩
      rw [if_pos hxm, if_pos h2]
      omega

/-- Whether a key is missing: of all keys. -/
def missK (kind : Int) (names : List Bytes) (k : Bytes) : Bool := standsC kind k && !names.contains k && !((decide (k = b_periods) || decide (k = b_pay)) && (names.contains b_periods || names.contains b_pay))
def missA (kind : Int) (names : List Bytes) : Bool := keysL.any (missK kind names)
theorem missA_eq (kind : Int) (names : List Bytes) (h : b_end ∈ names) : missA kind names = missL kind names := by
  have e : keysL = [b_end, b_periods, b_named, b_pay, b_extra, b_serve, b_compare] := rfl
  have he : names.contains b_end = true := List.contains_iff_mem.2 h
  have hs : standsC kind b_pay = standsC kind b_periods := by
    unfold standsC
    rw [if_neg (by decide), if_pos (by decide), if_neg (by decide), if_pos (by decide)]
  unfold missA missL missK
  rw [e]
  simp only [List.any_cons, List.any_nil, he, hs, Bool.not_true, Bool.and_false, Bool.false_and, Bool.false_or, Bool.or_false]
  simp only [show decide (b_named = b_periods) = false by decide, show decide (b_named = b_pay) = false by decide, show decide (b_extra = b_periods) = false by decide, show decide (b_extra = b_pay) = false by decide,
    show decide (b_serve = b_periods) = false by decide, show decide (b_serve = b_pay) = false by decide, show decide (b_compare = b_periods) = false by decide, show decide (b_compare = b_pay) = false by decide,
    show decide (b_periods = b_periods) = true by decide, show decide (b_pay = b_pay) = true by decide, show decide (b_periods = b_pay) = false by decide, show decide (b_pay = b_periods) = false by decide]
  generalize standsC kind b_periods = s1
  generalize standsC kind b_named = s2
  generalize standsC kind b_extra = s3
  generalize standsC kind b_serve = s4
  generalize standsC kind b_compare = s5
  generalize names.contains b_periods = n1
  generalize names.contains b_named = n2
  generalize names.contains b_extra = n3
  generalize names.contains b_serve = n4
  generalize names.contains b_compare = n5
  generalize names.contains b_pay = n6
  cases s1 <;> cases s2 <;> cases n1 <;> cases n2 <;> cases n6 <;> simp

/-- What formed lets through. -/
theorem formed_right (nm : Bytes) : ∀ (l : List NodeL) (seen : List Bytes) (co c : Option CalL), formedL nm seen co l = .inr c → seen.Nodup → (∀ s ∈ seen, keysL.contains s = true) →
    (seen ++ l.map NodeL.name).Nodup ∧ (∀ s ∈ seen ++ l.map NodeL.name, keysL.contains s = true) ∧ (∀ k ∈ l, k.block = false ∧ k.words ≠ [] ∧ (putK k.name { calZ with name := nm } k.words).2 = true)
  | [], seen, co, c, h, hn, hk => ⟨by simpa using hn, fun s hs => hk s (by simpa using hs), by simp⟩
  | k :: r, seen, co, c, h, hn, hk => by
    unfold formedL at h
    split at h
    · cases h
    · next h1 =>
      split at h
      · cases h
      · next h2 =>
        split at h
        · cases h
        · next h3 =>
          simp only [Bool.not_eq_true', Bool.not_eq_false] at h1
          simp only [Bool.not_eq_true] at h2
          simp only [Bool.or_eq_true, Bool.not_eq_true', not_or, Bool.not_eq_true, Bool.not_eq_false] at h3
          have hns : k.name ∉ seen := fun e => by rw [List.contains_iff_mem.2 e] at h2; cases h2
          obtain ⟨a1, a2, a3⟩ := formed_right nm r (seen ++ [k.name]) _ c h (by
            rw [List.nodup_append]
            refine ⟨hn, by simp, ?_⟩
            intro a ha b hb
            simp only [List.mem_singleton] at hb
            subst hb
            exact fun e => hns (e ▸ ha)) (by
            intro s hs
            rcases List.mem_append.1 hs with hs | hs
            · exact hk s hs
            · simp only [List.mem_singleton] at hs; subst hs; exact h1)
          rw [List.map_cons]
          have e : seen ++ [k.name] ++ r.map NodeL.name = seen ++ (k.name :: r.map NodeL.name) := by simp
          rw [e] at a1 a2
          refine ⟨a1, a2, ?_⟩
          intro x hx
          rcases List.mem_cons.1 hx with rfl | hx
          · refine ⟨h3.1.1, ?_, h3.2⟩
            intro e
            rw [e] at h3
            simp at h3
          · exact a3 x hx
/-- The calendar is there just if the end is. -/
theorem formed_end (nm : Bytes) : ∀ (l : List NodeL) (seen : List Bytes) (co c : Option CalL), formedL nm seen co l = .inr c → co.isSome = seen.contains b_end → c.isSome = (seen ++ l.map NodeL.name).contains b_end
  | [], seen, co, c, h, hc => by
    simp only [formedL, Sum.inr.injEq] at h
    subst h
    simpa using hc
  | k :: r, seen, co, c, h, hc => by
    unfold formedL at h
    split at h
    · cases h
    · split at h
      · cases h
      · split at h
        · cases h
        · have := formed_end nm r (seen ++ [k.name]) _ c h (by
            by_cases hk : k.name = b_end
            · rw [if_pos hk, hk]; simp
            · rw [if_neg hk, hc, List.contains_append]
              have : ([k.name].contains b_end) = false := by simp; exact fun e => hk e.symm
              rw [this, Bool.or_false])
          rw [this]
          simp

end Go.Proofs.YtjbniichcopnlaaGreatDoor
end

section
/- 'next' and 'entry' of an iterator over a map that lies as it lay when the loop began, wherever the iterator's block lies. Over any program. -/
set_option linter.unusedVariables false
set_option linter.unusedSimpArgs false
namespace Go.Proofs.YtjbniichcopnlaaGreatDoor
open Go.RowKit
section
variable {P : Program}

theorem run_next_at (w : World) (ty : TypeId) (bm r since c0 : Nat) (seen : Array Nat) (es : Array MapEntry) (clock : Nat) (hb : w.heap[bm]? = some (.map es clock)) (hr : w.heap[r]? = some (.mapIter (some bm) since seen c0))
    (hold : ∀ x ∈ es.toList, x.born < since) (hsc : since ≤ c0) :
    ((leftOf es seen).size = 0 ∧ (Instr.next (.pointer (some ⟨r, 0, none⟩)) false ty).run P w = .ok (.tuple #[.bool false]) w) ∨
    ∃ e ∈ (leftOf es seen).toList, ∃ w1 : World, (w1 = w ∨ w1 = w.drew) ∧ (Instr.next (.pointer (some ⟨r, 0, none⟩)) false ty).run P w = .ok (.tuple #[.bool true, e.key, e.val]) (setB w1 r (.mapIter (some bm) since (seen.push e.born) clock)) := by
  simp only [Instr.next, getObj, Sem.run_bind, Sem.run, hr, hb, Result.andThen, next_test_false seen es since c0 hold hsc, Bool.false_eq_true, if_false]
  unfold leftOf
  have hmem : ∀ x ∈ (Array.filter (fun e => !seen.contains e.born) es).toList, x.born < since := fun x hx => hold x (by simp at hx ⊢; exact hx.1)
  generalize Array.filter (fun e => !seen.contains e.born) es = L at hmem ⊢
  have e1 : L.filter (fun x => decide (x.born < since)) = L := Array.filter_eq_self.2 (fun x hx => by simpa using hmem x (by simpa using hx))
  have e2 : L.filter (fun x => decide (x.born ≥ since)) = #[] := by
    rw [Array.filter_eq_empty_iff]
    intro x hx
    have := hmem x (by simpa using hx)
    simp
    omega
  simp only [e1, e2, Array.append_empty]
  by_cases h0 : L.size = 0
  · left
    have : L = #[] := Array.eq_empty_of_size_eq_zero h0
    subst this
    refine ⟨rfl, ?_⟩
    simp [choose, Sem.run, Question.forced]
  · right
    have hne : L.isEmpty = false := by simp [Array.isEmpty, h0]
    simp only [hne, Bool.false_eq_true, if_false, Array.empty_append, Array.size_map]
    have hch : ∃ (j : Nat) (w1 : World), j < L.size ∧ (w1 = w ∨ w1 = w.drew) ∧ (choose (Question.mapNext L.size)).run P w = .ok j w1 := by
      by_cases hf : L.size ≤ 1
      · exact ⟨0, w, by omega, .inl rfl, by simp [choose, Sem.run, Question.forced, hf]⟩
      · exact ⟨_, w.drew, Nat.mod_lt _ (by omega), .inr rfl, by
          simp only [choose, Sem.run, Question.forced, decide_eq_true_eq, hf, if_false, Question.cut]
          rfl⟩
    obtain ⟨j, w1, hj, hal, hrun⟩ := hch
    refine ⟨L[j], by simp, w1, hal, ?_⟩
    have hr1 : w1.heap[r]? = some (.mapIter (some bm) since seen c0) := by rcases hal with rfl | rfl <;> exact hr
    have hset : ∀ (o' : Obj), (setObj r o').run P w1 = .ok () (setB w1 r o') := fun o' => by
      unfold setB
      simp only [setObj, Sem.run, hr1]
    simp only [hrun, Array.getElem?_map, Array.getElem?_eq_getElem hj, Option.map_some, Sem.run_bind, hset, Result.andThen]
    rfl

theorem run_entry_at (w : World) (bm r since : Nat) (seen : Array Nat) (es : Array MapEntry) (clock : Nat) (e : MapEntry) (hb : w.heap[bm]? = some (.map es clock)) (hr : w.heap[r]? = some (.mapIter (some bm) since (seen.push e.born) clock))
    (he : e ∈ es.toList) (hn : (es.toList.map (·.born)).Nodup) :
    (Instr.entry (.pointer (some ⟨r, 0, none⟩))).run P w = .ok (.tuple #[e.key, e.val]) w := by
  have hf : es.find? (·.born == e.born) = some e := by rw [← Array.find?_toList]; exact find_born e es.toList hn he
  simp only [Instr.entry, getObj, Sem.run_bind, Sem.run, hr, hb, Result.andThen, Array.back?_push, bne_self_eq_false, Bool.false_eq_true, if_false, hf]
  rfl
end
end Go.Proofs.YtjbniichcopnlaaGreatDoor
end
