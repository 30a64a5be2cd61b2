import Derived.Test.YtjbniichcopnlaaPkW
import Derived.Test.YtjbniichcopnlaaMapAt
import Derived.Test.YtjbniichcopnlaaFieldSpec
import Derived.Laws.IdiomRangeMap
section
/- Layer 11 (field): the walks of keys, stands. -/
set_option linter.unusedVariables false
set_option linter.unusedSimpArgs false
set_option maxRecDepth 100000
namespace Go.Proofs.Ytjbniichcopnlaa
open Go.RowKit

/-- The part of keys' map that is laid, as the walk names it. -/
theorem field_keys (w : World) : Calls Try.prog 26 #[] w fun e w' => e = .returned (.map (some w.heap.size)) ∧ w' = w.alloc (.map keyMap 7) := by
  have hmm := @run_makeMap Try.prog
  have p0 : (Instr.mapUpdate 67 (.map (some w.heap.size)) (.string ⟨#[101, 110, 100]⟩) (.func (.func 41) #[] #[])).run Try.prog (w.alloc (.map #[] 0)) = .ok () (w.alloc (.map (keyMap.extract 0 1) 1)) := keyMap_put w 0 ⟨.string ⟨b_end.toArray⟩, .func (.func 41) #[] #[], 0⟩ (by decide) rfl rfl
  have p1 : (Instr.mapUpdate 67 (.map (some w.heap.size)) (.string ⟨#[112, 101, 114, 105, 111, 100, 115]⟩) (.func (.func 42) #[] #[])).run Try.prog (w.alloc (.map (keyMap.extract 0 1) 1)) = .ok () (w.alloc (.map (keyMap.extract 0 2) 2)) := keyMap_put w 1 ⟨.string ⟨b_periods.toArray⟩, .func (.func 42) #[] #[], 1⟩ (by decide) rfl rfl
  have p2 : (Instr.mapUpdate 67 (.map (some w.heap.size)) (.string ⟨#[110, 97, 109, 101, 100]⟩) (.func (.func 43) #[] #[])).run Try.prog (w.alloc (.map (keyMap.extract 0 2) 2)) = .ok () (w.alloc (.map (keyMap.extract 0 3) 3)) := keyMap_put w 2 ⟨.string ⟨b_named.toArray⟩, .func (.func 43) #[] #[], 2⟩ (by decide) rfl rfl
  have p3 : (Instr.mapUpdate 67 (.map (some w.heap.size)) (.string ⟨#[112, 97, 121]⟩) (.func (.func 45) #[] #[])).run Try.prog (w.alloc (.map (keyMap.extract 0 3) 3)) = .ok () (w.alloc (.map (keyMap.extract 0 4) 4)) := keyMap_put w 3 ⟨.string ⟨b_pay.toArray⟩, .func (.func 45) #[] #[], 3⟩ (by decide) rfl rfl
  have p4 : (Instr.mapUpdate 67 (.map (some w.heap.size)) (.string ⟨#[101, 120, 116, 114, 97]⟩) (.func (.func 47) #[] #[])).run Try.prog (w.alloc (.map (keyMap.extract 0 4) 4)) = .ok () (w.alloc (.map (keyMap.extract 0 5) 5)) := keyMap_put w 4 ⟨.string ⟨b_extra.toArray⟩, .func (.func 47) #[] #[], 4⟩ (by decide) rfl rfl
  have p5 : (Instr.mapUpdate 67 (.map (some w.heap.size)) (.string ⟨#[115, 101, 114, 118, 101]⟩) (.func (.func 49) #[] #[])).run Try.prog (w.alloc (.map (keyMap.extract 0 5) 5)) = .ok () (w.alloc (.map (keyMap.extract 0 6) 6)) := keyMap_put w 5 ⟨.string ⟨b_serve.toArray⟩, .func (.func 49) #[] #[], 5⟩ (by decide) rfl rfl
  have p6 : (Instr.mapUpdate 67 (.map (some w.heap.size)) (.string ⟨#[99, 111, 109, 112, 97, 114, 101]⟩) (.func (.func 51) #[] #[])).run Try.prog (w.alloc (.map (keyMap.extract 0 6) 6)) = .ok () (w.alloc (.map keyMap 7)) := keyMap_put w 6 ⟨.string ⟨b_compare.toArray⟩, .func (.func 51) #[] #[], 6⟩ (by decide) rfl rfl
  generalize keyMap.extract 0 1 = m1 at *
  generalize keyMap.extract 0 2 = m2 at *
  generalize keyMap.extract 0 3 = m3 at *
  generalize keyMap.extract 0 4 = m4 at *
  generalize keyMap.extract 0 5 = m5 at *
  generalize keyMap.extract 0 6 = m6 at *
  generalize keyMap = m7 at *
  go_enter Try.func26, Try.ntmps26
  go_wp2_with fail
  go_ret
  exact ⟨rfl, rfl⟩

/-- What is told of a name: what its key does. -/
def keyFn (s : Bytes) : Value :=
  if s = b_end then .func (.func 41) #[] #[] else if s = b_periods then .func (.func 42) #[] #[] else if s = b_named then .func (.func 43) #[] #[] else
  if s = b_pay then .func (.func 45) #[] #[] else if s = b_extra then .func (.func 47) #[] #[] else if s = b_serve then .func (.func 49) #[] #[] else
  if s = b_compare then .func (.func 51) #[] #[] else .nilFunc
theorem keyMap_all : ∀ e ∈ keyMap.toList, KeyOk .string e.key := keyMap_ok 7
theorem keyMap_find (s : Bytes) : ((findE (.string ⟨s.toArray⟩) keyMap.toList 0).map (·.2)).getD .nilFunc = keyFn s ∧ (findE (.string ⟨s.toArray⟩) keyMap.toList 0).isSome = keysL.contains s := by
  have e : keysL = [b_end, b_periods, b_named, b_pay, b_extra, b_serve, b_compare] := rfl
  rw [e]
  unfold keyMap keyFn
  simp only [findE, sameKey_str, decide_eq_true_eq, List.contains_cons, List.contains_nil, Bool.or_false]
  by_cases h0 : s = b_end
  · simp [h0]
  by_cases h1 : s = b_periods
  · simp [h0, h1]
    rw [if_neg (by decide), if_neg (by decide)]; exact ⟨rfl, by simp⟩
  by_cases h2 : s = b_named
  · simp [h2]
    simp [show b_named ≠ b_end by decide, show b_named ≠ b_periods by decide]
  by_cases h3 : s = b_pay
  · simp [h3]
    simp [show b_pay ≠ b_end by decide, show b_pay ≠ b_periods by decide, show b_pay ≠ b_named by decide]
  by_cases h4 : s = b_extra
  · simp [h4]
    simp [show b_extra ≠ b_end by decide, show b_extra ≠ b_periods by decide, show b_extra ≠ b_named by decide, show b_extra ≠ b_pay by decide]
  by_cases h5 : s = b_serve
  · simp [h5]
    simp [show b_serve ≠ b_end by decide, show b_serve ≠ b_periods by decide, show b_serve ≠ b_named by decide, show b_serve ≠ b_pay by decide, show b_serve ≠ b_extra by decide]
  by_cases h6 : s = b_compare
  · simp [h6]
    simp [show b_compare ≠ b_end by decide, show b_compare ≠ b_periods by decide, show b_compare ≠ b_named by decide, show b_compare ≠ b_pay by decide, show b_compare ≠ b_extra by decide, show b_compare ≠ b_serve by decide]
  simp [h0, h1, h2, h3, h4, h5, h6]
theorem zeroFn (w : World) : (zeroValue 69).run Try.prog w = .ok .nilFunc w := by kernel_rfl
theorem key_look (W : World) (g : Nat) (s : Bytes) (hb : W.heap[g]? = some (.map keyMap 7)) :
    (Instr.lookup 67 (.map (some g)) (.string ⟨s.toArray⟩) true).run Try.prog W = .ok (.tuple #[keyFn s, .bool (keysL.contains s)]) W := by
  have h := run_lookup_ok (k := .string ⟨s.toArray⟩) Try.underlying67 Try.underlying9 (KeyOk.str _) keyMap_all (zeroFn W) hb
  exact h.trans (by rw [(keyMap_find s).1, (keyMap_find s).2])
theorem key_lookP (W : World) (g : Nat) (s : Bytes) (hb : W.heap[g]? = some (.map keyMap 7)) :
    (Instr.lookup 67 (.map (some g)) (.string ⟨s.toArray⟩) false).run Try.prog W = .ok (keyFn s) W := by
  have h := run_lookup_plain (k := .string ⟨s.toArray⟩) Try.underlying67 Try.underlying9 (KeyOk.str _) keyMap_all (zeroFn W) hb
  exact h.trans (by rw [(keyMap_find s).1])

theorem ba_ne (a : Bytes) (b : Array UInt8) (h : a ≠ b.toList) : (ByteArray.mk a.toArray = ByteArray.mk b) = False := by
  apply propext
  constructor
  · intro e
    injection e with e
    exact h (by rw [← e])
  · exact False.elim

set_option maxHeartbeats 2000000 in
theorem field_stands (k : Int) (s : Bytes) (w : World) : Calls Try.prog 40 #[.int .i64 k, .string ⟨s.toArray⟩] w fun e w' => e = .returned (.bool (standsC k s)) ∧ Below w.heap.size w w' := by
  have HF := Lib.hid (field_fixed k w)
  obtain ⟨R, hR⟩ : ∃ R, fixedR k = R := ⟨_, rfl⟩
  obtain ⟨c, b⟩ := R
  rw [hR] at HF
  have hb : b = (decide (k = 3) || decide (k = 4)) := by
    unfold fixedR at hR
    split at hR
    · next h => subst h; injection hR with h1 h2; rw [← h2]; rfl
    · split at hR
      · next h1 h => subst h; injection hR with h1 h2; rw [← h2]; rfl
      · next h1 h2 => injection hR with h3 h4; rw [← h4, decide_eq_false h1, decide_eq_false h2]; rfl
  obtain ⟨q0, hq0⟩ : ∃ q, (s == [110, 97, 109, 101, 100]) = q := ⟨_, rfl⟩
  obtain ⟨q1, hq1⟩ : ∃ q, (s == [112, 101, 114, 105, 111, 100, 115]) = q := ⟨_, rfl⟩
  obtain ⟨q2, hq2⟩ : ∃ q, (s == [112, 97, 121]) = q := ⟨_, rfl⟩
  obtain ⟨q3, hq3⟩ : ∃ q, (s == [101, 120, 116, 114, 97]) = q := ⟨_, rfl⟩
  have hst : standsC k s = if q0 then (!b && (k != 5)) else if q1 || q2 || q3 then (!b && (k != 6)) else true := by
    rw [hb, ← hq0, ← hq1, ← hq2, ← hq3]
    unfold standsC
    have e : ∀ m : Int, decide (k ≠ m) = (k != m) := fun m => by by_cases h : k = m <;> simp [h]
    have e2 : ∀ m : Int, decide (k = m) = !(k != m) := fun m => by by_cases h : k = m <;> simp [h]
    simp only [e, e2, Bool.not_or, Bool.not_not, beq_iff_eq, Bool.or_eq_true]
    rw [show b_named = [110, 97, 109, 101, 100] from rfl, show b_periods = [112, 101, 114, 105, 111, 100, 115] from rfl, show b_pay = [112, 97, 121] from rfl, show b_extra = [101, 120, 116, 114, 97] from rfl]
    simp only [or_assoc]
  rw [hst]
  obtain ⟨k5, hk5⟩ : ∃ q, (k != 5) = q := ⟨_, rfl⟩
  obtain ⟨k6, hk6⟩ : ∃ q, (k != 6) = q := ⟨_, rfl⟩
  rw [hk5, hk6]
  clear hst hb hR
  dsimp only [calV] at HF
  obtain ⟨nm, kind, day, month, shift, shape, p0, p1, p2, cycle, extra, first, last, policy⟩ := c
  dsimp only at HF
  cases q0
  · cases q1
    · cases q2
      · cases q3
        · skip
          go_enter Try.func40, Try.ntmps40
          go_wp2_with fail
          refine HF.out.mono ?_
          rintro e w1 ⟨rfl, hb1⟩
          have HB1 := Lib.hid (Below.alloc hb1 hb1.size (.cells #[.string ⟨nm.toArray⟩, .int .i64 kind, .int .i64 day, .int .i64 month, .int .i64 shift, .int .i64 shape, .int .i64 p0, .int .i64 p1, .int .i64 p2, .int .i64 cycle, .int .i64 extra, .int .i64 first, .int .i64 last, .int .i64 policy] 31))
          clear hb1
          go_wp2_with fail
          go_ret
          exact ⟨rfl, HB1.out⟩
        · cases b <;> (go_enter Try.func40, Try.ntmps40; go_wp2_with fail; refine HF.out.mono ?_; rintro e w1 ⟨rfl, hb1⟩; have HB1 := Lib.hid (Below.alloc hb1 hb1.size (.cells #[.string ⟨nm.toArray⟩, .int .i64 kind, .int .i64 day, .int .i64 month, .int .i64 shift, .int .i64 shape, .int .i64 p0, .int .i64 p1, .int .i64 p2, .int .i64 cycle, .int .i64 extra, .int .i64 first, .int .i64 last, .int .i64 policy] 31)); clear hb1; go_wp2_with fail; go_ret; exact ⟨rfl, HB1.out⟩)
      · cases b <;> (go_enter Try.func40, Try.ntmps40; go_wp2_with fail; refine HF.out.mono ?_; rintro e w1 ⟨rfl, hb1⟩; have HB1 := Lib.hid (Below.alloc hb1 hb1.size (.cells #[.string ⟨nm.toArray⟩, .int .i64 kind, .int .i64 day, .int .i64 month, .int .i64 shift, .int .i64 shape, .int .i64 p0, .int .i64 p1, .int .i64 p2, .int .i64 cycle, .int .i64 extra, .int .i64 first, .int .i64 last, .int .i64 policy] 31)); clear hb1; go_wp2_with fail; go_ret; exact ⟨rfl, HB1.out⟩)
    · cases b <;> (go_enter Try.func40, Try.ntmps40; go_wp2_with fail; refine HF.out.mono ?_; rintro e w1 ⟨rfl, hb1⟩; have HB1 := Lib.hid (Below.alloc hb1 hb1.size (.cells #[.string ⟨nm.toArray⟩, .int .i64 kind, .int .i64 day, .int .i64 month, .int .i64 shift, .int .i64 shape, .int .i64 p0, .int .i64 p1, .int .i64 p2, .int .i64 cycle, .int .i64 extra, .int .i64 first, .int .i64 last, .int .i64 policy] 31)); clear hb1; go_wp2_with fail; go_ret; exact ⟨rfl, HB1.out⟩)
  · cases b <;> (go_enter Try.func40, Try.ntmps40; go_wp2_with fail; refine HF.out.mono ?_; rintro e w1 ⟨rfl, hb1⟩; have HB1 := Lib.hid (Below.alloc hb1 hb1.size (.cells #[.string ⟨nm.toArray⟩, .int .i64 kind, .int .i64 day, .int .i64 month, .int .i64 shift, .int .i64 shape, .int .i64 p0, .int .i64 p1, .int .i64 p2, .int .i64 cycle, .int .i64 extra, .int .i64 first, .int .i64 last, .int .i64 policy] 31)); clear hb1; go_wp2_with fail; go_ret; exact ⟨rfl, HB1.out⟩)

end Go.Proofs.Ytjbniichcopnlaa
end

section
/- Layer 11 (field), in plain Lean: what formed and fits tell, by places. No program in sight. -/
set_option linter.unusedSimpArgs false
namespace Go.Proofs.Ytjbniichcopnlaa

/-- Whether an item is the second of the two shapes, by the places. -/
def laterB (names : List Bytes) (i : Nat) : Bool := names.contains b_periods && names.contains b_pay && decide ((i : Int) = max (atV names b_periods) (atV names b_pay))
theorem idx_nodup (l : List Bytes) (i : Nat) (x : Bytes) (hn : l.Nodup) (h : l[i]? = some x) : l.idxOf x = i := by
  have hi := (List.getElem?_eq_some_iff.1 h)
  obtain ⟨hlt, hx⟩ := hi
  rw [← hx]
  exact List.Nodup.idxOf_getElem hn i hlt
theorem mem_take_idx (l : List Bytes) (i : Nat) (x : Bytes) : x ∈ l.take i ↔ x ∈ l ∧ l.idxOf x < i := by
  induction l generalizing i with
  | nil => simp
  | cons a r ih =>
    cases i with
    | zero => simp
    | succ i =>
      rw [List.take_succ_cons, List.mem_cons, List.mem_cons, ih, List.idxOf_cons]
      by_cases h : x = a
      · subst h; simp
      · have : (a == x) = false := beq_false_of_ne (Ne.symm h)
        rw [this]
        simp [h]
theorem laterB_eq (names : List Bytes) (i : Nat) (x : Bytes) (hn : names.Nodup) (h : names[i]? = some x) :
    laterB names i = true ↔ (x = b_periods ∧ b_pay ∈ names.take i) ∨ (x = b_pay ∧ b_periods ∈ names.take i) := by
  have hix := idx_nodup names i x hn h
  have hxm : x ∈ names := List.mem_of_getElem? h
  have hne : b_periods ≠ b_pay := by decide
  have hidx : b_periods ∈ names → b_pay ∈ names → names.idxOf b_periods ≠ names.idxOf b_pay := by
    intro h1 h2 e
    have a1 := List.getElem_idxOf (List.idxOf_lt_length_iff.2 h1)
    have a2 := List.getElem_idxOf (List.idxOf_lt_length_iff.2 h2)
    apply hne
    rw [← a1, ← a2]
    congr 1
  rw [mem_take_idx, mem_take_idx]
  unfold laterB atV
  simp only [Bool.and_eq_true, List.contains_iff_mem, decide_eq_true_eq]
  constructor
  · rintro ⟨⟨h1, h2⟩, h3⟩
    rw [if_pos h1, if_pos h2] at h3
    have hd := hidx h1 h2
    have hg : ∀ y, y ∈ names → names.idxOf y = i → x = y := by
      intro y hy e
      have a1 := List.getElem_idxOf (List.idxOf_lt_length_iff.2 hy)
      have a2 := (List.getElem?_eq_some_iff.1 h).2
      rw [← a1, ← a2]
      congr 1
      exact e.symm
    rcases Nat.lt_or_ge (names.idxOf b_pay) (names.idxOf b_periods) with hl | hl
    · left
      have : names.idxOf b_periods = i := by omega
      exact ⟨hg _ h1 this, h2, by omega⟩
    · right
      have : names.idxOf b_pay = i := by omega
      exact ⟨hg _ h2 this, h1, by omega⟩
  · rintro (⟨rfl, h2, h3⟩ | ⟨rfl, h2, h3⟩)
    · refine ⟨⟨hxm, h2⟩, ?_⟩
      rw [if_pos hxm, if_pos h2]
      omega
    · refine ⟨⟨h2, hxm⟩, ?_⟩
      rw [if_pos hxm, if_pos h2]
      omega

/-- Whether a key is missing: of all keys. -/
def missK (kind : Int) (names : List Bytes) (k : Bytes) : Bool := standsC kind k && !names.contains k && !((decide (k = b_periods) || decide (k = b_pay)) && (names.contains b_periods || names.contains b_pay))
def missA (kind : Int) (names : List Bytes) : Bool := keysL.any (missK kind names)
theorem missA_eq (kind : Int) (names : List Bytes) (h : b_end ∈ names) : missA kind names = missL kind names := by
  have e : keysL = [b_end, b_periods, b_named, b_pay, b_extra, b_serve, b_compare] := rfl
  have he : names.contains b_end = true := List.contains_iff_mem.2 h
  have hs : standsC kind b_pay = standsC kind b_periods := by
    unfold standsC
    rw [if_neg (by decide), if_pos (by decide), if_neg (by decide), if_pos (by decide)]
  unfold missA missL missK
  rw [e]
  simp only [List.any_cons, List.any_nil, he, hs, Bool.not_true, Bool.and_false, Bool.false_and, Bool.false_or, Bool.or_false]
  simp only [show decide (b_named = b_periods) = false by decide, show decide (b_named = b_pay) = false by decide, show decide (b_extra = b_periods) = false by decide, show decide (b_extra = b_pay) = false by decide,
    show decide (b_serve = b_periods) = false by decide, show decide (b_serve = b_pay) = false by decide, show decide (b_compare = b_periods) = false by decide, show decide (b_compare = b_pay) = false by decide,
    show decide (b_periods = b_periods) = true by decide, show decide (b_pay = b_pay) = true by decide, show decide (b_periods = b_pay) = false by decide, show decide (b_pay = b_periods) = false by decide]
  generalize standsC kind b_periods = s1
  generalize standsC kind b_named = s2
  generalize standsC kind b_extra = s3
  generalize standsC kind b_serve = s4
  generalize standsC kind b_compare = s5
  generalize names.contains b_periods = n1
  generalize names.contains b_named = n2
  generalize names.contains b_extra = n3
  generalize names.contains b_serve = n4
  generalize names.contains b_compare = n5
  generalize names.contains b_pay = n6
  cases s1 <;> cases s2 <;> cases n1 <;> cases n2 <;> cases n6 <;> simp

/-- What formed lets through. -/
theorem formed_right (nm : Bytes) : ∀ (l : List NodeL) (seen : List Bytes) (co c : Option CalL), formedL nm seen co l = .inr c → seen.Nodup → (∀ s ∈ seen, keysL.contains s = true) →
    (seen ++ l.map NodeL.name).Nodup ∧ (∀ s ∈ seen ++ l.map NodeL.name, keysL.contains s = true) ∧ (∀ k ∈ l, k.block = false ∧ k.words ≠ [] ∧ (putK k.name { calZ with name := nm } k.words).2 = true)
  | [], seen, co, c, h, hn, hk => ⟨by simpa using hn, fun s hs => hk s (by simpa using hs), by simp⟩
  | k :: r, seen, co, c, h, hn, hk => by
    unfold formedL at h
    split at h
    · cases h
    · next h1 =>
      split at h
      · cases h
      · next h2 =>
        split at h
        · cases h
        · next h3 =>
          simp only [Bool.not_eq_true', Bool.not_eq_false] at h1
          simp only [Bool.not_eq_true] at h2
          simp only [Bool.or_eq_true, Bool.not_eq_true', not_or, Bool.not_eq_true, Bool.not_eq_false] at h3
          have hns : k.name ∉ seen := fun e => by rw [List.contains_iff_mem.2 e] at h2; cases h2
          obtain ⟨a1, a2, a3⟩ := formed_right nm r (seen ++ [k.name]) _ c h (by
            rw [List.nodup_append]
            refine ⟨hn, by simp, ?_⟩
            intro a ha b hb
            simp only [List.mem_singleton] at hb
            subst hb
            exact fun e => hns (e ▸ ha)) (by
            intro s hs
            rcases List.mem_append.1 hs with hs | hs
            · exact hk s hs
            · simp only [List.mem_singleton] at hs; subst hs; exact h1)
          rw [List.map_cons]
          have e : seen ++ [k.name] ++ r.map NodeL.name = seen ++ (k.name :: r.map NodeL.name) := by simp
          rw [e] at a1 a2
          refine ⟨a1, a2, ?_⟩
          intro x hx
          rcases List.mem_cons.1 hx with rfl | hx
          · refine ⟨h3.1.1, ?_, h3.2⟩
            intro e
            rw [e] at h3
            simp at h3
          · exact a3 x hx
/-- The calendar is there just if the end is. -/
theorem formed_end (nm : Bytes) : ∀ (l : List NodeL) (seen : List Bytes) (co c : Option CalL), formedL nm seen co l = .inr c → co.isSome = seen.contains b_end → c.isSome = (seen ++ l.map NodeL.name).contains b_end
  | [], seen, co, c, h, hc => by
    simp only [formedL, Sum.inr.injEq] at h
    subst h
    simpa using hc
  | k :: r, seen, co, c, h, hc => by
    unfold formedL at h
    split at h
    · cases h
    · split at h
      · cases h
      · split at h
        · cases h
        · have := formed_end nm r (seen ++ [k.name]) _ c h (by
            by_cases hk : k.name = b_end
            · rw [if_pos hk, hk]; simp
            · rw [if_neg hk, hc, List.contains_append]
              have : ([k.name].contains b_end) = false := by simp; exact fun e => hk e.symm
              rw [this, Bool.or_false])
          rw [this]
          simp

end Go.Proofs.Ytjbniichcopnlaa
end

section
/- 'next' and 'entry' of an iterator over a map that lies as it lay when the loop began, wherever the iterator's block lies. Over any program. -/
set_option linter.unusedVariables false
set_option linter.unusedSimpArgs false
namespace Go.Proofs.Ytjbniichcopnlaa
open Go.RowKit
section
variable {P : Program}

theorem run_next_at (w : World) (ty : TypeId) (bm r since c0 : Nat) (seen : Array Nat) (es : Array MapEntry) (clock : Nat) (hb : w.heap[bm]? = some (.map es clock)) (hr : w.heap[r]? = some (.mapIter (some bm) since seen c0))
    (hold : ∀ x ∈ es.toList, x.born < since) (hsc : since ≤ c0) :
    ((leftOf es seen).size = 0 ∧ (Instr.next (.pointer (some ⟨r, 0, none⟩)) false ty).run P w = .ok (.tuple #[.bool false]) w) ∨
    ∃ e ∈ (leftOf es seen).toList, ∃ w1 : World, (w1 = w ∨ w1 = w.drew) ∧ (Instr.next (.pointer (some ⟨r, 0, none⟩)) false ty).run P w = .ok (.tuple #[.bool true, e.key, e.val]) (setB w1 r (.mapIter (some bm) since (seen.push e.born) clock)) := by
  simp only [Instr.next, getObj, Sem.run_bind, Sem.run, hr, hb, Result.andThen, next_test_false seen es since c0 hold hsc, Bool.false_eq_true, if_false]
  unfold leftOf
  have hmem : ∀ x ∈ (Array.filter (fun e => !seen.contains e.born) es).toList, x.born < since := fun x hx => hold x (by simp at hx ⊢; exact hx.1)
  generalize Array.filter (fun e => !seen.contains e.born) es = L at hmem ⊢
  have e1 : L.filter (fun x => decide (x.born < since)) = L := Array.filter_eq_self.2 (fun x hx => by simpa using hmem x (by simpa using hx))
  have e2 : L.filter (fun x => decide (x.born ≥ since)) = #[] := by
    rw [Array.filter_eq_empty_iff]
    intro x hx
    have := hmem x (by simpa using hx)
    simp
    omega
  simp only [e1, e2, Array.append_empty]
  by_cases h0 : L.size = 0
  · left
    have : L = #[] := Array.eq_empty_of_size_eq_zero h0
    subst this
    refine ⟨rfl, ?_⟩
    simp [choose, Sem.run, Question.forced]
  · right
    have hne : L.isEmpty = false := by simp [Array.isEmpty, h0]
    simp only [hne, Bool.false_eq_true, if_false, Array.empty_append, Array.size_map]
    have hch : ∃ (j : Nat) (w1 : World), j < L.size ∧ (w1 = w ∨ w1 = w.drew) ∧ (choose (Question.mapNext L.size)).run P w = .ok j w1 := by
      by_cases hf : L.size ≤ 1
      · exact ⟨0, w, by omega, .inl rfl, by simp [choose, Sem.run, Question.forced, hf]⟩
      · exact ⟨_, w.drew, Nat.mod_lt _ (by omega), .inr rfl, by
          simp only [choose, Sem.run, Question.forced, decide_eq_true_eq, hf, if_false, Question.cut]
          rfl⟩
    obtain ⟨j, w1, hj, hal, hrun⟩ := hch
    refine ⟨L[j], by simp, w1, hal, ?_⟩
    have hr1 : w1.heap[r]? = some (.mapIter (some bm) since seen c0) := by rcases hal with rfl | rfl <;> exact hr
    have hset : ∀ (o' : Obj), (setObj r o').run P w1 = .ok () (setB w1 r o') := fun o' => by
      unfold setB
      simp only [setObj, Sem.run, hr1]
    simp only [hrun, Array.getElem?_map, Array.getElem?_eq_getElem hj, Option.map_some, Sem.run_bind, hset, Result.andThen]
    rfl

theorem run_entry_at (w : World) (bm r since : Nat) (seen : Array Nat) (es : Array MapEntry) (clock : Nat) (e : MapEntry) (hb : w.heap[bm]? = some (.map es clock)) (hr : w.heap[r]? = some (.mapIter (some bm) since (seen.push e.born) clock))
    (he : e ∈ es.toList) (hn : (es.toList.map (·.born)).Nodup) :
    (Instr.entry (.pointer (some ⟨r, 0, none⟩))).run P w = .ok (.tuple #[e.key, e.val]) w := by
  have hf : es.find? (·.born == e.born) = some e := by rw [← Array.find?_toList]; exact find_born e es.toList hn he
  simp only [Instr.entry, getObj, Sem.run_bind, Sem.run, hr, hb, Result.andThen, Array.back?_push, bne_self_eq_false, Bool.false_eq_true, if_false, hf]
  rfl
end
end Go.Proofs.Ytjbniichcopnlaa
end

section
/- Layer 11 (field): the walk of fits. -/
set_option linter.unusedVariables false
set_option linter.unusedSimpArgs false
set_option maxRecDepth 100000
namespace Go.Proofs.Ytjbniichcopnlaa
open Go.RowKit

/-- The first item that does not stand with the end, or is the second shape: by the places. -/
def fitsI (kind : Int) (names : List Bytes) : Nat → List NodeL → Option (Int × Int)
  | _, [] => none
  | i, k :: r => if standsC kind k.name = false then some (k.pos, 8) else if laterB names i = true then some (k.pos, 9) else fitsI kind names (i + 1) r
theorem fitsI_eq (kind : Int) (names : List Bytes) (hn : names.Nodup) : ∀ (l : List NodeL) (i : Nat), names.drop i = l.map NodeL.name → fitsI kind names i l = fitsL kind (names.take i) l
  | [], i, h => rfl
  | k :: r, i, h => by
    have hi : names[i]? = some k.name := by
      have := congrArg List.head? h
      simpa [List.head?_drop] using this
    have hd : names.drop (i + 1) = r.map NodeL.name := by
      have := congrArg List.tail h
      simpa [List.tail_drop] using this
    have ht : names.take (i + 1) = names.take i ++ [k.name] := by rw [List.take_add_one, hi]; rfl
    have ih := fitsI_eq kind names hn r (i + 1) hd
    have hl := laterB_eq names i k.name hn hi
    unfold fitsI fitsL
    rw [ih, ht]
    by_cases h1 : standsC kind k.name = true
    · rw [h1]
      by_cases h2 : laterB names i = true
      · rw [if_pos h2]
        simp only [Bool.true_eq_false, if_false, Bool.not_true, Bool.false_eq_true, ↓reduceIte]
        rw [if_pos (by rcases hl.1 h2 with h | h; exact .inl h; exact .inr h)]
      · rw [if_neg h2]
        simp only [Bool.true_eq_false, if_false, Bool.not_true, Bool.false_eq_true, ↓reduceIte]
        rw [if_neg (fun h => h2 (hl.2 h))]
    · simp only [Bool.not_eq_true] at h1
      rw [h1]
      rfl

theorem fits_8 {kind : Int} {names : List Bytes} {i : Nat} {k : NodeL} {r : List NodeL} (h : standsC kind k.name = false) : fitsI kind names i (k :: r) = some (k.pos, 8) := by
  rw [fitsI, if_pos h]
theorem fits_9 {kind : Int} {names : List Bytes} {i : Nat} {k : NodeL} {r : List NodeL} (h : standsC kind k.name = true) (h2 : laterB names i = true) : fitsI kind names i (k :: r) = some (k.pos, 9) := by
  rw [fitsI, if_neg (by rw [h]; simp), if_pos h2]
theorem fits_go {kind : Int} {names : List Bytes} {i : Nat} {k : NodeL} {r : List NodeL} (h : standsC kind k.name = true) (h2 : laterB names i = false) : fitsI kind names i (k :: r) = fitsI kind names (i + 1) r := by
  rw [fitsI, if_neg (by rw [h]; simp), if_neg (by rw [h2]; simp)]
/-- What fits tells. -/
def FitsPost (n : NodeL) (kind : Int) (w : World) (e : Ending) (w' : World) : Prop :=
  Below w.heap.size w w' ∧
  e = match fitsI kind (n.kids.map NodeL.name) 0 n.kids with
  | some (p, er) => .returned (.tuple #[.int .i64 p, .int .i64 er])
  | none => if missA kind (n.kids.map NodeL.name) then .returned (.tuple #[.int .i64 n.pos, .int .i64 10]) else .returned (.tuple #[.int .i64 0, .int .i64 0])

theorem keyMap_key (e : MapEntry) (h : e ∈ keyMap.toList) : ∃ s, e.key = .string ⟨s.toArray⟩ ∧ s ∈ keysL := by
  simp only [keyMap, List.mem_cons, List.not_mem_nil, or_false] at h
  rcases h with rfl | rfl | rfl | rfl | rfl | rfl | rfl
  · exact ⟨b_end, rfl, by decide⟩
  · exact ⟨b_periods, rfl, by decide⟩
  · exact ⟨b_named, rfl, by decide⟩
  · exact ⟨b_pay, rfl, by decide⟩
  · exact ⟨b_extra, rfl, by decide⟩
  · exact ⟨b_serve, rfl, by decide⟩
  · exact ⟨b_compare, rfl, by decide⟩
theorem keyMap_old : ∀ x ∈ keyMap.toList, x.born < 7 := by
  intro x h
  simp only [keyMap, List.mem_cons, List.not_mem_nil, or_false] at h
  rcases h with rfl | rfl | rfl | rfl | rfl | rfl | rfl <;> decide
theorem keyMap_born : (keyMap.toList.map (·.born)).Nodup := by decide
theorem keyMap_has (s : Bytes) (h : s ∈ keysL) : ∃ e ∈ keyMap.toList, e.key = .string ⟨s.toArray⟩ := by
  have e : keysL = [b_end, b_periods, b_named, b_pay, b_extra, b_serve, b_compare] := rfl
  rw [e] at h
  simp only [List.mem_cons, List.not_mem_nil, or_false] at h
  rcases h with rfl | rfl | rfl | rfl | rfl | rfl | rfl <;> simp [keyMap]
/-- Those that were handed out are not missing. -/
def SeenOk (kind : Int) (names : List Bytes) (seen : Array Nat) : Prop := ∀ e ∈ keyMap.toList, seen.contains e.born = true → ∀ s, e.key = .string ⟨s.toArray⟩ → missK kind names s = false
theorem seenOk_push {kind : Int} {names : List Bytes} {seen : Array Nat} {e : MapEntry} {s : Bytes} (h : SeenOk kind names seen) (he : e ∈ keyMap.toList) (hk : e.key = .string ⟨s.toArray⟩) (hm : missK kind names s = false) : SeenOk kind names (seen.push e.born) := by
  intro x hx hc y hy
  rw [contains_push, Bool.or_eq_true] at hc
  rcases hc with hc | hc
  · exact h x hx hc y hy
  · have := born_inj keyMap_born hx he (beq_iff_eq.1 hc)
    subst this
    rw [hk] at hy
    injection hy with hy
    rw [← (ba_injM s y).1 hy]
    exact hm
theorem seenOk_all {kind : Int} {names : List Bytes} {seen : Array Nat} (h : SeenOk kind names seen) (h0 : (leftOf keyMap seen).size = 0) : missA kind names = false := by
  unfold missA
  rw [List.any_eq_false]
  intro s hs
  obtain ⟨e, he, hk⟩ := keyMap_has s hs
  rw [h e he (all_seen keyMap seen h0 e he) s hk]
  simp
theorem missA_of {kind : Int} {names : List Bytes} {s : Bytes} (hs : s ∈ keysL) (h : missK kind names s = true) : missA kind names = true := List.any_eq_true.2 ⟨s, hs, h⟩

set_option maxHeartbeats 16000000 in
theorem field_fits (n : NodeL) (kind : Int) (cs : List Value) (g : Nat) (w : World) (B : Nat) (hB : B ≤ w.heap.size) (hn : NodeOk w (· < B) n cs) (hkl : n.kids.length ≤ 100000) (hg : w.heap[g]? = some (.map (atMap (n.kids.map NodeL.name)) n.kids.length)) :
    Calls Try.prog 25 #[.agg cs.toArray, .int .i64 kind, .map (some g)] w (FitsPost n kind w) := by
  obtain ⟨nm, p, ws, b, ks⟩ := n
  simp only [NodeOk] at hn
  obtain ⟨Aw, cw, Ak, ck, kcs, rfl, _, _, hrw, hrk, hks⟩ := hn
  dsimp only [NodeL.words, NodeL.kids] at hkl hg
  have hFP : FitsPost (.mk nm p ws b ks) kind w = fun e w' => Below w.heap.size w w' ∧
    e = match fitsI kind (ks.map NodeL.name) 0 ks with
    | some (p, er) => .returned (.tuple #[.int .i64 p, .int .i64 er])
    | none => if missA kind (ks.map NodeL.name) then .returned (.tuple #[.int .i64 p, .int .i64 10]) else .returned (.tuple #[.int .i64 0, .int .i64 0]) := rfl
  have HFP := Lib.hid hFP
  have HRK := Lib.hid hrk
  have HKS := Lib.hid hks
  have hgl : g < w.heap.size := (Array.getElem?_eq_some_iff.1 hg).1
  obtain ⟨W0, hW0⟩ : ∃ W0, W0 = w.alloc (.cells #[.string ⟨nm.toArray⟩, .int .i64 p, .slice Aw ws.length cw, .bool b, .slice Ak ks.length ck] 40) := ⟨_, rfl⟩
  have hg0 : W0.heap[g]? = some (.map (atMap (ks.map NodeL.name)) ks.length) := by rw [hW0]; exact (Go.heap_alloc_old w _ hgl).trans hg
  have hLP := run_at_look (P := Try.prog) Try.underlying46 Try.underlying9 (fun w => zeroE3 w) W0 g _ (ks.map NodeL.name) b_periods hg0
  have hLY := run_at_look (P := Try.prog) Try.underlying46 Try.underlying9 (fun w => zeroE3 w) W0 g _ (ks.map NodeL.name) b_pay hg0
  rw [hW0, show (b_periods : Bytes) = [112, 101, 114, 105, 111, 100, 115] from rfl] at hLP
  rw [hW0, show (b_pay : Bytes) = [112, 97, 121] from rfl] at hLY
  have HG := Lib.hid hg
  have HGL := Lib.hid hgl
  obtain ⟨i1, hi1⟩ : ∃ x, atV (ks.map NodeL.name) [112, 101, 114, 105, 111, 100, 115] = x := ⟨_, rfl⟩
  obtain ⟨i2, hi2⟩ : ∃ x, atV (ks.map NodeL.name) [112, 97, 121] = x := ⟨_, rfl⟩
  obtain ⟨b1, hb1⟩ : ∃ x, (ks.map NodeL.name).contains [112, 101, 114, 105, 111, 100, 115] = x := ⟨_, rfl⟩
  obtain ⟨b2, hb2⟩ : ∃ x, (ks.map NodeL.name).contains [112, 97, 121] = x := ⟨_, rfl⟩
  rw [hi1, hb1] at hLP
  rw [hi2, hb2] at hLY
  have HLT : Hid (∀ i : Nat, laterB (ks.map NodeL.name) i = (b1 && b2 && decide ((i : Int) = max i1 i2))) := Lib.hid (fun i => by rw [← hi1, ← hi2, ← hb1, ← hb2]; rfl)
  have HB12 := Lib.hid (And.intro hb1 hb2)
  generalize hFQ : FitsPost (.mk nm p ws b ks) kind w = Q at *
  clear hFP hrw hrk hks hFQ hW0 hg0 hg hi1 hi2 hb1 hb2
  go_enter Try.func25, Try.ntmps25
  go_wp2_with fail
  go_loopw [31] (fun i wr => ∃ k : Nat, k ≤ ks.length ∧ i = .int .i64 k ∧ Below w.heap.size w wr ∧ wr.cell? ⟨w.heap.size, 1, none⟩ = some (.int .i64 p) ∧ w.heap.size < wr.heap.size ∧ fitsI kind (ks.map NodeL.name) 0 ks = fitsI kind (ks.map NodeL.name) k (ks.drop k)) (fun i _ => ks.length - (intOf i).toNat)
  case atStart => exact ⟨0, Nat.zero_le _, rfl, by (repeat (first | exact Below.refl _ _ | assumption | refine Below.setCell ?_ (by first | (simp; done) | (simp; omega) | omega) _ | refine Below.alloc ?_ (by first | (simp; done) | (simp; omega) | omega) _ | refine Below.drew ?_ | refine below_drewN ?_ _ | refine Below.trans ?_ (Below.mono (by assumption) (by first | (simp; done) | (simp; omega) | omega)))), Joins.cell_of_block (heap_alloc_new w _) 1, by simp, rfl⟩
  case round =>
    obtain ⟨k, hk, rfl, hbl, hpo, hlt0, hfi⟩ := hrel
    have hbs := hbl.size
    by_cases hlt : k < ks.length
    · obtain ⟨x, hx⟩ : ∃ x, ks[k]? = some x := ⟨_, List.getElem?_eq_getElem hlt⟩
      have hk' : ∀ q : Addr, q.block < B → wr.cell? q = w.cell? q := fun q hq => hbl.cell (by omega)
      obtain ⟨ad', Aw', cw', Ak', ck', kcs', rfl, hab', d0, d1, d2, d3, d4, _, _, hrw', _, _⟩ := node_cells (HRK.out.keep (fun _ h => h) hk') (NodesOk.keep (fun _ h => h) hk' ks kcs HKS.out) k x hx
      have hxd : ks.drop k = x :: ks.drop (k + 1) := by
        rw [List.drop_eq_getElem_cons hlt]; congr 1; exact (List.getElem?_eq_some_iff.1 hx).2
      rw [hxd] at hfi
      have lk : (k : Int) < ks.length := by omega
      have lk0 : (0 : Int) ≤ k := by omega
      have w1f : IntKind.i64.wrap ((k : Int) + 1) = (k : Int) + 1 := by rw [IntKind.wrap_i64]; omega
      obtain ⟨xn, xp, xw, xb, xk⟩ := x
      dsimp only [NodeL.name, NodeL.pos, NodeL.words, NodeL.block, NodeL.kids] at *
      have hnA := heap_alloc_new wr (.cells #[.string ⟨xn.toArray⟩, .int .i64 xp, .slice Aw' xw.length cw', .bool xb, .slice Ak' xk.length ck'] 40)
      have hbA : Below w.heap.size w (wr.alloc (.cells #[.string ⟨xn.toArray⟩, .int .i64 xp, .slice Aw' xw.length cw', .bool xb, .slice Ak' xk.length ck'] 40)) := hbl.alloc hbs _
      have HST := Lib.hid (field_stands kind xn (wr.alloc (.cells #[.string ⟨xn.toArray⟩, .int .i64 xp, .slice Aw' xw.length cw', .bool xb, .slice Ak' xk.length ck'] 40)))
      obtain ⟨st, hst⟩ : ∃ x, standsC kind xn = x := ⟨_, rfl⟩
      rw [hst] at HST
      have HSTE := Lib.hid hst
      have HFI := Lib.hid hfi
      have H0 := Lib.hid (And.intro hbA (And.intro hnA hpo))
      clear hfi hxd hx hk' hrw' hnA hbA hbl hpo hst
      cases st
      · go_wp2_with fail
        refine HST.out.mono ?_
        rintro e w1 ⟨rfl, hb1⟩
        obtain ⟨hbA, hnA, hpo⟩ := H0.out
        have n1 := (hb1.cell (p := ⟨wr.heap.size, 1, none⟩) (by simp)).trans (Joins.cell_of_block hnA 1)
        have HBE := Lib.hid (hbA.trans (hb1.mono hbA.size))
        clear hbA hnA hpo hb1
        go_wp2_with fail
        change Q (.returned (.tuple #[.int .i64 xp, .int .i64 8])) w1
        rw [HFP.out, HFI.out, fits_8 HSTE.out]
        exact ⟨HBE.out, rfl⟩
      · go_wp2_with fail
        refine HST.out.mono ?_
        rintro e w1 ⟨rfl, hb1⟩
        obtain ⟨hbA, hnA, hpo⟩ := H0.out
        have n1 := (hb1.cell (p := ⟨wr.heap.size, 1, none⟩) (by simp)).trans (Joins.cell_of_block hnA 1)
        have hpo1 : w1.cell? ⟨w.heap.size, 1, none⟩ = some (.int .i64 p) := (hb1.cell (p := ⟨w.heap.size, 1, none⟩) (by simp; omega)).trans ((World.cell?_alloc_lt wr _ ⟨w.heap.size, 1, none⟩ hlt0).trans hpo)
        have hlt1 : w.heap.size < w1.heap.size := by have := hb1.size; simp at this; omega
        have HBE := Lib.hid (And.intro (hbA.trans (hb1.mono hbA.size)) (And.intro hpo1 hlt1))
        clear hbA hnA hpo hb1 hpo1 hlt1
        have hlb := HLT.out k
        cases b1
        · have HN := Lib.hid (show fitsI kind (ks.map NodeL.name) 0 ks = fitsI kind (ks.map NodeL.name) (k + 1) (ks.drop (k + 1)) from HFI.out.trans (fits_go HSTE.out (by rw [hlb]; rfl)))
          clear hlb
          go_wp2_with fail
          exact ⟨⟨k + 1, by omega, by go_num, HBE.out.1, HBE.out.2.1, HBE.out.2.2, HN.out⟩, by simp [intOf]; omega⟩
        · cases b2
          · have HN := Lib.hid (show fitsI kind (ks.map NodeL.name) 0 ks = fitsI kind (ks.map NodeL.name) (k + 1) (ks.drop (k + 1)) from HFI.out.trans (fits_go HSTE.out (by rw [hlb]; rfl)))
            clear hlb
            go_wp2_with fail
            exact ⟨⟨k + 1, by omega, by go_num, HBE.out.1, HBE.out.2.1, HBE.out.2.2, HN.out⟩, by simp [intOf]; omega⟩
          · obtain ⟨lt, hlt2⟩ : ∃ x, ((k : Int) == max i1 i2) = x := ⟨_, rfl⟩
            have hle : laterB (ks.map NodeL.name) k = lt := by rw [hlb]; exact hlt2
            cases lt
            · have HN := Lib.hid (show fitsI kind (ks.map NodeL.name) 0 ks = fitsI kind (ks.map NodeL.name) (k + 1) (ks.drop (k + 1)) from HFI.out.trans (fits_go HSTE.out hle))
              clear hlb hle
              go_wp2_with fail
              exact ⟨⟨k + 1, by omega, by go_num, HBE.out.1, HBE.out.2.1, HBE.out.2.2, HN.out⟩, by simp [intOf]; omega⟩
            · have HN := Lib.hid (HFI.out.trans (fits_9 HSTE.out hle))
              clear hlb hle
              go_wp2_with fail
              change Q (.returned (.tuple #[.int .i64 xp, .int .i64 9])) w1
              rw [HFP.out, HN.out]
              exact ⟨HBE.out.1, rfl⟩
    · have lk : ¬ (k : Int) < ks.length := by omega
      have hk2 : k = ks.length := by omega
      rw [hk2, List.drop_length] at hfi
      have HFI := Lib.hid (show fitsI kind (ks.map NodeL.name) 0 ks = none from hfi)
      clear hfi
      have hrg : (Instr.range 67 (.map (some wr.heap.size))).run Try.prog (wr.alloc (.map keyMap 7)) = .ok (.pointer (some ⟨wr.heap.size + 1, 0, none⟩)) ((wr.alloc (.map keyMap 7)).alloc (.mapIter (some wr.heap.size) 7 #[] 7)) := by
        have h := run_range_map (P := Try.prog) (wr.alloc (.map keyMap 7)) 67 _ _ wr.heap.size keyMap 7 Try.underlying67 (heap_alloc_new wr _)
        rw [h]
        simp
      have HS : Hid (((wr.alloc (.map keyMap 7)).alloc (.mapIter (some wr.heap.size) 7 #[] 7)).heap[wr.heap.size]? = some (.map keyMap 7) ∧ ((wr.alloc (.map keyMap 7)).alloc (.mapIter (some wr.heap.size) 7 #[] 7)).heap[wr.heap.size + 1]? = some (.mapIter (some wr.heap.size) 7 #[] 7) ∧ Below w.heap.size w ((wr.alloc (.map keyMap 7)).alloc (.mapIter (some wr.heap.size) 7 #[] 7)) ∧ ((wr.alloc (.map keyMap 7)).alloc (.mapIter (some wr.heap.size) 7 #[] 7)).cell? ⟨w.heap.size, 1, none⟩ = some (.int .i64 p)) := Lib.hid (by
        have z1 : (wr.alloc (.map keyMap 7)).heap.size = wr.heap.size + 1 := by simp
        refine ⟨?_, ?_, (hbl.alloc hbs _).alloc (by omega) _, ?_⟩
        · rw [Go.heap_alloc_old _ _ (by omega)]; exact heap_alloc_new wr _
        · rw [← z1]; exact heap_alloc_new _ _
        · rw [World.cell?_alloc_lt _ _ _ (by show w.heap.size < _; omega), World.cell?_alloc_lt _ _ _ hlt0]; exact hpo)
      obtain ⟨W1, hW1⟩ : ∃ W1, (wr.alloc (.map keyMap 7)).alloc (.mapIter (some wr.heap.size) 7 #[] 7) = W1 := ⟨_, rfl⟩
      rw [hW1] at HS hrg
      clear hbl hpo hW1
      go_wp2_with (first | (go_at_call 26; refine (field_keys _).mono ?_; rintro e w1 ⟨rfl, rfl⟩))
      obtain ⟨bm, hbm⟩ : ∃ x, x = wr.heap.size := ⟨_, rfl⟩
      obtain ⟨ri, hri⟩ : ∃ x, x = wr.heap.size + 1 := ⟨_, rfl⟩
      rw [← hri, ← hbm] at HS
      rw [← hri, ← hbm]
      have hbo : w.heap.size < bm ∧ bm < ri := by omega
      have HBO := Lib.hid hbo
      clear hbm hri hbo hrg hlt0 hbs hk2
      clear wr
      go_loopw [14] (fun _ wx => ∃ seen : Array Nat, wx.heap[bm]? = some (.map keyMap 7) ∧ wx.heap[ri]? = some (.mapIter (some bm) 7 seen 7) ∧ Below w.heap.size w wx ∧ wx.cell? ⟨w.heap.size, 1, none⟩ = some (.int .i64 p) ∧ SeenOk kind (ks.map NodeL.name) seen) (fun _ wx => (leftOf keyMap (wx.iterSeen ri)).size)
      case atStart => exact ⟨#[], HS.out.1, HS.out.2.1, HS.out.2.2.1, HS.out.2.2.2, fun e _ h => by simp at h⟩
      case round =>
        obtain ⟨seen, hm, hit, hb, hp, hs⟩ := hrel
        have hnx := run_next_at (P := Try.prog) wr 0 bm ri 7 7 seen keyMap 7 hm hit keyMap_old (Nat.le_refl _)
        rcases hnx with ⟨h0, hnx⟩ | ⟨e, he, w1, hw1, hnx⟩
        · have HM := Lib.hid (seenOk_all hs h0)
          have HB := Lib.hid hb
          clear h0 hs hm hit hp hb
          go_wp2_with fail
          change Q (.returned (.tuple #[.int .i64 0, .int .i64 0])) _
          rw [HFP.out, HFI.out, HM.out]
          exact ⟨HB.out, rfl⟩
        · have hem := mem_left he
          obtain ⟨s, hks, hsk⟩ := keyMap_key e hem.1
          obtain ⟨w2, hw2⟩ : ∃ w2, setB w1 ri (.mapIter (some bm) 7 (seen.push e.born) 7) = w2 := ⟨_, rfl⟩
          rw [hw2, hks] at hnx
          obtain ⟨q1, q2⟩ := HBO.out
          have hri : ri < w1.heap.size := by
            have : ri < wr.heap.size := (Array.getElem?_eq_some_iff.1 hit).1
            rcases hw1 with rfl | rfl <;> exact this
          have hh1 : w1.heap = wr.heap := by rcases hw1 with rfl | rfl <;> rfl
          have hm2 : w2.heap[bm]? = some (.map keyMap 7) := by rw [← hw2, setB_other _ _ _ _ (by omega), hh1]; exact hm
          have hi2 : w2.heap[ri]? = some (.mapIter (some bm) 7 (seen.push e.born) 7) := by rw [← hw2]; exact setB_new _ _ _ hri
          have hb2 : Below w.heap.size w w2 := by
            rw [← hw2]
            refine Below.setB ?_ (by omega) _
            rcases hw1 with rfl | rfl
            · exact hb
            · exact hb.drew
          have hp2 : w2.cell? ⟨w.heap.size, 1, none⟩ = some (.int .i64 p) := by
            rw [← hw2, setB_cell _ _ _ _ (by show w.heap.size ≠ _; omega)]
            have : w1.cell? ⟨w.heap.size, 1, none⟩ = wr.cell? ⟨w.heap.size, 1, none⟩ := by unfold World.cell?; rw [hh1]
            exact this.trans hp
          have hent := run_entry_at (P := Try.prog) w2 bm ri 7 seen keyMap 7 e hm2 hi2 hem.1 keyMap_born
          rw [hks] at hent
          have hlk := run_at_look (P := Try.prog) Try.underlying46 Try.underlying9 (fun w => zeroE3 w) w2 g _ (ks.map NodeL.name) s ((hb2.block g HGL.out).trans HG.out)
          have HST := Lib.hid (field_stands kind s w2)
          have hmk : missK kind (ks.map NodeL.name) s = (standsC kind s && !(ks.map NodeL.name).contains s && !(((s == [112, 101, 114, 105, 111, 100, 115]) || (s == [112, 97, 121])) && (b1 || b2))) := by
            unfold missK
            rw [← HB12.out.1, ← HB12.out.2]
            have z1 : decide (s = b_periods) = (s == [112, 101, 114, 105, 111, 100, 115]) := by
              by_cases h : s = b_periods
              · rw [h]; rfl
              · rw [decide_eq_false h]; exact (beq_false_of_ne h).symm
            have z2 : decide (s = b_pay) = (s == [112, 97, 121]) := by
              by_cases h : s = b_pay
              · rw [h]; rfl
              · rw [decide_eq_false h]; exact (beq_false_of_ne h).symm
            rw [z1, z2]
            rfl
          have HMK := Lib.hid hmk
          have HE := Lib.hid (And.intro hem.1 (And.intro hks hsk))
          have HSE := Lib.hid hs
          have hpre : ∀ w3 : World, Below w2.heap.size w2 w3 → w3.heap[bm]? = some (.map keyMap 7) ∧ w3.heap[ri]? = some (.mapIter (some bm) 7 (seen.push e.born) 7) ∧ Below w.heap.size w w3 ∧ w3.cell? ⟨w.heap.size, 1, none⟩ = some (.int .i64 p) := fun w3 h3 => by
            have l1 := (Array.getElem?_eq_some_iff.1 hm2).1
            have l2 := (Array.getElem?_eq_some_iff.1 hi2).1
            exact ⟨(h3.block bm l1).trans hm2, (h3.block ri l2).trans hi2, hb2.trans (h3.mono hb2.size), (h3.cell (p := ⟨w.heap.size, 1, none⟩) (by show w.heap.size < _; omega)).trans hp2⟩
          have HPRE := Lib.hid hpre
          have HM1 : Hid (∀ w3 : World, w3.heap[ri]? = some (.mapIter (some bm) 7 (seen.push e.born) 7) → w3.iterSeen ri = seen.push e.born) := Lib.hid (fun w3 h => by unfold World.iterSeen; rw [h])
          have HM2 : Hid ((leftOf keyMap (seen.push e.born)).size < (leftOf keyMap (wr.iterSeen ri)).size) := Lib.hid (by
            have : wr.iterSeen ri = seen := by unfold World.iterSeen; rw [hit]
            rw [this]
            exact left_shrinks keyMap seen e he)
          obtain ⟨st, hst⟩ : ∃ x, standsC kind s = x := ⟨_, rfl⟩
          obtain ⟨th, hth⟩ : ∃ x, (ks.map NodeL.name).contains s = x := ⟨_, rfl⟩
          obtain ⟨y1, hy1⟩ : ∃ x, (s == [112, 101, 114, 105, 111, 100, 115]) = x := ⟨_, rfl⟩
          obtain ⟨y2, hy2⟩ : ∃ x, (s == [112, 97, 121]) = x := ⟨_, rfl⟩
          rw [hst] at HST
          rw [hth] at hlk
          rw [hst, hth, hy1, hy2] at HMK
          generalize atV (ks.map NodeL.name) s = av at *
          generalize e.val = ev at *
          clear hem hks hsk hw2 q1 q2 hri hh1 hm2 hi2 hb2 hp2 hmk hs hpre hm hit hb hp hw1 he hst hth
          cases st
          · have HMI : Hid (missK kind (ks.map NodeL.name) s = false) := Lib.hid (by rw [HMK.out]; rfl)
            cases y1
            · cases y2
              · skip
                (go_wp2_with fail; refine HST.out.mono ?_; rintro e1 w3 ⟨rfl, hb3⟩)
                have HN3 := Lib.hid (HPRE.out w3 hb3); have np := HN3.out.2.2.2; clear hb3
                (go_wp2_with fail; exact ⟨⟨_, HN3.out.1, HN3.out.2.1, HN3.out.2.2.1, HN3.out.2.2.2, seenOk_push HSE.out HE.out.1 HE.out.2.1 (by first | exact HMI.out | (rw [HMI.out]; rfl))⟩, by rw [HM1.out _ HN3.out.2.1]; exact HM2.out⟩)
              · cases b1
                · cases b2 <;> (
                    (go_wp2_with fail; refine HST.out.mono ?_; rintro e1 w3 ⟨rfl, hb3⟩)
                    have HN3 := Lib.hid (HPRE.out w3 hb3); have np := HN3.out.2.2.2; clear hb3
                    (go_wp2_with fail; exact ⟨⟨_, HN3.out.1, HN3.out.2.1, HN3.out.2.2.1, HN3.out.2.2.2, seenOk_push HSE.out HE.out.1 HE.out.2.1 (by first | exact HMI.out | (rw [HMI.out]; rfl))⟩, by rw [HM1.out _ HN3.out.2.1]; exact HM2.out⟩))
                · skip
                  (go_wp2_with fail; refine HST.out.mono ?_; rintro e1 w3 ⟨rfl, hb3⟩)
                  have HN3 := Lib.hid (HPRE.out w3 hb3); have np := HN3.out.2.2.2; clear hb3
                  (go_wp2_with fail; exact ⟨⟨_, HN3.out.1, HN3.out.2.1, HN3.out.2.2.1, HN3.out.2.2.2, seenOk_push HSE.out HE.out.1 HE.out.2.1 (by first | exact HMI.out | (rw [HMI.out]; rfl))⟩, by rw [HM1.out _ HN3.out.2.1]; exact HM2.out⟩)
            · cases b1
              · cases b2 <;> (
                  (go_wp2_with fail; refine HST.out.mono ?_; rintro e1 w3 ⟨rfl, hb3⟩)
                  have HN3 := Lib.hid (HPRE.out w3 hb3); have np := HN3.out.2.2.2; clear hb3
                  (go_wp2_with fail; exact ⟨⟨_, HN3.out.1, HN3.out.2.1, HN3.out.2.2.1, HN3.out.2.2.2, seenOk_push HSE.out HE.out.1 HE.out.2.1 (by first | exact HMI.out | (rw [HMI.out]; rfl))⟩, by rw [HM1.out _ HN3.out.2.1]; exact HM2.out⟩))
              · skip
                (go_wp2_with fail; refine HST.out.mono ?_; rintro e1 w3 ⟨rfl, hb3⟩)
                have HN3 := Lib.hid (HPRE.out w3 hb3); have np := HN3.out.2.2.2; clear hb3
                (go_wp2_with fail; exact ⟨⟨_, HN3.out.1, HN3.out.2.1, HN3.out.2.2.1, HN3.out.2.2.2, seenOk_push HSE.out HE.out.1 HE.out.2.1 (by first | exact HMI.out | (rw [HMI.out]; rfl))⟩, by rw [HM1.out _ HN3.out.2.1]; exact HM2.out⟩)
          · cases th
            · cases y1
              · cases y2
                · have HMI : Hid (missK kind (ks.map NodeL.name) s = true) := Lib.hid (by rw [HMK.out]; rfl)
                  (go_wp2_with fail; refine HST.out.mono ?_; rintro e1 w3 ⟨rfl, hb3⟩)
                  have HN3 := Lib.hid (HPRE.out w3 hb3); have np := HN3.out.2.2.2; clear hb3
                  (go_wp2_with fail; change Q (.returned (.tuple #[.int .i64 p, .int .i64 10])) w3; rw [HFP.out, HFI.out, missA_of HE.out.2.2 HMI.out]; exact ⟨HN3.out.2.2.1, rfl⟩)
                · cases b1
                  · cases b2
                    · have HMI : Hid (missK kind (ks.map NodeL.name) s = true) := Lib.hid (by rw [HMK.out]; rfl)
                      (go_wp2_with fail; refine HST.out.mono ?_; rintro e1 w3 ⟨rfl, hb3⟩)
                      have HN3 := Lib.hid (HPRE.out w3 hb3); have np := HN3.out.2.2.2; clear hb3
                      (go_wp2_with fail; change Q (.returned (.tuple #[.int .i64 p, .int .i64 10])) w3; rw [HFP.out, HFI.out, missA_of HE.out.2.2 HMI.out]; exact ⟨HN3.out.2.2.1, rfl⟩)
                    · have HMI : Hid (missK kind (ks.map NodeL.name) s = false) := Lib.hid (by rw [HMK.out]; rfl)
                      (go_wp2_with fail; refine HST.out.mono ?_; rintro e1 w3 ⟨rfl, hb3⟩)
                      have HN3 := Lib.hid (HPRE.out w3 hb3); have np := HN3.out.2.2.2; clear hb3
                      (go_wp2_with fail; exact ⟨⟨_, HN3.out.1, HN3.out.2.1, HN3.out.2.2.1, HN3.out.2.2.2, seenOk_push HSE.out HE.out.1 HE.out.2.1 (by first | exact HMI.out | (rw [HMI.out]; rfl))⟩, by rw [HM1.out _ HN3.out.2.1]; exact HM2.out⟩)
                  · have HMI : Hid (missK kind (ks.map NodeL.name) s = false) := Lib.hid (by rw [HMK.out]; rfl)
                    (go_wp2_with fail; refine HST.out.mono ?_; rintro e1 w3 ⟨rfl, hb3⟩)
                    have HN3 := Lib.hid (HPRE.out w3 hb3); have np := HN3.out.2.2.2; clear hb3
                    (go_wp2_with fail; exact ⟨⟨_, HN3.out.1, HN3.out.2.1, HN3.out.2.2.1, HN3.out.2.2.2, seenOk_push HSE.out HE.out.1 HE.out.2.1 (by first | exact HMI.out | (rw [HMI.out]; rfl))⟩, by rw [HM1.out _ HN3.out.2.1]; exact HM2.out⟩)
              · cases b1
                · cases b2
                  · have HMI : Hid (missK kind (ks.map NodeL.name) s = true) := Lib.hid (by rw [HMK.out]; rfl)
                    (go_wp2_with fail; refine HST.out.mono ?_; rintro e1 w3 ⟨rfl, hb3⟩)
                    have HN3 := Lib.hid (HPRE.out w3 hb3); have np := HN3.out.2.2.2; clear hb3
                    (go_wp2_with fail; change Q (.returned (.tuple #[.int .i64 p, .int .i64 10])) w3; rw [HFP.out, HFI.out, missA_of HE.out.2.2 HMI.out]; exact ⟨HN3.out.2.2.1, rfl⟩)
                  · have HMI : Hid (missK kind (ks.map NodeL.name) s = false) := Lib.hid (by rw [HMK.out]; rfl)
                    (go_wp2_with fail; refine HST.out.mono ?_; rintro e1 w3 ⟨rfl, hb3⟩)
                    have HN3 := Lib.hid (HPRE.out w3 hb3); have np := HN3.out.2.2.2; clear hb3
                    (go_wp2_with fail; exact ⟨⟨_, HN3.out.1, HN3.out.2.1, HN3.out.2.2.1, HN3.out.2.2.2, seenOk_push HSE.out HE.out.1 HE.out.2.1 (by first | exact HMI.out | (rw [HMI.out]; rfl))⟩, by rw [HM1.out _ HN3.out.2.1]; exact HM2.out⟩)
                · have HMI : Hid (missK kind (ks.map NodeL.name) s = false) := Lib.hid (by rw [HMK.out]; rfl)
                  (go_wp2_with fail; refine HST.out.mono ?_; rintro e1 w3 ⟨rfl, hb3⟩)
                  have HN3 := Lib.hid (HPRE.out w3 hb3); have np := HN3.out.2.2.2; clear hb3
                  (go_wp2_with fail; exact ⟨⟨_, HN3.out.1, HN3.out.2.1, HN3.out.2.2.1, HN3.out.2.2.2, seenOk_push HSE.out HE.out.1 HE.out.2.1 (by first | exact HMI.out | (rw [HMI.out]; rfl))⟩, by rw [HM1.out _ HN3.out.2.1]; exact HM2.out⟩)
            · have HMI : Hid (missK kind (ks.map NodeL.name) s = false) := Lib.hid (by rw [HMK.out]; rfl)
              cases y1
              · cases y2
                · skip
                  (go_wp2_with fail; refine HST.out.mono ?_; rintro e1 w3 ⟨rfl, hb3⟩)
                  have HN3 := Lib.hid (HPRE.out w3 hb3); have np := HN3.out.2.2.2; clear hb3
                  (go_wp2_with fail; exact ⟨⟨_, HN3.out.1, HN3.out.2.1, HN3.out.2.2.1, HN3.out.2.2.2, seenOk_push HSE.out HE.out.1 HE.out.2.1 (by first | exact HMI.out | (rw [HMI.out]; rfl))⟩, by rw [HM1.out _ HN3.out.2.1]; exact HM2.out⟩)
                · cases b1
                  · cases b2 <;> (
                      (go_wp2_with fail; refine HST.out.mono ?_; rintro e1 w3 ⟨rfl, hb3⟩)
                      have HN3 := Lib.hid (HPRE.out w3 hb3); have np := HN3.out.2.2.2; clear hb3
                      (go_wp2_with fail; exact ⟨⟨_, HN3.out.1, HN3.out.2.1, HN3.out.2.2.1, HN3.out.2.2.2, seenOk_push HSE.out HE.out.1 HE.out.2.1 (by first | exact HMI.out | (rw [HMI.out]; rfl))⟩, by rw [HM1.out _ HN3.out.2.1]; exact HM2.out⟩))
                  · skip
                    (go_wp2_with fail; refine HST.out.mono ?_; rintro e1 w3 ⟨rfl, hb3⟩)
                    have HN3 := Lib.hid (HPRE.out w3 hb3); have np := HN3.out.2.2.2; clear hb3
                    (go_wp2_with fail; exact ⟨⟨_, HN3.out.1, HN3.out.2.1, HN3.out.2.2.1, HN3.out.2.2.2, seenOk_push HSE.out HE.out.1 HE.out.2.1 (by first | exact HMI.out | (rw [HMI.out]; rfl))⟩, by rw [HM1.out _ HN3.out.2.1]; exact HM2.out⟩)
              · cases b1
                · cases b2 <;> (
                    (go_wp2_with fail; refine HST.out.mono ?_; rintro e1 w3 ⟨rfl, hb3⟩)
                    have HN3 := Lib.hid (HPRE.out w3 hb3); have np := HN3.out.2.2.2; clear hb3
                    (go_wp2_with fail; exact ⟨⟨_, HN3.out.1, HN3.out.2.1, HN3.out.2.2.1, HN3.out.2.2.2, seenOk_push HSE.out HE.out.1 HE.out.2.1 (by first | exact HMI.out | (rw [HMI.out]; rfl))⟩, by rw [HM1.out _ HN3.out.2.1]; exact HM2.out⟩))
                · skip
                  (go_wp2_with fail; refine HST.out.mono ?_; rintro e1 w3 ⟨rfl, hb3⟩)
                  have HN3 := Lib.hid (HPRE.out w3 hb3); have np := HN3.out.2.2.2; clear hb3
                  (go_wp2_with fail; exact ⟨⟨_, HN3.out.1, HN3.out.2.1, HN3.out.2.2.1, HN3.out.2.2.2, seenOk_push HSE.out HE.out.1 HE.out.2.1 (by first | exact HMI.out | (rw [HMI.out]; rfl))⟩, by rw [HM1.out _ HN3.out.2.1]; exact HM2.out⟩)

end Go.Proofs.Ytjbniichcopnlaa
end
