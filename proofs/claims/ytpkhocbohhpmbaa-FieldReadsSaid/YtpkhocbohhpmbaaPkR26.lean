/- 'next' and 'entry' of an iterator over a map that lies as it lay when the loop began, wherever the iterator's block lies. Over any program. -/
import Derived.Test.YtpkhocbohhpmbaaPkR22
import Derived.Laws.IdiomRangeMap
set_option linter.unusedVariables false
set_option linter.unusedSimpArgs false
namespace Go.Proofs.Ytpkhocbohhpmbaa
open Go.RowKit
section
variable {P : Program}
theorem run_next_at (w : World) (ty : TypeId) (bm r since c0 : Nat) (seen : Array Nat) (es : Array MapEntry) (clock : Nat) (hb : w.heap[bm]? = some (.map es clock)) (hr : w.heap[r]? = some (.mapIter (some bm) since seen c0))
    (hold : ∀ x ∈ es.toList,x.born < since) (hsc : since ≤ c0) :
    ((leftOf es seen).size = 0 ∧ (Instr.next (.pointer (some ⟨r,0,none⟩)) false ty).run P w = .ok (.tuple #[.bool false]) w) ∨
    ∃ e ∈ (leftOf es seen).toList,∃ w1 : World,(w1 = w ∨ w1 = w.drew) ∧ (Instr.next (.pointer (some ⟨r,0,none⟩)) false ty).run P w = .ok (.tuple #[.bool true,e.key,e.val]) (setB w1 r (.mapIter (some bm) since (seen.push e.born) clock)):=by
  simp only [Instr.next,getObj,Sem.run_bind,Sem.run,hr,hb,Result.andThen,next_test_false seen es since c0 hold hsc,Bool.false_eq_true,if_false]
  unfold leftOf
  have hmem : ∀ x ∈ (Array.filter (fun e => !seen.contains e.born) es).toList,x.born < since:=fun x hx => hold x (by simp at hx ⊢;exact hx.1)
  generalize Array.filter (fun e => !seen.contains e.born) es = L at hmem ⊢
  have e1 : L.filter (fun x => decide (x.born < since)) = L:=Array.filter_eq_self.2 (fun x hx => by simpa using hmem x (by simpa using hx))
  have e2 : L.filter (fun x => decide (x.born ≥ since)) = #[] := by
    rw [Array.filter_eq_empty_iff]
    intro x hx
    have:=hmem x (by simpa using hx)
    simp
    omega
  simp only [e1,e2,Array.append_empty]
  by_cases h0 : L.size = 0
  · left
    have : L = #[]:=Array.eq_empty_of_size_eq_zero h0
    subst this
    refine ⟨rfl,?_⟩
    simp [choose,Sem.run,Question.forced]
  · right
    have hne : L.isEmpty = false:=by simp [Array.isEmpty,h0]
    simp only [hne,Bool.false_eq_true,if_false,Array.empty_append,Array.size_map]
    have hch : ∃ (j : Nat) (w1 : World),j < L.size ∧ (w1 = w ∨ w1 = w.drew) ∧ (choose (Question.mapNext L.size)).run P w = .ok j w1 := by
      by_cases hf : L.size ≤ 1
      · exact ⟨0,w,by omega, .inl rfl,by simp [choose,Sem.run,Question.forced,hf]⟩
      · exact ⟨_,w.drew,Nat.mod_lt _ (by omega), .inr rfl,by
          simp only [choose,Sem.run,Question.forced,decide_eq_true_eq,hf,if_false,Question.cut]
          rfl⟩
    obtain ⟨j,w1,hj,hal,hrun⟩:=hch
    refine ⟨L[j],by simp,w1,hal,?_⟩
    have hr1 : w1.heap[r]? = some (.mapIter (some bm) since seen c0):=by rcases hal with rfl | rfl <;> exact hr
    have hset : ∀ (o' : Obj),(setObj r o').run P w1 = .ok () (setB w1 r o') := fun o' => by
      unfold setB
      simp only [setObj,Sem.run,hr1]
    simp only [hrun,Array.getElem?_map,Array.getElem?_eq_getElem hj,Option.map_some,Sem.run_bind,hset,Result.andThen]
    rfl
theorem run_entry_at (w : World) (bm r since : Nat) (seen : Array Nat) (es : Array MapEntry) (clock : Nat) (e : MapEntry) (hb : w.heap[bm]? = some (.map es clock)) (hr : w.heap[r]? = some (.mapIter (some bm) since (seen.push e.born) clock))
    (he : e ∈ es.toList) (hn : (es.toList.map (·.born)).Nodup) :
    (Instr.entry (.pointer (some ⟨r,0,none⟩))).run P w = .ok (.tuple #[e.key,e.val]) w:=by
  have hf : es.find? (·.born == e.born) = some e:=by rw [← Array.find?_toList];exact find_born e es.toList hn he
  simp only [Instr.entry,getObj,Sem.run_bind,Sem.run,hr,hb,Result.andThen,Array.back?_push,bne_self_eq_false,Bool.false_eq_true,if_false,hf]
  rfl
end
end Go.Proofs.Ytpkhocbohhpmbaa
