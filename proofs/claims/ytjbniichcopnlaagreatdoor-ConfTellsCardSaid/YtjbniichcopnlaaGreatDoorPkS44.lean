/- Layer 11 (field): Node of a calendar that may not be; Node whole. Then: Layer 11 (field): the block that Node leaves, in memory; how much it is. Then: Layer 12 (conf), in plain Lean: what is written is read as the same calendars; what is read may be, and is written. -/
import Derived.Test.YtjbniichcopnlaaGreatDoorPkS43
import Derived.Test.YtjbniichcopnlaaGreatDoorPkS42
import Derived.Test.YtjbniichcopnlaaGreatDoorPkS16
import Derived.Test.YtjbniichcopnlaaGreatDoorPkS38
import Derived.Test.YtjbniichcopnlaaGreatDoorPkS31
import Derived.Test.YtjbniichcopnlaaGreatDoorPkS18
import Derived.Test.YtjbniichcopnlaaGreatDoorPkS32
namespace Go.Proofs.YtjbniichcopnlaaGreatDoor
section
set_option linter.unusedVariables false
set_option linter.unusedSimpArgs false
set_option maxRecDepth 100000
open Go.RowKit

end
section
set_option linter.unusedVariables false
set_option linter.unusedSimpArgs false
set_option maxRecDepth 100000
open Go.RowKit
theorem kids_plain (c : CalL) : ∀ k ∈ kidsC c,k.kids = [] ∧ k.words.length ≤ 3 := fun k hk => by
  rw [mem_kids] at hk
  rcases hk with rfl | ⟨_,rfl⟩ | ⟨_,⟨_,rfl⟩ | ⟨_,rfl⟩ | ⟨_,rfl⟩ | rfl⟩ | rfl | rfl <;> refine ⟨rfl,?_⟩ <;> rw [itemL_words]
  · unfold saysC
    split <;> split <;> simp
  all_goals simp
theorem kids_len (c : CalL) : (kidsC c).length ≤ 6 := by
  unfold kidsC endI namedI extraI serveI shapeC
  split <;> split <;> (try split) <;> (try split) <;> (try split) <;> simp
theorem strs_short : ∀ l ∈ [endsL,days,mons,pols,shifts],∀ s ∈ l,s.length ≤ 100:=by decide
theorem getD_short {l : List Bytes} (h : ∀ s ∈ l,s.length ≤ 100) (k : Nat) : (l.getD k []).length ≤ 100 := by
  rw [List.getD_eq_getElem?_getD]
  cases e : l[k]? with
  | none => simp
  | some s => exact h s (List.mem_of_getElem? e)
theorem fitNs_ofK : ∀ (l : List NodeL),(∀ n ∈ l,fitN n) → fitNs l
  | [],_ => trivial
  | n :: r,h => ⟨h n (by simp),fitNs_ofK r fun m hm => h m (by simp [hm])⟩
theorem fit_node {c : CalL} (h : c.name.length ≤ maxLen) : fitN (nodeC c) := by
  have hm : (100 : Nat) ≤ maxLen:=by decide
  have hs:=strs_short
  have g1:=fun k => getD_short (hs endsL (by simp)) k
  have g2:=fun k => getD_short (hs days (by simp)) k
  have g3:=fun k => getD_short (hs mons (by simp)) k
  have g4:=fun k => getD_short (hs pols (by simp)) k
  have g5:=fun k => getD_short (hs shifts (by simp)) k
  have hkey : ∀ s ∈ [b_end,b_named,b_periods,b_pay,b_extra,b_serve,b_compare,b_calendar],s.length ≤ 100:=by decide
  have hl:=kids_len c
  unfold nodeC
  simp only [fitN]
  refine ⟨Nat.le_trans (hkey b_calendar (by simp)) hm,by simp [maxLen],fun t ht => ?_,by omega,fitNs_ofK _ fun k hk => ?_⟩
  · simp only [List.mem_cons,List.not_mem_nil,or_false] at ht
    rw [ht];exact h
  · have hw := (kids_plain c k hk).2
    have hkk:=(kids_plain c k hk).1
    have hwl : ∀ t ∈ k.words,t.s.length ≤ 100 := fun t ht => by
      rw [mem_kids] at hk
      rcases hk with rfl | ⟨_,rfl⟩ | ⟨_,⟨_,rfl⟩ | ⟨_,rfl⟩ | ⟨_,rfl⟩ | rfl⟩ | rfl | rfl <;> rw [itemL_words] at ht
      · have : ∃ s,t = wS s ∧ s.length ≤ 100 := by
          obtain ⟨s,hs',rfl⟩:=List.mem_map.1 (by simpa using ht)
          refine ⟨s,rfl,?_⟩
          unfold saysC at hs'
          simp only [List.mem_append,List.mem_cons,List.not_mem_nil,or_false] at hs'
          rcases hs' with (rfl | h2) | h3
          · exact g1 _
          · split at h2
            · simp only [List.mem_cons,List.not_mem_nil,or_false] at h2;rw [h2];exact g2 _
            · cases h2
          · split at h3
            · simp only [List.mem_cons,List.not_mem_nil,or_false] at h3;rw [h3];exact g3 _
            · cases h3
        obtain ⟨s,rfl,h⟩:=this
        exact h
      · simp only [List.map_cons,List.map_nil,List.append_nil,List.mem_cons,List.not_mem_nil,or_false] at ht;rw [ht];exact g5 _
      · simp at ht;rcases ht with rfl | rfl | rfl <;> simp [wN]
      · simp at ht;rw [ht];simp [wN]
      · simp at ht;rw [ht];simp [wN]
      · simp at ht;rw [ht];simp [wN]
      · simp at ht;rcases ht with rfl | rfl <;> simp [wN]
      · simp only [List.map_cons,List.map_nil,List.append_nil,List.mem_cons,List.not_mem_nil,or_false] at ht;rw [ht];exact g4 _
    have hkn : k.name.length ≤ 100 := by
      rw [mem_kids] at hk
      rcases hk with rfl | ⟨_,rfl⟩ | ⟨_,⟨_,rfl⟩ | ⟨_,rfl⟩ | ⟨_,rfl⟩ | rfl⟩ | rfl | rfl <;> exact hkey _ (by simp [itemL_name])
    obtain ⟨nm,p,ws,b,ks⟩:=k
    simp only [NodeL.name,NodeL.words,NodeL.kids] at hkn hwl hw hkk
    subst hkk
    simp only [fitN]
    exact ⟨by omega,by omega,fun t ht => Nat.le_trans (hwl t ht) hm,by simp,trivial⟩
end
section
/-- What Print tells. -/
def confP (l : List CalL) : Bytes × Int:=if confC l ≠ 0 then ([],confC l) else layL (l.map nodeC)
theorem errC_okB {c : CalL} (h : errC c = 0) : okC c = true := by
  unfold errC at h
  cases ho : okC c with
  | true => rfl
  | false => rw [ho] at h;simp at h
theorem conf_parts (l : List CalL) (h : confC l = 0) : l.length ≤ 32 ∧ confGo [] l = 0 := by
  unfold confC at h
  by_cases hb : 32 < l.length
  · rw [if_pos hb] at h;cases h
  · rw [if_neg hb] at h;exact ⟨by omega,h⟩
theorem confGo_ok : ∀ (l : List CalL) (seen : List Bytes),confGo seen l = 0 → ∀ c ∈ l,okC c = true
  | [],_,_,c,hc => by simp at hc
  | a :: r,seen,h,c,hc => by
    rw [confGo] at h
    by_cases h1 : errC a = 0
    case neg => rw [if_pos h1] at h;exact absurd h h1
    rw [if_neg (by simp [h1])] at h
    by_cases h2 : seen.contains a.name = true
    · rw [if_pos h2] at h;cases h
    · rw [if_neg h2] at h
      rcases List.mem_cons.1 hc with rfl | hc
      · exact errC_okB h1
      · exact confGo_ok r _ h c hc
end
end Go.Proofs.YtjbniichcopnlaaGreatDoor
