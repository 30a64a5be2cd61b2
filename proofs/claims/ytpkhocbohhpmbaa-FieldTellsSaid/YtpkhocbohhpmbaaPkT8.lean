/- Layer 11 (field), the reference: what its Node goes through: the list of items, and one more put behind it. -/
import Derived.Test.YtpkhocbohhpmbaaPkT1
import Derived.Test.YtpkhocbohhpmbaaPkT2
import Derived.Test.YtpkhocbohhpmbaaPkR39
import Derived.Test.YtpkhocbohhpmbaaPkT6
import Derived.Test.YtpkhocbohhpmbaaPkR4
import Derived.Deep.AppendLies
import Derived.Deep.RegionHeld
set_option linter.unusedVariables false
set_option maxRecDepth 100000
namespace Go.Proofs.Ytpkhocbohhpmbaa
open Go.RowKit
open Go.Joins renaming cell_of_block → zb, unfrozen_of_block → zu
/-- A region that draws: a stronger condition may be held from here on. -/
theorem wpAnyH_strong {P : Program} {md : Region.Mode} {ops : Array Oper} {Q : Exit → Act → World → Prop} {S S2 : World → Prop} (hS : ∀ w,S2 w → S w) :
    ∀ (fuel : Nat) (listed : Array Bool) (a : Act) (w : World),wpAnyH P md ops Q S2 fuel listed a w → wpAnyH P md ops Q S fuel listed a w
  | 0,_,_,_,h => h
  | fuel + 1,_,_,_,h => ⟨h.1,fun i hi => wpOp_mono (fun a' w' h' => ⟨hS _ h'.1,wpAnyH_strong hS fuel _ a' w' h'.2⟩) (h.2 i hi)⟩
/-- The items so far,the calendar's block and the result's beside them. -/
def KidsAt (c : CalL) (w wx : World) (v : Value) (l : List NodeL) : Prop:=NdI c w wx ∧ OwnNodes wx (w.heap.size + 2) v l ∧ l.length ≤ 10
theorem KidsAt.nil {c : CalL} {w wx : World} (h : NdI c w wx) : KidsAt c w wx (.slice none 0 0) [] :=
  ⟨h,⟨[],World.ownsRow_nil _ _ _ _,(by simp only [NodesOk])⟩,Nat.zero_le _⟩
theorem KidsAt.below {c : CalL} {w wx wy : World} {v : Value} {l : List NodeL} (h : KidsAt c w wx v l) (hb : Below wx.heap.size wx wy) : KidsAt c w wy v l :=
  ⟨h.1.below hb,h.2.1.below hb,h.2.2⟩
section
variable {c : CalL} {w wc w3 : World} {B : Nat} {v5 v3 : Value} {l : List NodeL} {nm : Bytes} {ws : List WordL} {ops : Array Oper} {rest : List Oper} {o : Oper} {a : Act} {Q : Exit → Act → World → Prop}
theorem push_wp {K : Act → World → Prop} (s x : Operand) (ho : o.op = .call { callee := .builtin .append,args := #[s,x],argTypes := #[23,23] }) (hk : KidsAt c w wc v5 l) (hl : l.length ≤ 9) (hb : Below wc.heap.size wc w3) (hw : OwnWords w3 B v3 ws) (hB : wc.heap.size ≤ B)
    (hs : a.eval s = v5) (hx : a.eval x = .slice (some ⟨w3.heap.size,0,none⟩) 1 1) (h : ∀ v' w',KidsAt c w w' v' (l ++ [.mk nm 0 ws false []]) → (w3.alloc (.cells #[.string ⟨nm.toArray⟩, .int .i64 0,v3, .bool false, .slice none 0 0] 25)).grownBy w' v5.ownBlock → K (a.put o.dst v') w') :
    Oper.wp Try.prog o a (w3.alloc (.cells #[.string ⟨nm.toArray⟩, .int .i64 0,v3, .bool false, .slice none 0 0] 25)) K Q:=by
  obtain ⟨j0,hj0,hy0,hy1,hy2⟩:=info_parts info_nodeN
  obtain ⟨hnd,⟨kcs,ho',hk'⟩,hl'⟩:=hk
  obtain ⟨A,cap,rfl,hcap⟩:=own_form ho'
  have hwk : v3.oneCell' = true := by
    obtain ⟨Av,cv,rfl,hcv⟩:=own_form hw
    rfl
  refine wp_append_lies _ s x 23 ho (w.heap.size + 2) 25 j0 _ 5 80 Try.underlying23 hj0 hy0 hy1 hy2 rfl (by decide) (.slice A l.length cap) l.length kcs hs (own_one (own_below ho' hb) _) ⟨w3.heap.size,0,none⟩ 1 1 [.string ⟨nm.toArray⟩, .int .i64 0,v3, .bool false, .slice none 0 0] hx rfl (World.news_of_block (heap_alloc_new w3 _)) (by intro u hu;simp only [List.mem_cons,List.not_mem_nil,or_false] at hu;rcases hu with rfl | rfl | rfl | rfl | rfl <;> first | rfl | exact hwk) (by decide) (by unfold maxLen;omega) (by omega) (Nat.le_trans (hnd.below hb).2.2.2 (by simp)) (w3.heap.size + 1) (by simp) ?_
  intro g cap' w' hown hgrow hat hlt
  refine h _ _ ?_ hgrow
  obtain ⟨p1,p2⟩:=push_item hnd hb ho' hk' hw hB hown hgrow hat
  exact ⟨p1,p2,by rw [List.length_append,List.length_singleton];omega⟩
theorem push_list (s x : Operand) (hgd : o.guard = none) (ho : o.op = .call { callee := .builtin .append,args := #[s,x],argTypes := #[23,23] }) (hk : KidsAt c w wc v5 l) (hl : l.length ≤ 9) (hb : Below wc.heap.size wc w3) (hw : OwnWords w3 B v3 ws) (hB : wc.heap.size ≤ B)
    (hs : a.eval s = v5) (hx : a.eval x = .slice (some ⟨w3.heap.size,0,none⟩) 1 1) (h : ∀ v' w',KidsAt c w w' v' (l ++ [.mk nm 0 ws false []]) → wpList Try.prog ops Q rest (a.put o.dst v') w') :
    wpList Try.prog ops Q (o :: rest) a (w3.alloc (.cells #[.string ⟨nm.toArray⟩, .int .i64 0,v3, .bool false, .slice none 0 0] 25)) :=
  wpList_plain hgd fun _ hK => push_wp s x ho hk hl hb hw hB hs hx fun v' w' h' _ => hK _ _ (h v' w' h')
theorem push_step {K : Act → World → Prop} {E : Prop} (s x : Operand) (hgd : o.guard = none) (ho : o.op = .call { callee := .builtin .append,args := #[s,x],argTypes := #[23,23] }) (hk : KidsAt c w wc v5 l) (hl : l.length ≤ 9) (hb : Below wc.heap.size wc w3) (hw : OwnWords w3 B v3 ws) (hB : wc.heap.size ≤ B)
    (hs : a.eval s = v5) (hx : a.eval x = .slice (some ⟨w3.heap.size,0,none⟩) 1 1) (h : ∀ v' w',KidsAt c w w' v' (l ++ [.mk nm 0 ws false []]) → (w3.alloc (.cells #[.string ⟨nm.toArray⟩, .int .i64 0,v3, .bool false, .slice none 0 0] 25)).grownBy w' v5.ownBlock → K (a.put o.dst v') w') :
    if Region.wanted o (yielded ops a.tmps) = true then Oper.wp Try.prog o a (w3.alloc (.cells #[.string ⟨nm.toArray⟩, .int .i64 0,v3, .bool false, .slice none 0 0] 25)) K Q else E:=by
  rw [if_pos (by simp [Region.wanted,hgd])]
  exact push_wp s x ho hk hl hb hw hB hs hx h
end
theorem ne_all {l : List Bytes} (h : ∀ s ∈ l,s ≠ [])  : ∀ (k : Nat) (s : Bytes),l[k]? = some s → s ≠ []:=fun k s e => h s (List.mem_of_getElem? e)
theorem strs_at {W : World} {g : Nat} {cs : Array Value} {T : TypeId} {fr : Nat × Nat} {l : List Bytes} (h : W.heap[g]? = some (.cells cs T fr)) (hc : cs = (l.map fun s => Value.string ⟨s.toArray⟩).toArray) :
    ∀ (k : Nat) (x : Bytes),l[k]? = some x → ∃ a,some (⟨g,0,none⟩ : Addr) = some a ∧ a.block < W.heap.size ∧ W.cell? (a.add k) = some (.string ⟨x.toArray⟩):=fun k x hk => by
  refine ⟨_,rfl,(Array.getElem?_eq_some_iff.1 h).1,?_⟩
  rw [add_blk0,zb h k,hc]
  simp [hk]
theorem two_at (w : World) (o : Obj) (cs : Array Value) (T : TypeId) : ((w.alloc o).alloc (.cells cs T)).heap[w.heap.size + 1]? = some (.cells cs T (0,0)) := by
  have:=heap_alloc_new (w.alloc o) (.cells cs T)
  simpa using this
theorem nums_at (w : World) (ss is : Array Value) (T T2 : TypeId) (ks : List Int) (hs : ss = (List.replicate ks.length (Value.string ⟨#[]⟩)).toArray) (hi : is = (ks.map fun n => Value.int .i64 n).toArray) :
    (∀ k,k < ks.length → (⟨w.heap.size,0,none⟩ : Addr).block < ((w.alloc (.cells ss T)).alloc (.cells is T2)).heap.size ∧ ((w.alloc (.cells ss T)).alloc (.cells is T2)).cell? ((⟨w.heap.size,0,none⟩ : Addr).add k) = some (.string ⟨#[]⟩)) ∧
    (∀ (k : Nat) (n : Int),ks[k]? = some n → (⟨w.heap.size + 1,0,none⟩ : Addr).block < ((w.alloc (.cells ss T)).alloc (.cells is T2)).heap.size ∧ ((w.alloc (.cells ss T)).alloc (.cells is T2)).cell? ((⟨w.heap.size + 1,0,none⟩ : Addr).add k) = some (.int .i64 n)):=by
  have e0 : ((w.alloc (.cells ss T)).alloc (.cells is T2)).heap[w.heap.size]? = some (.cells ss T (0,0)):=(Go.heap_alloc_old _ _ (by simp)).trans (heap_alloc_new w _)
  have e1 : ((w.alloc (.cells ss T)).alloc (.cells is T2)).heap[w.heap.size + 1]? = some (.cells is T2 (0,0)) := by
    have:=heap_alloc_new (w.alloc (.cells ss T)) (.cells is T2)
    simpa using this
  refine ⟨fun k hk => ⟨(Array.getElem?_eq_some_iff.1 e0).1,?_⟩,fun k n hk => ⟨(Array.getElem?_eq_some_iff.1 e1).1,?_⟩⟩
  · rw [add_blk0,zb e0 k,hs]
    simp [hk]
  · rw [add_blk0,zb e1 k,hi]
    simp [hk]
theorem below_twoN (w : World) (o o2 : Obj) : Below w.heap.size w ((w.alloc o).alloc o2):=((Below.refl _ _).alloc (Nat.le_refl _) o).alloc (by simp) o2
/-- A year of weeks has a shape of weeks. -/
theorem okC_shape (c : CalL) (h : okC c = true) (he : standsC c.kind b_extra = true) : c.shape = 1 ∨ c.shape = 2 ∨ c.shape = 3 := by
  have hk : c.kind ≠ 3 ∧ c.kind ≠ 4 ∧ c.kind ≠ 6 := by
    unfold standsC at he
    rw [if_neg (by decide),if_pos (.inr (.inr rfl))] at he
    simp only [Bool.and_eq_true,decide_eq_true_eq] at he
    exact ⟨he.1.1,he.1.2,he.2⟩
  have hw : weeksC c = true := by
    unfold okC at h
    simp only [Bool.and_eq_true] at h
    have hr:=h.2
    unfold ruledC fixedC at hr
    rw [if_neg hk.1,if_neg hk.2.1] at hr
    dsimp only at hr
    split at hr
    · cases hr
    · split at hr
      · simp only [Bool.and_eq_true] at hr;exact hr.2
      · split at hr
        · simp only [Bool.and_eq_true] at hr;exact hr.2
        · rw [if_neg hk.2.2] at hr;cases hr
  unfold weeksC at hw
  by_cases h1 : c.shape = 1
  · exact .inl h1
  · rw [if_neg h1] at hw
    by_cases h2 : c.shape = 2
    · exact .inr (.inl h2)
    · rw [if_neg h2] at hw
      by_cases h3 : c.shape = 3
      · exact .inr (.inr h3)
      · rw [if_neg h3] at hw;cases hw
end Go.Proofs.Ytpkhocbohhpmbaa
