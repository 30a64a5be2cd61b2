/- Layer 9 (tree): reading items by recursion, against the tokens' machine. No program in sight. Then: Layer 9 (tree): the reference's reader in memory; its fail. Then: Layer 9 (tree): the walk of the reference's items. -/
import Derived.Test.YtjbniichcopnlaaPkR1
import Derived.Test.YtjbniichcopnlaaPkR11
import Derived.Test.YtjbniichcopnlaaPkR27
import Derived.BigQuiet
namespace Go.Proofs.Ytjbniichcopnlaa
section
/-- From token k0 the reading comes to token k: the outermost open block has the items out more,whatever stands about it (d blocks). -/
def Ahead (l : List Tok) (E : Int) (d k0 : Nat) (i0 : Option ItemL) (k : Nat) (it : Option ItemL) (out : List NodeL) : Prop :=
  ∀ (f : FrameL) (r : List FrameL),r.length = d → parseT E (f :: r) i0 (l.drop k0) = parseT E ({ f with kids:=f.kids ++ out } :: r) it (l.drop k)
/-- From token k0 the reading is wrong at p. -/
def Wrong (l : List Tok) (E : Int) (d k0 : Nat) (i0 : Option ItemL) (p e : Int) : Prop :=
  ∀ (f : FrameL) (r : List FrameL),r.length = d → parseT E (f :: r) i0 (l.drop k0) = ⟨[],p,e⟩
section
variable {l : List Tok} {E : Int} {d k0 k k' : Nat} {i0 it : Option ItemL} {out : List NodeL} {t : Tok} {i : ItemL} {p e : Int}
theorem drop_at (h : l[k]? = some t) : l.drop k = t :: l.drop (k + 1) := by
  obtain ⟨h1,rfl⟩:=List.getElem?_eq_some_iff.1 h
  exact List.drop_eq_getElem_cons h1
theorem parseT_cons (fs : List FrameL) (it : Option ItemL) (t : Tok) (ts : List Tok) :
    parseT E fs it (t :: ts) = match stepT fs it t with | .bad e => ⟨[],t.pos,e⟩ | .fine fs' it' => parseT E fs' it' ts:=by
  rw [parseT]
  cases stepT fs it t <;> rfl
theorem parseT_nil (fs : List FrameL) (it : Option ItemL) : parseT E fs it [] = endT E fs it:=by rw [parseT]
theorem ahead_refl : Ahead l E d k it k it [] := by
  intro f r _
  simp
theorem Ahead.wrong (h : Ahead l E d k0 i0 k it out) (h2 : Wrong l E d k it p e) : Wrong l E d k0 i0 p e := by
  intro f r hr
  rw [h f r hr,h2 _ r hr]
theorem Ahead.trans {out2 : List NodeL} {it2 : Option ItemL} (h : Ahead l E d k0 i0 k it out) (h2 : Ahead l E d k it k' it2 out2) : Ahead l E d k0 i0 k' it2 (out ++ out2) := by
  intro f r hr
  rw [h f r hr,h2 _ r hr,List.append_assoc]
theorem ahead_name (h : l[k]? = some t) (hk : t.kind = 1) : Ahead l E d k none (k + 1) (some ⟨t.s,t.pos,[]⟩) [] := by
  intro f r _
  rw [drop_at h,parseT_cons]
  simp [stepT,beginT,hk]
theorem wrong_name (h : l[k]? = some t) (hk : t.kind ≠ 1) (h4 : t.kind = 4 → d = 0) : Wrong l E d k none t.pos 5 := by
  intro f r hr
  rw [drop_at h,parseT_cons]
  by_cases hk4 : t.kind = 4
  · have hd := h4 hk4
    rw [hd] at hr
    have : r = []:=List.eq_nil_of_length_eq_zero hr
    subst this
    simp [stepT,beginT,hk4]
  · simp [stepT,beginT,hk,hk4]
theorem wrong_end (hk : l.length ≤ k) (hd : 0 < d) : Wrong l E d k none E 5 := by
  intro f r hr
  rw [List.drop_eq_nil_of_le hk,parseT_nil]
  cases r with
  | nil => simp at hr;omega
  | cons g r => rfl
theorem ahead_word (h : l[k]? = some t) (hk : t.kind = 1 ∨ t.kind = 2) (hw : i.words.length ≠ 8) :
    Ahead l E d k (some i) (k + 1) (some { i with words:=i.words ++ [⟨decide (t.kind = 2),t.n,t.s,t.pos⟩] }) []:=by
  intro f r _
  rw [drop_at h,parseT_cons]
  simp [stepT,goT,hk,hw]
theorem wrong_words (h : l[k]? = some t) (hk : t.kind = 1 ∨ t.kind = 2) (hw : i.words.length = 8) : Wrong l E d k (some i) t.pos 6 := by
  intro f r _
  rw [drop_at h,parseT_cons]
  simp [stepT,goT,hk,hw]
theorem ahead_end (h : l[k]? = some t) (hk : t.kind = 5) : Ahead l E d k (some i) (k + 1) none [.mk i.name i.pos i.words false []] := by
  intro f r _
  rw [drop_at h,parseT_cons]
  simp [stepT,goT,hk,FrameL.add,ItemL.node]
theorem wrong_deep (h : l[k]? = some t) (hk : t.kind = 3) (hd : d = 6) : Wrong l E d k (some i) t.pos 7 := by
  intro f r hr
  rw [drop_at h,parseT_cons]
  simp [stepT,goT,hk,hr,hd]
theorem ahead_block {kids : List NodeL} {t' : Tok} (h : l[k]? = some t) (hk : t.kind = 3) (hd : d ≠ 6) (hi : Ahead l E (d + 1) (k + 1) none k' none kids) (h' : l[k']? = some t') (hk' : t'.kind = 4) :
    Ahead l E d k (some i) (k' + 1) none [.mk i.name i.pos i.words true kids]:=by
  intro f r hr
  rw [drop_at h,parseT_cons]
  simp only [stepT,goT,hk]
  rw [if_neg (by omega),if_neg (by omega),if_pos trivial,if_neg (by simp;omega)]
  dsimp only
  rw [hi ⟨i.name,i.pos,i.words,[]⟩ (f :: r) (by simp [hr]),drop_at h',parseT_cons]
  simp [stepT,beginT,hk',FrameL.add,FrameL.node]
theorem wrong_block (h : l[k]? = some t) (hk : t.kind = 3) (hd : d ≠ 6) (hi : Wrong l E (d + 1) (k + 1) none p e) : Wrong l E d k (some i) p e := by
  intro f r hr
  rw [drop_at h,parseT_cons]
  simp only [stepT,goT,hk]
  rw [if_neg (by omega),if_neg (by omega),if_pos trivial,if_neg (by simp;omega)]
  dsimp only
  rw [hi ⟨i.name,i.pos,i.words,[]⟩ (f :: r) (by simp [hr])]
theorem wrong_else (h : l[k]? = some t) (hk : t.kind ≠ 1 ∧ t.kind ≠ 2 ∧ t.kind ≠ 3 ∧ t.kind ≠ 5) : Wrong l E d k (some i) t.pos 5 := by
  intro f r hr
  rw [drop_at h,parseT_cons]
  simp [stepT,goT,hk]
theorem wrong_open (hk : l.length ≤ k) : Wrong l E d k (some i) E 5 := by
  intro f r hr
  rw [List.drop_eq_nil_of_le hk,parseT_nil]
  cases r <;> rfl
end
/-- What the reference's items tell. -/
def ItemsRel (l : List Tok) (E : Int) (d k0 : Nat) (out : List NodeL) (κ p e : Int) : Prop :=
  (e = 0 ∧ ∃ k : Nat,κ = k ∧ k0 ≤ k ∧ k ≤ l.length ∧ Ahead l E d k0 none k none out ∧ (0 < d → ∃ t,l[k]? = some t ∧ t.kind = 4) ∧ (d = 0 → k = l.length)) ∨ (e ≠ 0 ∧ Wrong l E d k0 none p e)
/-- What the reference's item tells. -/
def ItemRel (l : List Tok) (E : Int) (d k0 : Nat) (i : ItemL) (node : NodeL) (κ p e : Int) : Prop :=
  (e = 0 ∧ ∃ k : Nat,κ = k ∧ k0 ≤ k ∧ k ≤ l.length ∧ Ahead l E d k0 (some i) k none [node]) ∨ (e ≠ 0 ∧ Wrong l E d k0 (some i) p e)
theorem items_parse {l : List Tok} {E κ p e : Int} {out : List NodeL} (h : ItemsRel l E 0 0 out κ p e) : parseT E [rootF] none l = if e = 0 then ⟨out,0,0⟩ else ⟨[],p,e⟩ := by
  rcases h with ⟨rfl,k,_,_,_,h,_,hk⟩ | ⟨he,h⟩
  · have := h rootF [] rfl
    rw [hk rfl,List.drop_length,List.drop_zero,parseT_nil] at this
    rw [this,if_pos rfl]
    simp [endT,rootF]
  · have := h rootF [] rfl
    rw [List.drop_zero] at this
    rw [this,if_neg he]
end
section
set_option linter.unusedVariables false
set_option linter.unusedSimpArgs false
open Go.RowKit
open Go.Joins renaming cell_of_block → zb, unfrozen_of_block → zu
attribute [local go_sem ↓] Go.wp_at_zero Go.wp_at_succ
/-- The reader in its block. -/
def Rdr (w : World) (rb : Nat) (L : Value) (k E p e : Int) : Prop :=
  w.heap[rb]? = some (.cells #[L, .int .i64 k, .int .i64 E, .int .i64 p, .int .i64 e] 75 (0,0))
/-- The cells of the reader that are written. -/
def RC (rb : Nat) : List (Nat × Nat):=[(rb,1),(rb,3),(rb,4)]
theorem set_block {w : World} {b o : Nat} {cs : Array Value} {t : TypeId} {f : Nat × Nat} (u : Value) (h : w.heap[b]? = some (.cells cs t f)) : (w.setCell ⟨b,o,none⟩ u).heap[b]? = some (.cells (cs.setIfInBounds o u) t f) := by
  simp [World.setCell,Array.getElem?_modify,h]
theorem alloc_keeps {w : World} {b : Nat} {o : Obj} (x : Obj) (h : w.heap[b]? = some o) : (w.alloc x).heap[b]? = some o :=
  (heap_alloc_old w x (Array.getElem?_eq_some_iff.1 h).1).trans h
theorem Rdr.lt {w : World} {rb : Nat} {L : Value} {k E p e : Int} (h : Rdr w rb L k E p e) : rb < w.heap.size:=(Array.getElem?_eq_some_iff.1 h).1
theorem Rdr.keep {w w' : World} {C : List (Nat × Nat)} {row : Option Nat} {rb : Nat} {L : Value} {k E p e : Int} (h : Rdr w rb L k E p e) (hs : Step w w' C row) (hx : Safe C row rb) : Rdr w' rb L k E p e :=
  (hs.same h.lt hx).trans h
set_option maxHeartbeats 2000000 in
theorem ref9_fail_none (w : World) (rb : Nat) (L : Value) (k E p a c : Int) (h : Rdr w rb L k E p 0) :
    Calls Try.prog 59 #[.pointer (some ⟨rb,0,none⟩), .int .i64 a, .int .i64 c] w fun en w' => en = .returned (.tuple #[]) ∧ Rdr w' rb L k E a c ∧ Step w w' (RC rb) none:=by
  have h4:=zb h 4
  have h3:=zb h 3
  have hf:=zu h
  have f3:=hf 3
  have f4:=hf 4
  have hlt:=h.lt
  go_enter Try.func59,Try.ntmps59
  go_wp2_with fail
  go_end0
  refine ⟨rfl,?_,?_⟩
  · have := set_block (o := 4) (.int .i64 c) (set_block (o := 3) (.int .i64 a) h)
    simpa [Rdr] using this
  · unfold RC;(repeat (first | exact Step.refl _ _ _ | assumption | refine Step.drew ?_ | refine Step.alloc ?_ _ | refine Step.setCell ?_ (by first | exact Or.inr (Or.inl (by simp)) | exact Or.inl (by simp) | exact Or.inl (by simp;omega) | exact Or.inl (by omega)) _))
set_option maxHeartbeats 2000000 in
theorem ref9_fail_some (w : World) (rb : Nat) (L : Value) (k E p e a c : Int) (h : Rdr w rb L k E p e) (he : e ≠ 0) :
    Calls Try.prog 59 #[.pointer (some ⟨rb,0,none⟩), .int .i64 a, .int .i64 c] w fun en w' => en = .returned (.tuple #[]) ∧ w' = w:=by
  have h4:=zb h 4
  have hlt:=h.lt
  have he' : (e == 0) = false:=beq_false_of_ne he
  go_enter Try.func59,Try.ntmps59
  go_wp2_with fail
  go_end0
  exact ⟨rfl,rfl⟩
end
section
set_option linter.unusedVariables false
set_option linter.unusedSimpArgs false
open Go.RowKit
open Go.Joins renaming cell_of_block → zb, unfrozen_of_block → zu
open Go.Lib renaming hid → zh
attribute [local go_sem ↓] Go.wp_at_zero Go.wp_at_succ
/-- The blocks that are made between two worlds. -/
def Fresh (w w' : World) : Nat → Prop:=fun b => w.heap.size ≤ b ∧ b < w'.heap.size
/-- Each slice among the cells has room for what it holds. -/
def CapL (cs : List Value) : Prop:=∀ A n c,Value.slice A n c ∈ cs → n ≤ c
theorem CapL.append {a b : List Value} (h : CapL a) (h2 : CapL b) : CapL (a ++ b):=fun A n c hm => (List.mem_append.1 hm).elim (h A n c) (h2 A n c)
theorem CapL.nil : CapL []:=fun _ _ _ h => by cases h
theorem own_cap {w : World} {B0 : Nat} {e : TypeId} {size n c m : Nat} {A : Option Addr} {xs : List Value} (h : w.ownsRow B0 e size (.slice A n c) m xs) : n ≤ c := by
  rcases h.2 with ⟨hv,_⟩ | ⟨g,cap,cur,hv,_,_,hc,_⟩
  · injection hv with _ h1 h2;omega
  · injection hv with _ h1 h2;omega
def ItemsCap (A' : Option Addr) (c' : Nat) (out : List NodeL) (kcs : List Value) : Prop:=NilOk A' c' ∧ out.length ≤ c' ∧ CapL kcs
def NodeCap (w : World) (M : Nat → Prop) (n : NodeL) (cs : List Value) : Prop:=NodeOk w M n cs ∧ CapL cs
def ItemsPost (l : List Tok) (A : Option Addr) (c : Nat) (E : Int) (rb k0 d : Nat) (w : World) (en : Ending) (w' : World) : Prop :=
  ∃ (out : List NodeL) (A' : Option Addr) (c' : Nat) (kcs : List Value) (κ p e : Int),en = .returned (.slice A' out.length c') ∧ ItemsCap A' c' out kcs ∧ ReadsM w' (Fresh w w') 5 A' out.length kcs ∧ NodesOk w' (Fresh w w') out kcs ∧
    Rdr w' rb (.slice A l.length c) κ E p e ∧ Step w w' (RC rb) none ∧ ItemsRel l E d k0 out κ p e
def ItemPost (l : List Tok) (A : Option Addr) (c : Nat) (E : Int) (rb k0 d : Nat) (t : Tok) (w : World) (en : Ending) (w' : World) : Prop :=
  ∃ (node : NodeL) (cs : List Value) (κ p e : Int),en = .returned (.agg cs.toArray) ∧ NodeCap w' (Fresh w w') node cs ∧ Rdr w' rb (.slice A l.length c) κ E p e ∧ Step w w' (RC rb) none ∧ ItemRel l E d k0 ⟨t.s,t.pos,[]⟩ node κ p e
def ItemsAt (l : List Tok) (A : Option Addr) (c : Nat) (E : Int) (B0 rb k0 : Nat) : Prop :=
  ∀ (d : Nat) (w : World) (p : Int),d ≤ 6 → Reads w B0 4 A l.length (l.flatMap Tok.cells) → Rdr w rb (.slice A l.length c) k0 E p 0 →
    Calls Try.prog 29 #[.pointer (some ⟨rb,0,none⟩), .int .i64 d] w (ItemsPost l A c E rb k0 d w)
def ItemAt9 (l : List Tok) (A : Option Addr) (c : Nat) (E : Int) (B0 rb k0 : Nat) : Prop :=
  ∀ (d : Nat) (w : World) (p : Int) (t : Tok),d ≤ 6 → Reads w B0 4 A l.length (l.flatMap Tok.cells) → Rdr w rb (.slice A l.length c) k0 E p 0 →
    Calls Try.prog 60 #[.pointer (some ⟨rb,0,none⟩),tokV t, .int .i64 d] w (ItemPost l A c E rb k0 d t w)
/-- What holds in the loop of items. -/
structure ItI (l : List Tok) (A : Option Addr) (c : Nat) (E : Int) (rb k0 d : Nat) (w wr : World) (v : Value) (out : List NodeL) (k : Nat) (kcs : List Value) (κ p e : Int) : Prop where
  own : wr.ownsRow w.heap.size 40 5 v out.length kcs
  nodes : NodesOk wr (fun b => w.heap.size ≤ b ∧ b < wr.heap.size ∧ v.ownBlock ≠ some b) out kcs
  rdr : Rdr wr rb (.slice A l.length c) κ E p e
  step : Step w wr (RC rb) none
  len : out.length ≤ k
  le : k ≤ l.length
  rel : (e = 0 ∧ κ = k ∧ k0 ≤ k ∧ Ahead l E d k0 none k none out) ∨ (e ≠ 0 ∧ Wrong l E d k0 none p e)
  caps : CapL kcs
theorem Step.keepReads {w w' : World} {rb B0 n : Nat} {A : Option Addr} {xs : List Value} (hs : Step w w' (RC rb) none) (hB : B0 ≤ rb) (hr : rb < w.heap.size) (h : Reads w B0 4 A n xs) : Reads w' B0 4 A n xs :=
  ReadsM.keep (M:=(· < B0)) (M':=(· < B0)) h (fun _ hb => hb) (fun q hq => World.cell?_of_block (hs.same (x:=q.block) (by omega) ⟨fun j hj => by simp [RC] at hj;omega,by simp⟩))
def sliceLen : Value → Nat
  | .slice _ n _ => n
  | _ => 0
theorem Step.drewN {w w' : World} {C : List (Nat × Nat)} {row : Option Nat} (h : Step w w' C row) (n : Nat) : Step w (w'.drewN n) C row:=⟨h.os,h.tape,h.output,h.size,h.block,h.cell,h.froz,h.shape⟩
theorem five_of_len {cs : List Value} (h : cs.length = 5) : ∃ a b c d e,cs = [a,b,c,d,e] := by
  match cs,h with
  | [a,b,c,d,e],_ => exact ⟨a,b,c,d,e,rfl⟩
theorem rc_nil {rb : Nat} : ∀ x ∈ ([] : List (Nat × Nat)),x ∈ RC rb:=fun _ h => by cases h
theorem own_ge {w : World} {B0 e size m c n : Nat} {A : Option Addr} {xs : List Value} (h : w.ownsRow B0 e size (.slice A m c) n xs) : ∀ x ∈ ownB A,B0 ≤ x ∧ x < w.heap.size := by
  intro x hx
  have hx2:=(mem_ownB (n:=m) (c:=c)).1 hx
  rcases h.2 with ⟨hv,_⟩ | ⟨g,cap,cur,hv,hg,hh,_⟩
  · rw [hv] at hx2;cases hx2
  · rw [hv] at hx2
    simp only [Value.ownBlock,Option.some.injEq] at hx2
    subst hx2
    exact ⟨hg,(Array.getElem?_eq_some_iff.1 hh).1⟩
section
variable {l : List Tok} {A : Option Addr} {c : Nat} {E : Int} {rb k0 d : Nat} {w wr : World} {A1 : Option Addr} {c1 : Nat} {out : List NodeL} {k : Nat} {kcs : List Value} {κ p e : Int}
/-- What is told where the loop is left. -/
theorem ItI.done (hi : ItI l A c E rb k0 d w wr (.slice A1 out.length c1) out k kcs κ p e) (hrb : rb < w.heap.size) {w' : World} (hs : Step wr w' (RC rb) none) {κ' p' e' : Int} (hr : Rdr w' rb (.slice A l.length c) κ' E p' e') (hrel : ItemsRel l E d k0 out κ' p' e') :
    ItemsPost l A c E rb k0 d w (.returned (.slice A1 out.length c1)) w':=by
  have hz:=hi.step.size
  have hz':=hs.size
  have hge:=own_ge hi.own
  have safe : ∀ x,w.heap.size ≤ x → Safe (RC rb) none x:=fun x hx => ⟨fun j hj => by simp [RC] at hj;omega,by simp⟩
  have hown':=hs.own' hi.own (fun x hx => safe x (hge x hx).1)
  obtain ⟨h1,h2⟩:=reads_of_own hown' (Fresh w w') (fun x hx => own_ge hown' x hx)
  refine ⟨out,A1,c1,kcs,κ',p',e',rfl,⟨h2,own_cap hi.own,hi.caps⟩,h1,?_,hr,Step.trans hi.step hs (fun _ h => h) (fun _ h => h),hrel⟩
  exact NodesOk.keep (fun b hb => ⟨hb.1,by have:=hb.2.1;omega⟩) (fun q hq => World.cell?_of_block (hs.same hq.2.1 (safe _ hq.1))) _ _ hi.nodes
/-- One more item. -/
theorem ItI.next (hi : ItI l A c E rb k0 d w wr (.slice A1 out.length c1) out k kcs k p 0) (hk0 : k0 ≤ k) (hah : Ahead l E d k0 none k none out) (hrb : rb < w.heap.size) {w3 w4 : World} {o : Obj} {t : Tok} {node : NodeL} {cs : List Value} {κ' p' e' : Int} {g cap : Nat}
    (hs : Step wr w3 (RC rb) none) (hr : Rdr w3 rb (.slice A l.length c) κ' E p' e') (hn : NodeOk w3 (fun b => wr.heap.size ≤ b ∧ b < w3.heap.size) node cs) (hcn : CapL cs) (ht : l[k]? = some t) (hk : t.kind = 1) (hrel : ItemRel l E d (k + 1) ⟨t.s,t.pos,[]⟩ node κ' p' e')
    (hown : w4.ownsRow w.heap.size 40 5 (.slice (some ⟨g,0,none⟩) (out.length + 1) cap) (out.length + 1) (kcs ++ cs)) (hg : (w3.alloc o).grownBy w4 (Value.ownBlock (.slice A1 out.length c1))) (hat : Value.ownBlock (.slice A1 out.length c1) = some g ∨ g = w3.heap.size + 1) :
    ∃ k',ItI l A c E rb k0 d w w4 (.slice (some ⟨g,0,none⟩) (out.length + 1) cap) (out ++ [node]) k' (kcs ++ cs) κ' p' e':=by
  have hz:=hi.step.size
  have hz3:=hs.size
  have hz4:=hg.size
  simp at hz4
  have hge:=own_ge hi.own
  have hlt:=(List.getElem?_eq_some_iff.1 ht).1
  have safe : ∀ x,w.heap.size ≤ x → Safe (RC rb) none x:=fun x hx => ⟨fun j hj => by simp [RC] at hj;omega,by simp⟩
  have hS : Step w (w3.alloc o) (RC rb) none:=(Step.trans hi.step hs (fun _ h => h) (fun _ h => h)).alloc o
  have hS4 : Step w w4 (RC rb) none:=hS.grown hg (fun x hx => .inr (hge x (mem_ownB.2 hx)).1)
  have hkeep : ∀ q : Addr,q.block < w3.heap.size → Value.ownBlock (.slice A1 out.length c1) ≠ some q.block → w4.cell? q = w3.cell? q := fun q hq hne =>
    (hg.cell_far q (by simp;omega) (fun e => hne e.symm)).trans (World.cell?_alloc_lt w3 o q hq)
  have hgb : ∀ x,x < w3.heap.size → Value.ownBlock (.slice A1 out.length c1) ≠ some x → g ≠ x := fun x hx hne e => by
    subst e
    rcases hat with h | h
    · exact hne h
    · omega
  have hv : Value.ownBlock (.slice (some ⟨g,0,none⟩) (out.length + 1) cap) = some g:=rfl
  have hnodes : NodesOk w4 (fun b => w.heap.size ≤ b ∧ b < w4.heap.size ∧ Value.ownBlock (.slice (some ⟨g,0,none⟩) (out.length + 1) cap) ≠ some b) (out ++ [node]) (kcs ++ cs) := by
    have hne : ∀ b,wr.heap.size ≤ b → Value.ownBlock (.slice A1 out.length c1) ≠ some b:=fun b hb e => by have:=(hge b (mem_ownB.2 e)).2;omega
    have a1 : ∀ b,(w.heap.size ≤ b ∧ b < wr.heap.size ∧ Value.ownBlock (.slice A1 out.length c1) ≠ some b) → (w.heap.size ≤ b ∧ b < w4.heap.size ∧ Value.ownBlock (.slice (some ⟨g,0,none⟩) (out.length + 1) cap) ≠ some b) := fun b hb =>
      ⟨hb.1,by have:=hb.2.1;omega,by rw [hv];intro e;cases e;exact hgb _ (by have:=hb.2.1;omega) hb.2.2 rfl⟩
    have a2 : ∀ q : Addr,(w.heap.size ≤ q.block ∧ q.block < wr.heap.size ∧ Value.ownBlock (.slice A1 out.length c1) ≠ some q.block) → w4.cell? q = wr.cell? q := fun q hq => by
      rw [hkeep q (by have:=hq.2.1;omega) hq.2.2]
      exact World.cell?_of_block (hs.same hq.2.1 (safe _ hq.1))
    have b1 : ∀ b,(wr.heap.size ≤ b ∧ b < w3.heap.size) → (w.heap.size ≤ b ∧ b < w4.heap.size ∧ Value.ownBlock (.slice (some ⟨g,0,none⟩) (out.length + 1) cap) ≠ some b) := fun b hb =>
      ⟨by have:=hb.1;omega,by have:=hb.2;omega,by rw [hv];intro e;cases e;exact hgb _ hb.2 (hne _ hb.1) rfl⟩
    exact NodesOk.append (NodesOk.keep a1 a2 _ _ hi.nodes) (NodesOk.one (NodeOk.keep b1 (fun q hq => hkeep q hq.2 (hne _ hq.1)) _ _ hn))
  have hrb3:=hr.lt
  have hr4 : Rdr w4 rb (.slice A l.length c) κ' E p' e' := by
    refine (hg.block rb (by simp;omega) (fun e => ?_)).trans (alloc_keeps o hr)
    have:=(hge rb (mem_ownB.2 e.symm)).1
    omega
  have hlen : (out ++ [node]).length ≤ k + 1:=by have:=hi.len;simp;omega
  have hname:=ahead_name (E:=E) (d:=d) ht hk
  rcases hrel with ⟨he,k',hκ,hk1,hk2,ha⟩ | ⟨he,hw⟩
  · refine ⟨k',⟨?_,hnodes,hr4,hS4,by omega,hk2, .inl ⟨he,hκ,by omega,?_⟩,hi.caps.append hcn⟩⟩
    · rw [List.length_append];exact hown
    · have := (hah.trans hname).trans ha
      simpa using this
  · refine ⟨k + 1,⟨?_,hnodes,hr4,hS4,hlen,by omega, .inr ⟨he,?_⟩,hi.caps.append hcn⟩⟩
    · rw [List.length_append];exact hown
    · exact (hah.trans hname).wrong hw
end
set_option maxRecDepth 100000 in
set_option maxHeartbeats 4000000 in
theorem ref9_items_step (l : List Tok) (A : Option Addr) (c : Nat) (E : Int) (B0 rb k0 : Nat) (hl : l.length ≤ 65536) (hk0 : k0 ≤ l.length) (hB : B0 ≤ rb) (ih : ∀ k',k0 < k' → k' ≤ l.length → ItemAt9 l A c E B0 rb k') : ItemsAt l A c E B0 rb k0 := by
  intro d w p0 hd hrd hr0
  have HRD:=zh hrd
  have HR0:=zh hr0
  have HIH:=zh ih
  have hrlt:=hr0.lt
  have hinit : ItI l A c E rb k0 d w w (.slice none 0 0) [] k0 [] k0 p0 0:=⟨⟨rfl, .inl ⟨rfl,rfl⟩⟩,rfl,hr0,Step.refl _ _ _,Nat.zero_le _,hk0, .inl ⟨rfl,rfl,Nat.le_refl _,ahead_refl⟩,CapL.nil⟩
  have HI:=zh hinit
  clear ih hrd hr0 hinit
  go_enter Try.func29,Try.ntmps29
  go_wp2_with fail
  go_loopw [5] (fun v wr => ∃ (out : List NodeL) (k : Nat) (kcs : List Value) (κ p e : Int),ItI l A c E rb k0 d w wr v out k kcs κ p e) (fun v _ => l.length - sliceLen v)
  case atStart => exact ⟨[],k0,[],k0,p0,0,HI.out⟩
  case round =>
    obtain ⟨out,k,kcs,κ,p,e,hi⟩:=hrel
    obtain ⟨A1,c1,rfl,hn1⟩:=own_form hi.own
    have hwz:=hi.step.size
    have g0:=zb hi.rdr 0
    have g1:=zb hi.rdr 1
    have g2:=zb hi.rdr 2
    have g4:=zb hi.rdr 4
    have gf:=zu hi.rdr
    have f1:=gf 1
    have glt:=hi.rdr.lt
    have hrel:=hi.rel
    have HIT:=zh hi
    clear hi gf
    rcases hrel with ⟨rfl,rfl,hkk,hah⟩ | ⟨he,hwr⟩
    · have HAH := zh hah
      clear hah
      by_cases hlt : k < l.length
      · obtain ⟨t,ht⟩ : ∃ t,l[k]? = some t := ⟨_,List.getElem?_eq_getElem hlt⟩
        obtain ⟨ad,hA,hadb,t0,t1,t2,t3⟩:=tok_cells (HIT.out.step.keepReads hB hrlt HRD.out) k t ht
        subst hA
        have HT:=zh ht
        clear ht
        have lk : (k : Int) < l.length:=by omega
        have lk0 : (0 : Int) ≤ k:=by omega
        have w1f : IntKind.i64.wrap ((k : Int) + 1) = (k : Int) + 1:=by rw [IntKind.wrap_i64];omega
        go_wp2_with fail
        go_quiet (fail)
        generalize hW : wr.drewN _ = W
        have hG : ∀ q,W.cell? q = wr.cell? q:=fun q => by rw [← hW];rfl
        have hGf : ∀ q,W.frozen? q = wr.frozen? q:=fun q => by rw [← hW];rfl
        have hGh : W.heap = wr.heap:=by rw [← hW];rfl
        rw [← hG] at g0 g1 g2 g4 t0 t1 t2 t3
        rw [← hGf] at f1
        rw [← hGh] at glt
        have hlad : ad.block < W.heap.size:=by rw [hGh];omega
        have hne1 : ad.block ≠ W.heap.size:=by omega
        have hz : ∀ q : Addr,q.block < W.heap.size → (W.alloc (.cells #[.int .i64 0, .int .i64 0, .int .i64 0, .string ⟨#[]⟩] 58)).cell? q = W.cell? q:=fun q hq => World.cell?_alloc_lt W _ q hq
        have z0:=(hz _ (by rw [block_of_add];exact hlad)).trans t0
        have z1:=(hz _ (by show (ad.add (k * 4)).block < _;rw [block_of_add];exact hlad)).trans t1
        have z2:=(hz _ (by show (ad.add (k * 4)).block < _;rw [block_of_add];exact hlad)).trans t2
        have z3:=(hz _ (by show (ad.add (k * 4)).block < _;rw [block_of_add];exact hlad)).trans t3
        clear hz
        have HSW:=zh (show Step wr W [] none by rw [← hW];exact (Step.refl _ [] _).drewN _)
        clear hW hG hGf hGh
        go_wp2_with fail
        go_region
        obtain ⟨W1,hW1⟩ : ∃ W1,W1 = (W.alloc (.cells #[.int .i64 t.kind, .int .i64 t.pos, .int .i64 t.n, .string ⟨t.s.toArray⟩] 58)).drew:=⟨_,rfl⟩
        rw [← hW1]
        have hs1 : Step wr W1 [] none := by
          rw [hW1]
          exact ((HSW.out).alloc _).drew
        have hr1 : Rdr W1 rb (.slice (some ad) l.length c) k E p 0:=HIT.out.rdr.keep hs1 ⟨fun j hj => (by cases hj),by simp⟩
        have hb1 : W1.heap[W.heap.size]? = some (.cells #[.int .i64 t.kind, .int .i64 t.pos, .int .i64 t.n, .string ⟨t.s.toArray⟩] 58 (0,0)) := by
          rw [hW1];exact heap_alloc_new W _
        have hne : rb ≠ W.heap.size:=by omega
        generalize W.heap.size = tb at *
        clear hW1 g0 g1 g2 g4 t0 t1 t2 t3 z0 z1 z2 z3 f1
        have x0:=zb hb1 0
        have x1:=zb hb1 1
        have x2:=zb hb1 2
        have x3:=zb hb1 3
        have y1:=zb hr1 1
        have yf:=zu hr1
        have f1:=yf 1
        have HR1:=zh hr1
        have HS1:=zh hs1
        clear yf hr1 hs1 hb1
        by_cases hk4 : t.kind = 4 ∧ 0 < d
        · have k4 : (t.kind == 4) = true := by simpa using hk4.1
          have ld : (0 : Int) < d:=by omega
          go_wp2_with fail
          go_ret
          exact HIT.out.done hrlt (Step.trans HS1.out (Step.refl _ [] _) rc_nil rc_nil) HR1.out (.inl ⟨rfl,k,rfl,hkk,by omega,HAH.out,fun _ => ⟨t,HT.out,hk4.1⟩,fun h => by omega⟩)
        · have hk4' : t.kind = 4 → d = 0 := fun h => by by_cases h0 : d = 0; exact h0; exact absurd ⟨h,by omega⟩ hk4
          by_cases hk1 : t.kind = 1
          · have k4 : (t.kind == 4) = false := beq_false_of_ne (by omega)
            have k1 : (t.kind != 1) = false:=by simpa using hk1
            go_wp2_with fail
            generalize hW2 : W1.setCell _ _ = W2
            have hr2 : Rdr W2 rb (.slice (some ad) l.length c) ((k + 1 : Nat) : Int) E p 0 := by
              rw [← hW2]
              have:=set_block (o:=1) (.int .i64 ((k : Int) + 1)) HR1.out
              simpa [Rdr] using this
            have hs2 : Step wr W2 (RC rb) none := by
              rw [← hW2]
              exact Step.setCell (Step.trans HS1.out (Step.refl _ [] _) rc_nil rc_nil) (.inr (.inl (by simp [RC]))) _
            clear hW2
            have htv : tokV t = .agg #[.int .i64 1, .int .i64 t.pos, .int .i64 t.n, .string ⟨t.s.toArray⟩]:=by unfold tokV;rw [hk1]
            have hc:=HIH.out (k + 1) (by omega) (by omega) d W2 p t hd (Step.keepReads (Step.trans HIT.out.step hs2 (fun _ h => h) (fun _ h => h)) hB hrlt HRD.out) hr2
            rw [htv] at hc
            refine hc.mono ?_
            rintro e w3 ⟨node,cs,κ',p',e',rfl,⟨hnode,hcapn⟩,hr3,hs3,hrel3⟩
            have HCN:=zh hcapn
            clear hcapn
            have hS3 : Step wr w3 (RC rb) none:=Step.trans hs2 hs3 (fun _ h => h) (fun _ h => h)
            have hnode2 : NodeOk w3 (fun b => wr.heap.size ≤ b ∧ b < w3.heap.size) node cs:=NodeOk.keep (fun b hb => ⟨by have:=hb.1;have:=hs2.size;omega,hb.2⟩) (fun _ _ => rfl) _ _ hnode
            have hlen5:=hnode.len
            have HN:=zh hnode2
            have HR3:=zh hr3
            have HS3:=zh hS3
            have HREL:=zh hrel3
            have hone : ∀ u ∈ cs,u.oneCell' = true := by
              obtain ⟨nm,np,nws,nb,nks⟩:=node
              simp only [NodeOk] at hnode
              obtain ⟨_,_,_,_,_,rfl,_⟩:=hnode
              intro u hu
              simp at hu
              rcases hu with rfl | rfl | rfl | rfl | rfl <;> rfl
            have ho3 : w3.ownsRow w.heap.size 40 5 (.slice A1 out.length c1) out.length kcs:=hS3.own' HIT.out.own (fun x hx => ⟨fun j hj => by have:=(own_ge HIT.out.own x hx).1;simp [RC] at hj;omega,by simp⟩)
            have hz3:=hS3.size
            have hol:=HIT.out.len
            clear hnode hr3 hs3 hrel3 hS3 hnode2 hc hr2 hs2 htv
            obtain ⟨i0,hi0,hz0,hz1,hz2⟩:=info_parts info_node
            obtain ⟨q0,q1,q2,q3,q4,rfl⟩:=five_of_len hlen5
            dsimp only
            refine (‹∀ (a : Act) (w : World),wpList _ _ _ _ a w → _› _ _ ?_)
            go_wp2_with (at_builtin;refine wpList_append_lies _ (by rfl) _ _ _ (by rfl) w.heap.size 40 i0 _ 5 80 Try.underlying33 hi0 hz0 hz1 hz2 rfl (by decide) _ _ _ rfl (ho3.alloc _) ⟨w3.heap.size,0,none⟩ 1 1 [q0,q1,q2,q3,q4] rfl rfl (cells_new _ [q0,q1,q2,q3,q4] _ _ (by simp)) hone (by decide) (by unfold maxLen;omega) (by omega) (by simp;omega) (w3.heap.size + 1) (by simp) ?_;intro g cap w4 hown4 hg4 hat4 hlt4)
            go_roundw
            case rel =>
              obtain ⟨k',hnx⟩:=ItI.next HIT.out hkk HAH.out hrlt HS3.out HR3.out HN.out HCN.out HT.out hk1 HREL.out hown4 hg4 hat4
              exact ⟨out ++ [node],k',_,_,_,_,hnx⟩
            case measure =>
              simp only [sliceLen]
              omega
          · have k1 : (t.kind != 1) = true := by simpa using hk1
            have hwr:=wrong_name (E:=E) HT.out hk1 hk4'
            have HWR:=zh hwr
            clear hwr hk4
            by_cases hk4c : t.kind = 4
            · have k4 : (t.kind == 4) = true := by simpa using hk4c
              have ld : ¬ (0 : Int) < d:=by have:=hk4' hk4c;omega
              go_wp2_with fail
              refine (ref9_fail_none _ rb _ _ _ _ _ _ HR1.out).mono ?_
              rintro e w2 ⟨rfl,hr2,hs2⟩
              go_wp2_with fail
              go_ret
              exact HIT.out.done hrlt (Step.trans HS1.out hs2 rc_nil (fun _ h => h)) hr2 (.inr ⟨by decide,HAH.out.wrong HWR.out⟩)
            · have k4 : (t.kind == 4) = false := by simpa using hk4c
              go_wp2_with fail
              refine (ref9_fail_none _ rb _ _ _ _ _ _ HR1.out).mono ?_
              rintro e w2 ⟨rfl,hr2,hs2⟩
              go_wp2_with fail
              go_ret
              exact HIT.out.done hrlt (Step.trans HS1.out hs2 rc_nil (fun _ h => h)) hr2 (.inr ⟨by decide,HAH.out.wrong HWR.out⟩)
      · have lk : ¬ (k : Int) < l.length := by omega
        have hkl : k = l.length:=by have:=HIT.out.le;omega
        by_cases hd0 : d = 0
        · have ld : ¬ (0 : Int) < d := by omega
          go_wp2_with fail
          go_quiet (fail)
          go_wp2_with fail
          go_ret
          exact HIT.out.done hrlt ((Step.refl _ _ _).drewN _) HIT.out.rdr (.inl ⟨rfl,k,rfl,hkk,by omega,HAH.out,fun h => by omega,fun _ => hkl⟩)
        · have ld : (0 : Int) < d := by omega
          go_wp2_with fail
          go_quiet (fail)
          go_wp2_with fail
          generalize hW : wr.drewN _ = W
          have hr1 : Rdr W rb (.slice A l.length c) k E p 0:=by rw [← hW];exact HIT.out.rdr
          have hs1 : Step wr W [] none:=by rw [← hW];exact (Step.refl _ [] _).drewN _
          clear hW
          refine (ref9_fail_none _ rb _ _ _ _ _ _ hr1).mono ?_
          rintro e w2 ⟨rfl,hr2,hs2⟩
          go_wp2_with fail
          go_ret
          exact HIT.out.done hrlt (Step.trans hs1 hs2 rc_nil (fun _ h => h)) hr2 (.inr ⟨by decide,HAH.out.wrong (wrong_end (by omega) (by omega))⟩)
    · have he' : (e == 0) = false := beq_false_of_ne he
      have HWR:=zh hwr
      clear hwr
      by_cases hd0 : d = 0
      · have ld : ¬ (0 : Int) < d := by omega
        go_wp2_with fail
        go_quiet (fail)
        go_wp2_with fail
        go_ret
        exact HIT.out.done hrlt ((Step.refl _ _ _).drewN _) HIT.out.rdr (.inr ⟨he,HWR.out⟩)
      · have ld : (0 : Int) < d := by omega
        go_wp2_with fail
        go_quiet (fail)
        go_wp2_with fail
        generalize hW : wr.drewN _ = W
        have hr1 : Rdr W rb (.slice A l.length c) κ E p e:=by rw [← hW];exact HIT.out.rdr
        have hs1 : Step wr W (RC rb) none:=by rw [← hW];exact (Step.refl _ _ _).drewN _
        clear hW
        refine (ref9_fail_some _ rb _ _ _ _ _ _ _ hr1 he).mono ?_
        rintro e w2 ⟨rfl,rfl⟩
        go_wp2_with fail
        go_ret
        exact HIT.out.done hrlt hs1 hr1 (.inr ⟨he,HWR.out⟩)
end
end Go.Proofs.Ytjbniichcopnlaa
