/- Layer 9 (tree): items in memory. Then: Worlds that differ in some cells, and in one row, of what was there. Then: A map from texts to places, laid by the call itself in the order of the texts; a block of the heap laid anew. Then: Layer 11 (field): the walks of many, between, fixed, weeks. -/
import Derived.Test.YtjbniichcopnlaaPkR3
import Derived.Test.YtjbniichcopnlaaPkR1
import Derived.OrdersHeld
import Derived.Laws.OwnMore
import Derived.Deep.AppendLies
import Derived.Laws.Closers25
import Derived.BigQuiet
import Derived.Lib.SmallJoins
import Derived.ChangeKeysEq
namespace Go.Proofs.Ytjbniichcopnlaa
section
open Go.RowKit
def WordL.cells (w : WordL) : List Value:=[.bool w.num, .int .i64 w.n, .string ⟨w.s.toArray⟩, .int .i64 w.pos]
theorem wcells_length (l : List WordL) : (l.flatMap WordL.cells).length = l.length * 4 := by
  induction l with
  | nil => rfl
  | cons t l ih => simp only [List.flatMap_cons,List.length_append,ih,List.length_cons,WordL.cells,List.length_nil];omega
/-- The slice with the address A,of n elements of so many cells each,reads as the cells xs,in blocks of M. -/
def ReadsM (w : World) (M : Nat → Prop) (size : Nat) (A : Option Addr) (n : Nat) (xs : List Value) : Prop :=
  xs.length = n * size ∧ (0 < n → ∃ ad,A = some ad ∧ M ad.block ∧ ∀ j u,xs[j]? = some u → w.cell? (ad.add j) = some u)
theorem ReadsM.keep {w w' : World} {M M' : Nat → Prop} {size : Nat} {A : Option Addr} {n : Nat} {xs : List Value} (h : ReadsM w M size A n xs)
    (hm : ∀ b,M b → M' b) (hk : ∀ p : Addr,M p.block → w'.cell? p = w.cell? p) : ReadsM w' M' size A n xs :=
  ⟨h.1,fun hn => by
    obtain ⟨ad,e,hb,hc⟩:=h.2 hn
    exact ⟨ad,e,hm _ hb,fun j u hu => (hk _ (by rw [block_of_add];exact hb)).trans (hc j u hu)⟩⟩
theorem ReadsM.reads {w : World} {B size : Nat} {A : Option Addr} {n : Nat} {xs : List Value} (h : ReadsM w (· < B) size A n xs) : Reads w B size A n xs:=h
theorem ReadsM.nil (w : World) (M : Nat → Prop) (size : Nat) (A : Option Addr) : ReadsM w M size A 0 []:=⟨by simp,fun h => absurd h (by omega)⟩
/-- A nil slice has no room. -/
def NilOk (A : Option Addr) (c : Nat) : Prop:=A = none → c = 0
mutual
/-- The five cells read as the item,all it leads to in blocks of M. -/
def NodeOk (w : World) (M : Nat → Prop) : NodeL → List Value → Prop
  | .mk nm p ws b ks,cs => ∃ Aw cw Ak ck kcs,cs = [.string ⟨nm.toArray⟩, .int .i64 p, .slice Aw ws.length cw, .bool b, .slice Ak ks.length ck] ∧
      NilOk Aw cw ∧ NilOk Ak ck ∧ ReadsM w M 4 Aw ws.length (ws.flatMap WordL.cells) ∧ ReadsM w M 5 Ak ks.length kcs ∧ NodesOk w M ks kcs
/-- The cells read as items. -/
def NodesOk (w : World) (M : Nat → Prop) : List NodeL → List Value → Prop
  | [],cs => cs = []
  | n :: r,cs => ∃ a b,cs = a ++ b ∧ NodeOk w M n a ∧ NodesOk w M r b
end
theorem NodeOk.len {w : World} {M : Nat → Prop} {n : NodeL} {cs : List Value} (h : NodeOk w M n cs) : cs.length = 5 := by
  cases n with
  | mk nm p ws b ks =>
    simp only [NodeOk] at h
    obtain ⟨_,_,_,_,_,rfl,_⟩:=h
    rfl
theorem NodesOk.len {w : World} {M : Nat → Prop} : ∀ {l : List NodeL} {cs : List Value},NodesOk w M l cs → cs.length = l.length * 5
  | [],cs,h => by simp only [NodesOk] at h;subst h;rfl
  | n :: r,cs,h => by
    simp only [NodesOk] at h
    obtain ⟨a,b,rfl,h1,h2⟩:=h
    have e1:=NodeOk.len h1
    have e2:=NodesOk.len h2
    rw [List.length_append,e1,e2,List.length_cons];omega
mutual
theorem NodeOk.keep {w w' : World} {M M' : Nat → Prop} (hm : ∀ b,M b → M' b) (hk : ∀ p : Addr,M p.block → w'.cell? p = w.cell? p) : ∀ (n : NodeL) (cs : List Value),NodeOk w M n cs → NodeOk w' M' n cs
  | .mk nm p ws b ks,cs,h => by
    simp only [NodeOk] at h ⊢
    obtain ⟨Aw,cw,Ak,ck,kcs,h1,h2,h3,h4,h5,h6⟩:=h
    exact ⟨Aw,cw,Ak,ck,kcs,h1,h2,h3,h4.keep hm hk,h5.keep hm hk,NodesOk.keep hm hk ks kcs h6⟩
theorem NodesOk.keep {w w' : World} {M M' : Nat → Prop} (hm : ∀ b,M b → M' b) (hk : ∀ p : Addr,M p.block → w'.cell? p = w.cell? p) : ∀ (l : List NodeL) (cs : List Value),NodesOk w M l cs → NodesOk w' M' l cs
  | [],cs,h => by simpa only [NodesOk] using h
  | n :: r,cs,h => by
    simp only [NodesOk] at h ⊢
    obtain ⟨a,b,h1,h2,h3⟩:=h
    exact ⟨a,b,h1,NodeOk.keep hm hk n a h2,NodesOk.keep hm hk r b h3⟩
end
theorem NodesOk.append {w : World} {M : Nat → Prop} : ∀ {l m : List NodeL} {cs ds : List Value},NodesOk w M l cs → NodesOk w M m ds → NodesOk w M (l ++ m) (cs ++ ds)
  | [],m,cs,ds,h,h' => by simp only [NodesOk] at h;subst h;exact h'
  | n :: r,m,cs,ds,h,h' => by
    simp only [NodesOk] at h
    obtain ⟨a,b,rfl,h2,h3⟩:=h
    simp only [List.cons_append,NodesOk]
    exact ⟨a,b ++ ds,by rw [List.append_assoc],h2,NodesOk.append h3 h'⟩
theorem NodesOk.one {w : World} {M : Nat → Prop} {n : NodeL} {cs : List Value} (h : NodeOk w M n cs) : NodesOk w M [n] cs := by
  simp only [NodesOk]
  exact ⟨cs,[],by simp,h,rfl⟩
/-- The cells of item i. -/
theorem NodesOk.at {w : World} {M : Nat → Prop} : ∀ {l : List NodeL} {cs : List Value},NodesOk w M l cs → ∀ (i : Nat) (n : NodeL),l[i]? = some n →
    ∃ a,NodeOk w M n a ∧ ∀ j,j < 5 → cs[i * 5 + j]? = a[j]?
  | [],_,_,i,n,hi => by simp at hi
  | x :: r,cs,h,i,n,hi => by
    simp only [NodesOk] at h
    obtain ⟨a,b,rfl,h2,h3⟩:=h
    have hl:=h2.len
    cases i with
    | zero =>
      simp only [List.getElem?_cons_zero,Option.some.injEq] at hi
      subst hi
      exact ⟨a,h2,fun j hj => by rw [Nat.zero_mul,Nat.zero_add,List.getElem?_append_left (by omega)]⟩
    | succ i =>
      obtain ⟨c,h4,h5⟩:=NodesOk.at h3 i n (by simpa using hi)
      refine ⟨c,h4,fun j hj => ?_⟩
      rw [List.getElem?_append_right (by rw [hl];omega),hl,← h5 j hj]
      congr 1
      omega
/-- The cells that the walk reads of item i of a slice. -/
theorem node_cells {w : World} {M : Nat → Prop} {A : Option Addr} {l : List NodeL} {cs : List Value} (h : ReadsM w M 5 A l.length cs) (hn : NodesOk w M l cs) (i : Nat) (n : NodeL) (hi : l[i]? = some n) :
    ∃ ad Aw cw Ak ck kcs,A = some ad ∧ M ad.block ∧ w.cell? (ad.add (i * 5)) = some (.string ⟨n.name.toArray⟩) ∧ w.cell? ⟨(ad.add (i * 5)).block,(ad.add (i * 5)).off + 1,none⟩ = some (.int .i64 n.pos) ∧
      w.cell? ⟨(ad.add (i * 5)).block,(ad.add (i * 5)).off + 2,none⟩ = some (.slice Aw n.words.length cw) ∧ w.cell? ⟨(ad.add (i * 5)).block,(ad.add (i * 5)).off + 3,none⟩ = some (.bool n.block) ∧
      w.cell? ⟨(ad.add (i * 5)).block,(ad.add (i * 5)).off + 4,none⟩ = some (.slice Ak n.kids.length ck) ∧
      NilOk Aw cw ∧ NilOk Ak ck ∧ ReadsM w M 4 Aw n.words.length (n.words.flatMap WordL.cells) ∧ ReadsM w M 5 Ak n.kids.length kcs ∧ NodesOk w M n.kids kcs:=by
  have hlt : i < l.length:=(List.getElem?_eq_some_iff.1 hi).1
  obtain ⟨ad,rfl,hb,hc⟩:=h.2 (by omega)
  obtain ⟨a,ha,hg⟩:=hn.at i n hi
  obtain ⟨nm,p,ws,b,ks⟩:=n
  simp only [NodeOk] at ha
  obtain ⟨Aw,cw,Ak,ck,kcs,rfl,h2,h3,h4,h5,h6⟩:=ha
  have hs : ∀ j,j ≠ 0 → ad.add (i * 5 + j) = ⟨(ad.add (i * 5)).block,(ad.add (i * 5)).off + j,none⟩ := fun j hj => by
    rw [← add_of_add];unfold Addr.add;rw [if_neg hj]
  exact ⟨ad,Aw,cw,Ak,ck,kcs,rfl,hb,hc _ _ (hg 0 (by omega)),hs 1 (by omega) ▸ hc _ _ (hg 1 (by omega)),hs 2 (by omega) ▸ hc _ _ (hg 2 (by omega)),
    hs 3 (by omega) ▸ hc _ _ (hg 3 (by omega)),hs 4 (by omega) ▸ hc _ _ (hg 4 (by omega)),h2,h3,h4,h5,h6⟩
theorem wflat_get (l : List WordL) (i : Nat) (t : WordL) (h : l[i]? = some t) : ∀ j,j < 4 → (l.flatMap WordL.cells)[i * 4 + j]? = t.cells[j]? := by
  induction l generalizing i with
  | nil => simp at h
  | cons a l ih =>
    intro j hj
    rw [List.flatMap_cons]
    cases i with
    | zero =>
      simp only [List.getElem?_cons_zero,Option.some.injEq] at h
      subst h
      rw [List.getElem?_append_left (by simp [WordL.cells];omega)]
      simp
    | succ i =>
      rw [List.getElem?_append_right (by simp [WordL.cells];omega)]
      have : (i + 1) * 4 + j - a.cells.length = i * 4 + j:=by simp [WordL.cells];omega
      rw [this]
      exact ih i (by simpa using h) j hj
/-- The four cells of word i. -/
theorem word_cells {w : World} {M : Nat → Prop} {A : Option Addr} {l : List WordL} (h : ReadsM w M 4 A l.length (l.flatMap WordL.cells)) (i : Nat) (t : WordL) (hi : l[i]? = some t) :
    ∃ ad,A = some ad ∧ M ad.block ∧ w.cell? (ad.add (i * 4)) = some (.bool t.num) ∧ w.cell? ⟨(ad.add (i * 4)).block,(ad.add (i * 4)).off + 1,none⟩ = some (.int .i64 t.n) ∧
      w.cell? ⟨(ad.add (i * 4)).block,(ad.add (i * 4)).off + 2,none⟩ = some (.string ⟨t.s.toArray⟩) ∧ w.cell? ⟨(ad.add (i * 4)).block,(ad.add (i * 4)).off + 3,none⟩ = some (.int .i64 t.pos):=by
  have hlt : i < l.length:=(List.getElem?_eq_some_iff.1 hi).1
  obtain ⟨ad,rfl,hb,hc⟩:=h.2 (by omega)
  have hg:=wflat_get l i t hi
  have hs : ∀ j,j ≠ 0 → ad.add (i * 4 + j) = ⟨(ad.add (i * 4)).block,(ad.add (i * 4)).off + j,none⟩ := fun j hj => by
    rw [← add_of_add];unfold Addr.add;rw [if_neg hj]
  exact ⟨ad,rfl,hb,hc _ _ (hg 0 (by omega)),hs 1 (by omega) ▸ hc _ _ (hg 1 (by omega)),hs 2 (by omega) ▸ hc _ _ (hg 2 (by omega)),hs 3 (by omega) ▸ hc _ _ (hg 3 (by omega))⟩
end
section
open Go.RowKit
/-- Of what lay in w,only the cells of C,and the row's block,differ in w'. -/
structure Step (w w' : World) (C : List (Nat × Nat)) (row : Option Nat) : Prop where
  os : w'.os = w.os
  tape : w'.tape = w.tape
  output : w'.output = w.output
  size : w.heap.size ≤ w'.heap.size
  block : ∀ k,k < w.heap.size → (∀ j,(k,j) ∉ C) → some k ≠ row → w'.heap[k]? = w.heap[k]?
  cell : ∀ k,k < w.heap.size → some k ≠ row → ∀ j,(k,j) ∉ C → w'.cell? ⟨k,j,none⟩ = w.cell? ⟨k,j,none⟩
  froz : ∀ k,k < w.heap.size → some k ≠ row → ∀ j,w'.frozen? ⟨k,j,none⟩ = w.frozen? ⟨k,j,none⟩
  shape : ∀ k,k < w.heap.size → some k ≠ row → ∀ cs t f,w.heap[k]? = some (.cells cs t f) → ∃ cs',w'.heap[k]? = some (.cells cs' t f)
section
variable {w w' w2 : World} {C : List (Nat × Nat)} {row : Option Nat}
theorem Step.refl (w : World) (C : List (Nat × Nat)) (row : Option Nat) : Step w w C row :=
  ⟨rfl,rfl,rfl,Nat.le_refl _,fun _ _ _ _ => rfl,fun _ _ _ _ _ => rfl,fun _ _ _ _ => rfl,fun _ _ _ cs _ _ h => ⟨cs,h⟩⟩
theorem Step.drew (h : Step w w' C row) : Step w w'.drew C row:=⟨h.os,h.tape,h.output,h.size,h.block,h.cell,h.froz,h.shape⟩
theorem Step.alloc (h : Step w w' C row) (o : Obj) : Step w (w'.alloc o) C row :=
  ⟨h.os,h.tape,h.output,by have := h.size; simp; omega,
    fun k hk hC hr => by
      have:=h.size
      rw [show (w'.alloc o).heap[k]? = w'.heap[k]? from Go.heap_alloc_old w' o (by omega)]
      exact h.block k hk hC hr,
    fun k hk hr j hj => by
      have:=h.size
      rw [World.cell?_alloc_lt w' o ⟨k,j,none⟩ (by show k < _;omega)]
      exact h.cell k hk hr j hj,
    fun k hk hr j => by
      have:=h.size
      rw [World.frozen?_alloc_old w' o ⟨k,j,none⟩ (by show k ≠ _;omega)]
      exact h.froz k hk hr j,
    fun k hk hr cs t f hh => by
      have:=h.size
      obtain ⟨cs',h'⟩:=h.shape k hk hr cs t f hh
      exact ⟨cs',(show (w'.alloc o).heap[k]? = w'.heap[k]? from Go.heap_alloc_old w' o (by omega)).trans h'⟩⟩
theorem Step.setCell (h : Step w w' C row) {b o : Nat} (hb : w.heap.size ≤ b ∨ (b,o) ∈ C ∨ some b = row) (u : Value) : Step w (w'.setCell ⟨b,o,none⟩ u) C row :=
  ⟨h.os,h.tape,h.output,by simpa using h.size,
    fun k hk hC hr => by
      rw [Go.heap_setCell_other w' ⟨b,o,none⟩ k u (by
        show k ≠ b
        intro e;subst e
        rcases hb with hb | hb | hb
        · omega
        · exact hC _ hb
        · exact hr hb)]
      exact h.block k hk hC hr,
    fun k hk hr j hj => by
      rw [World.cell?_setCell_other w' ⟨b,o,none⟩ ⟨k,j,none⟩ u (by
        intro e
        simp only [Addr.mk.injEq,and_true] at e
        obtain ⟨rfl,rfl⟩:=e
        rcases hb with hb | hb | hb
        · omega
        · exact hj hb
        · exact hr hb)]
      exact h.cell k hk hr j hj,
    fun k hk hr j => by
      rw [World.frozen?_setCell]
      exact h.froz k hk hr j,
    fun k hk hr cs t f hh => by
      obtain ⟨cs',h'⟩:=h.shape k hk hr cs t f hh
      by_cases hkb : k = b
      · subst hkb
        exact ⟨cs'.setIfInBounds o u,by simp [World.setCell,Array.getElem?_modify,h']⟩
      · exact ⟨cs',(Go.heap_setCell_other w' ⟨b,o,none⟩ k u hkb).trans h'⟩⟩
theorem Step.grown (h : Step w w' C row) {row' : Option Nat} (hg : w'.grownBy w2 row') (hr' : ∀ k,row' = some k → some k = row ∨ w.heap.size ≤ k) : Step w w2 C row := by
  have hs:=h.size
  have hn : ∀ k,k < w.heap.size → some k ≠ row → some k ≠ row' := fun k hk hr e => by
    rcases hr' k e.symm with h1 | h1
    · exact hr h1
    · omega
  refine ⟨hg.os.trans h.os,hg.tape.trans h.tape,hg.output.trans h.output,Nat.le_trans h.size hg.size,fun k hk hC hr => ?_,fun k hk hr j hj => ?_,fun k hk hr j => ?_,fun k hk hr cs t f hh => ?_⟩
  · exact (hg.block k (by omega) (hn k hk hr)).trans (h.block k hk hC hr)
  · exact (hg.cell_far ⟨k,j,none⟩ (by show k < _;omega) (hn k hk hr)).trans (h.cell k hk hr j hj)
  · exact (hg.frozen_far ⟨k,j,none⟩ (by show k < _;omega) (hn k hk hr)).trans (h.froz k hk hr j)
  · obtain ⟨cs',h'⟩ := h.shape k hk hr cs t f hh
    exact ⟨cs',(hg.block k (by omega) (hn k hk hr)).trans h'⟩
theorem Step.below (h : Step w w' C row) (hb : Below w'.heap.size w' w2) : Step w w2 C row := by
  have hs:=h.size
  refine ⟨hb.os.trans h.os,hb.tape.trans h.tape,hb.output.trans h.output,Nat.le_trans h.size hb.size,fun k hk hC hr => ?_,fun k hk hr j hj => ?_,fun k hk hr j => ?_,fun k hk hr cs t f hh => ?_⟩
  · exact (hb.block k (by omega)).trans (h.block k hk hC hr)
  · exact (hb.cell (p:=⟨k,j,none⟩) (by show k < _;omega)).trans (h.cell k hk hr j hj)
  · exact (hb.frozen (p:=⟨k,j,none⟩) (by show k < _;omega)).trans (h.froz k hk hr j)
  · obtain ⟨cs',h'⟩ := h.shape k hk hr cs t f hh
    exact ⟨cs',(hb.block k (by omega)).trans h'⟩
theorem Step.own (h : Step w w' C row) {base : Nat} {e : TypeId} {size n : Nat} {v : Value} {xs : List Value} (ho : w.ownsRow base e size v n xs) (hC : ∀ k,v.ownBlock = some k → ∀ j,(k,j) ∉ C) (hr : v.ownBlock = none ∨ v.ownBlock ≠ row) :
    w'.ownsRow base e size v n xs:=by
  refine ⟨ho.1,?_⟩
  rcases ho.2 with h2 | ⟨g,cap,cur,hv,hg,hh,r⟩
  · exact Or.inl h2
  · subst hv
    refine Or.inr ⟨g,cap,cur,rfl,hg,?_,r⟩
    have hlt : g < w.heap.size := by
      rcases Nat.lt_or_ge g w.heap.size with hlt | hge
      · exact hlt
      · rw [Array.getElem?_eq_none hge] at hh;cases hh
    rw [h.block g hlt (hC g rfl) (by rcases hr with h0 | h0; · cases h0
                                     · exact h0)]
    exact hh
end
/-! ### Short names for scripts of regions that draw (a claim's size) -/
theorem nA.{u} : type_of% @List.setIfInBounds_toArray.{u}:=@List.setIfInBounds_toArray.{u}
theorem nB.{u} : type_of% @List.set_cons_succ.{u}:=@List.set_cons_succ.{u}
theorem nC.{u} : type_of% @List.set_cons_zero.{u}:=@List.set_cons_zero.{u}
theorem nD.{u} : type_of% @List.getElem_toArray.{u}:=@List.getElem_toArray.{u}
theorem nE.{u} : type_of% @List.getElem_cons_succ.{u}:=@List.getElem_cons_succ.{u}
theorem nF.{u} : type_of% @List.getElem_cons_zero.{u}:=@List.getElem_cons_zero.{u}
/-- A step of a region that draws,in the text's order: what a script says at each. -/
theorem wtk {P : Program} {md : Region.Mode} {ops : Array Oper} {Q : Exit → Act → World → Prop} {S : World → Prop} {oi : Oper} {v : Value} {fuel : Nat} {listed : Array Bool} {a : Act} {w : World} (i : Nat) (hi : ops[i]? = some oi)
    (hy : YieldsIf P ops S oi v a) (h : wpAnyH P md ops Q S fuel (listed.setIfInBounds i true) (a.put oi.dst v) w)
    (hs : Region.noSelect ops = true:=by kernel_rfl) (hf : Region.free md ops listed i = true:=by kernel_rfl) (hr : (Region.ready md ops listed).contains i = true:=by kernel_rfl)
    (hQ : ∀ c a w,Q (.panic c) (a.put oi.dst v) w → Q (.panic c) a w:=by exact fun _ _ _ h => h) (hS : S w:=by assumption) : wpAnyH P md ops Q S (fuel + 1) listed a w :=
  wpAnyH_take hi hs hf hr hQ hy hS h
end
section
set_option linter.unusedVariables false
set_option linter.unusedSimpArgs false
open Go.RowKit
theorem toList_mk (a : Bytes) : (ByteArray.mk a.toArray).toList = a := by
  rw [ByteArray.toList_eq]
theorem ba_injM (a s : Bytes) : (ByteArray.mk a.toArray = ByteArray.mk s.toArray) ↔ a = s := by
  constructor
  · intro h
    injection h with h
    simpa using h
  · intro h;rw [h]
theorem sameKey_str (a b : Bytes) : sameKey (.string ⟨a.toArray⟩) (.string ⟨b.toArray⟩) = decide (a = b) := by
  show (ByteArray.mk a.toArray == ByteArray.mk b.toArray) = decide (a = b)
  rw [beq_toListBytes,toList_mk,toList_mk]
  by_cases h : a = b <;> simp [h]
/-- Block b laid anew. -/
def setB (w : World) (b : Nat) (o : Obj) : World:={ w with heap:=w.heap.setIfInBounds b o }
theorem setB_size (w : World) (b : Nat) (o : Obj) : (setB w b o).heap.size = w.heap.size:=by simp [setB]
theorem setB_new (w : World) (b : Nat) (o : Obj) (h : b < w.heap.size) : (setB w b o).heap[b]? = some o:=by simp [setB,h]
theorem setB_other (w : World) (b k : Nat) (o : Obj) (h : k ≠ b) : (setB w b o).heap[k]? = w.heap[k]? := by
  show (w.heap.setIfInBounds b o)[k]? = _
  rw [Array.getElem?_setIfInBounds]
  simp [Ne.symm h]
theorem setB_cell (w : World) (b : Nat) (o : Obj) (p : Addr) (h : p.block ≠ b) : (setB w b o).cell? p = w.cell? p := by
  unfold World.cell?
  rw [setB_other w b p.block o h]
theorem setB_frozen (w : World) (b : Nat) (o : Obj) (p : Addr) (h : p.block ≠ b) : (setB w b o).frozen? p = w.frozen? p := by
  unfold World.frozen?
  rw [setB_other w b p.block o h]
theorem Below.setB {B : Nat} {w w' : World} (h : Below B w w') {b : Nat} (hb : B ≤ b) (o : Obj) : Below B w (setB w' b o) :=
  ⟨h.os,h.tape,h.output,by rw [setB_size];exact h.size,fun k hk => by rw [setB_other w' b k o (by omega)];exact h.block k hk⟩
attribute [irreducible] setB
/-- The entries: each text's place. -/
def atL : List Bytes → Nat → List MapEntry
  | [],_ => []
  | s :: r,i => ⟨.string ⟨s.toArray⟩, .int .i64 i,i⟩ :: atL r (i + 1)
def atMap (l : List Bytes) : Array MapEntry:=(atL l 0).toArray
def atV (l : List Bytes) (s : Bytes) : Int:=if l.contains s then (l.idxOf s : Int) else 0
theorem atL_snoc : ∀ (l : List Bytes) (s : Bytes) (i : Nat),atL (l ++ [s]) i = atL l i ++ [⟨.string ⟨s.toArray⟩, .int .i64 (i + l.length : Nat),i + l.length⟩]
  | [],s,i => by simp [atL]
  | a :: r,s,i => by
    simp only [List.cons_append,atL,List.length_cons]
    rw [atL_snoc r s (i + 1),show i + 1 + r.length = i + (r.length + 1) by omega]
theorem atL_keys : ∀ (l : List Bytes) (i : Nat),∀ e ∈ atL l i,KeyOk .string e.key
  | [],_,e,he => by simp [atL] at he
  | a :: r,i,e,he => by
    simp only [atL,List.mem_cons] at he
    rcases he with rfl | he
    · exact KeyOk.str _
    · exact atL_keys r (i + 1) e he
theorem atL_find : ∀ (l : List Bytes) (s : Bytes) (i j : Nat),((findE (.string ⟨s.toArray⟩) (atL l i) j).map (·.2)).getD (.int .i64 0) = .int .i64 (if l.contains s then ((i + l.idxOf s : Nat) : Int) else 0) ∧ (findE (.string ⟨s.toArray⟩) (atL l i) j).isSome = l.contains s
  | [],s,i,j => by simp [atL,findE]
  | a :: r,s,i,j => by
    have ih:=atL_find r s (i + 1) (j + 1)
    simp only [atL,findE,sameKey_str,decide_eq_true_eq,List.contains_cons,List.idxOf_cons]
    by_cases h : s = a
    · subst h;simp
    · have h1 : (s == a) = false := beq_false_of_ne h
      have h2 : (a == s) = false:=beq_false_of_ne (Ne.symm h)
      rw [if_neg h,h1,h2,Bool.false_or]
      refine ⟨ih.1.trans ?_,ih.2⟩
      by_cases hc : r.contains s = true
      · rw [if_pos hc,if_pos hc];simp;omega
      · rw [if_neg hc,if_neg hc]
section
variable {P : Program} {T K E : TypeId}
theorem run_at_look (hT : P.underlying T = some (.map K E)) (hK : P.underlying K = some .string) (hz : ∀ w,(zeroValue E).run P w = .ok (.int .i64 0) w) (W : World) (g c : Nat) (l : List Bytes) (s : Bytes) (hb : W.heap[g]? = some (.map (atMap l) c)) :
    (Instr.lookup T (.map (some g)) (.string ⟨s.toArray⟩) true).run P W = .ok (.tuple #[.int .i64 (atV l s), .bool (l.contains s)]) W:=by
  have h:=run_lookup_ok (k:=.string ⟨s.toArray⟩) hT hK (KeyOk.str _) (fun e he => atL_keys l 0 e (by simpa [atMap] using he)) (hz W) hb
  have hf:=atL_find l s 0 0
  refine h.trans ?_
  have e : (atMap l).toList = atL l 0:=by simp [atMap]
  rw [e,hf.1,hf.2,Nat.zero_add]
  rfl
theorem run_at_put (hT : P.underlying T = some (.map K E)) (hK : P.underlying K = some .string) (W : World) (g : Nat) (l : List Bytes) (s : Bytes) (hb : W.heap[g]? = some (.map (atMap l) l.length)) (hn : l.contains s = false) :
    (Instr.mapUpdate T (.map (some g)) (.string ⟨s.toArray⟩) (.int .i64 (l.length : Nat))).run P W = .ok () (setB W g (.map (atMap (l ++ [s])) (l ++ [s]).length)):=by
  have hf:=(atL_find l s 0 0).2
  rw [hn] at hf
  have e : (atMap l).toList = atL l 0:=by simp [atMap]
  have h := run_mapUpdate_new (k := .string ⟨s.toArray⟩) (v := .int .i64 (l.length : Nat)) hT hK (KeyOk.str _) (fun x he => atL_keys l 0 x (by rw [← e]; exact he)) (by rw [e]; cases hh : findE (.string ⟨s.toArray⟩) (atL l 0) 0 with
    | none => rfl
    | some _ => rw [hh] at hf;cases hf) hb
  refine h.trans ?_
  unfold setB
  congr 3
  have e2:=atL_snoc l s 0
  rw [Nat.zero_add] at e2
  simp only [atMap,e2,List.length_append,List.length_cons,List.length_nil]
  congr 1
  simp
end
end
section
set_option linter.unusedVariables false
set_option linter.unusedSimpArgs false
set_option maxRecDepth 100000
open Go.RowKit
def CalL.cells (c : CalL) : List Value:=[.string ⟨c.name.toArray⟩, .int .i64 c.kind, .int .i64 c.day, .int .i64 c.month, .int .i64 c.shift, .int .i64 c.shape, .int .i64 c.p0, .int .i64 c.p1, .int .i64 c.p2, .int .i64 c.cycle, .int .i64 c.extra, .int .i64 c.first, .int .i64 c.last, .int .i64 c.policy]
def calV (c : CalL) : Value:=.agg #[.string ⟨c.name.toArray⟩, .int .i64 c.kind, .int .i64 c.day, .int .i64 c.month, .int .i64 c.shift, .int .i64 c.shape, .int .i64 c.p0, .int .i64 c.p1, .int .i64 c.p2, .int .i64 c.cycle, .int .i64 c.extra, .int .i64 c.first, .int .i64 c.last, .int .i64 c.policy]
theorem field_between (n a b : Int) (w : World) : Calls Try.prog 48 #[.int .i64 n, .int .i64 a, .int .i64 b] w fun e w' => e = .returned (.bool (tween n a b)) ∧ w = w' := by
  unfold tween
  by_cases h1 : a ≤ n
  · by_cases h2 : n ≤ b
    · rw [decide_eq_true h1,decide_eq_true h2]
      go_enter Try.func48,Try.ntmps48
      go_wp2_with fail
      go_ret
      exact ⟨rfl,rfl⟩
    · rw [decide_eq_true h1,decide_eq_false h2]
      go_enter Try.func48,Try.ntmps48
      go_wp2_with fail
      go_ret
      exact ⟨rfl,rfl⟩
  · rw [decide_eq_false h1]
    go_enter Try.func48,Try.ntmps48
    go_wp2_with fail
    go_ret
    exact ⟨rfl,rfl⟩
theorem quo52 (c : Int) (h : 0 < c) : IntKind.i64.wrap (Int.tdiv 52 c) = 52 / c := by
  rw [wrap_i64_tdiv 52 c (by omega) (by omega) (by omega),Int.tdiv_eq_ediv_of_nonneg (by omega)]
theorem field_many (s c : Int) (w : World) : Calls Try.prog 93 #[.int .i64 s, .int .i64 c] w fun e w' => e = .returned (.int .i64 (manyC s c)) ∧ w = w' := by
  unfold manyC
  by_cases h2 : s = 2
  · subst h2
    rw [if_pos rfl]
    go_enter Try.func93,Try.ntmps93
    go_wp2_with fail
    go_ret
    exact ⟨rfl,rfl⟩
  rw [if_neg h2]
  have k2 : (s == 2) = false:=beq_false_of_ne h2
  by_cases h3 : s = 3
  · subst h3
    by_cases hc : 0 < c
    · rw [if_pos ⟨rfl,hc⟩]
      have q:=quo52 c hc
      have c0 : (c == 0) = false:=beq_false_of_ne (by omega)
      have c1 : c ≠ 0:=by omega
      go_enter Try.func93,Try.ntmps93
      go_wp2_with fail
      go_ret
      exact ⟨rfl,rfl⟩
    · rw [if_neg (fun h => hc h.2),if_pos (by omega)]
      go_enter Try.func93,Try.ntmps93
      go_wp2_with fail
      go_ret
      exact ⟨rfl,rfl⟩
  · rw [if_neg (fun h => h3 h.1)]
    have k3 : (s == 3) = false:=beq_false_of_ne h3
    by_cases h1 : 1 ≤ s
    · by_cases h5 : s ≤ 5
      · rw [if_pos ⟨h1,h5⟩]
        go_enter Try.func93,Try.ntmps93
        go_wp2_with fail
        go_ret
        exact ⟨rfl,rfl⟩
      · rw [if_neg (fun h => h5 h.2)]
        go_enter Try.func93,Try.ntmps93
        go_wp2_with fail
        go_ret
        exact ⟨rfl,rfl⟩
    · rw [if_neg (fun h => h1 h.1)]
      go_enter Try.func93,Try.ntmps93
      go_wp2_with fail
      go_ret
      exact ⟨rfl,rfl⟩
/-- What fixed tells. -/
def fixedR (k : Int) : CalL × Bool:=if k = 3 then (nrfC,true) else if k = 4 then (broadC,true) else (calZ,false)
theorem field_fixed (k : Int) (w : World) : Calls Try.prog 77 #[.int .i64 k] w fun e w' => e = .returned (.tuple #[calV (fixedR k).1, .bool (fixedR k).2]) ∧ Below w.heap.size w w' := by
  unfold fixedR
  by_cases h3 : k = 3
  · subst h3
    rw [if_pos rfl]
    go_enter Try.func77,Try.ntmps77
    go_wp2_with fail
    refine bodyPost_ret (v:=.tuple #[calV nrfC, .bool true]) (by simp [results,calV,nrfC,Try.results77,go_sem, *]) rfl ⟨rfl,?_⟩
    (repeat (first | exact Below.refl _ _ | assumption | refine Below.setCell ?_ (by first | (simp;done) | (simp;omega) | omega) _ | refine Below.alloc ?_ (by first | (simp;done) | (simp;omega) | omega) _ | refine Below.drew ?_ | refine below_drewN ?_ _ | refine Below.trans ?_ (Below.mono (by assumption) (by first | (simp;done) | (simp;omega) | omega))))
  rw [if_neg h3]
  have k3 : (k == 3) = false:=beq_false_of_ne h3
  by_cases h4 : k = 4
  · subst h4
    rw [if_pos rfl]
    go_enter Try.func77,Try.ntmps77
    go_wp2_with fail
    refine bodyPost_ret (v:=.tuple #[calV broadC, .bool true]) (by simp [results,calV,broadC,Try.results77,go_sem, *]) rfl ⟨rfl,?_⟩
    (repeat (first | exact Below.refl _ _ | assumption | refine Below.setCell ?_ (by first | (simp;done) | (simp;omega) | omega) _ | refine Below.alloc ?_ (by first | (simp;done) | (simp;omega) | omega) _ | refine Below.drew ?_ | refine below_drewN ?_ _ | refine Below.trans ?_ (Below.mono (by assumption) (by first | (simp;done) | (simp;omega) | omega))))
  rw [if_neg h4]
  have k4 : (k == 4) = false:=beq_false_of_ne h4
  go_enter Try.func77,Try.ntmps77
  go_wp2_with fail
  refine bodyPost_ret (v:=.tuple #[calV calZ, .bool false]) (by simp [results,calV,calZ,Try.results77,go_sem, *]) rfl ⟨rfl,?_⟩
  (repeat (first | exact Below.refl _ _ | assumption | refine Below.setCell ?_ (by first | (simp;done) | (simp;omega) | omega) _ | refine Below.alloc ?_ (by first | (simp;done) | (simp;omega) | omega) _ | refine Below.drew ?_ | refine below_drewN ?_ _ | refine Below.trans ?_ (Below.mono (by assumption) (by first | (simp;done) | (simp;omega) | omega))))
theorem und_pat : Try.prog.underlying 29 = some (.array 3 3):=by kernel_rfl
theorem info_int : ∃ i,Try.prog.info? 3 = some i := by
  have h : (Try.prog.info? 3).isSome = true:=by kernel_rfl
  exact Option.isSome_iff_exists.1 h
theorem cells_int : Try.prog.cellsOf 3 = 1:=by kernel_rfl
theorem run_eqPat (W : World) (a b c d e f : Int) : (binOp .eql 29 (.agg #[.int .i64 a, .int .i64 b, .int .i64 c]) (.agg #[.int .i64 d, .int .i64 e, .int .i64 f])).run Try.prog W = .ok (.bool (decide (a = d) && decide (b = e) && decide (c = f))) W := by
  obtain ⟨i,hi⟩:=info_int
  rw [run_eql_struct,run_equalIn_array W 9999 _ _ und_pat hi,cells_int]
  have h3 : List.range 3 = [0,1,2]:=rfl
  rw [h3]
  by_cases h1 : a = d <;> by_cases h2 : b = e <;> by_cases h3 : c = f <;> simp [go_sem,h1,h2,h3,Op.eqItems]
end
end Go.Proofs.Ytjbniichcopnlaa
