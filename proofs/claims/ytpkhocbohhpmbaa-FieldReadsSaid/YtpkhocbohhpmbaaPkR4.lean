/- Layer 9 (tree): items in memory. Then: Worlds that differ in some cells, and in one row, of what was there. -/
import Derived.Test.YtpkhocbohhpmbaaPkR3
import Derived.OrdersHeld
import Derived.Laws.OwnMore
import Derived.Deep.AppendLies
namespace Go.Proofs.Ytpkhocbohhpmbaa
section
open Go.RowKit
def WordL.cells (w : WordL) : List Value:=[.bool w.num, .int .i64 w.n, .string ⟨w.s.toArray⟩, .int .i64 w.pos]
theorem wcells_length (l : List WordL) : (l.flatMap WordL.cells).length = l.length * 4 := by
  induction l with
  | nil => rfl
  | cons t l ih => simp only [List.flatMap_cons,List.length_append,ih,List.length_cons,WordL.cells,List.length_nil];omega
/-- The slice with the address A,of n elements of so many cells each,reads as the cells xs,in blocks of M. -/
def ReadsM (w : World) (M : Nat → Prop) (size : Nat) (A : Option Addr) (n : Nat) (xs : List Value) : Prop :=
  xs.length = n * size ∧ (0 < n → ∃ ad,A = some ad ∧ M ad.block ∧ ∀ j u,xs[j]? = some u → w.cell? (ad.add j) = some u)
theorem ReadsM.keep {w w' : World} {M M' : Nat → Prop} {size : Nat} {A : Option Addr} {n : Nat} {xs : List Value} (h : ReadsM w M size A n xs)
    (hm : ∀ b,M b → M' b) (hk : ∀ p : Addr,M p.block → w'.cell? p = w.cell? p) : ReadsM w' M' size A n xs :=
  ⟨h.1,fun hn => by
    obtain ⟨ad,e,hb,hc⟩:=h.2 hn
    exact ⟨ad,e,hm _ hb,fun j u hu => (hk _ (by rw [block_of_add];exact hb)).trans (hc j u hu)⟩⟩
theorem ReadsM.reads {w : World} {B size : Nat} {A : Option Addr} {n : Nat} {xs : List Value} (h : ReadsM w (· < B) size A n xs) : Reads w B size A n xs:=h
theorem ReadsM.nil (w : World) (M : Nat → Prop) (size : Nat) (A : Option Addr) : ReadsM w M size A 0 []:=⟨by simp,fun h => absurd h (by omega)⟩
/-- A nil slice has no room. -/
def NilOk (A : Option Addr) (c : Nat) : Prop:=A = none → c = 0
mutual
/-- The five cells read as the item,all it leads to in blocks of M. -/
def NodeOk (w : World) (M : Nat → Prop) : NodeL → List Value → Prop
  | .mk nm p ws b ks,cs => ∃ Aw cw Ak ck kcs,cs = [.string ⟨nm.toArray⟩, .int .i64 p, .slice Aw ws.length cw, .bool b, .slice Ak ks.length ck] ∧
      NilOk Aw cw ∧ NilOk Ak ck ∧ ReadsM w M 4 Aw ws.length (ws.flatMap WordL.cells) ∧ ReadsM w M 5 Ak ks.length kcs ∧ NodesOk w M ks kcs
/-- The cells read as items. -/
def NodesOk (w : World) (M : Nat → Prop) : List NodeL → List Value → Prop
  | [],cs => cs = []
  | n :: r,cs => ∃ a b,cs = a ++ b ∧ NodeOk w M n a ∧ NodesOk w M r b
end
theorem NodeOk.len {w : World} {M : Nat → Prop} {n : NodeL} {cs : List Value} (h : NodeOk w M n cs) : cs.length = 5 := by
  cases n with
  | mk nm p ws b ks =>
    simp only [NodeOk] at h
    obtain ⟨_,_,_,_,_,rfl,_⟩:=h
    rfl
theorem NodesOk.len {w : World} {M : Nat → Prop} : ∀ {l : List NodeL} {cs : List Value},NodesOk w M l cs → cs.length = l.length * 5
  | [],cs,h => by simp only [NodesOk] at h;subst h;rfl
  | n :: r,cs,h => by
    simp only [NodesOk] at h
    obtain ⟨a,b,rfl,h1,h2⟩:=h
    have e1:=NodeOk.len h1
    have e2:=NodesOk.len h2
    rw [List.length_append,e1,e2,List.length_cons];omega
mutual
theorem NodeOk.keep {w w' : World} {M M' : Nat → Prop} (hm : ∀ b,M b → M' b) (hk : ∀ p : Addr,M p.block → w'.cell? p = w.cell? p) : ∀ (n : NodeL) (cs : List Value),NodeOk w M n cs → NodeOk w' M' n cs
  | .mk nm p ws b ks,cs,h => by
    simp only [NodeOk] at h ⊢
    obtain ⟨Aw,cw,Ak,ck,kcs,h1,h2,h3,h4,h5,h6⟩:=h
    exact ⟨Aw,cw,Ak,ck,kcs,h1,h2,h3,h4.keep hm hk,h5.keep hm hk,NodesOk.keep hm hk ks kcs h6⟩
theorem NodesOk.keep {w w' : World} {M M' : Nat → Prop} (hm : ∀ b,M b → M' b) (hk : ∀ p : Addr,M p.block → w'.cell? p = w.cell? p) : ∀ (l : List NodeL) (cs : List Value),NodesOk w M l cs → NodesOk w' M' l cs
  | [],cs,h => by simpa only [NodesOk] using h
  | n :: r,cs,h => by
    simp only [NodesOk] at h ⊢
    obtain ⟨a,b,h1,h2,h3⟩:=h
    exact ⟨a,b,h1,NodeOk.keep hm hk n a h2,NodesOk.keep hm hk r b h3⟩
end
theorem NodesOk.append {w : World} {M : Nat → Prop} : ∀ {l m : List NodeL} {cs ds : List Value},NodesOk w M l cs → NodesOk w M m ds → NodesOk w M (l ++ m) (cs ++ ds)
  | [],m,cs,ds,h,h' => by simp only [NodesOk] at h;subst h;exact h'
  | n :: r,m,cs,ds,h,h' => by
    simp only [NodesOk] at h
    obtain ⟨a,b,rfl,h2,h3⟩:=h
    simp only [List.cons_append,NodesOk]
    exact ⟨a,b ++ ds,by rw [List.append_assoc],h2,NodesOk.append h3 h'⟩
theorem NodesOk.one {w : World} {M : Nat → Prop} {n : NodeL} {cs : List Value} (h : NodeOk w M n cs) : NodesOk w M [n] cs := by
  simp only [NodesOk]
  exact ⟨cs,[],by simp,h,rfl⟩
/-- The cells of item i. -/
theorem NodesOk.at {w : World} {M : Nat → Prop} : ∀ {l : List NodeL} {cs : List Value},NodesOk w M l cs → ∀ (i : Nat) (n : NodeL),l[i]? = some n →
    ∃ a,NodeOk w M n a ∧ ∀ j,j < 5 → cs[i * 5 + j]? = a[j]?
  | [],_,_,i,n,hi => by simp at hi
  | x :: r,cs,h,i,n,hi => by
    simp only [NodesOk] at h
    obtain ⟨a,b,rfl,h2,h3⟩:=h
    have hl:=h2.len
    cases i with
    | zero =>
      simp only [List.getElem?_cons_zero,Option.some.injEq] at hi
      subst hi
      exact ⟨a,h2,fun j hj => by rw [Nat.zero_mul,Nat.zero_add,List.getElem?_append_left (by omega)]⟩
    | succ i =>
      obtain ⟨c,h4,h5⟩:=NodesOk.at h3 i n (by simpa using hi)
      refine ⟨c,h4,fun j hj => ?_⟩
      rw [List.getElem?_append_right (by rw [hl];omega),hl,← h5 j hj]
      congr 1
      omega
/-- The cells that the walk reads of item i of a slice. -/
theorem node_cells {w : World} {M : Nat → Prop} {A : Option Addr} {l : List NodeL} {cs : List Value} (h : ReadsM w M 5 A l.length cs) (hn : NodesOk w M l cs) (i : Nat) (n : NodeL) (hi : l[i]? = some n) :
    ∃ ad Aw cw Ak ck kcs,A = some ad ∧ M ad.block ∧ w.cell? (ad.add (i * 5)) = some (.string ⟨n.name.toArray⟩) ∧ w.cell? ⟨(ad.add (i * 5)).block,(ad.add (i * 5)).off + 1,none⟩ = some (.int .i64 n.pos) ∧
      w.cell? ⟨(ad.add (i * 5)).block,(ad.add (i * 5)).off + 2,none⟩ = some (.slice Aw n.words.length cw) ∧ w.cell? ⟨(ad.add (i * 5)).block,(ad.add (i * 5)).off + 3,none⟩ = some (.bool n.block) ∧
      w.cell? ⟨(ad.add (i * 5)).block,(ad.add (i * 5)).off + 4,none⟩ = some (.slice Ak n.kids.length ck) ∧
      NilOk Aw cw ∧ NilOk Ak ck ∧ ReadsM w M 4 Aw n.words.length (n.words.flatMap WordL.cells) ∧ ReadsM w M 5 Ak n.kids.length kcs ∧ NodesOk w M n.kids kcs:=by
  have hlt : i < l.length:=(List.getElem?_eq_some_iff.1 hi).1
  obtain ⟨ad,rfl,hb,hc⟩:=h.2 (by omega)
  obtain ⟨a,ha,hg⟩:=hn.at i n hi
  obtain ⟨nm,p,ws,b,ks⟩:=n
  simp only [NodeOk] at ha
  obtain ⟨Aw,cw,Ak,ck,kcs,rfl,h2,h3,h4,h5,h6⟩:=ha
  have hs : ∀ j,j ≠ 0 → ad.add (i * 5 + j) = ⟨(ad.add (i * 5)).block,(ad.add (i * 5)).off + j,none⟩ := fun j hj => by
    rw [← add_of_add];unfold Addr.add;rw [if_neg hj]
  exact ⟨ad,Aw,cw,Ak,ck,kcs,rfl,hb,hc _ _ (hg 0 (by omega)),hs 1 (by omega) ▸ hc _ _ (hg 1 (by omega)),hs 2 (by omega) ▸ hc _ _ (hg 2 (by omega)),
    hs 3 (by omega) ▸ hc _ _ (hg 3 (by omega)),hs 4 (by omega) ▸ hc _ _ (hg 4 (by omega)),h2,h3,h4,h5,h6⟩
theorem wflat_get (l : List WordL) (i : Nat) (t : WordL) (h : l[i]? = some t) : ∀ j,j < 4 → (l.flatMap WordL.cells)[i * 4 + j]? = t.cells[j]? := by
  induction l generalizing i with
  | nil => simp at h
  | cons a l ih =>
    intro j hj
    rw [List.flatMap_cons]
    cases i with
    | zero =>
      simp only [List.getElem?_cons_zero,Option.some.injEq] at h
      subst h
      rw [List.getElem?_append_left (by simp [WordL.cells];omega)]
      simp
    | succ i =>
      rw [List.getElem?_append_right (by simp [WordL.cells];omega)]
      have : (i + 1) * 4 + j - a.cells.length = i * 4 + j:=by simp [WordL.cells];omega
      rw [this]
      exact ih i (by simpa using h) j hj
/-- The four cells of word i. -/
theorem word_cells {w : World} {M : Nat → Prop} {A : Option Addr} {l : List WordL} (h : ReadsM w M 4 A l.length (l.flatMap WordL.cells)) (i : Nat) (t : WordL) (hi : l[i]? = some t) :
    ∃ ad,A = some ad ∧ M ad.block ∧ w.cell? (ad.add (i * 4)) = some (.bool t.num) ∧ w.cell? ⟨(ad.add (i * 4)).block,(ad.add (i * 4)).off + 1,none⟩ = some (.int .i64 t.n) ∧
      w.cell? ⟨(ad.add (i * 4)).block,(ad.add (i * 4)).off + 2,none⟩ = some (.string ⟨t.s.toArray⟩) ∧ w.cell? ⟨(ad.add (i * 4)).block,(ad.add (i * 4)).off + 3,none⟩ = some (.int .i64 t.pos):=by
  have hlt : i < l.length:=(List.getElem?_eq_some_iff.1 hi).1
  obtain ⟨ad,rfl,hb,hc⟩:=h.2 (by omega)
  have hg:=wflat_get l i t hi
  have hs : ∀ j,j ≠ 0 → ad.add (i * 4 + j) = ⟨(ad.add (i * 4)).block,(ad.add (i * 4)).off + j,none⟩ := fun j hj => by
    rw [← add_of_add];unfold Addr.add;rw [if_neg hj]
  exact ⟨ad,rfl,hb,hc _ _ (hg 0 (by omega)),hs 1 (by omega) ▸ hc _ _ (hg 1 (by omega)),hs 2 (by omega) ▸ hc _ _ (hg 2 (by omega)),hs 3 (by omega) ▸ hc _ _ (hg 3 (by omega))⟩
end
section
open Go.RowKit
/-- Of what lay in w,only the cells of C,and the row's block,differ in w'. -/
structure Step (w w' : World) (C : List (Nat × Nat)) (row : Option Nat) : Prop where
  os : w'.os = w.os
  tape : w'.tape = w.tape
  output : w'.output = w.output
  size : w.heap.size ≤ w'.heap.size
  block : ∀ k,k < w.heap.size → (∀ j,(k,j) ∉ C) → some k ≠ row → w'.heap[k]? = w.heap[k]?
  cell : ∀ k,k < w.heap.size → some k ≠ row → ∀ j,(k,j) ∉ C → w'.cell? ⟨k,j,none⟩ = w.cell? ⟨k,j,none⟩
  froz : ∀ k,k < w.heap.size → some k ≠ row → ∀ j,w'.frozen? ⟨k,j,none⟩ = w.frozen? ⟨k,j,none⟩
  shape : ∀ k,k < w.heap.size → some k ≠ row → ∀ cs t f,w.heap[k]? = some (.cells cs t f) → ∃ cs',w'.heap[k]? = some (.cells cs' t f)
section
variable {w w' w2 : World} {C : List (Nat × Nat)} {row : Option Nat}
theorem Step.refl (w : World) (C : List (Nat × Nat)) (row : Option Nat) : Step w w C row :=
  ⟨rfl,rfl,rfl,Nat.le_refl _,fun _ _ _ _ => rfl,fun _ _ _ _ _ => rfl,fun _ _ _ _ => rfl,fun _ _ _ cs _ _ h => ⟨cs,h⟩⟩
theorem Step.drew (h : Step w w' C row) : Step w w'.drew C row:=⟨h.os,h.tape,h.output,h.size,h.block,h.cell,h.froz,h.shape⟩
theorem Step.alloc (h : Step w w' C row) (o : Obj) : Step w (w'.alloc o) C row :=
  ⟨h.os,h.tape,h.output,by have := h.size; simp; omega,
    fun k hk hC hr => by
      have:=h.size
      rw [show (w'.alloc o).heap[k]? = w'.heap[k]? from Go.heap_alloc_old w' o (by omega)]
      exact h.block k hk hC hr,
    fun k hk hr j hj => by
      have:=h.size
      rw [World.cell?_alloc_lt w' o ⟨k,j,none⟩ (by show k < _;omega)]
      exact h.cell k hk hr j hj,
    fun k hk hr j => by
      have:=h.size
      rw [World.frozen?_alloc_old w' o ⟨k,j,none⟩ (by show k ≠ _;omega)]
      exact h.froz k hk hr j,
    fun k hk hr cs t f hh => by
      have:=h.size
      obtain ⟨cs',h'⟩:=h.shape k hk hr cs t f hh
      exact ⟨cs',(show (w'.alloc o).heap[k]? = w'.heap[k]? from Go.heap_alloc_old w' o (by omega)).trans h'⟩⟩
theorem Step.setCell (h : Step w w' C row) {b o : Nat} (hb : w.heap.size ≤ b ∨ (b,o) ∈ C ∨ some b = row) (u : Value) : Step w (w'.setCell ⟨b,o,none⟩ u) C row :=
  ⟨h.os,h.tape,h.output,by simpa using h.size,
    fun k hk hC hr => by
      rw [Go.heap_setCell_other w' ⟨b,o,none⟩ k u (by
        show k ≠ b
        intro e;subst e
        rcases hb with hb | hb | hb
        · omega
        · exact hC _ hb
        · exact hr hb)]
      exact h.block k hk hC hr,
    fun k hk hr j hj => by
      rw [World.cell?_setCell_other w' ⟨b,o,none⟩ ⟨k,j,none⟩ u (by
        intro e
        simp only [Addr.mk.injEq,and_true] at e
        obtain ⟨rfl,rfl⟩:=e
        rcases hb with hb | hb | hb
        · omega
        · exact hj hb
        · exact hr hb)]
      exact h.cell k hk hr j hj,
    fun k hk hr j => by
      rw [World.frozen?_setCell]
      exact h.froz k hk hr j,
    fun k hk hr cs t f hh => by
      obtain ⟨cs',h'⟩:=h.shape k hk hr cs t f hh
      by_cases hkb : k = b
      · subst hkb
        exact ⟨cs'.setIfInBounds o u,by simp [World.setCell,Array.getElem?_modify,h']⟩
      · exact ⟨cs',(Go.heap_setCell_other w' ⟨b,o,none⟩ k u hkb).trans h'⟩⟩
theorem Step.grown (h : Step w w' C row) {row' : Option Nat} (hg : w'.grownBy w2 row') (hr' : ∀ k,row' = some k → some k = row ∨ w.heap.size ≤ k) : Step w w2 C row := by
  have hs:=h.size
  have hn : ∀ k,k < w.heap.size → some k ≠ row → some k ≠ row' := fun k hk hr e => by
    rcases hr' k e.symm with h1 | h1
    · exact hr h1
    · omega
  refine ⟨hg.os.trans h.os,hg.tape.trans h.tape,hg.output.trans h.output,Nat.le_trans h.size hg.size,fun k hk hC hr => ?_,fun k hk hr j hj => ?_,fun k hk hr j => ?_,fun k hk hr cs t f hh => ?_⟩
  · exact (hg.block k (by omega) (hn k hk hr)).trans (h.block k hk hC hr)
  · exact (hg.cell_far ⟨k,j,none⟩ (by show k < _;omega) (hn k hk hr)).trans (h.cell k hk hr j hj)
  · exact (hg.frozen_far ⟨k,j,none⟩ (by show k < _;omega) (hn k hk hr)).trans (h.froz k hk hr j)
  · obtain ⟨cs',h'⟩ := h.shape k hk hr cs t f hh
    exact ⟨cs',(hg.block k (by omega) (hn k hk hr)).trans h'⟩
theorem Step.below (h : Step w w' C row) (hb : Below w'.heap.size w' w2) : Step w w2 C row := by
  have hs:=h.size
  refine ⟨hb.os.trans h.os,hb.tape.trans h.tape,hb.output.trans h.output,Nat.le_trans h.size hb.size,fun k hk hC hr => ?_,fun k hk hr j hj => ?_,fun k hk hr j => ?_,fun k hk hr cs t f hh => ?_⟩
  · exact (hb.block k (by omega)).trans (h.block k hk hC hr)
  · exact (hb.cell (p:=⟨k,j,none⟩) (by show k < _;omega)).trans (h.cell k hk hr j hj)
  · exact (hb.frozen (p:=⟨k,j,none⟩) (by show k < _;omega)).trans (h.froz k hk hr j)
  · obtain ⟨cs',h'⟩ := h.shape k hk hr cs t f hh
    exact ⟨cs',(hb.block k (by omega)).trans h'⟩
theorem Step.own (h : Step w w' C row) {base : Nat} {e : TypeId} {size n : Nat} {v : Value} {xs : List Value} (ho : w.ownsRow base e size v n xs) (hC : ∀ k,v.ownBlock = some k → ∀ j,(k,j) ∉ C) (hr : v.ownBlock = none ∨ v.ownBlock ≠ row) :
    w'.ownsRow base e size v n xs:=by
  refine ⟨ho.1,?_⟩
  rcases ho.2 with h2 | ⟨g,cap,cur,hv,hg,hh,r⟩
  · exact Or.inl h2
  · subst hv
    refine Or.inr ⟨g,cap,cur,rfl,hg,?_,r⟩
    have hlt : g < w.heap.size := by
      rcases Nat.lt_or_ge g w.heap.size with hlt | hge
      · exact hlt
      · rw [Array.getElem?_eq_none hge] at hh;cases hh
    rw [h.block g hlt (hC g rfl) (by rcases hr with h0 | h0; · cases h0
                                     · exact h0)]
    exact hh
end
/-! ### Short names for scripts of regions that draw (a claim's size) -/
theorem nA.{u} : type_of% @List.setIfInBounds_toArray.{u}:=@List.setIfInBounds_toArray.{u}
theorem nB.{u} : type_of% @List.set_cons_succ.{u}:=@List.set_cons_succ.{u}
theorem nC.{u} : type_of% @List.set_cons_zero.{u}:=@List.set_cons_zero.{u}
theorem nD.{u} : type_of% @List.getElem_toArray.{u}:=@List.getElem_toArray.{u}
theorem nE.{u} : type_of% @List.getElem_cons_succ.{u}:=@List.getElem_cons_succ.{u}
theorem nF.{u} : type_of% @List.getElem_cons_zero.{u}:=@List.getElem_cons_zero.{u}
/-- A step of a region that draws,in the text's order: what a script says at each. -/
theorem wtk {P : Program} {md : Region.Mode} {ops : Array Oper} {Q : Exit → Act → World → Prop} {S : World → Prop} {oi : Oper} {v : Value} {fuel : Nat} {listed : Array Bool} {a : Act} {w : World} (i : Nat) (hi : ops[i]? = some oi)
    (hy : YieldsIf P ops S oi v a) (h : wpAnyH P md ops Q S fuel (listed.setIfInBounds i true) (a.put oi.dst v) w)
    (hs : Region.noSelect ops = true:=by kernel_rfl) (hf : Region.free md ops listed i = true:=by kernel_rfl) (hr : (Region.ready md ops listed).contains i = true:=by kernel_rfl)
    (hQ : ∀ c a w,Q (.panic c) (a.put oi.dst v) w → Q (.panic c) a w:=by exact fun _ _ _ h => h) (hS : S w:=by assumption) : wpAnyH P md ops Q S (fuel + 1) listed a w :=
  wpAnyH_take hi hs hf hr hQ hy hS h
end
end Go.Proofs.Ytpkhocbohhpmbaa
