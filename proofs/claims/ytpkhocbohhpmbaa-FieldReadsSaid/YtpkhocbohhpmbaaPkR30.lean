/- Layer 11 (field), the reference's reading of a block, in plain Lean. No program in sight. Then: Layer 11 (field), the reference: what the ways of key share. -/
import Derived.Test.YtpkhocbohhpmbaaPkR25
import Derived.Test.YtpkhocbohhpmbaaPkR29
import Derived.Test.YtpkhocbohhpmbaaPkR21
import Derived.Deep.DeepCutAuto
import Derived.BigRegion
set_option linter.unusedSimpArgs false
namespace Go.Proofs.Ytpkhocbohhpmbaa
section
/-- What the end among keys says,put into a calendar. -/
def putEnd (nm : Bytes) (c : CalL) (l : List NodeL) : CalL:=l.foldl (fun c k => if k.name = b_end then (endK nm k.words).1 else c) c
def calN (nm : Bytes) : CalL:={ calZ with name:=nm }
/-- Whether an item's words are its key's. -/
def keyOkL (nm : Bytes) (k : NodeL) : Bool:=!(k.block || k.words.isEmpty || !(putK k.name (calN nm) k.words).2)
/-- The first item that may not be,by itself. -/
def passL (nm : Bytes) : List Bytes → List NodeL → Option (Int × Int)
  | _,[] => none
  | seen,k :: r =>
    if !keysL.contains k.name then some (k.pos,8)
    else if seen.contains k.name then some (k.pos,9)
    else if !keyOkL nm k then some (k.pos,5)
    else passL nm (seen ++ [k.name]) r
theorem pass_formed (nm : Bytes) : ∀ (l : List NodeL) (seen : List Bytes) (co : Option CalL),formedL nm seen co l = match passL nm seen l with
    | some x => .inl x
    | none => .inr (l.foldl (fun co k => if k.name = b_end then some (endK nm k.words).1 else co) co)
  | [],seen,co => rfl
  | k :: r,seen,co => by
    have ih:=pass_formed nm r (seen ++ [k.name]) (if k.name = b_end then some (putK k.name { calZ with name:=nm } k.words).1 else co)
    unfold formedL passL keyOkL calN
    rw [ih]
    by_cases h1 : (!keysL.contains k.name) = true
    · rw [if_pos h1,if_pos h1]
    · rw [if_neg h1,if_neg h1]
      by_cases h2 : seen.contains k.name = true
      · rw [if_pos h2,if_pos h2]
      · rw [if_neg h2,if_neg h2,Bool.not_not]
        by_cases h3 : (k.block || k.words.isEmpty || !(putK k.name { calZ with name:=nm } k.words).2) = true
        · rw [if_pos h3,if_pos h3]
        · rw [if_neg h3,if_neg h3,List.foldl_cons]
          by_cases h4 : k.name = b_end
          · simp only [h4,if_true,putK]
            try rfl
          · simp only [h4,if_false]
theorem end_some (nm : Bytes) : ∀ (l : List NodeL) (c : CalL),l.foldl (fun co k => if k.name = b_end then some (endK nm k.words).1 else co) (some c) = some (putEnd nm c l)
  | [],c => rfl
  | k :: r,c => by
    unfold putEnd
    rw [List.foldl_cons,List.foldl_cons]
    by_cases h : k.name = b_end
    · rw [if_pos h,if_pos h];exact end_some nm r _
    · rw [if_neg h,if_neg h];exact end_some nm r _
theorem end_none (nm : Bytes) (c : CalL) : ∀ (l : List NodeL),l.foldl (fun co k => if k.name = b_end then some (endK nm k.words).1 else co) none = if (l.map NodeL.name).contains b_end then some (putEnd nm c l) else none
  | [] => rfl
  | k :: r => by
    unfold putEnd
    rw [List.foldl_cons,List.foldl_cons,List.map_cons,List.contains_cons]
    by_cases h : k.name = b_end
    · rw [if_pos h,if_pos h,end_some]
      have : (b_end == k.name) = true:=by rw [h];exact beq_self_eq_true _
      rw [this,Bool.true_or,if_pos rfl]
      rfl
    · rw [if_neg h,if_neg h,end_none nm c r]
      have : (b_end == k.name) = false:=beq_false_of_ne (Ne.symm h)
      rw [this,Bool.false_or]
      rfl
theorem formed_some {nm : Bytes} {ks : List NodeL} {x : Int × Int} (h : passL nm [] ks = some x) : formedL nm [] none ks = .inl x:=by rw [pass_formed,h]
theorem formed_noEnd {nm : Bytes} {ks : List NodeL} (h : passL nm [] ks = none) (he : (ks.map NodeL.name).contains b_end = false) : formedL nm [] none ks = .inr none := by
  rw [pass_formed,h]
  dsimp only
  rw [end_none nm (calN nm),he]
  rfl
theorem formed_good {nm : Bytes} {ks : List NodeL} (h : passL nm [] ks = none) (he : (ks.map NodeL.name).contains b_end = true) : formedL nm [] none ks = .inr (some (putEnd nm (calN nm) ks)) := by
  rw [pass_formed,h]
  dsimp only
  rw [end_none nm (calN nm),he]
  rfl
theorem names_take (ks : List NodeL) (k : Nat) (x : NodeL) (h : ks[k]? = some x) : (ks.map NodeL.name).take (k + 1) = (ks.map NodeL.name).take k ++ [x.name] := by
  rw [List.take_add_one,List.getElem?_map,h];rfl
theorem pass_step {nm : Bytes} {ks : List NodeL} {k : Nat} {x : NodeL} (h : ks[k]? = some x) : passL nm ((ks.map NodeL.name).take k) (ks.drop k) =
    if !keysL.contains x.name then some (x.pos,8) else if ((ks.take k).map NodeL.name).contains x.name then some (x.pos,9) else if !keyOkL nm x then some (x.pos,5) else passL nm ((ks.map NodeL.name).take (k + 1)) (ks.drop (k + 1)):=by
  have hk : k < ks.length:=(List.getElem?_eq_some_iff.1 h).1
  rw [List.drop_eq_getElem_cons hk,(List.getElem?_eq_some_iff.1 h).2,names_take ks k x h,List.map_take]
  rfl
theorem fits_step {kind : Int} {ks : List NodeL} {k : Nat} {x : NodeL} (h : ks[k]? = some x) : fitsL kind ((ks.map NodeL.name).take k) (ks.drop k) =
    if !standsC kind x.name then some (x.pos,8) else if (x.name = b_periods ∧ ((ks.take k).map NodeL.name).contains b_pay = true) ∨ (x.name = b_pay ∧ ((ks.take k).map NodeL.name).contains b_periods = true) then some (x.pos,9) else fitsL kind ((ks.map NodeL.name).take (k + 1)) (ks.drop (k + 1)):=by
  have hk : k < ks.length:=(List.getElem?_eq_some_iff.1 h).1
  rw [List.drop_eq_getElem_cons hk,(List.getElem?_eq_some_iff.1 h).2,names_take ks k x h,List.map_take]
  simp only [List.contains_iff_mem]
  rfl
theorem putEnd_take (nm : Bytes) (c : CalL) (l : List NodeL) (k : Nat) (x : NodeL) (h : l[k]? = some x) : putEnd nm c (l.take (k + 1)) = if x.name = b_end then (endK nm x.words).1 else putEnd nm c (l.take k) := by
  unfold putEnd
  rw [List.take_add_one,h]
  simp only [Option.toList_some,List.foldl_append,List.foldl_cons,List.foldl_nil]
theorem putEnd_not (nm : Bytes) : ∀ (l : List NodeL) (c : CalL),b_end ∉ l.map NodeL.name → putEnd nm c l = c
  | [],c,h => rfl
  | k :: r,c,h => by
    simp only [List.map_cons,List.mem_cons,not_or] at h
    unfold putEnd
    rw [List.foldl_cons,if_neg (Ne.symm h.1)]
    exact putEnd_not nm r c h.2
/-- Ahead of the end there is none. -/
theorem putEnd_ahead (nm : Bytes) (ks : List NodeL) (k : Nat) (x : NodeL) (hn : (ks.map NodeL.name).Nodup) (h : ks[k]? = some x) (he : x.name = b_end) : putEnd nm (calN nm) (ks.take k) = calN nm := by
  apply putEnd_not
  intro hm
  rw [List.map_take] at hm
  have hx : (ks.map NodeL.name)[k]? = some b_end:=by rw [List.getElem?_map,h];exact congrArg some he
  have:=(mem_take_idx (ks.map NodeL.name) k b_end).1 hm
  have h2:=idx_nodup _ k b_end hn hx
  omega
theorem putEnd_name (nm : Bytes) (hnm : ∀ ws,(endK nm ws).1.name = nm) : ∀ (l : List NodeL) (c : CalL),c.name = nm → (putEnd nm c l).name = nm
  | [],c,h => h
  | k :: r,c,h => by
    unfold putEnd
    rw [List.foldl_cons]
    split
    · exact putEnd_name nm hnm r _ (hnm _)
    · exact putEnd_name nm hnm r _ h
theorem posL_nn : ∀ (l : List Bytes) (s : Bytes),0 ≤ posL l s
  | [],s => Int.le_refl 0
  | a :: r,s => by
    have:=posL_nn r s
    unfold posL
    split
    · decide
    · split
      · decide
      · omega
/-- The reference's order of keys. -/
def keysR : List Bytes:=[b_end,b_named,b_periods,b_pay,b_extra,b_serve,b_compare]
theorem posL_zero (s : Bytes) : ∀ l : List Bytes,posL l s = 0 ↔ l.contains s = false
  | [] => by simp [posL]
  | a :: r => by
    have ih:=posL_zero s r
    have hp:=posL_nn r s
    unfold posL
    rw [List.contains_cons]
    by_cases h : a = s
    · subst h;simp
    · have : (s == a) = false := beq_false_of_ne (Ne.symm h)
      rw [if_neg h,this,Bool.false_or,← ih]
      constructor
      · intro h2
        by_cases z : posL r s = 0
        · exact z
        · rw [if_neg z] at h2;omega
      · intro h2;rw [if_pos h2]
theorem keysR_same (s : Bytes) : keysR.contains s = keysL.contains s := by
  rw [Bool.eq_iff_iff]
  simp only [List.contains_iff_mem,keysR,keysL,b_end,b_named,b_periods,b_pay,b_extra,b_serve,b_compare,List.mem_cons,List.not_mem_nil,or_false]
  constructor
  · rintro (h | h | h | h | h | h | h) <;> simp [h]
  · rintro (h | h | h | h | h | h | h) <;> simp [h]
theorem placeR_zero (s : Bytes) : placeW keysR ⟨false,0,s,0⟩ = 0 ↔ keysL.contains s = false := by
  rw [← keysR_same,← posL_zero]
  rfl
/-- The keys that must stand. -/
def mustL : List Bytes:=[b_named,b_periods,b_extra,b_serve,b_compare]
def missOne (kind : Int) (names : List Bytes) (k : Bytes) : Bool:=standsC kind k && !(names.contains k || (decide (k = b_periods) && names.contains b_pay))
theorem miss_any (kind : Int) (names : List Bytes) : missL kind names = mustL.any (missOne kind names):=rfl
/-- What an end that may be says of its kind. -/
theorem endK_kind (nm : Bytes) (ws : List WordL) (h : (endK nm ws).2 = true) : 1 ≤ (endK nm ws).1.kind ∧ (endK nm ws).1.kind ≤ 6 := by
  revert h
  unfold endK
  dsimp only
  generalize placeW endsL (ws.headD ⟨false,0,[],0⟩) = k
  unfold fixedC
  by_cases h3 : k = 3
  · rw [if_pos h3];intro _;exact ⟨show (1 : Int) ≤ 3 by decide,show (3 : Int) ≤ 6 by decide⟩
  · rw [if_neg h3]
    by_cases h4 : k = 4
    · rw [if_pos h4];intro _;exact ⟨show (1 : Int) ≤ 4 by decide,show (4 : Int) ≤ 6 by decide⟩
    · rw [if_neg h4]
      dsimp only
      split
      · next h5 => intro _;exact ⟨by show 1 ≤ k;omega,by show k ≤ 6;omega⟩
      · split
        · next h6 => intro _;exact ⟨by show 1 ≤ k;omega,by show k ≤ 6;omega⟩
        · split
          · next h7 => intro _;exact ⟨by show 1 ≤ k;omega,by show k ≤ 6;omega⟩
          · intro h;cases h
theorem putEnd_kind (nm : Bytes) (P : CalL → Prop) : ∀ (l : List NodeL) (c : CalL),(∀ k ∈ l,k.name = b_end → P (endK nm k.words).1) → (P c ∨ b_end ∈ l.map NodeL.name) → P (putEnd nm c l)
  | [],c,_,h => by
    rcases h with h | h
    · exact h
    · cases h
  | k :: r,c,hl,h => by
    unfold putEnd
    rw [List.foldl_cons]
    by_cases he : k.name = b_end
    · rw [if_pos he]
      exact putEnd_kind nm P r _ (fun x hx => hl x (List.mem_cons_of_mem _ hx)) (.inl (hl k List.mem_cons_self he))
    · rw [if_neg he]
      refine putEnd_kind nm P r _ (fun x hx => hl x (List.mem_cons_of_mem _ hx)) ?_
      rcases h with h | h
      · exact .inl h
      · rw [List.map_cons,List.mem_cons] at h
        exact .inr (h.resolve_left (fun e => he e.symm))
/-- Where all items are looked through,each may be. -/
theorem pass_all {nm : Bytes} {ks : List NodeL} (h : passL nm [] ks = none) : (ks.map NodeL.name).Nodup ∧ (∀ s ∈ ks.map NodeL.name,keysL.contains s = true) ∧ ∀ k ∈ ks,keyOkL nm k = true := by
  have hF : formedL nm [] none ks = .inr (ks.foldl (fun co k => if k.name = b_end then some (endK nm k.words).1 else co) none):=by rw [pass_formed,h]
  have:=formed_right nm ks [] none _ hF List.nodup_nil (by simp)
  refine ⟨by simpa using this.1,by simpa using this.2.1,fun k hk => ?_⟩
  obtain ⟨h1,h2,h3⟩:=this.2.2 k hk
  unfold keyOkL calN
  rw [h1,h3]
  cases hw : k.words with
  | nil => exact absurd hw h2
  | cons a r => rfl
theorem kind_good {nm : Bytes} {ks : List NodeL} (h : passL nm [] ks = none) (he : (ks.map NodeL.name).contains b_end = true) : 1 ≤ (putEnd nm (calN nm) ks).kind ∧ (putEnd nm (calN nm) ks).kind ≤ 6 := by
  refine putEnd_kind nm (fun c => 1 ≤ c.kind ∧ c.kind ≤ 6) ks _ (fun k hk hke => ?_) (.inr (List.contains_iff_mem.1 he))
  have:=(pass_all h).2.2 k hk
  apply endK_kind
  unfold keyOkL at this
  simp only [Bool.not_eq_true',Bool.or_eq_false_iff,Bool.not_eq_false'] at this
  have h2:=this.2
  rw [hke] at h2
  exact h2
end
section
set_option linter.unusedVariables false
set_option maxRecDepth 100000
open Go.RowKit
def calO (c : CalL) : Obj:=(.cells #[.string ⟨c.name.toArray⟩, .int .i64 c.kind, .int .i64 c.day, .int .i64 c.month, .int .i64 c.shift, .int .i64 c.shape, .int .i64 c.p0, .int .i64 c.p1, .int .i64 c.p2, .int .i64 c.cycle, .int .i64 c.extra, .int .i64 c.first, .int .i64 c.last, .int .i64 c.policy] 30)
def nodO (kn : Bytes) (kp : Int) (Aw : Option Addr) (wl cw : Nat) (kb : Bool) (Ak : Option Addr) (kl ck : Nat) : Obj:=(.cells #[.string ⟨kn.toArray⟩, .int .i64 kp, .slice Aw wl cw, .bool kb, .slice Ak kl ck] 25)
/-- What key leaves where its own blocks stand: the calendar,the item,the result. -/
structure KeyW (w W : World) (bc : Nat) (c : CalL) (kn : Bytes) (kp : Int) (Aw : Option Addr) (wl cw : Nat) (kb : Bool) (Ak : Option Addr) (kl ck : Nat) : Prop where
  below : Below w.heap.size w W
  low : w.heap.size ≤ bc
  cal : CalBlk W bc c
  node : W.heap[bc + 1]? = some (nodO kn kp Aw wl cw kb Ak kl ck)
  res : CalBlk W (bc + 1 + 1) calZ
theorem threeK (w : World) (o1 o2 o3 : Obj) : Below w.heap.size w (((w.alloc o1).alloc o2).alloc o3) ∧ (((w.alloc o1).alloc o2).alloc o3).heap[w.heap.size]? = some o1 ∧
    (((w.alloc o1).alloc o2).alloc o3).heap[w.heap.size + 1]? = some o2 ∧ (((w.alloc o1).alloc o2).alloc o3).heap[w.heap.size + 1 + 1]? = some o3 ∧ (((w.alloc o1).alloc o2).alloc o3).heap.size = w.heap.size + 1 + 1 + 1:=by
  have z1 : (w.alloc o1).heap.size = w.heap.size + 1:=by simp
  have z2 : ((w.alloc o1).alloc o2).heap.size = w.heap.size + 1 + 1:=by simp
  refine ⟨(((Below.refl _ _).alloc (Nat.le_refl _) _).alloc (by omega) _).alloc (by omega) _,?_,?_,?_,by simp⟩
  · rw [Go.heap_alloc_old _ _ (by omega),Go.heap_alloc_old _ _ (by omega)];exact heap_alloc_new w o1
  · rw [Go.heap_alloc_old _ _ (by omega),← z1];exact heap_alloc_new _ o2
  · rw [← z2];exact heap_alloc_new _ o3
theorem keyW_start (w : World) (c : CalL) (kn : Bytes) (kp : Int) (Aw : Option Addr) (wl cw : Nat) (kb : Bool) (Ak : Option Addr) (kl ck : Nat) :
    KeyW w (((w.alloc (calO c)).alloc (nodO kn kp Aw wl cw kb Ak kl ck)).alloc (calO calZ)) w.heap.size c kn kp Aw wl cw kb Ak kl ck:=by
  have h:=threeK w (calO c) (nodO kn kp Aw wl cw kb Ak kl ck) (calO calZ)
  exact ⟨h.1,Nat.le_refl _,h.2.1,h.2.2.1,h.2.2.2.1⟩
theorem KeyW.keep {w W W' : World} {bc : Nat} {c : CalL} {kn : Bytes} {kp : Int} {Aw : Option Addr} {wl cw : Nat} {kb : Bool} {Ak : Option Addr} {kl ck : Nat} (h : KeyW w W bc c kn kp Aw wl cw kb Ak kl ck) (hb : Below W.heap.size W W') : KeyW w W' bc c kn kp Aw wl cw kb Ak kl ck :=
  ⟨h.below.trans (hb.mono h.below.size),h.low,h.cal.keep hb,(hb.block _ (Array.getElem?_eq_some_iff.1 h.node).1).trans h.node,h.res.keep hb⟩
theorem KeyW.put {w W : World} {bc : Nat} {c : CalL} {kn : Bytes} {kp : Int} {Aw : Option Addr} {wl cw : Nat} {kb : Bool} {Ak : Option Addr} {kl ck : Nat} (h : KeyW w W bc c kn kp Aw wl cw kb Ak kl ck) (i : Nat) (v : Value) (c' : CalL) (hc : CalBlk (W.setCell ⟨bc,i,none⟩ v) bc c') : KeyW w (W.setCell ⟨bc,i,none⟩ v) bc c' kn kp Aw wl cw kb Ak kl ck :=
  ⟨h.below.setCell h.low _,h.low,hc,(((Step.refl W [] (some bc)).put i v).block _ (Array.getElem?_eq_some_iff.1 h.node).1 (by simp) (by intro e; injection e; omega)).trans h.node,
    (((Step.refl W [] (some bc)).put i v).block _ h.res.lt (by simp) (by intro e;injection e;omega)).trans h.res⟩
/-- What key tells: whether the words are the key's;what they put in,if they are. -/
def KeyPost (d : CalL) (ok : Bool) (w : World) (e : Ending) (w' : World) : Prop :=
  ∃ x,e = .returned (.tuple #[calV x, .bool ok]) ∧ (ok = true → x = d) ∧ Below w.heap.size w w'
theorem belowK {B : Nat} {w : World} (g : Nat) (hg : B ≤ g) : ∀ (l : List (Nat × Value)) (W : World),Below B w W → Below B w (l.foldl (fun W p => W.setCell ⟨g,p.1,none⟩ p.2) W)
  | [],W,h => h
  | p :: r,W,h => belowK g hg r _ (Below.setCell h hg _)
theorem cellK (g : Nat) (p : Addr) (hp : p.block ≠ g) : ∀ (l : List (Nat × Value)) (W : World),(l.foldl (fun W q => W.setCell ⟨g,q.1,none⟩ q.2) W).cell? p = W.cell? p
  | [],W => rfl
  | q :: r,W => (cellK g p hp r _).trans (World.cell?_setCell_other W ⟨g,q.1,none⟩ p q.2 (fun e => hp (congrArg Addr.block e).symm))
/-- Both orders in which a region with a draw leaves the world. -/
theorem belowD {B : Nat} {w W : World} (h : Below B w W) : Below B w W.drew:=Below.drew h
def shiftsR : List Bytes:=[[102,105,114,115,116],[108,97,115,116]]
theorem shiftsR_rng (t : WordL) : placeW shiftsR t = 0 ∨ placeW shiftsR t = 1 ∨ placeW shiftsR t = 2 := by
  have h:=place_rng shiftsR t
  have : (shiftsR.length : Int) = 2:=rfl
  omega
theorem shifts_same (t : WordL) : (placeW shiftsR t = 0 ∧ placeW shifts t = 0) ∨ (placeW shiftsR t = 1 ∧ placeW shifts t = 2) ∨ (placeW shiftsR t = 2 ∧ placeW shifts t = 1) := by
  unfold placeW
  split
  · exact .inl ⟨rfl,rfl⟩
  · unfold shiftsR shifts
    simp only [posL]
    by_cases h1 : ([102,105,114,115,116] : Bytes) = t.s
    · rw [if_pos h1,if_neg (by rw [← h1]; decide),if_pos h1]
      right;left;exact ⟨rfl,by decide⟩
    · rw [if_neg h1]
      by_cases h2 : ([108,97,115,116] : Bytes) = t.s
      · rw [if_pos h2,if_pos h2]
        right;right;exact ⟨by decide,rfl⟩
      · rw [if_neg h2,if_neg h2,if_neg h1]
        left;exact ⟨by decide,by decide⟩
end
end Go.Proofs.Ytpkhocbohhpmbaa
