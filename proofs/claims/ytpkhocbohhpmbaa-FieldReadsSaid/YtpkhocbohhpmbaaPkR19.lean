/- Layer 11 (field): the walks of the lists of names, place, named, stands, Periods. Then: Layer 11 (field): the walks of what each key does. Then: Layer 11 (field): the walks of numbers, keys. Then: Layer 11 (field): the walk of serve. -/
import Derived.Test.YtpkhocbohhpmbaaPkR18
import Derived.Test.YtpkhocbohhpmbaaShelf
import Derived.Test.YtpkhocbohhpmbaaPkR8
import Derived.Deep.OwnRows
set_option linter.unusedVariables false
set_option linter.unusedSimpArgs false
set_option maxRecDepth 100000
namespace Go.Proofs.Ytpkhocbohhpmbaa
section
open Go.RowKit
open Go.Joins renaming cell_of_block → zb, unfrozen_of_block → zu
open Go.Lib renaming hid → zh
/-- A block of texts. -/
def StrBlk (w : World) (g : Nat) (l : List Bytes) : Prop:=∃ T,w.heap[g]? = some (.cells (l.map fun s => Value.string ⟨s.toArray⟩).toArray T (0,0))
theorem StrBlk.keep {w w' : World} {g : Nat} {l : List Bytes} (h : StrBlk w g l) (hb : Below w.heap.size w w') : StrBlk w' g l := by
  obtain ⟨T,h⟩:=h
  exact ⟨T,(hb.block g (Array.getElem?_eq_some_iff.1 h).1).trans h⟩
def StrsPost (l : List Bytes) (w : World) (e : Ending) (w' : World) : Prop:=e = .returned (.slice (some ⟨w.heap.size,0,none⟩) l.length l.length) ∧ StrBlk w' w.heap.size l ∧ Below w.heap.size w w'
theorem field_ends (w : World) : Calls Try.prog 27 #[] w (StrsPost endsL w) := by
  go_enter Try.func27,Try.ntmps27
  go_wp2_with fail
  go_ret
  refine ⟨rfl,⟨_,heap_alloc_new w _⟩,?_⟩
  (repeat (first | exact Below.refl _ _ | assumption | refine Below.setCell ?_ (by first | (simp;done) | (simp;omega) | omega) _ | refine Below.alloc ?_ (by first | (simp;done) | (simp;omega) | omega) _ | refine Below.drew ?_ | refine below_drewN ?_ _ | refine Below.trans ?_ (Below.mono (by assumption) (by first | (simp;done) | (simp;omega) | omega))))
theorem field_weekdays (w : World) : Calls Try.prog 28 #[] w (StrsPost days w) := by
  go_enter Try.func28,Try.ntmps28
  go_wp2_with fail
  go_ret
  refine ⟨rfl,⟨_,heap_alloc_new w _⟩,?_⟩
  (repeat (first | exact Below.refl _ _ | assumption | refine Below.setCell ?_ (by first | (simp;done) | (simp;omega) | omega) _ | refine Below.alloc ?_ (by first | (simp;done) | (simp;omega) | omega) _ | refine Below.drew ?_ | refine below_drewN ?_ _ | refine Below.trans ?_ (Below.mono (by assumption) (by first | (simp;done) | (simp;omega) | omega))))
theorem field_months (w : World) : Calls Try.prog 30 #[] w (StrsPost mons w) := by
  go_enter Try.func30,Try.ntmps30
  go_wp2_with fail
  go_ret
  refine ⟨rfl,⟨_,heap_alloc_new w _⟩,?_⟩
  (repeat (first | exact Below.refl _ _ | assumption | refine Below.setCell ?_ (by first | (simp;done) | (simp;omega) | omega) _ | refine Below.alloc ?_ (by first | (simp;done) | (simp;omega) | omega) _ | refine Below.drew ?_ | refine below_drewN ?_ _ | refine Below.trans ?_ (Below.mono (by assumption) (by first | (simp;done) | (simp;omega) | omega))))
theorem field_policies (w : World) : Calls Try.prog 32 #[] w (StrsPost pols w) := by
  go_enter Try.func32,Try.ntmps32
  go_wp2_with fail
  go_ret
  refine ⟨rfl,⟨_,heap_alloc_new w _⟩,?_⟩
  (repeat (first | exact Below.refl _ _ | assumption | refine Below.setCell ?_ (by first | (simp;done) | (simp;omega) | omega) _ | refine Below.alloc ?_ (by first | (simp;done) | (simp;omega) | omega) _ | refine Below.drew ?_ | refine below_drewN ?_ _ | refine Below.trans ?_ (Below.mono (by assumption) (by first | (simp;done) | (simp;omega) | omega))))
theorem posL_nonneg : ∀ (l : List Bytes) (s : Bytes),0 ≤ posL l s ∧ posL l s ≤ l.length
  | [],_ => ⟨Int.le_refl _,by simp [posL]⟩
  | a :: r,s => by
    have:=posL_nonneg r s
    simp only [posL,List.length_cons]
    split
    · omega
    · split <;> omega
theorem ba_inj (a s : Bytes) : (ByteArray.mk a.toArray = ByteArray.mk s.toArray) ↔ a = s := by
  constructor
  · intro h
    injection h with h
    simpa using h
  · intro h;rw [h]
theorem idx_posL : ∀ (l : List Bytes) (s : Bytes) (i : Nat),Lib.idxFromS (l.map fun a => ByteArray.mk a.toArray) ⟨s.toArray⟩ i = if posL l s = 0 then -1 else (i : Int) + posL l s - 1
  | [],s,i => by simp [Lib.idxFromS,posL]
  | a :: r,s,i => by
    have hr:=posL_nonneg r s
    have ih:=idx_posL r s (i + 1)
    simp only [List.map_cons,Lib.idxFromS,posL]
    by_cases h : a = s
    · subst h;simp
    · have h' : ¬ (ByteArray.mk a.toArray = ByteArray.mk s.toArray) := fun e => h ((ba_inj a s).1 e)
      simp only [h,h',if_false,↓reduceIte,beq_iff_eq]
      rw [ih]
      by_cases h0 : posL r s = 0
      · simp [h0]
      · simp only [h0,if_false]
        rw [if_neg (by omega)]
        push_cast
        omega
theorem place_str (l : List Bytes) (s : Bytes) (g c : Nat) (w : World) (hl : 0 < l.length ∧ l.length ≤ 1000) (hg : StrBlk w g l) :
    Calls Try.prog 75 #[.slice (some ⟨g,0,none⟩) l.length c, .string ⟨s.toArray⟩] w fun e w' => e = .returned (.int .i64 (posL l s)) ∧ w = w':=by
  obtain ⟨T,hg⟩:=hg
  have hI := Try.slices_Index_string g 0 l.length c (l.map fun a => ByteArray.mk a.toArray) ⟨s.toArray⟩ w (by simp) (by omega) (fun j hj => by
    simp only [List.length_map] at hj
    rw [Nat.zero_add,zb hg j]
    simp [List.getD,hj])
  have hm : (l.map fun a => ByteArray.mk a.toArray).take l.length = l.map fun a => ByteArray.mk a.toArray:=by rw [List.take_of_length_le (by simp)]
  rw [hm] at hI
  have hi:=idx_posL l s 0
  have hp:=posL_nonneg l s
  have hz : IntKind.i64.wrap (Lib.idxOfS (l.map fun a => ByteArray.mk a.toArray) ⟨s.toArray⟩ + 1) = posL l s := by
    rw [IntKind.wrap_i64]
    unfold Lib.idxOfS
    rw [hi]
    split <;> omega
  generalize Lib.idxOfS (l.map fun a => ByteArray.mk a.toArray) ⟨s.toArray⟩ = z at *
  have HI:=zh hI
  clear hI hi hm hg
  go_enter Try.func75,Try.ntmps75
  go_wp2_with fail
  refine HI.out.mono ?_
  rintro e w1 ⟨rfl,rfl⟩
  go_wp2_with fail
  go_ret
  exact ⟨rfl,rfl⟩
theorem field_named (l : List Bytes) (t : WordL) (g c : Nat) (w : World) (hl : 0 < l.length ∧ l.length ≤ 1000) (hg : StrBlk w g l) :
    Calls Try.prog 51 #[.slice (some ⟨g,0,none⟩) l.length c, .agg #[.bool t.num, .int .i64 t.n, .string ⟨t.s.toArray⟩, .int .i64 t.pos]] w fun e w' => e = .returned (.int .i64 (placeW l t)) ∧ Below w.heap.size w w':=by
  have HB:=zh (below_cal w (.cells #[.bool t.num, .int .i64 t.n, .string ⟨t.s.toArray⟩, .int .i64 t.pos] 47))
  have HP:=zh (place_str l t.s g c _ hl (hg.keep HB.out))
  unfold placeW
  generalize posL l t.s = z at *
  obtain ⟨num,n,s,pos⟩:=t
  dsimp only at *
  clear hg hl
  cases num
  · go_enter Try.func51,Try.ntmps51
    go_wp2_with fail
    refine HP.out.mono ?_
    rintro e w1 ⟨rfl,rfl⟩
    go_wp2_with fail
    go_ret
    exact ⟨rfl,HB.out⟩
  · go_enter Try.func51,Try.ntmps51
    go_wp2_with fail
    go_ret
    exact ⟨rfl,HB.out⟩
theorem field_Periods (c : CalL) (hl : c.name.length ≤ maxLen) (w : World) : Calls Try.prog 11 #[calV c] w fun e w' => e = .returned (.tuple #[.int .i64 (periodsC c), .int .i64 (errC c)]) ∧ Below w.heap.size w w' := by
  have HC:=zh (field_Check c hl)
  have HB0:=zh (below_cal w (.cells #[.string ⟨c.name.toArray⟩, .int .i64 c.kind, .int .i64 c.day, .int .i64 c.month, .int .i64 c.shift, .int .i64 c.shape, .int .i64 c.p0, .int .i64 c.p1, .int .i64 c.p2, .int .i64 c.cycle, .int .i64 c.extra, .int .i64 c.first, .int .i64 c.last, .int .i64 c.policy] 30))
  have HX0:=zh (heap_alloc_new w (.cells #[.string ⟨c.name.toArray⟩, .int .i64 c.kind, .int .i64 c.day, .int .i64 c.month, .int .i64 c.shift, .int .i64 c.shape, .int .i64 c.p0, .int .i64 c.p1, .int .i64 c.p2, .int .i64 c.cycle, .int .i64 c.extra, .int .i64 c.first, .int .i64 c.last, .int .i64 c.policy] 30))
  have HM:=zh (fun W => field_many c.shape c.cycle W)
  have hp : ∀ b : Bool,okC c = b → periodsC c = (if b then manyC c.shape c.cycle else 0) ∧ errC c = if b then 0 else 1:=fun b h => by unfold periodsC errC;rw [h];exact ⟨rfl,rfl⟩
  cases hok : okC c
  all_goals
    obtain ⟨h1,h2⟩:=hp _ hok
    rw [h2] at HC
    rw [h1,h2]
    clear hp hok h1 h2
    obtain ⟨nm,kind,day,month,shift,shape,p0,p1,p2,cycle,extra,first,last,policy⟩:=c
    dsimp only [calV] at *
  · go_enter Try.func11,Try.ntmps11
    go_wp2_with fail
    refine (HC.out _).mono ?_
    rintro e w1 ⟨rfl,hb1⟩
    go_wp2_with fail
    go_ret2
    exact ⟨rfl,HB0.out.trans (hb1.mono HB0.out.size)⟩
  · go_enter Try.func11,Try.ntmps11
    go_wp2_with fail
    refine (HC.out _).mono ?_
    rintro e w1 ⟨rfl,hb1⟩
    have hx1:=(hb1.block w.heap.size (by simp)).trans HX0.out
    have x5:=zb hx1 5
    have x9:=zb hx1 9
    have HB1:=zh (HB0.out.trans (hb1.mono HB0.out.size))
    clear hx1 hb1
    go_wp2_with fail
    refine (HM.out _).mono ?_
    rintro e w2 ⟨rfl,rfl⟩
    go_wp2_with fail
    go_ret2
    exact ⟨rfl,HB1.out⟩
end
section
open Go.RowKit
open Go.Joins renaming cell_of_block → zb, unfrozen_of_block → zu
open Go.Lib renaming hid → zh
/-- What a key does with its words. -/
def KeyAt (f : FuncId) (put : CalL → List WordL → CalL × Bool) (ok : CalL → Prop) : Prop :=
  ∀ (c : CalL) (ws : List WordL) (A : Option Addr) (cw : Nat) (w : World) (B cb : Nat),ok c → ws ≠ [] → ws.length ≤ 100 → B ≤ cb → CalBlk w cb c → ReadsM w (· < B) 4 A ws.length (ws.flatMap WordL.cells) →
    Calls Try.prog f #[.pointer (some ⟨cb,0,none⟩), .slice A ws.length cw] w fun e w' => e = .returned (.bool (put c ws).2) ∧ CalBlk w' cb (put c ws).1 ∧ Step w w' [] (some cb)
theorem step_below {w w' : World} {cb : Nat} (hb : Below w.heap.size w w') : Step w w' [] (some cb):=(Step.refl w [] (some cb)).below hb
theorem Step.put {w w' : World} {cb : Nat} (h : Step w w' [] (some cb)) (j : Nat) (v : Value) : Step w (w'.setCell ⟨cb,j,none⟩ v) [] (some cb):=h.setCell (.inr (.inr rfl)) v
theorem add_zero (ad : Addr) : ad.add 0 = ad:=by unfold Addr.add;simp
/-- The words' cells,as the walk reads them: the first. -/
theorem word0 {w : World} {B : Nat} {A : Option Addr} {t : WordL} {r : List WordL} (h : ReadsM w (· < B) 4 A (t :: r).length ((t :: r).flatMap WordL.cells)) :
    ∃ ad,A = some ad ∧ ad.block < B ∧ w.cell? ad = some (.bool t.num) ∧ w.cell? ⟨ad.block,ad.off + 1,none⟩ = some (.int .i64 t.n) ∧ w.cell? ⟨ad.block,ad.off + 2,none⟩ = some (.string ⟨t.s.toArray⟩) ∧ w.cell? ⟨ad.block,ad.off + 3,none⟩ = some (.int .i64 t.pos):=by
  obtain ⟨ad,h1,h2,h3,h4,h5,h6⟩:=word_cells h 0 t rfl
  rw [Nat.zero_mul,add_zero] at h3 h4 h5 h6
  exact ⟨ad,h1,h2,h3,h4,h5,h6⟩
set_option maxHeartbeats 4000000 in
theorem key_extra : KeyAt 54 (keyK b_extra) (fun _ => True) := by
  intro c ws A cw w B cb _ hne hlen hB hc hr
  obtain ⟨t,r,rfl⟩ : ∃ t r,ws = t :: r := by
    cases ws with
    | nil => exact absurd rfl hne
    | cons t r => exact ⟨t,r,rfl⟩
  obtain ⟨ad,rfl,hadb,e0,e1,e2,e3⟩:=word0 hr
  have hf:=zu hc
  have f10:=hf 10
  have c10:=zb hc 10
  have hk : keyK b_extra c (t :: r) = ({ c with extra:=t.n },decide ((t :: r).length = 1) && t.num && tween t.n 1 52):=rfl
  rw [hk]
  have hdb : ad.block ≠ cb:=by omega
  have HC:=zh hc
  clear hk hf hr hc hne
  have hL0 : (0 : Int) < (t :: r).length:=by simp
  generalize hL : (t :: r).length = L at *
  clear hL
  obtain ⟨tn,n,s,pos⟩:=t
  dsimp only at *
  obtain ⟨b,hb⟩ : ∃ b,tween n 1 52 = b:=⟨_,rfl⟩
  rw [hb]
  have hL1 : ((L : Int) == 1) = decide (L = 1) := by
    by_cases h : L = 1
    · subst h;rfl
    · rw [decide_eq_false h];exact beq_false_of_ne (by omega)
  generalize decide (L = 1) = b1 at *
  have hfin : ∀ W,W = w.setCell ⟨cb,10,none⟩ (.int .i64 n) → CalBlk W cb { c with extra := n } ∧ Step w W [] (some cb) := by
    rintro W rfl
    refine ⟨?_,(Step.refl _ _ _).put 10 _⟩
    have:=Joins.block_setCell HC.out (i:=10) (.int .i64 n)
    simpa [CalBlk] using this
  have s0 : (w.setCell ⟨cb,10,none⟩ (.int .i64 n)).cell? ad = some (.bool tn):=(World.cell?_setCell_other w ⟨cb,10,none⟩ ad _ (fun e => hdb (congrArg Addr.block e).symm)).trans e0
  have s1 : (w.setCell ⟨cb,10,none⟩ (.int .i64 n)).cell? ⟨ad.block,ad.off + 1,none⟩ = some (.int .i64 n):=(World.cell?_setCell_other w ⟨cb,10,none⟩ ⟨ad.block,ad.off + 1,none⟩ _ (fun e => hdb (congrArg Addr.block e).symm)).trans e1
  have HF:=zh hfin
  clear hfin
  cases b1
  · go_enter Try.func54,Try.ntmps54
    go_wp2_with (first | (go_at_call 39;refine (field_between _ _ _ _).mono ?_;rintro e w9 ⟨rfl,rfl⟩))
    go_ret
    exact ⟨rfl,HF.out _ rfl⟩
  · cases tn
    · go_enter Try.func54,Try.ntmps54
      go_wp2_with (first | (go_at_call 39;refine (field_between _ _ _ _).mono ?_;rintro e w9 ⟨rfl,rfl⟩))
      go_ret
      exact ⟨rfl,HF.out _ rfl⟩
    · go_enter Try.func54,Try.ntmps54
      go_wp2_with (first | (go_at_call 39;refine (field_between _ _ _ _).mono ?_;rintro e w9 ⟨rfl,rfl⟩))
      go_ret
      exact ⟨by first | rfl | rw [hb];rfl,HF.out _ rfl⟩
end
section
open Go.RowKit
open Go.Joins renaming cell_of_block → zb, unfrozen_of_block → zu
open Go.Lib renaming hid → zh
/-- A block of whole numbers. -/
def IntBlk (w : World) (g : Nat) (l : List Int) : Prop:=∃ T,w.heap[g]? = some (.cells (l.map fun n => Value.int .i64 n).toArray T (0,0))
theorem IntBlk.keep {w w' : World} {g : Nat} {l : List Int} (h : IntBlk w g l) (hb : Below w.heap.size w w') : IntBlk w' g l := by
  obtain ⟨T,h⟩:=h
  exact ⟨T,(hb.block g (Array.getElem?_eq_some_iff.1 h).1).trans h⟩
theorem IntBlk.cell {w : World} {g : Nat} {l : List Int} (h : IntBlk w g l) (j : Nat) (n : Int) (hj : l[j]? = some n) : w.cell? ⟨g,j,none⟩ = some (.int .i64 n) := by
  obtain ⟨T,h⟩:=h
  rw [zb h j]
  simp [hj]
theorem all_num_drop (ws : List WordL) (k : Nat) (t : WordL) (h : ws[k]? = some t) : (ws.drop k).all (·.num) = (t.num && (ws.drop (k + 1)).all (·.num)) := by
  have hk : k < ws.length:=(List.getElem?_eq_some_iff.1 h).1
  rw [List.drop_eq_getElem_cons hk]
  have : ws[k] = t:=(List.getElem?_eq_some_iff.1 h).2
  rw [this]
  rfl
/-- The numbers so far: the first k of the words',then noughts. -/
def numsAt (ws : List WordL) (k : Nat) : List Int:=(ws.take k).map (·.n) ++ List.replicate (ws.length - k) 0
theorem numsAt_len (ws : List WordL) (k : Nat) (hk : k ≤ ws.length) : (numsAt ws k).length = ws.length := by
  simp [numsAt];omega
theorem numsAt_set (ws : List WordL) (k : Nat) (t : WordL) (h : ws[k]? = some t) : (numsAt ws k).set k t.n = numsAt ws (k + 1) := by
  have hk : k < ws.length:=(List.getElem?_eq_some_iff.1 h).1
  apply List.ext_getElem?
  intro j
  have e : ((ws.take k).map (·.n)).length = k:=by simp;omega
  unfold numsAt
  rw [List.set_append_right _ _ (by omega),e,Nat.sub_self]
  obtain ⟨m,hm⟩ : ∃ m,ws.length - k = m + 1:=⟨ws.length - k - 1,by omega⟩
  rw [hm,List.replicate_succ,List.set_cons_zero,List.take_add_one,h,List.map_append,show ws.length - (k + 1) = m by omega]
  simp
theorem numsAt_end (ws : List WordL) : numsAt ws ws.length = ws.map (·.n):=by simp [numsAt]
theorem numsAt_zero (ws : List WordL) : numsAt ws 0 = List.replicate ws.length 0:=by simp [numsAt]
theorem made_ints (n : Nat) : madeCells #[Value.int .i64 0] n = ((List.replicate n (0 : Int)).map fun n => Value.int .i64 n).toArray := by
  apply Array.ext
  · simp [madeCells]
  · intro i h1 h2
    simp [madeCells,Nat.mod_one]
def NumsPost (w : World) (ws : List WordL) (e : Ending) (w' : World) : Prop :=
  e = (if ws.all (·.num) then .returned (.tuple #[.slice (some ⟨w.heap.size,0,none⟩) ws.length ws.length, .bool true]) else .returned (.tuple #[.slice none 0 0, .bool false])) ∧
    (ws.all (·.num) = true → IntBlk w' w.heap.size (ws.map (·.n))) ∧ Below w.heap.size w w'
set_option maxHeartbeats 2000000 in
theorem field_numbers (ws : List WordL) (hlen : ws.length ≤ 100) (A : Option Addr) (c : Nat) (w : World) (B : Nat) (hB : B ≤ w.heap.size) (hr : ReadsM w (· < B) 4 A ws.length (ws.flatMap WordL.cells)) :
    Calls Try.prog 56 #[.slice A ws.length c] w (NumsPost w ws):=by
  have hmk:=run_make_row' (P:=Try.prog) 64 3 (.int .i64 0) 8 Try.underlying64 (by kernel_rfl) rfl .i64 .i64 ws.length (by omega) (by omega) w
  rw [made_ints,← numsAt_zero] at hmk
  have HR:=zh hr
  obtain ⟨W0,hW0⟩ : ∃ W0,W0 = w.alloc (.cells ((numsAt ws 0).map fun n => Value.int .i64 n).toArray 3):=⟨_,rfl⟩
  have hb0 : Below w.heap.size w W0:=by rw [hW0];exact below_cal _ _
  have hx0 : W0.heap[w.heap.size]? = some (.cells ((numsAt ws 0).map fun n => Value.int .i64 n).toArray 3 (0,0)):=by rw [hW0];exact heap_alloc_new w _
  rw [← hW0] at hmk
  have HB0:=zh hb0
  have HX0:=zh hx0
  clear hr hW0 hb0 hx0
  go_enter Try.func56,Try.ntmps56
  go_wp2_with fail
  go_loopw [12] (fun i wr => ∃ k : Nat,k ≤ ws.length ∧ i = .int .i64 k ∧ Below w.heap.size w wr ∧ wr.heap[w.heap.size]? = some (.cells ((numsAt ws k).map fun n => Value.int .i64 n).toArray 3 (0,0)) ∧ ws.all (·.num) = (ws.drop k).all (·.num)) (fun i _ => ws.length - (intOf i).toNat)
  case atStart => exact ⟨0,Nat.zero_le _,rfl,HB0.out,HX0.out,rfl⟩
  case round =>
    obtain ⟨k,hk,rfl,hb,hx,hs⟩:=hrel
    have hbs:=hb.size
    by_cases hlt : k < ws.length
    · obtain ⟨t,ht⟩ : ∃ t,ws[k]? = some t := ⟨_,List.getElem?_eq_getElem hlt⟩
      have hk' : ∀ p : Addr,p.block < B → wr.cell? p = w.cell? p:=fun p hp => hb.cell (by omega)
      obtain ⟨ad,rfl,hadb,d0,d1,d2,d3⟩:=word_cells (HR.out.keep (fun _ h => h) hk') k t ht
      rw [all_num_drop ws k t ht] at hs
      have lk : (k : Int) < ws.length:=by omega
      have lk0 : (0 : Int) ≤ k:=by omega
      have w1f : IntKind.i64.wrap ((k : Int) + 1) = (k : Int) + 1:=by rw [IntKind.wrap_i64];omega
      have hlk:=numsAt_len ws k hk
      obtain ⟨q,hq⟩ : ∃ q,(numsAt ws k)[k]? = some q:=⟨_,List.getElem?_eq_getElem (by omega)⟩
      have hc : wr.cell? ⟨w.heap.size,k,none⟩ = some (.int .i64 q):=by rw [zb hx k];simp [hq]
      have hf:=zu hx k
      have hgl : w.heap.size < wr.heap.size:=(Array.getElem?_eq_some_iff.1 hx).1
      have hnew : ((wr.setCell ⟨w.heap.size,k,none⟩ (.int .i64 t.n)).alloc (.cells #[.bool true, .int .i64 t.n, .string ⟨t.s.toArray⟩, .int .i64 t.pos] 47)).heap[w.heap.size]? = some (.cells ((numsAt ws (k + 1)).map fun n => Value.int .i64 n).toArray 3 (0,0)) := by
        have h2:=Joins.block_setCell hx (i:=k) (.int .i64 t.n)
        rw [Go.heap_alloc_old _ _ (by simpa using hgl),h2,← numsAt_set ws k t ht]
        congr 2
        apply Array.ext'
        simp [List.map_set]
      have HN:=zh hnew
      have HB:=zh hb
      cases hok : t.num
      · rw [hok] at hs d0
        have hs' : ws.all (·.num) = false:=by rw [hs];rfl
        have HS:=zh hs'
        clear hk' hb hs hs' hx hq hnew ht hlk
        go_wp2_with fail
        go_ret2
        refine ⟨?_,?_,?_⟩
        · rw [HS.out];rfl
        · intro h;rw [HS.out] at h;cases h
        · exact Below.alloc HB.out (by omega) _
      · rw [hok] at hs d0
        have HOK:=zh hok
        have HS:=zh (show ws.all (·.num) = (ws.drop (k + 1)).all (·.num) by rw [hs];simp)
        have hgf : (wr.alloc (.cells #[.bool true, .int .i64 t.n, .string ⟨t.s.toArray⟩, .int .i64 t.pos] 47)).frozen? ⟨w.heap.size,k,none⟩ = false:=(World.frozen?_alloc_old wr _ ⟨w.heap.size,k,none⟩ (by show w.heap.size ≠ _;omega)).trans hf
        have hgc : (wr.alloc (.cells #[.bool true, .int .i64 t.n, .string ⟨t.s.toArray⟩, .int .i64 t.pos] 47)).cell? ⟨w.heap.size,k,none⟩ = some (.int .i64 q):=(World.cell?_alloc_lt wr _ ⟨w.heap.size,k,none⟩ (by show w.heap.size < _;omega)).trans hc
        clear hk' hb hs hx hq hnew ht hlk hok
        go_wp2_with fail
        exact ⟨⟨k + 1,by omega,by go_num,(HB.out.setCell (by simp) _).alloc (by simpa using hbs) _,HN.out,HS.out⟩,by simp [intOf];omega⟩
    · have lk : ¬ (k : Int) < ws.length := by omega
      have hk2 : k = ws.length:=by omega
      have hs2 : ws.all (·.num) = true:=by rw [hs,hk2];simp
      have HS2:=zh hs2
      have HX2:=zh (show IntBlk wr w.heap.size (ws.map (·.n)) from ⟨_,by rw [hx,hk2,numsAt_end]⟩)
      clear hs hs2 hk2 hx
      go_wp2_with fail
      go_ret2
      exact ⟨by rw [HS2.out];rfl,fun _ => HX2.out,hb⟩
/-! ### keys: a map from each key's name to what it does -/
def keyFns : List (Bytes × FuncId):=[(b_end,48),(b_periods,49),(b_named,50),(b_pay,52),(b_extra,54),(b_serve,55),(b_compare,57)]
def keyMap : Array MapEntry:=#[⟨.string ⟨b_end.toArray⟩, .func (.func 48) #[] #[],0⟩,⟨.string ⟨b_periods.toArray⟩, .func (.func 49) #[] #[],1⟩,⟨.string ⟨b_named.toArray⟩, .func (.func 50) #[] #[],2⟩,⟨.string ⟨b_pay.toArray⟩, .func (.func 52) #[] #[],3⟩,⟨.string ⟨b_extra.toArray⟩, .func (.func 54) #[] #[],4⟩,⟨.string ⟨b_serve.toArray⟩, .func (.func 55) #[] #[],5⟩,⟨.string ⟨b_compare.toArray⟩, .func (.func 57) #[] #[],6⟩]
theorem keyMap_ok (n : Nat) : ∀ e ∈ (keyMap.extract 0 n).toList,KeyOk .string e.key := by
  intro e he
  have : e ∈ keyMap.toList := by
    rw [Array.toList_extract,List.extract_eq_take_drop] at he
    exact List.mem_of_mem_drop (List.mem_of_mem_take he)
  simp only [keyMap,List.mem_cons,List.not_mem_nil,or_false] at this
  rcases this with rfl | rfl | rfl | rfl | rfl | rfl | rfl <;> exact KeyOk.str _
theorem keyMap_new (n : Nat) (e : MapEntry) (hn : n < 7) (he : keyMap[n]? = some e) : findE e.key (keyMap.extract 0 n).toList 0 = none := by
  have h : ∀ n : Fin 7,findE (keyMap[n.1]!).key (keyMap.extract 0 n.1).toList 0 = none:=by decide
  have h1:=h ⟨n,hn⟩
  rw [getElem!_def,he] at h1
  exact h1
theorem keyMap_put (w : World) (n : Nat) (e : MapEntry) (hn : n < 7) (he : keyMap[n]? = some e) (hb : e.born = n) :
    (Instr.mapUpdate 52 (.map (some w.heap.size)) e.key e.val).run Try.prog (w.alloc (.map (keyMap.extract 0 n) n)) = .ok () (w.alloc (.map (keyMap.extract 0 (n + 1)) (n + 1))):=by
  have hk : KeyOk .string e.key := keyMap_ok 7 e (by
    have : e ∈ keyMap.toList := by
      have:=Array.mem_of_getElem? he
      exact Array.mem_toList_iff.2 this
    exact this)
  have h:=run_mapUpdate_last (w:=w) (es:=keyMap.extract 0 n) (clock:=n) (v:=e.val) Try.underlying52 Try.underlying9 hk (keyMap_ok n) (keyMap_new n e hn he)
  rw [h]
  congr 3
  have hsz : n < keyMap.size:=hn
  have hget : keyMap[n] = e:=(Array.getElem?_eq_some_iff.1 he).2
  obtain ⟨k,v,b⟩:=e
  dsimp only at hb
  subst hb
  apply Array.ext_getElem?
  intro i
  have hs7 : keyMap.size = 7:=rfl
  simp only [Array.getElem?_push,Array.size_extract,Array.getElem?_extract]
  by_cases h1 : i < b
  · have : i ≠ min b keyMap.size - 0 := by omega
    rw [if_neg this]
    rw [if_pos (by omega),if_pos (by omega)]
  · by_cases h2 : i = b
    · subst h2
      rw [if_pos (by omega),if_pos (by omega),Nat.zero_add]
      exact he.symm
    · rw [if_neg (by omega),if_neg (by omega),if_neg (by omega)]
end
section
open Go.RowKit
open Go.Joins renaming cell_of_block → zb, unfrozen_of_block → zu
open Go.Lib renaming hid → zh
theorem NumsPost.yes {w w' : World} {ws : List WordL} {e : Ending} (h : NumsPost w ws e w') (ha : ws.all (·.num) = true) :
    e = .returned (.tuple #[.slice (some ⟨w.heap.size,0,none⟩) ws.length ws.length, .bool true]) ∧ IntBlk w' w.heap.size (ws.map (·.n)) ∧ Below w.heap.size w w':=by
  obtain ⟨h1,h2,h3⟩:=h
  rw [ha] at h1
  exact ⟨h1,h2 ha,h3⟩
theorem NumsPost.no {w w' : World} {ws : List WordL} {e : Ending} (h : NumsPost w ws e w') (ha : ws.all (·.num) = false) :
    e = .returned (.tuple #[.slice none 0 0, .bool false]) ∧ Below w.heap.size w w':=by
  obtain ⟨h1,h2,h3⟩:=h
  rw [ha] at h1
  exact ⟨h1,h3⟩
set_option maxHeartbeats 4000000 in
theorem key_serve : KeyAt 55 (keyK b_serve) (fun _ => True) := by
  intro c ws A cw w B cb _ hne hlen hB hc hr
  have hlt:=hc.lt
  have HN:=zh (field_numbers ws hlen A cw w B (by omega) hr)
  have HC:=zh hc
  have hk : keyK b_serve c ws = if ws.all (·.num) = true ∧ ws.length = 2 then ({ c with first:=(ws.headD ⟨false,0,[],0⟩).n,last:=(ws.getD 1 ⟨false,0,[],0⟩).n },true) else (c,false):=rfl
  have HK:=zh hk
  clear hk hc hr
  cases ha : ws.all (·.num)
  · have h2 : keyK b_serve c ws = (c,false) := by rw [HK.out,ha]; rfl
    rw [h2]
    have HN':=zh (fun e w' h => NumsPost.no (w:=w) (w':=w') (e:=e) h ha)
    clear ha h2
    go_enter Try.func55,Try.ntmps55
    go_wp2_with fail
    refine HN.out.mono ?_
    intro e w1 h
    obtain ⟨rfl,hb1⟩:=HN'.out e w1 h
    have HC1:=zh (HC.out.keep hb1)
    have HS1:=zh (step_below (cb:=cb) hb1)
    clear h hb1
    go_wp2_with fail
    go_ret
    exact ⟨rfl,HC1.out,HS1.out⟩
  · have HN' := zh (fun e w' h => NumsPost.yes (w := w) (w' := w') (e := e) h ha)
    by_cases hl2 : ws.length = 2
    · obtain ⟨a,b,rfl⟩ : ∃ a b,ws = [a,b] := by
        match ws,hl2 with
        | [a,b],_ => exact ⟨a,b,rfl⟩
      have h2 : keyK b_serve c [a,b] = ({ c with first:=a.n,last:=b.n },true):=by rw [HK.out,ha];rfl
      rw [h2]
      clear ha h2 hl2 hne hlen HK
      go_enter Try.func55,Try.ntmps55
      go_wp2_with fail
      refine HN.out.mono ?_
      intro e w1 h
      obtain ⟨rfl,hi1,hb1⟩:=HN'.out e w1 h
      have hc1:=HC.out.keep hb1
      have n0:=hi1.cell 0 a.n rfl
      have n1:=hi1.cell 1 b.n rfl
      have hf:=zu hc1
      have f11:=hf 11
      have f12:=hf 12
      have c11:=zb hc1 11
      have c12:=zb hc1 12
      have hfin : CalBlk ((w1.setCell ⟨cb,11,none⟩ (.int .i64 a.n)).setCell ⟨cb,12,none⟩ (.int .i64 b.n)) cb { c with first := a.n,last := b.n } := by
        have:=Joins.block_setCell (Joins.block_setCell hc1 (i:=11) (.int .i64 a.n)) (i:=12) (.int .i64 b.n)
        simpa [CalBlk] using this
      have HF:=zh hfin
      have HS:=zh (((step_below (cb:=cb) hb1).put 11 (.int .i64 a.n)).put 12 (.int .i64 b.n))
      have r12 : (w1.setCell ⟨cb,11,none⟩ (.int .i64 a.n)).cell? ⟨cb,12,none⟩ = some (.int .i64 c.last):=(World.cell?_setCell_other w1 ⟨cb,11,none⟩ ⟨cb,12,none⟩ _ (by simp)).trans c12
      have r11 : (w1.setCell ⟨cb,12,none⟩ (.int .i64 b.n)).cell? ⟨cb,11,none⟩ = some (.int .i64 c.first):=(World.cell?_setCell_other w1 ⟨cb,12,none⟩ ⟨cb,11,none⟩ _ (by simp)).trans c11
      clear h hb1 hc1 hi1 hf hfin
      go_wp2_with fail
      go_region
      all_goals (
        go_wp2_with fail
        go_ret
        exact ⟨rfl,HF.out,HS.out.drew⟩)
    · have h2 : keyK b_serve c ws = (c,false) := by rw [HK.out,if_neg (fun h => hl2 h.2)]
      rw [h2]
      have lne : ((ws.length : Int) != 2) = true:=by simp;omega
      clear ha h2 HK
      go_enter Try.func55,Try.ntmps55
      go_wp2_with fail
      refine HN.out.mono ?_
      intro e w1 h
      obtain ⟨rfl,hi1,hb1⟩:=HN'.out e w1 h
      have HC1:=zh (HC.out.keep hb1)
      have HS1:=zh (step_below (cb:=cb) hb1)
      clear h hb1 hi1
      go_wp2_with fail
      go_ret
      exact ⟨rfl,HC1.out,HS1.out⟩
end
end Go.Proofs.Ytpkhocbohhpmbaa
