/- Layer 11 (field): the walks of numbers, keys. Then: Layer 11 (field): the walk of serve. Then: Layer 11 (field): the walks of pay, named, compare. Then: Layer 11 (field): the walk of periods. -/
import Derived.Test.YtjbniichcopnlaaGreatDoorPkS22
import Derived.Deep.OwnRows
set_option linter.unusedVariables false
set_option linter.unusedSimpArgs false
set_option maxRecDepth 100000
namespace Go.Proofs.YtjbniichcopnlaaGreatDoor
section
open Go.RowKit
open Go.Joins renaming cell_of_block → zb, unfrozen_of_block → zu
open Go.Lib renaming hid → zh
/-- A block of whole numbers. -/
def IntBlk (w : World) (g : Nat) (l : List Int) : Prop:=∃ T,w.heap[g]? = some (.cells (l.map fun n => Value.int .i64 n).toArray T (0,0))
theorem IntBlk.keep {w w' : World} {g : Nat} {l : List Int} (h : IntBlk w g l) (hb : Below w.heap.size w w') : IntBlk w' g l := by
  obtain ⟨T,h⟩:=h
  exact ⟨T,(hb.block g (Array.getElem?_eq_some_iff.1 h).1).trans h⟩
theorem IntBlk.cell {w : World} {g : Nat} {l : List Int} (h : IntBlk w g l) (j : Nat) (n : Int) (hj : l[j]? = some n) : w.cell? ⟨g,j,none⟩ = some (.int .i64 n) := by
  obtain ⟨T,h⟩:=h
  rw [zb h j]
  simp [hj]
theorem all_num_drop (ws : List WordL) (k : Nat) (t : WordL) (h : ws[k]? = some t) : (ws.drop k).all (·.num) = (t.num && (ws.drop (k + 1)).all (·.num)) := by
  have hk : k < ws.length:=(List.getElem?_eq_some_iff.1 h).1
  rw [List.drop_eq_getElem_cons hk]
  have : ws[k] = t:=(List.getElem?_eq_some_iff.1 h).2
  rw [this]
  rfl
/-- The numbers so far: the first k of the words',then noughts. -/
def numsAt (ws : List WordL) (k : Nat) : List Int:=(ws.take k).map (·.n) ++ List.replicate (ws.length - k) 0
theorem numsAt_len (ws : List WordL) (k : Nat) (hk : k ≤ ws.length) : (numsAt ws k).length = ws.length := by
  simp [numsAt];omega
theorem numsAt_set (ws : List WordL) (k : Nat) (t : WordL) (h : ws[k]? = some t) : (numsAt ws k).set k t.n = numsAt ws (k + 1) := by
  have hk : k < ws.length:=(List.getElem?_eq_some_iff.1 h).1
  apply List.ext_getElem?
  intro j
  have e : ((ws.take k).map (·.n)).length = k:=by simp;omega
  unfold numsAt
  rw [List.set_append_right _ _ (by omega),e,Nat.sub_self]
  obtain ⟨m,hm⟩ : ∃ m,ws.length - k = m + 1:=⟨ws.length - k - 1,by omega⟩
  rw [hm,List.replicate_succ,List.set_cons_zero,List.take_add_one,h,List.map_append,show ws.length - (k + 1) = m by omega]
  simp
theorem numsAt_end (ws : List WordL) : numsAt ws ws.length = ws.map (·.n):=by simp [numsAt]
theorem numsAt_zero (ws : List WordL) : numsAt ws 0 = List.replicate ws.length 0:=by simp [numsAt]
theorem made_ints (n : Nat) : madeCells #[Value.int .i64 0] n = ((List.replicate n (0 : Int)).map fun n => Value.int .i64 n).toArray := by
  apply Array.ext
  · simp [madeCells]
  · intro i h1 h2
    simp [madeCells,Nat.mod_one]
def NumsPost (w : World) (ws : List WordL) (e : Ending) (w' : World) : Prop :=
  e = (if ws.all (·.num) then .returned (.tuple #[.slice (some ⟨w.heap.size,0,none⟩) ws.length ws.length, .bool true]) else .returned (.tuple #[.slice none 0 0, .bool false])) ∧
    (ws.all (·.num) = true → IntBlk w' w.heap.size (ws.map (·.n))) ∧ Below w.heap.size w w'
set_option maxHeartbeats 2000000 in
theorem field_numbers (ws : List WordL) (hlen : ws.length ≤ 100) (A : Option Addr) (c : Nat) (w : World) (B : Nat) (hB : B ≤ w.heap.size) (hr : ReadsM w (· < B) 4 A ws.length (ws.flatMap WordL.cells)) :
    Calls Tryz.prog 79 #[.slice A ws.length c] w (NumsPost w ws):=by
  have hmk:=run_make_row' (P:=Tryz.prog) 59 3 (.int .i64 0) 8 Tryz.underlying59 (by kernel_rfl) rfl .i64 .i64 ws.length (by omega) (by omega) w
  rw [made_ints,← numsAt_zero] at hmk
  have HR:=zh hr
  obtain ⟨W0,hW0⟩ : ∃ W0,W0 = w.alloc (.cells ((numsAt ws 0).map fun n => Value.int .i64 n).toArray 3):=⟨_,rfl⟩
  have hb0 : Below w.heap.size w W0:=by rw [hW0];exact below_cal _ _
  have hx0 : W0.heap[w.heap.size]? = some (.cells ((numsAt ws 0).map fun n => Value.int .i64 n).toArray 3 (0,0)):=by rw [hW0];exact heap_alloc_new w _
  rw [← hW0] at hmk
  have HB0:=zh hb0
  have HX0:=zh hx0
  clear hr hW0 hb0 hx0
  go_enter Tryz.func79,Tryz.ntmps79
  go_wp2_with fail
  go_loopw [12] (fun i wr => ∃ k : Nat,k ≤ ws.length ∧ i = .int .i64 k ∧ Below w.heap.size w wr ∧ wr.heap[w.heap.size]? = some (.cells ((numsAt ws k).map fun n => Value.int .i64 n).toArray 3 (0,0)) ∧ ws.all (·.num) = (ws.drop k).all (·.num)) (fun i _ => ws.length - (intOf i).toNat)
  case atStart => exact ⟨0,Nat.zero_le _,rfl,HB0.out,HX0.out,rfl⟩
  case round =>
    obtain ⟨k,hk,rfl,hb,hx,hs⟩:=hrel
    have hbs:=hb.size
    by_cases hlt : k < ws.length
    · obtain ⟨t,ht⟩ : ∃ t,ws[k]? = some t := ⟨_,List.getElem?_eq_getElem hlt⟩
      have hk' : ∀ p : Addr,p.block < B → wr.cell? p = w.cell? p:=fun p hp => hb.cell (by omega)
      obtain ⟨ad,rfl,hadb,d0,d1,d2,d3⟩:=word_cells (HR.out.keep (fun _ h => h) hk') k t ht
      rw [all_num_drop ws k t ht] at hs
      have lk : (k : Int) < ws.length:=by omega
      have lk0 : (0 : Int) ≤ k:=by omega
      have w1f : IntKind.i64.wrap ((k : Int) + 1) = (k : Int) + 1:=by rw [IntKind.wrap_i64];omega
      have hlk:=numsAt_len ws k hk
      obtain ⟨q,hq⟩ : ∃ q,(numsAt ws k)[k]? = some q:=⟨_,List.getElem?_eq_getElem (by omega)⟩
      have hc : wr.cell? ⟨w.heap.size,k,none⟩ = some (.int .i64 q):=by rw [zb hx k];simp [hq]
      have hf:=zu hx k
      have hgl : w.heap.size < wr.heap.size:=(Array.getElem?_eq_some_iff.1 hx).1
      have hnew : ((wr.setCell ⟨w.heap.size,k,none⟩ (.int .i64 t.n)).alloc (.cells #[.bool true, .int .i64 t.n, .string ⟨t.s.toArray⟩, .int .i64 t.pos] 61)).heap[w.heap.size]? = some (.cells ((numsAt ws (k + 1)).map fun n => Value.int .i64 n).toArray 3 (0,0)) := by
        have h2:=Joins.block_setCell hx (i:=k) (.int .i64 t.n)
        rw [Go.heap_alloc_old _ _ (by simpa using hgl),h2,← numsAt_set ws k t ht]
        congr 2
        apply Array.ext'
        simp [List.map_set]
      have HN:=zh hnew
      have HB:=zh hb
      cases hok : t.num
      · rw [hok] at hs d0
        have hs' : ws.all (·.num) = false:=by rw [hs];rfl
        have HS:=zh hs'
        clear hk' hb hs hs' hx hq hnew ht hlk
        go_wp2_with fail
        go_ret2
        refine ⟨?_,?_,?_⟩
        · rw [HS.out];rfl
        · intro h;rw [HS.out] at h;cases h
        · exact Below.alloc HB.out (by omega) _
      · rw [hok] at hs d0
        have HOK:=zh hok
        have HS:=zh (show ws.all (·.num) = (ws.drop (k + 1)).all (·.num) by rw [hs];simp)
        have hgf : (wr.alloc (.cells #[.bool true, .int .i64 t.n, .string ⟨t.s.toArray⟩, .int .i64 t.pos] 61)).frozen? ⟨w.heap.size,k,none⟩ = false:=(World.frozen?_alloc_old wr _ ⟨w.heap.size,k,none⟩ (by show w.heap.size ≠ _;omega)).trans hf
        have hgc : (wr.alloc (.cells #[.bool true, .int .i64 t.n, .string ⟨t.s.toArray⟩, .int .i64 t.pos] 61)).cell? ⟨w.heap.size,k,none⟩ = some (.int .i64 q):=(World.cell?_alloc_lt wr _ ⟨w.heap.size,k,none⟩ (by show w.heap.size < _;omega)).trans hc
        clear hk' hb hs hx hq hnew ht hlk hok
        go_wp2_with fail
        exact ⟨⟨k + 1,by omega,by go_num,(HB.out.setCell (by simp) _).alloc (by simpa using hbs) _,HN.out,HS.out⟩,by simp [intOf];omega⟩
    · have lk : ¬ (k : Int) < ws.length := by omega
      have hk2 : k = ws.length:=by omega
      have hs2 : ws.all (·.num) = true:=by rw [hs,hk2];simp
      have HS2:=zh hs2
      have HX2:=zh (show IntBlk wr w.heap.size (ws.map (·.n)) from ⟨_,by rw [hx,hk2,numsAt_end]⟩)
      clear hs hs2 hk2 hx
      go_wp2_with fail
      go_ret2
      exact ⟨by rw [HS2.out];rfl,fun _ => HX2.out,hb⟩
/-! ### keys: a map from each key's name to what it does -/
def keyFns : List (Bytes × FuncId):=[(b_end,71),(b_periods,72),(b_named,73),(b_pay,75),(b_extra,77),(b_serve,78),(b_compare,80)]
def keyMap : Array MapEntry:=#[⟨.string ⟨b_end.toArray⟩, .func (.func 71) #[] #[],0⟩,⟨.string ⟨b_periods.toArray⟩, .func (.func 72) #[] #[],1⟩,⟨.string ⟨b_named.toArray⟩, .func (.func 73) #[] #[],2⟩,⟨.string ⟨b_pay.toArray⟩, .func (.func 75) #[] #[],3⟩,⟨.string ⟨b_extra.toArray⟩, .func (.func 77) #[] #[],4⟩,⟨.string ⟨b_serve.toArray⟩, .func (.func 78) #[] #[],5⟩,⟨.string ⟨b_compare.toArray⟩, .func (.func 80) #[] #[],6⟩]
theorem keyMap_ok (n : Nat) : ∀ e ∈ (keyMap.extract 0 n).toList,KeyOk .string e.key := by
  intro e he
  have : e ∈ keyMap.toList := by
    rw [Array.toList_extract,List.extract_eq_take_drop] at he
    exact List.mem_of_mem_drop (List.mem_of_mem_take he)
  simp only [keyMap,List.mem_cons,List.not_mem_nil,or_false] at this
  rcases this with rfl | rfl | rfl | rfl | rfl | rfl | rfl <;> exact KeyOk.str _
theorem keyMap_new (n : Nat) (e : MapEntry) (hn : n < 7) (he : keyMap[n]? = some e) : findE e.key (keyMap.extract 0 n).toList 0 = none := by
  have h : ∀ n : Fin 7,findE (keyMap[n.1]!).key (keyMap.extract 0 n.1).toList 0 = none:=by decide
  have h1:=h ⟨n,hn⟩
  rw [getElem!_def,he] at h1
  exact h1
theorem keyMap_put (w : World) (n : Nat) (e : MapEntry) (hn : n < 7) (he : keyMap[n]? = some e) (hb : e.born = n) :
    (Instr.mapUpdate 92 (.map (some w.heap.size)) e.key e.val).run Tryz.prog (w.alloc (.map (keyMap.extract 0 n) n)) = .ok () (w.alloc (.map (keyMap.extract 0 (n + 1)) (n + 1))):=by
  have hk : KeyOk .string e.key := keyMap_ok 7 e (by
    have : e ∈ keyMap.toList := by
      have:=Array.mem_of_getElem? he
      exact Array.mem_toList_iff.2 this
    exact this)
  have h:=run_mapUpdate_last (w:=w) (es:=keyMap.extract 0 n) (clock:=n) (v:=e.val) Tryz.underlying92 Tryz.underlying9 hk (keyMap_ok n) (keyMap_new n e hn he)
  rw [h]
  congr 3
  have hsz : n < keyMap.size:=hn
  have hget : keyMap[n] = e:=(Array.getElem?_eq_some_iff.1 he).2
  obtain ⟨k,v,b⟩:=e
  dsimp only at hb
  subst hb
  apply Array.ext_getElem?
  intro i
  have hs7 : keyMap.size = 7:=rfl
  simp only [Array.getElem?_push,Array.size_extract,Array.getElem?_extract]
  by_cases h1 : i < b
  · have : i ≠ min b keyMap.size - 0 := by omega
    rw [if_neg this]
    rw [if_pos (by omega),if_pos (by omega)]
  · by_cases h2 : i = b
    · subst h2
      rw [if_pos (by omega),if_pos (by omega),Nat.zero_add]
      exact he.symm
    · rw [if_neg (by omega),if_neg (by omega),if_neg (by omega)]
end
section
open Go.RowKit
open Go.Joins renaming cell_of_block → zb, unfrozen_of_block → zu
open Go.Lib renaming hid → zh
theorem NumsPost.yes {w w' : World} {ws : List WordL} {e : Ending} (h : NumsPost w ws e w') (ha : ws.all (·.num) = true) :
    e = .returned (.tuple #[.slice (some ⟨w.heap.size,0,none⟩) ws.length ws.length, .bool true]) ∧ IntBlk w' w.heap.size (ws.map (·.n)) ∧ Below w.heap.size w w':=by
  obtain ⟨h1,h2,h3⟩:=h
  rw [ha] at h1
  exact ⟨h1,h2 ha,h3⟩
theorem NumsPost.no {w w' : World} {ws : List WordL} {e : Ending} (h : NumsPost w ws e w') (ha : ws.all (·.num) = false) :
    e = .returned (.tuple #[.slice none 0 0, .bool false]) ∧ Below w.heap.size w w':=by
  obtain ⟨h1,h2,h3⟩:=h
  rw [ha] at h1
  exact ⟨h1,h3⟩
set_option maxHeartbeats 4000000 in
theorem key_serve : KeyAt 78 (keyK b_serve) (fun _ => True) := by
  intro c ws A cw w B cb _ hne hlen hB hc hr
  have hlt:=hc.lt
  have HN:=zh (field_numbers ws hlen A cw w B (by omega) hr)
  have HC:=zh hc
  have hk : keyK b_serve c ws = if ws.all (·.num) = true ∧ ws.length = 2 then ({ c with first:=(ws.headD ⟨false,0,[],0⟩).n,last:=(ws.getD 1 ⟨false,0,[],0⟩).n },true) else (c,false):=rfl
  have HK:=zh hk
  clear hk hc hr
  cases ha : ws.all (·.num)
  · have h2 : keyK b_serve c ws = (c,false) := by rw [HK.out,ha]; rfl
    rw [h2]
    have HN':=zh (fun e w' h => NumsPost.no (w:=w) (w':=w') (e:=e) h ha)
    clear ha h2
    go_enter Tryz.func78,Tryz.ntmps78
    go_wp2_with fail
    refine HN.out.mono ?_
    intro e w1 h
    obtain ⟨rfl,hb1⟩:=HN'.out e w1 h
    have HC1:=zh (HC.out.keep hb1)
    have HS1:=zh (step_below (cb:=cb) hb1)
    clear h hb1
    go_wp2_with fail
    go_ret
    exact ⟨rfl,HC1.out,HS1.out⟩
  · have HN' := zh (fun e w' h => NumsPost.yes (w := w) (w' := w') (e := e) h ha)
    by_cases hl2 : ws.length = 2
    · obtain ⟨a,b,rfl⟩ : ∃ a b,ws = [a,b] := by
        match ws,hl2 with
        | [a,b],_ => exact ⟨a,b,rfl⟩
      have h2 : keyK b_serve c [a,b] = ({ c with first:=a.n,last:=b.n },true):=by rw [HK.out,ha];rfl
      rw [h2]
      clear ha h2 hl2 hne hlen HK
      go_enter Tryz.func78,Tryz.ntmps78
      go_wp2_with fail
      refine HN.out.mono ?_
      intro e w1 h
      obtain ⟨rfl,hi1,hb1⟩:=HN'.out e w1 h
      have hc1:=HC.out.keep hb1
      have n0:=hi1.cell 0 a.n rfl
      have n1:=hi1.cell 1 b.n rfl
      have hf:=zu hc1
      have f11:=hf 11
      have f12:=hf 12
      have c11:=zb hc1 11
      have c12:=zb hc1 12
      have hfin : CalBlk ((w1.setCell ⟨cb,11,none⟩ (.int .i64 a.n)).setCell ⟨cb,12,none⟩ (.int .i64 b.n)) cb { c with first := a.n,last := b.n } := by
        have:=Joins.block_setCell (Joins.block_setCell hc1 (i:=11) (.int .i64 a.n)) (i:=12) (.int .i64 b.n)
        simpa [CalBlk] using this
      have HF:=zh hfin
      have HS:=zh (((step_below (cb:=cb) hb1).put 11 (.int .i64 a.n)).put 12 (.int .i64 b.n))
      have r12 : (w1.setCell ⟨cb,11,none⟩ (.int .i64 a.n)).cell? ⟨cb,12,none⟩ = some (.int .i64 c.last):=(World.cell?_setCell_other w1 ⟨cb,11,none⟩ ⟨cb,12,none⟩ _ (by simp)).trans c12
      have r11 : (w1.setCell ⟨cb,12,none⟩ (.int .i64 b.n)).cell? ⟨cb,11,none⟩ = some (.int .i64 c.first):=(World.cell?_setCell_other w1 ⟨cb,12,none⟩ ⟨cb,11,none⟩ _ (by simp)).trans c11
      clear h hb1 hc1 hi1 hf hfin
      go_wp2_with fail
      go_region
      all_goals (
        go_wp2_with fail
        go_ret
        exact ⟨rfl,HF.out,HS.out.drew⟩)
    · have h2 : keyK b_serve c ws = (c,false) := by rw [HK.out,if_neg (fun h => hl2 h.2)]
      rw [h2]
      have lne : ((ws.length : Int) != 2) = true:=by simp;omega
      clear ha h2 HK
      go_enter Tryz.func78,Tryz.ntmps78
      go_wp2_with fail
      refine HN.out.mono ?_
      intro e w1 h
      obtain ⟨rfl,hi1,hb1⟩:=HN'.out e w1 h
      have HC1:=zh (HC.out.keep hb1)
      have HS1:=zh (step_below (cb:=cb) hb1)
      clear h hb1 hi1
      go_wp2_with fail
      go_ret
      exact ⟨rfl,HC1.out,HS1.out⟩
end
section
open Go.RowKit
open Go.Joins renaming cell_of_block → zb, unfrozen_of_block → zu
open Go.Lib renaming hid → zh
def pos124 (n : Int) : Int:=if n = 1 then 1 else if n = 2 then 2 else if n = 4 then 3 else 0
theorem pos124_ok (n : Int) : decide (0 < pos124 n) = cycOk n := by
  unfold pos124 cycOk
  by_cases h1 : n = 1
  · simp [h1]
  by_cases h2 : n = 2
  · simp [h2]
  by_cases h4 : n = 4
  · simp [h4]
  simp [h1,h2,h4]
theorem place_124 (n : Int) (g : Nat) (w : World) (T : TypeId) (hg : w.heap[g]? = some (.cells #[.int .i64 1, .int .i64 2, .int .i64 4] T (0,0))) :
    Calls Tryz.prog 76 #[.slice (some ⟨g,0,none⟩) 3 3, .int .i64 n] w fun e w' => e = .returned (.int .i64 (pos124 n)) ∧ w = w':=by
  have hI := Tryz.slices_Index_int g 0 3 3 [1,2,4] n w (by decide) (by omega) (fun j hj => by
    rw [Nat.zero_add,zb hg j]
    simp only [List.length_cons,List.length_nil] at hj
    obtain rfl | rfl | rfl : j = 0 ∨ j = 1 ∨ j = 2:=by omega
    all_goals rfl)
  have hz : IntKind.i64.wrap (Lib.idxOf ([1,2,4].take 3) n + 1) = pos124 n := by
    rw [IntKind.wrap_i64]
    unfold pos124
    have e : Lib.idxOf ([1,2,4].take 3) n = if (1 : Int) = n then 0 else if (2 : Int) = n then 1 else if (4 : Int) = n then 2 else -1:=rfl
    rw [e]
    by_cases h1 : n = 1
    · subst h1;rfl
    by_cases h2 : n = 2
    · subst h2;rfl
    by_cases h4 : n = 4
    · subst h4;rfl
    rw [if_neg (Ne.symm h1),if_neg (Ne.symm h2),if_neg (Ne.symm h4),if_neg h1,if_neg h2,if_neg h4];rfl
  generalize Lib.idxOf ([1,2,4].take 3) n = z at *
  have HI:=zh hI
  clear hI hg
  go_enter Tryz.func76,Tryz.ntmps76
  go_wp2_with fail
  refine HI.out.mono ?_
  rintro e w1 ⟨rfl,rfl⟩
  go_wp2_with fail
  go_ret
  exact ⟨rfl,rfl⟩
/-- A cell of another block behind a store. -/
theorem cell_put {w : World} {p q : Addr} {u v : Value} (h : w.cell? p = some v) (hne : p.block ≠ q.block) : (w.setCell q u).cell? p = some v:=(World.cell?_setCell_other w q p u (fun e => hne (congrArg Addr.block e).symm)).trans h
set_option maxHeartbeats 4000000 in
theorem key_pay : KeyAt 75 (keyK b_pay) (fun _ => True) := by
  intro c ws A cw w B cb _ hne hlen hB hc hr
  obtain ⟨t,r,rfl⟩ : ∃ t r,ws = t :: r := by
    cases ws with
    | nil => exact absurd rfl hne
    | cons t r => exact ⟨t,r,rfl⟩
  obtain ⟨ad,rfl,hadb,e0,e1,e2,e3⟩:=word0 hr
  have hf:=zu hc
  have f5:=hf 5
  have f9:=hf 9
  have c5:=zb hc 5
  have c9:=zb hc 9
  have hk : keyK b_pay c (t :: r) = ({ c with shape:=3,cycle:=t.n },decide ((t :: r).length = 1) && t.num && cycOk t.n):=rfl
  rw [hk]
  have hdb : ad.block ≠ cb:=by omega
  have hlt:=hc.lt
  have HC:=zh hc
  clear hk hf hr hc hne
  have hL0 : (0 : Int) < (t :: r).length:=by simp
  generalize hL : (t :: r).length = L at *
  clear hL
  obtain ⟨tn,n,s,pos⟩:=t
  dsimp only at *
  have hpk:=pos124_ok n
  have HPP:=zh (fun g W T h => place_124 n g W T h)
  generalize pos124 n = z at *
  generalize cycOk n = b at *
  have hL1 : ((L : Int) == 1) = decide (L = 1) := by
    by_cases h : L = 1
    · subst h;rfl
    · rw [decide_eq_false h];exact beq_false_of_ne (by omega)
  generalize decide (L = 1) = b1 at *
  have hcal : CalBlk ((w.setCell ⟨cb,5,none⟩ (.int .i64 3)).setCell ⟨cb,9,none⟩ (.int .i64 n)) cb { c with shape := 3,cycle := n } := by
    have:=Joins.block_setCell (Joins.block_setCell HC.out (i:=5) (.int .i64 3)) (i:=9) (.int .i64 n)
    simpa [CalBlk] using this
  have HF:=zh hcal
  have HS:=zh (((Step.refl w [] (some cb)).put 5 (.int .i64 3)).put 9 (.int .i64 n))
  have s0:=cell_put (u:=.int .i64 n) (q:=⟨cb,9,none⟩) (cell_put (u:=.int .i64 3) (q:=⟨cb,5,none⟩) e0 hdb) hdb
  have s1:=cell_put (u:=.int .i64 n) (q:=⟨cb,9,none⟩) (cell_put (u:=.int .i64 3) (q:=⟨cb,5,none⟩) e1 hdb) hdb
  have r1 : (w.setCell ⟨cb,5,none⟩ (.int .i64 3)).cell? ⟨cb,9,none⟩ = some (.int .i64 c.cycle):=(World.cell?_setCell_other w ⟨cb,5,none⟩ ⟨cb,9,none⟩ _ (by simp)).trans c9
  clear hcal
  cases b1
  · go_enter Tryz.func75,Tryz.ntmps75
    go_wp2_with fail
    go_ret
    exact ⟨rfl,HF.out,HS.out⟩
  · cases tn
    · go_enter Tryz.func75,Tryz.ntmps75
      go_wp2_with fail
      go_ret
      exact ⟨rfl,HF.out,HS.out⟩
    · obtain ⟨W,hW⟩ : ∃ W,W = ((w.setCell ⟨cb,5,none⟩ (.int .i64 3)).setCell ⟨cb,9,none⟩ (.int .i64 n)).alloc (.cells #[.int .i64 1, .int .i64 2, .int .i64 4] 3) := ⟨_,rfl⟩
      have hlw : ad.block < ((w.setCell ⟨cb,5,none⟩ (.int .i64 3)).setCell ⟨cb,9,none⟩ (.int .i64 n)).heap.size:=by simp;omega
      have s2:=(World.cell?_alloc_lt _ (.cells #[.int .i64 1, .int .i64 2, .int .i64 4] 3) ⟨ad.block,ad.off + 1,none⟩ hlw).trans s1
      have hb1:=heap_alloc_new ((w.setCell ⟨cb,5,none⟩ (.int .i64 3)).setCell ⟨cb,9,none⟩ (.int .i64 n)) (.cells #[.int .i64 1, .int .i64 2, .int .i64 4] 3)
      have hsz : ((w.setCell ⟨cb,5,none⟩ (.int .i64 3)).setCell ⟨cb,9,none⟩ (.int .i64 n)).heap.size = w.heap.size:=by simp
      rw [hsz] at hb1
      have HP1:=zh (HPP.out _ _ _ hb1)
      clear hb1 hlw
      cases b <;> (
        go_enter Tryz.func75,Tryz.ntmps75
        go_wp2_with fail
        refine HP1.out.mono ?_
        rintro e w9 ⟨rfl,rfl⟩
        go_wp2_with fail
        go_ret
        refine ⟨rfl,HF.out.keep ((Below.refl _ _).alloc (Nat.le_refl _) _),HS.out.alloc _⟩)
end
section
open Go.RowKit
open Go.Joins renaming cell_of_block → zb, unfrozen_of_block → zu
open Go.Lib renaming hid → zh
theorem keyK_periods (c : CalL) (ws : List WordL) : keyK b_periods c ws = if ws.all (·.num) = true then
      (if ws.length = 1 then ({ c with shape := 2 },decide ((ws.headD ⟨false,0,[],0⟩).n = 4))
       else if ws.length = 3 then ({ c with shape:=1,p0:=(ws.headD ⟨false,0,[],0⟩).n,p1:=(ws.getD 1 ⟨false,0,[],0⟩).n,p2:=(ws.getD 2 ⟨false,0,[],0⟩).n },patOk (ws.headD ⟨false,0,[],0⟩).n (ws.getD 1 ⟨false,0,[],0⟩).n (ws.getD 2 ⟨false,0,[],0⟩).n)
       else (c,false)) else (c,false):=rfl
theorem arrayAt3 (a : Addr) (W : World) : (Instr.arrayAt 35 (.slice (some a) 3 3)).run Tryz.prog W = .ok (.pointer (some a)) W := by
  simp [Instr.arrayAt,run_underlying und_pat]
set_option maxHeartbeats 4000000 in
theorem key_periods : KeyAt 72 (keyK b_periods) (fun _ => True) := by
  intro c ws A cw w B cb _ hne hlen hB hc hr
  have hlt:=hc.lt
  have HN:=zh (field_numbers ws hlen A cw w B (by omega) hr)
  have HC:=zh hc
  have HK:=zh (keyK_periods c ws)
  clear hc hr
  cases ha : ws.all (·.num)
  · have h2 : keyK b_periods c ws = (c,false) := by rw [HK.out,ha]; rfl
    rw [h2]
    have HN':=zh (fun e w' h => NumsPost.no (w:=w) (w':=w') (e:=e) h ha)
    clear ha h2 HK
    go_enter Tryz.func72,Tryz.ntmps72
    go_wp2_with fail
    refine HN.out.mono ?_
    intro e w1 h
    obtain ⟨rfl,hb1⟩:=HN'.out e w1 h
    have HC1:=zh (HC.out.keep hb1)
    have HS1:=zh (step_below (cb:=cb) hb1)
    clear h hb1
    go_wp2_with fail
    go_ret
    exact ⟨rfl,HC1.out,HS1.out⟩
  · have HN' := zh (fun e w' h => NumsPost.yes (w := w) (w' := w') (e := e) h ha)
    by_cases hl1 : ws.length = 1
    · obtain ⟨a,rfl⟩ : ∃ a,ws = [a] := by
        match ws,hl1 with
        | [a],_ => exact ⟨a,rfl⟩
      have h2 : keyK b_periods c [a] = ({ c with shape:=2 },(a.n == 4)):=by rw [HK.out,ha];simp;by_cases h : a.n = 4 <;> simp [h]
      rw [h2]
      clear ha h2 hl1 hne hlen HK
      go_enter Tryz.func72,Tryz.ntmps72
      go_wp2_with fail
      refine HN.out.mono ?_
      intro e w1 h
      obtain ⟨rfl,hi1,hb1⟩:=HN'.out e w1 h
      have hc1:=HC.out.keep hb1
      have n0:=hi1.cell 0 a.n rfl
      have f5:=zu hc1 5
      have c5:=zb hc1 5
      have hfin : CalBlk (w1.setCell ⟨cb,5,none⟩ (.int .i64 2)) cb { c with shape := 2 } := by
        have:=Joins.block_setCell hc1 (i:=5) (.int .i64 2)
        simpa [CalBlk] using this
      have HF:=zh hfin
      have HS:=zh ((step_below (cb:=cb) hb1).put 5 (.int .i64 2))
      have hgg : w.heap.size ≠ cb:=by omega
      have s0:=cell_put (u:=.int .i64 2) (q:=⟨cb,5,none⟩) n0 hgg
      clear h hb1 hc1 hi1 hfin
      go_wp2_with fail
      go_ret
      exact ⟨rfl,HF.out,HS.out⟩
    by_cases hl3 : ws.length = 3
    · obtain ⟨a,b,d,rfl⟩ : ∃ a b d,ws = [a,b,d] := by
        match ws,hl3 with
        | [a,b,d],_ => exact ⟨a,b,d,rfl⟩
      have h2 : keyK b_periods c [a,b,d] = ({ c with shape:=1,p0:=a.n,p1:=b.n,p2:=d.n },patOk a.n b.n d.n):=by rw [HK.out,ha];simp
      rw [h2]
      have hpk:=patFrom_ok a.n b.n d.n
      have HPP:=zh (fun g W h => place_pat a.n b.n d.n g W h)
      generalize patFrom 0 a.n b.n d.n = z at *
      generalize patOk a.n b.n d.n = po at *
      clear ha h2 hl1 hl3 hne hlen HK
      go_enter Tryz.func72,Tryz.ntmps72
      go_wp2_with fail
      refine HN.out.mono ?_
      intro e w1 h
      obtain ⟨rfl,hi1,hb1⟩:=HN'.out e w1 h
      have hc1:=HC.out.keep hb1
      have n0:=hi1.cell 0 a.n rfl
      have n1:=hi1.cell 1 b.n rfl
      have n2:=hi1.cell 2 d.n rfl
      have hf:=zu hc1
      have f5:=hf 5
      have f6:=hf 6
      have f7:=hf 7
      have f8:=hf 8
      have c5:=zb hc1 5
      have c6:=zb hc1 6
      have c7:=zb hc1 7
      have c8:=zb hc1 8
      have hsa:=arrayAt3 ⟨w.heap.size,0,none⟩ w1
      clear h hf
      go_wp2_with fail
      obtain ⟨W,hW⟩ : ∃ W,(((w1.setCell ⟨cb,5,none⟩ (.int .i64 1)).setCell ⟨cb,6,none⟩ (.int .i64 a.n)).setCell ⟨cb,7,none⟩ (.int .i64 b.n)).setCell ⟨cb,8,none⟩ (.int .i64 d.n) = W:=⟨_,rfl⟩
      rw [hW]
      have hcW : CalBlk W cb { c with shape := 1,p0 := a.n,p1 := b.n,p2 := d.n } := by
        rw [← hW]
        have:=Joins.block_setCell (Joins.block_setCell (Joins.block_setCell (Joins.block_setCell hc1 (i:=5) (.int .i64 1)) (i:=6) (.int .i64 a.n)) (i:=7) (.int .i64 b.n)) (i:=8) (.int .i64 d.n)
        simpa [CalBlk] using this
      have hsW : Step w W [] (some cb) := by
        rw [← hW]
        exact ((((step_below (cb:=cb) hb1).put 5 _).put 6 _).put 7 _).put 8 _
      have y6:=zb hcW 6
      have y7:=zb hcW 7
      have y8:=zb hcW 8
      have hgl:=hcW.lt
      have HCW:=zh hcW
      have HSW:=zh hsW
      have hz0 : ∀ x : Int,decide (0 < x) = (0 < x : Bool):=fun _ => rfl
      clear hW hcW hsW n0 n1 n2 f5 f6 f7 f8 c5 c6 c7 c8 hi1 hb1 hc1 hsa hz0
      go_region_with (first | (go_at_call 98;refine (field_patterns _).mono ?_;rintro e w2 ⟨rfl,hp2,hb2⟩;have x6:=(hb2.cell (p:=⟨cb,6,none⟩) hgl).trans y6;have x7:=(hb2.cell (p:=⟨cb,7,none⟩) hgl).trans y7;have x8:=(hb2.cell (p:=⟨cb,8,none⟩) hgl).trans y8) | (go_at_call 97;refine (HPP.out _ _ (by assumption)).mono ?_;rintro e w3 ⟨rfl,hb3⟩))
      all_goals (
        have hb23 : Below W.heap.size W w3:=Below.trans (show Below W.heap.size W w2 from ⟨hb2.os,hb2.tape,hb2.output,hb2.size,hb2.block⟩) (hb3.mono hb2.size)
        have HC3:=zh (HCW.out.keep hb23)
        have HS3:=zh (HSW.out.below hb23)
        clear hb2 hb3 hb23 hp2 x6 x7 x8 y6 y7 y8
        simp only [Act.put,List.setIfInBounds_toArray,List.set_cons_succ,List.set_cons_zero,List.getElem_toArray,List.getElem_cons_succ,List.getElem_cons_zero]
        go_wp2_with fail
        go_ret
        exact ⟨by rw [← hpk];rfl,HC3.out,HS3.out⟩)
    · have h2 : keyK b_periods c ws = (c,false) := by rw [HK.out,ha,if_pos rfl,if_neg hl1,if_neg hl3]
      rw [h2]
      have ln1 : ((ws.length : Int) == 1) = false:=beq_false_of_ne (by omega)
      have ln3 : ((ws.length : Int) == 3) = false:=beq_false_of_ne (by omega)
      clear ha h2 HK
      go_enter Tryz.func72,Tryz.ntmps72
      go_wp2_with fail
      refine HN.out.mono ?_
      intro e w1 h
      obtain ⟨rfl,hi1,hb1⟩:=HN'.out e w1 h
      have HC1:=zh (HC.out.keep hb1)
      have HS1:=zh (step_below (cb:=cb) hb1)
      clear h hb1 hi1
      go_wp2_with fail
      go_ret
      exact ⟨rfl,HC1.out,HS1.out⟩
end
end Go.Proofs.YtjbniichcopnlaaGreatDoor
