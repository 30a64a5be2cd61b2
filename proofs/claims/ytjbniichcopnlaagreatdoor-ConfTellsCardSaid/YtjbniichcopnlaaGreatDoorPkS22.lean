/- Layer 11 (field): the walks of Check, Periods. Then: Layer 11 (field): the walks of the lists of names, place, named, stands, Periods. Then: Layer 12 (conf): the walk of met: a name that was met, or is new. Then: Layer 11 (field): the walks of what each key does. -/
import Derived.Test.YtjbniichcopnlaaGreatDoorPkS21
import Derived.Test.YtjbniichcopnlaaGreatDoorPkS17
import Derived.Test.YtjbniichcopnlaaGreatDoorShelf
import Derived.Test.YtjbniichcopnlaaGreatDoorPkS19
import Derived.Test.YtjbniichcopnlaaGreatDoorPkS11
set_option linter.unusedVariables false
set_option linter.unusedSimpArgs false
namespace Go.Proofs.YtjbniichcopnlaaGreatDoor
section
set_option maxRecDepth 100000
open Go.RowKit
open Go.Lib renaming hid → zh
set_option maxHeartbeats 16000000 in
theorem check_srv (kind day month shift shape p0 p1 p2 cycle extra first last policy : Int) (nm : Bytes) (w : World) (hs : ¬ (1602 ≤ first ∧ last ≤ 9996 ∧ first ≤ last ∧ last - first < 400)) :
    Calls Tryz.prog 19 #[.agg #[.string ⟨nm.toArray⟩, .int .i64 kind, .int .i64 day, .int .i64 month, .int .i64 shift, .int .i64 shape, .int .i64 p0, .int .i64 p1, .int .i64 p2, .int .i64 cycle, .int .i64 extra, .int .i64 first, .int .i64 last, .int .i64 policy]] w fun e w' => e = .returned (.int .i64 1) ∧ Below w.heap.size w w':=by
  have HB0:=zh (below_cal w (.cells #[.string ⟨nm.toArray⟩, .int .i64 kind, .int .i64 day, .int .i64 month, .int .i64 shift, .int .i64 shape, .int .i64 p0, .int .i64 p1, .int .i64 p2, .int .i64 cycle, .int .i64 extra, .int .i64 first, .int .i64 last, .int .i64 policy] 37))
  obtain ⟨p,hp⟩ : ∃ b,tween policy 1 4 = b:=⟨_,rfl⟩
  obtain ⟨q1,hq1⟩ : ∃ b,(policy == 4) = b:=⟨_,rfl⟩
  obtain ⟨q2,hq2⟩ : ∃ b,(kind == 6) = b:=⟨_,rfl⟩
  by_cases a1 : 1602 ≤ first
  · by_cases a2 : last ≤ 9996
    · by_cases a3 : first ≤ last
      · have a4 : ¬ last - first < 400 := fun h => hs ⟨a1,a2,a3,h⟩
        have wf : IntKind.i64.wrap (last - first) = last - first:=by rw [IntKind.wrap_i64];omega
        cases p <;> (
          go_enter Tryz.func19,Tryz.ntmps19
          go_wp2_with (first | (go_at_call 38;refine (field_between _ _ _ _).mono ?_;rintro e w9 ⟨rfl,rfl⟩) | (go_at_call 39;refine (HN.out _).mono ?_;rintro e w7 ⟨rfl,rfl⟩) | (go_at_call 40;refine (HRU.out _).mono ?_;rintro e w8 ⟨rfl,hb8⟩))
          go_ret
          exact ⟨rfl,HB0.out⟩)
      · cases p <;> (
          go_enter Tryz.func19,Tryz.ntmps19
          go_wp2_with (first | (go_at_call 38;refine (field_between _ _ _ _).mono ?_;rintro e w9 ⟨rfl,rfl⟩) | (go_at_call 39;refine (HN.out _).mono ?_;rintro e w7 ⟨rfl,rfl⟩) | (go_at_call 40;refine (HRU.out _).mono ?_;rintro e w8 ⟨rfl,hb8⟩))
          go_ret
          exact ⟨rfl,HB0.out⟩)
    · cases p <;> (
        go_enter Tryz.func19,Tryz.ntmps19
        go_wp2_with (first | (go_at_call 38;refine (field_between _ _ _ _).mono ?_;rintro e w9 ⟨rfl,rfl⟩) | (go_at_call 39;refine (HN.out _).mono ?_;rintro e w7 ⟨rfl,rfl⟩) | (go_at_call 40;refine (HRU.out _).mono ?_;rintro e w8 ⟨rfl,hb8⟩))
        go_ret
        exact ⟨rfl,HB0.out⟩)
  · cases p <;> (
      go_enter Tryz.func19,Tryz.ntmps19
      go_wp2_with (first | (go_at_call 38;refine (field_between _ _ _ _).mono ?_;rintro e w9 ⟨rfl,rfl⟩) | (go_at_call 39;refine (HN.out _).mono ?_;rintro e w7 ⟨rfl,rfl⟩) | (go_at_call 40;refine (HRU.out _).mono ?_;rintro e w8 ⟨rfl,hb8⟩))
      go_ret
      exact ⟨rfl,HB0.out⟩)
set_option maxHeartbeats 16000000 in
theorem check_pol (kind day month shift shape p0 p1 p2 cycle extra first last policy : Int) (nm : Bytes) (w : World) (a1 : 1602 ≤ first) (a2 : last ≤ 9996) (a3 : first ≤ last) (a4 : last - first < 400) (hp : (tween policy 1 4 && ((policy == 4) == (kind == 6))) = false) :
    Calls Tryz.prog 19 #[.agg #[.string ⟨nm.toArray⟩, .int .i64 kind, .int .i64 day, .int .i64 month, .int .i64 shift, .int .i64 shape, .int .i64 p0, .int .i64 p1, .int .i64 p2, .int .i64 cycle, .int .i64 extra, .int .i64 first, .int .i64 last, .int .i64 policy]] w fun e w' => e = .returned (.int .i64 1) ∧ Below w.heap.size w w':=by
  have HB0:=zh (below_cal w (.cells #[.string ⟨nm.toArray⟩, .int .i64 kind, .int .i64 day, .int .i64 month, .int .i64 shift, .int .i64 shape, .int .i64 p0, .int .i64 p1, .int .i64 p2, .int .i64 cycle, .int .i64 extra, .int .i64 first, .int .i64 last, .int .i64 policy] 37))
  have wf : IntKind.i64.wrap (last - first) = last - first:=by rw [IntKind.wrap_i64];omega
  obtain ⟨p,hp'⟩ : ∃ b,tween policy 1 4 = b:=⟨_,rfl⟩
  obtain ⟨q1,hq1⟩ : ∃ b,(policy == 4) = b:=⟨_,rfl⟩
  obtain ⟨q2,hq2⟩ : ∃ b,(kind == 6) = b:=⟨_,rfl⟩
  rw [hp',hq1,hq2] at hp
  cases p
  · clear hp
    go_enter Tryz.func19,Tryz.ntmps19
    go_wp2_with (first | (go_at_call 38;refine (field_between _ _ _ _).mono ?_;rintro e w9 ⟨rfl,rfl⟩) | (go_at_call 39;refine (HN.out _).mono ?_;rintro e w7 ⟨rfl,rfl⟩) | (go_at_call 40;refine (HRU.out _).mono ?_;rintro e w8 ⟨rfl,hb8⟩))
    go_ret
    exact ⟨rfl,HB0.out⟩
  · cases q1 <;> cases q2 <;> first | exact absurd hp (by decide) | (
      clear hp
      go_enter Tryz.func19,Tryz.ntmps19
      go_wp2_with (first | (go_at_call 38;refine (field_between _ _ _ _).mono ?_;rintro e w9 ⟨rfl,rfl⟩) | (go_at_call 39;refine (HN.out _).mono ?_;rintro e w7 ⟨rfl,rfl⟩) | (go_at_call 40;refine (HRU.out _).mono ?_;rintro e w8 ⟨rfl,hb8⟩))
      go_ret
      exact ⟨rfl,HB0.out⟩)
set_option maxHeartbeats 16000000 in
theorem check_end (kind day month shift shape p0 p1 p2 cycle extra first last policy : Int) (nm : Bytes) (w : World) (a1 : 1602 ≤ first) (a2 : last ≤ 9996) (a3 : first ≤ last) (a4 : last - first < 400) (hp : (tween policy 1 4 && ((policy == 4) == (kind == 6))) = true) (hl : nm.length ≤ maxLen) :
    Calls Tryz.prog 19 #[.agg #[.string ⟨nm.toArray⟩, .int .i64 kind, .int .i64 day, .int .i64 month, .int .i64 shift, .int .i64 shape, .int .i64 p0, .int .i64 p1, .int .i64 p2, .int .i64 cycle, .int .i64 extra, .int .i64 first, .int .i64 last, .int .i64 policy]] w fun e w' => e = .returned (.int .i64 (if nameL nm && ruledC ⟨nm,kind,day,month,shift,shape,p0,p1,p2,cycle,extra,first,last,policy⟩ then 0 else 1)) ∧ Below w.heap.size w w':=by
  have HB0:=zh (below_cal w (.cells #[.string ⟨nm.toArray⟩, .int .i64 kind, .int .i64 day, .int .i64 month, .int .i64 shift, .int .i64 shape, .int .i64 p0, .int .i64 p1, .int .i64 p2, .int .i64 cycle, .int .i64 extra, .int .i64 first, .int .i64 last, .int .i64 policy] 37))
  have wf : IntKind.i64.wrap (last - first) = last - first:=by rw [IntKind.wrap_i64];omega
  have HN:=zh (name_atG nm hl)
  have HRU:=zh (fun W => field_ruled ⟨nm,kind,day,month,shift,shape,p0,p1,p2,cycle,extra,first,last,policy⟩ W)
  generalize ruledC ⟨nm,kind,day,month,shift,shape,p0,p1,p2,cycle,extra,first,last,policy⟩ = ru at *
  generalize nameL nm = nb at *
  dsimp only [calV] at HRU
  clear hl
  obtain ⟨p,hp'⟩ : ∃ b,tween policy 1 4 = b:=⟨_,rfl⟩
  obtain ⟨q1,hq1⟩ : ∃ b,(policy == 4) = b:=⟨_,rfl⟩
  obtain ⟨q2,hq2⟩ : ∃ b,(kind == 6) = b:=⟨_,rfl⟩
  rw [hp',hq1,hq2] at hp
  cases p
  · exact absurd hp (by simp)
  · cases q1 <;> cases q2 <;> first | exact absurd hp (by decide) | (
      clear hp
      cases nb
      · skip
        go_enter Tryz.func19,Tryz.ntmps19
        go_wp2_with (first | (go_at_call 38;refine (field_between _ _ _ _).mono ?_;rintro e w9 ⟨rfl,rfl⟩) | (go_at_call 39;refine (HN.out _).mono ?_;rintro e w7 ⟨rfl,rfl⟩) | (go_at_call 40;refine (HRU.out _).mono ?_;rintro e w8 ⟨rfl,hb8⟩))
        go_ret
        exact ⟨rfl,HB0.out⟩
      · cases ru <;> (
          go_enter Tryz.func19,Tryz.ntmps19
          go_wp2_with (first | (go_at_call 38;refine (field_between _ _ _ _).mono ?_;rintro e w9 ⟨rfl,rfl⟩) | (go_at_call 39;refine (HN.out _).mono ?_;rintro e w7 ⟨rfl,rfl⟩) | (go_at_call 40;refine (HRU.out _).mono ?_;rintro e w8 ⟨rfl,hb8⟩))
          go_ret
          exact ⟨rfl,HB0.out.trans (hb8.mono HB0.out.size)⟩))
theorem field_Check (c : CalL) (hl : c.name.length ≤ maxLen) (w : World) : Calls Tryz.prog 19 #[calV c] w fun e w' => e = .returned (.int .i64 (errC c)) ∧ Below w.heap.size w w' := by
  obtain ⟨nm,kind,day,month,shift,shape,p0,p1,p2,cycle,extra,first,last,policy⟩:=c
  have he : ∀ b : Bool,okC ⟨nm,kind,day,month,shift,shape,p0,p1,p2,cycle,extra,first,last,policy⟩ = b → errC ⟨nm,kind,day,month,shift,shape,p0,p1,p2,cycle,extra,first,last,policy⟩ = if b then 0 else 1:=fun b h => by unfold errC;rw [h]
  by_cases hs : 1602 ≤ first ∧ last ≤ 9996 ∧ first ≤ last ∧ last - first < 400
  · obtain ⟨a1,a2,a3,a4⟩ := hs
    have hsv : servedC ⟨nm,kind,day,month,shift,shape,p0,p1,p2,cycle,extra,first,last,policy⟩ = true:=by simp [servedC,a1,a2,a3,a4]
    have hpc : policyC ⟨nm,kind,day,month,shift,shape,p0,p1,p2,cycle,extra,first,last,policy⟩ = (tween policy 1 4 && ((policy == 4) == (kind == 6))):=rfl
    cases hp : (tween policy 1 4 && ((policy == 4) == (kind == 6)))
    · rw [he false (by unfold okC; rw [hsv,hpc,hp]; rfl)]
      exact check_pol kind day month shift shape p0 p1 p2 cycle extra first last policy nm w a1 a2 a3 a4 hp
    · rw [he (nameL nm && ruledC ⟨nm,kind,day,month,shift,shape,p0,p1,p2,cycle,extra,first,last,policy⟩) (by unfold okC; rw [hsv,hpc,hp]; rfl)]
      exact check_end kind day month shift shape p0 p1 p2 cycle extra first last policy nm w a1 a2 a3 a4 hp hl
  · rw [he false (by
      have : servedC ⟨nm,kind,day,month,shift,shape,p0,p1,p2,cycle,extra,first,last,policy⟩ = false := by
        cases h : servedC ⟨nm,kind,day,month,shift,shape,p0,p1,p2,cycle,extra,first,last,policy⟩
        · rfl
        · exact absurd (by simp [servedC] at h;omega) hs
      unfold okC;rw [this];rfl)]
    exact check_srv kind day month shift shape p0 p1 p2 cycle extra first last policy nm w hs
end
section
set_option maxRecDepth 100000
open Go.RowKit
open Go.Joins renaming cell_of_block → zb, unfrozen_of_block → zu
open Go.Lib renaming hid → zh
/-- A block of texts. -/
def StrBlk (w : World) (g : Nat) (l : List Bytes) : Prop:=∃ T,w.heap[g]? = some (.cells (l.map fun s => Value.string ⟨s.toArray⟩).toArray T (0,0))
theorem StrBlk.keep {w w' : World} {g : Nat} {l : List Bytes} (h : StrBlk w g l) (hb : Below w.heap.size w w') : StrBlk w' g l := by
  obtain ⟨T,h⟩:=h
  exact ⟨T,(hb.block g (Array.getElem?_eq_some_iff.1 h).1).trans h⟩
def StrsPost (l : List Bytes) (w : World) (e : Ending) (w' : World) : Prop:=e = .returned (.slice (some ⟨w.heap.size,0,none⟩) l.length l.length) ∧ StrBlk w' w.heap.size l ∧ Below w.heap.size w w'
theorem field_ends (w : World) : Calls Tryz.prog 27 #[] w (StrsPost endsL w) := by
  go_enter Tryz.func27,Tryz.ntmps27
  go_wp2_with fail
  go_ret
  refine ⟨rfl,⟨_,heap_alloc_new w _⟩,?_⟩
  (repeat (first | exact Below.refl _ _ | assumption | refine Below.setCell ?_ (by first | (simp;done) | (simp;omega) | omega) _ | refine Below.alloc ?_ (by first | (simp;done) | (simp;omega) | omega) _ | refine Below.drew ?_ | refine below_drewN ?_ _ | refine Below.trans ?_ (Below.mono (by assumption) (by first | (simp;done) | (simp;omega) | omega))))
theorem field_weekdays (w : World) : Calls Tryz.prog 28 #[] w (StrsPost days w) := by
  go_enter Tryz.func28,Tryz.ntmps28
  go_wp2_with fail
  go_ret
  refine ⟨rfl,⟨_,heap_alloc_new w _⟩,?_⟩
  (repeat (first | exact Below.refl _ _ | assumption | refine Below.setCell ?_ (by first | (simp;done) | (simp;omega) | omega) _ | refine Below.alloc ?_ (by first | (simp;done) | (simp;omega) | omega) _ | refine Below.drew ?_ | refine below_drewN ?_ _ | refine Below.trans ?_ (Below.mono (by assumption) (by first | (simp;done) | (simp;omega) | omega))))
theorem field_months (w : World) : Calls Tryz.prog 30 #[] w (StrsPost mons w) := by
  go_enter Tryz.func30,Tryz.ntmps30
  go_wp2_with fail
  go_ret
  refine ⟨rfl,⟨_,heap_alloc_new w _⟩,?_⟩
  (repeat (first | exact Below.refl _ _ | assumption | refine Below.setCell ?_ (by first | (simp;done) | (simp;omega) | omega) _ | refine Below.alloc ?_ (by first | (simp;done) | (simp;omega) | omega) _ | refine Below.drew ?_ | refine below_drewN ?_ _ | refine Below.trans ?_ (Below.mono (by assumption) (by first | (simp;done) | (simp;omega) | omega))))
theorem field_policies (w : World) : Calls Tryz.prog 32 #[] w (StrsPost pols w) := by
  go_enter Tryz.func32,Tryz.ntmps32
  go_wp2_with fail
  go_ret
  refine ⟨rfl,⟨_,heap_alloc_new w _⟩,?_⟩
  (repeat (first | exact Below.refl _ _ | assumption | refine Below.setCell ?_ (by first | (simp;done) | (simp;omega) | omega) _ | refine Below.alloc ?_ (by first | (simp;done) | (simp;omega) | omega) _ | refine Below.drew ?_ | refine below_drewN ?_ _ | refine Below.trans ?_ (Below.mono (by assumption) (by first | (simp;done) | (simp;omega) | omega))))
theorem posL_nonneg : ∀ (l : List Bytes) (s : Bytes),0 ≤ posL l s ∧ posL l s ≤ l.length
  | [],_ => ⟨Int.le_refl _,by simp [posL]⟩
  | a :: r,s => by
    have:=posL_nonneg r s
    simp only [posL,List.length_cons]
    split
    · omega
    · split <;> omega
theorem ba_inj (a s : Bytes) : (ByteArray.mk a.toArray = ByteArray.mk s.toArray) ↔ a = s := by
  constructor
  · intro h
    injection h with h
    simpa using h
  · intro h;rw [h]
theorem idx_posL : ∀ (l : List Bytes) (s : Bytes) (i : Nat),Lib.idxFromS (l.map fun a => ByteArray.mk a.toArray) ⟨s.toArray⟩ i = if posL l s = 0 then -1 else (i : Int) + posL l s - 1
  | [],s,i => by simp [Lib.idxFromS,posL]
  | a :: r,s,i => by
    have hr:=posL_nonneg r s
    have ih:=idx_posL r s (i + 1)
    simp only [List.map_cons,Lib.idxFromS,posL]
    by_cases h : a = s
    · subst h;simp
    · have h' : ¬ (ByteArray.mk a.toArray = ByteArray.mk s.toArray) := fun e => h ((ba_inj a s).1 e)
      simp only [h,h',if_false,↓reduceIte,beq_iff_eq]
      rw [ih]
      by_cases h0 : posL r s = 0
      · simp [h0]
      · simp only [h0,if_false]
        rw [if_neg (by omega)]
        push_cast
        omega
theorem place_str (l : List Bytes) (s : Bytes) (g c : Nat) (w : World) (hl : 0 < l.length ∧ l.length ≤ 1000) (hg : StrBlk w g l) :
    Calls Tryz.prog 104 #[.slice (some ⟨g,0,none⟩) l.length c, .string ⟨s.toArray⟩] w fun e w' => e = .returned (.int .i64 (posL l s)) ∧ w = w':=by
  obtain ⟨T,hg⟩:=hg
  have hI := Tryz.slices_Index_string g 0 l.length c (l.map fun a => ByteArray.mk a.toArray) ⟨s.toArray⟩ w (by simp) (by omega) (fun j hj => by
    simp only [List.length_map] at hj
    rw [Nat.zero_add,zb hg j]
    simp [List.getD,hj])
  have hm : (l.map fun a => ByteArray.mk a.toArray).take l.length = l.map fun a => ByteArray.mk a.toArray:=by rw [List.take_of_length_le (by simp)]
  rw [hm] at hI
  have hi:=idx_posL l s 0
  have hp:=posL_nonneg l s
  have hz : IntKind.i64.wrap (Lib.idxOfS (l.map fun a => ByteArray.mk a.toArray) ⟨s.toArray⟩ + 1) = posL l s := by
    rw [IntKind.wrap_i64]
    unfold Lib.idxOfS
    rw [hi]
    split <;> omega
  generalize Lib.idxOfS (l.map fun a => ByteArray.mk a.toArray) ⟨s.toArray⟩ = z at *
  have HI:=zh hI
  clear hI hi hm hg
  go_enter Tryz.func104,Tryz.ntmps104
  go_wp2_with fail
  refine HI.out.mono ?_
  rintro e w1 ⟨rfl,rfl⟩
  go_wp2_with fail
  go_ret
  exact ⟨rfl,rfl⟩
theorem field_named (l : List Bytes) (t : WordL) (g c : Nat) (w : World) (hl : 0 < l.length ∧ l.length ≤ 1000) (hg : StrBlk w g l) :
    Calls Tryz.prog 74 #[.slice (some ⟨g,0,none⟩) l.length c, .agg #[.bool t.num, .int .i64 t.n, .string ⟨t.s.toArray⟩, .int .i64 t.pos]] w fun e w' => e = .returned (.int .i64 (placeW l t)) ∧ Below w.heap.size w w':=by
  have HB:=zh (below_cal w (.cells #[.bool t.num, .int .i64 t.n, .string ⟨t.s.toArray⟩, .int .i64 t.pos] 61))
  have HP:=zh (place_str l t.s g c _ hl (hg.keep HB.out))
  unfold placeW
  generalize posL l t.s = z at *
  obtain ⟨num,n,s,pos⟩:=t
  dsimp only at *
  clear hg hl
  cases num
  · go_enter Tryz.func74,Tryz.ntmps74
    go_wp2_with fail
    refine HP.out.mono ?_
    rintro e w1 ⟨rfl,rfl⟩
    go_wp2_with fail
    go_ret
    exact ⟨rfl,HB.out⟩
  · go_enter Tryz.func74,Tryz.ntmps74
    go_wp2_with fail
    go_ret
    exact ⟨rfl,HB.out⟩
end
section
open Go.RowKit
open Go.Lib renaming hid → zh
theorem findE_at {k : Value} : ∀ (es : List MapEntry) (j p : Nat) (v : Value),findE k es j = some (p,v) → j ≤ p ∧ ∃ e,es[p - j]? = some e ∧ sameKey k e.key = true
  | [],j,p,v,h => by simp [findE] at h
  | e :: es,j,p,v,h => by
    unfold findE at h
    by_cases hs : sameKey k e.key = true
    · rw [if_pos hs] at h
      simp only [Option.some.injEq,Prod.mk.injEq] at h
      obtain ⟨rfl,_⟩:=h
      exact ⟨Nat.le_refl _,e,by simp,hs⟩
    · rw [if_neg hs] at h
      obtain ⟨h1,e',h2,h3⟩:=findE_at es (j + 1) p v h
      refine ⟨by omega,e',?_,h3⟩
      rw [show p - j = (p - (j + 1)) + 1 by omega,List.getElem?_cons_succ]
      exact h2
section
variable {P : Program} {T K E : TypeId}
theorem run_at_old (hT : P.underlying T = some (.map K E)) (hK : P.underlying K = some .string) (W : World) (g c : Nat) (l : List Bytes) (s : Bytes) (v : Value) (hb : W.heap[g]? = some (.map (atMap l) c)) (hn : l.contains s = true) :
    ∃ o,(Instr.mapUpdate T (.map (some g)) (.string ⟨s.toArray⟩) v).run P W = .ok () (setB W g o):=by
  have hf:=(atL_find l s 0 0).2
  rw [hn] at hf
  have e : (atMap l).toList = atL l 0:=by simp [atMap]
  obtain ⟨⟨p,v0⟩,hpv⟩:=Option.isSome_iff_exists.1 hf
  obtain ⟨_,x,hx,hk⟩:=findE_at (atL l 0) 0 p v0 hpv
  have hkx:=atL_keys l 0 x (List.mem_of_getElem? hx)
  rw [Nat.sub_zero] at hx
  have hx' : (atMap l)[p]? = some x:=by rw [← hx,← e,Array.getElem?_toList]
  have hxk : x.key = .string ⟨s.toArray⟩ := by
    obtain ⟨xk,xv,xb⟩:=x
    simp only at hkx hk ⊢
    cases hkx with
    | str t =>
      simp only [sameKey] at hk
      rw [beq_toListBytes] at hk
      have h2 : (ByteArray.mk s.toArray).toList = t.toList:=by simpa using hk
      rw [ba_toList,ba_toList] at h2
      rw [ba_ext h2]
  have hst : (Instr.keyThatStays (.string ⟨s.toArray⟩) (.string ⟨s.toArray⟩)).run P W = .ok (.string ⟨s.toArray⟩) W := by
    unfold Instr.keyThatStays
    rw [if_pos (by simp only [Instr.sameBits];rw [beq_toListBytes];simp)]
    rfl
  refine ⟨.map ((atMap l).modify p fun e => { e with key:=.string ⟨s.toArray⟩,val:=v }) c,?_⟩
  have hfk:=run_findKey_ok (P:=P) (w:=W) (k:=.string ⟨s.toArray⟩) hK (KeyOk.str _) (atMap l).toList (fun y hy => atL_keys l 0 y (by rw [← e];exact hy))
  rw [e,hpv] at hfk
  have hck:=run_checkKey_ok (P:=P) (w:=W) hK (KeyOk.str ⟨s.toArray⟩) false
  have hsm:=run_setMap (P:=P) hb (.map ((atMap l).modify p fun e => { e with key:=.string ⟨s.toArray⟩,val:=v }) c)
  unfold setB
  simp [Instr.mapUpdate,run_underlying hT,run_getMap hb,hck,e,hfk,hx',hxk,hst,hsm,Result.andThen]
end
theorem zeroI (w : World) : (zeroValue 3).run Tryz.prog w = .ok (.int .i64 0) w:=by kernel_rfl
theorem atMap_size (l : List Bytes) : (atMap l).size = l.length := by
  have : ∀ (l : List Bytes) (i : Nat),(atL l i).length = l.length := by
    intro l
    induction l with
    | nil => intro i;rfl
    | cons a r ih => intro i;simp [atL,ih]
  simp [atMap,this]
/-- What met leaves. -/
def MetPost (W : World) (g : Nat) (l : List Bytes) (s : Bytes) (e : Ending) (w' : World) : Prop :=
  e = .returned (.bool (l.contains s)) ∧ ∃ o,w' = setB W g o ∧ (l.contains s = false → o = .map (atMap (l ++ [s])) (l ++ [s]).length)
set_option maxRecDepth 100000 in
theorem names_met (W : World) (g : Nat) (l : List Bytes) (s : Bytes) (hb : W.heap[g]? = some (.map (atMap l) l.length)) (hl : l.length ≤ 1000) :
    Calls Tryz.prog 20 #[.map (some g), .string ⟨s.toArray⟩] W (MetPost W g l s):=by
  have h1:=run_at_look (P:=Tryz.prog) Tryz.underlying49 Tryz.underlying9 zeroI W g l.length l s hb
  have hsz:=atMap_size l
  have h3 : (Builtin.len_ #[49] 3 #[.map (some g)]).run Tryz.prog W = .ok (.int .i64 (l.length : Nat)) W := by
    simp [Builtin.len_,run_underlying,run_getMap hb,hsz,Result.andThen]
    rfl
  cases hc : l.contains s with
  | false =>
    have h2:=run_at_put (P:=Tryz.prog) Tryz.underlying49 Tryz.underlying9 W g l s hb hc
    rw [hc] at h1
    have HC:=zh hc
    have HSZ:=zh hsz
    clear hc hsz
    go_enter Tryz.func20,Tryz.ntmps20
    go_wp2_with fail
    go_ret
    exact ⟨by rw [HC.out];rfl,_,rfl,fun _ => by rw [List.length_append];rfl⟩
  | true =>
    obtain ⟨o,h2⟩:=run_at_old (P:=Tryz.prog) Tryz.underlying49 Tryz.underlying9 W g l.length l s (.int .i64 (l.length : Nat)) hb hc
    rw [hc] at h1
    have HC:=zh hc
    have HSZ:=zh hsz
    clear hc hsz
    go_enter Tryz.func20,Tryz.ntmps20
    go_wp2_with fail
    go_ret
    exact ⟨by rw [HC.out];rfl,o,rfl,fun h => by rw [HC.out] at h;cases h⟩
end
section
set_option maxRecDepth 100000
open Go.RowKit
open Go.Joins renaming cell_of_block → zb, unfrozen_of_block → zu
open Go.Lib renaming hid → zh
/-- What a key does with its words. -/
def KeyAt (f : FuncId) (put : CalL → List WordL → CalL × Bool) (ok : CalL → Prop) : Prop :=
  ∀ (c : CalL) (ws : List WordL) (A : Option Addr) (cw : Nat) (w : World) (B cb : Nat),ok c → ws ≠ [] → ws.length ≤ 100 → B ≤ cb → CalBlk w cb c → ReadsM w (· < B) 4 A ws.length (ws.flatMap WordL.cells) →
    Calls Tryz.prog f #[.pointer (some ⟨cb,0,none⟩), .slice A ws.length cw] w fun e w' => e = .returned (.bool (put c ws).2) ∧ CalBlk w' cb (put c ws).1 ∧ Step w w' [] (some cb)
theorem step_below {w w' : World} {cb : Nat} (hb : Below w.heap.size w w') : Step w w' [] (some cb):=(Step.refl w [] (some cb)).below hb
theorem Step.put {w w' : World} {cb : Nat} (h : Step w w' [] (some cb)) (j : Nat) (v : Value) : Step w (w'.setCell ⟨cb,j,none⟩ v) [] (some cb):=h.setCell (.inr (.inr rfl)) v
theorem add_zero (ad : Addr) : ad.add 0 = ad:=by unfold Addr.add;simp
/-- The words' cells,as the walk reads them: the first. -/
theorem word0 {w : World} {B : Nat} {A : Option Addr} {t : WordL} {r : List WordL} (h : ReadsM w (· < B) 4 A (t :: r).length ((t :: r).flatMap WordL.cells)) :
    ∃ ad,A = some ad ∧ ad.block < B ∧ w.cell? ad = some (.bool t.num) ∧ w.cell? ⟨ad.block,ad.off + 1,none⟩ = some (.int .i64 t.n) ∧ w.cell? ⟨ad.block,ad.off + 2,none⟩ = some (.string ⟨t.s.toArray⟩) ∧ w.cell? ⟨ad.block,ad.off + 3,none⟩ = some (.int .i64 t.pos):=by
  obtain ⟨ad,h1,h2,h3,h4,h5,h6⟩:=word_cells h 0 t rfl
  rw [Nat.zero_mul,add_zero] at h3 h4 h5 h6
  exact ⟨ad,h1,h2,h3,h4,h5,h6⟩
set_option maxHeartbeats 4000000 in
theorem key_extra : KeyAt 77 (keyK b_extra) (fun _ => True) := by
  intro c ws A cw w B cb _ hne hlen hB hc hr
  obtain ⟨t,r,rfl⟩ : ∃ t r,ws = t :: r := by
    cases ws with
    | nil => exact absurd rfl hne
    | cons t r => exact ⟨t,r,rfl⟩
  obtain ⟨ad,rfl,hadb,e0,e1,e2,e3⟩:=word0 hr
  have hf:=zu hc
  have f10:=hf 10
  have c10:=zb hc 10
  have hk : keyK b_extra c (t :: r) = ({ c with extra:=t.n },decide ((t :: r).length = 1) && t.num && tween t.n 1 52):=rfl
  rw [hk]
  have hdb : ad.block ≠ cb:=by omega
  have HC:=zh hc
  clear hk hf hr hc hne
  have hL0 : (0 : Int) < (t :: r).length:=by simp
  generalize hL : (t :: r).length = L at *
  clear hL
  obtain ⟨tn,n,s,pos⟩:=t
  dsimp only at *
  obtain ⟨b,hb⟩ : ∃ b,tween n 1 52 = b:=⟨_,rfl⟩
  rw [hb]
  have hL1 : ((L : Int) == 1) = decide (L = 1) := by
    by_cases h : L = 1
    · subst h;rfl
    · rw [decide_eq_false h];exact beq_false_of_ne (by omega)
  generalize decide (L = 1) = b1 at *
  have hfin : ∀ W,W = w.setCell ⟨cb,10,none⟩ (.int .i64 n) → CalBlk W cb { c with extra := n } ∧ Step w W [] (some cb) := by
    rintro W rfl
    refine ⟨?_,(Step.refl _ _ _).put 10 _⟩
    have:=Joins.block_setCell HC.out (i:=10) (.int .i64 n)
    simpa [CalBlk] using this
  have s0 : (w.setCell ⟨cb,10,none⟩ (.int .i64 n)).cell? ad = some (.bool tn):=(World.cell?_setCell_other w ⟨cb,10,none⟩ ad _ (fun e => hdb (congrArg Addr.block e).symm)).trans e0
  have s1 : (w.setCell ⟨cb,10,none⟩ (.int .i64 n)).cell? ⟨ad.block,ad.off + 1,none⟩ = some (.int .i64 n):=(World.cell?_setCell_other w ⟨cb,10,none⟩ ⟨ad.block,ad.off + 1,none⟩ _ (fun e => hdb (congrArg Addr.block e).symm)).trans e1
  have HF:=zh hfin
  clear hfin
  cases b1
  · go_enter Tryz.func77,Tryz.ntmps77
    go_wp2_with (first | (go_at_call 38;refine (field_between _ _ _ _).mono ?_;rintro e w9 ⟨rfl,rfl⟩))
    go_ret
    exact ⟨rfl,HF.out _ rfl⟩
  · cases tn
    · go_enter Tryz.func77,Tryz.ntmps77
      go_wp2_with (first | (go_at_call 38;refine (field_between _ _ _ _).mono ?_;rintro e w9 ⟨rfl,rfl⟩))
      go_ret
      exact ⟨rfl,HF.out _ rfl⟩
    · go_enter Tryz.func77,Tryz.ntmps77
      go_wp2_with (first | (go_at_call 38;refine (field_between _ _ _ _).mono ?_;rintro e w9 ⟨rfl,rfl⟩))
      go_ret
      exact ⟨by first | rfl | rw [hb];rfl,HF.out _ rfl⟩
end
end Go.Proofs.YtjbniichcopnlaaGreatDoor
