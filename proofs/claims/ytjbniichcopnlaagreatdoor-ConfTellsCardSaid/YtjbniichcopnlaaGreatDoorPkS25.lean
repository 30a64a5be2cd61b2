/- Layer 11 (field): the walks of keys, stands. Then: Layer 11 (field): the walks of named, compare. Then: Layer 11 (field): the walk of compare. Then: Layer 11 (field): what the walk of formed needs. -/
import Derived.Test.YtjbniichcopnlaaGreatDoorPkS23
import Derived.Test.YtjbniichcopnlaaGreatDoorPkS19
import Derived.Test.YtjbniichcopnlaaGreatDoorPkS24
import Derived.BigRegion
set_option linter.unusedVariables false
set_option linter.unusedSimpArgs false
set_option maxRecDepth 100000
namespace Go.Proofs.YtjbniichcopnlaaGreatDoor
section
open Go.RowKit
open Go.Lib renaming hid → zh
/-- The part of keys' map that is laid,as the walk names it. -/
theorem field_keys (w : World) : Calls Tryz.prog 46 #[] w fun e w' => e = .returned (.map (some w.heap.size)) ∧ w' = w.alloc (.map keyMap 7) := by
  have hmm:=@run_makeMap Tryz.prog
  have p0 : (Instr.mapUpdate 92 (.map (some w.heap.size)) (.string ⟨#[101,110,100]⟩) (.func (.func 71) #[] #[])).run Tryz.prog (w.alloc (.map #[] 0)) = .ok () (w.alloc (.map (keyMap.extract 0 1) 1)):=keyMap_put w 0 ⟨.string ⟨b_end.toArray⟩, .func (.func 71) #[] #[],0⟩ (by decide) rfl rfl
  have p1 : (Instr.mapUpdate 92 (.map (some w.heap.size)) (.string ⟨#[112,101,114,105,111,100,115]⟩) (.func (.func 72) #[] #[])).run Tryz.prog (w.alloc (.map (keyMap.extract 0 1) 1)) = .ok () (w.alloc (.map (keyMap.extract 0 2) 2)):=keyMap_put w 1 ⟨.string ⟨b_periods.toArray⟩, .func (.func 72) #[] #[],1⟩ (by decide) rfl rfl
  have p2 : (Instr.mapUpdate 92 (.map (some w.heap.size)) (.string ⟨#[110,97,109,101,100]⟩) (.func (.func 73) #[] #[])).run Tryz.prog (w.alloc (.map (keyMap.extract 0 2) 2)) = .ok () (w.alloc (.map (keyMap.extract 0 3) 3)):=keyMap_put w 2 ⟨.string ⟨b_named.toArray⟩, .func (.func 73) #[] #[],2⟩ (by decide) rfl rfl
  have p3 : (Instr.mapUpdate 92 (.map (some w.heap.size)) (.string ⟨#[112,97,121]⟩) (.func (.func 75) #[] #[])).run Tryz.prog (w.alloc (.map (keyMap.extract 0 3) 3)) = .ok () (w.alloc (.map (keyMap.extract 0 4) 4)):=keyMap_put w 3 ⟨.string ⟨b_pay.toArray⟩, .func (.func 75) #[] #[],3⟩ (by decide) rfl rfl
  have p4 : (Instr.mapUpdate 92 (.map (some w.heap.size)) (.string ⟨#[101,120,116,114,97]⟩) (.func (.func 77) #[] #[])).run Tryz.prog (w.alloc (.map (keyMap.extract 0 4) 4)) = .ok () (w.alloc (.map (keyMap.extract 0 5) 5)):=keyMap_put w 4 ⟨.string ⟨b_extra.toArray⟩, .func (.func 77) #[] #[],4⟩ (by decide) rfl rfl
  have p5 : (Instr.mapUpdate 92 (.map (some w.heap.size)) (.string ⟨#[115,101,114,118,101]⟩) (.func (.func 78) #[] #[])).run Tryz.prog (w.alloc (.map (keyMap.extract 0 5) 5)) = .ok () (w.alloc (.map (keyMap.extract 0 6) 6)):=keyMap_put w 5 ⟨.string ⟨b_serve.toArray⟩, .func (.func 78) #[] #[],5⟩ (by decide) rfl rfl
  have p6 : (Instr.mapUpdate 92 (.map (some w.heap.size)) (.string ⟨#[99,111,109,112,97,114,101]⟩) (.func (.func 80) #[] #[])).run Tryz.prog (w.alloc (.map (keyMap.extract 0 6) 6)) = .ok () (w.alloc (.map keyMap 7)):=keyMap_put w 6 ⟨.string ⟨b_compare.toArray⟩, .func (.func 80) #[] #[],6⟩ (by decide) rfl rfl
  generalize keyMap.extract 0 1 = m1 at *
  generalize keyMap.extract 0 2 = m2 at *
  generalize keyMap.extract 0 3 = m3 at *
  generalize keyMap.extract 0 4 = m4 at *
  generalize keyMap.extract 0 5 = m5 at *
  generalize keyMap.extract 0 6 = m6 at *
  generalize keyMap = m7 at *
  go_enter Tryz.func46,Tryz.ntmps46
  go_wp2_with fail
  go_ret
  exact ⟨rfl,rfl⟩
/-- What is told of a name: what its key does. -/
def keyFn (s : Bytes) : Value :=
  if s = b_end then .func (.func 71) #[] #[] else if s = b_periods then .func (.func 72) #[] #[] else if s = b_named then .func (.func 73) #[] #[] else
  if s = b_pay then .func (.func 75) #[] #[] else if s = b_extra then .func (.func 77) #[] #[] else if s = b_serve then .func (.func 78) #[] #[] else
  if s = b_compare then .func (.func 80) #[] #[] else .nilFunc
theorem keyMap_all : ∀ e ∈ keyMap.toList,KeyOk .string e.key:=keyMap_ok 7
theorem keyMap_find (s : Bytes) : ((findE (.string ⟨s.toArray⟩) keyMap.toList 0).map (·.2)).getD .nilFunc = keyFn s ∧ (findE (.string ⟨s.toArray⟩) keyMap.toList 0).isSome = keysL.contains s := by
  have e : keysL = [b_end,b_periods,b_named,b_pay,b_extra,b_serve,b_compare]:=rfl
  rw [e]
  unfold keyMap keyFn
  simp only [findE,sameKey_str,decide_eq_true_eq,List.contains_cons,List.contains_nil,Bool.or_false]
  by_cases h0 : s = b_end
  · simp [h0]
  by_cases h1 : s = b_periods
  · simp [h0,h1]
    rw [if_neg (by decide),if_neg (by decide)];exact ⟨rfl,by simp⟩
  by_cases h2 : s = b_named
  · simp [h2]
    simp [show b_named ≠ b_end by decide,show b_named ≠ b_periods by decide]
  by_cases h3 : s = b_pay
  · simp [h3]
    simp [show b_pay ≠ b_end by decide,show b_pay ≠ b_periods by decide,show b_pay ≠ b_named by decide]
  by_cases h4 : s = b_extra
  · simp [h4]
    simp [show b_extra ≠ b_end by decide,show b_extra ≠ b_periods by decide,show b_extra ≠ b_named by decide,show b_extra ≠ b_pay by decide]
  by_cases h5 : s = b_serve
  · simp [h5]
    simp [show b_serve ≠ b_end by decide,show b_serve ≠ b_periods by decide,show b_serve ≠ b_named by decide,show b_serve ≠ b_pay by decide,show b_serve ≠ b_extra by decide]
  by_cases h6 : s = b_compare
  · simp [h6]
    simp [show b_compare ≠ b_end by decide,show b_compare ≠ b_periods by decide,show b_compare ≠ b_named by decide,show b_compare ≠ b_pay by decide,show b_compare ≠ b_extra by decide,show b_compare ≠ b_serve by decide]
  simp [h0,h1,h2,h3,h4,h5,h6]
theorem zeroFn (w : World) : (zeroValue 94).run Tryz.prog w = .ok .nilFunc w:=by kernel_rfl
theorem key_look (W : World) (g : Nat) (s : Bytes) (hb : W.heap[g]? = some (.map keyMap 7)) :
    (Instr.lookup 92 (.map (some g)) (.string ⟨s.toArray⟩) true).run Tryz.prog W = .ok (.tuple #[keyFn s, .bool (keysL.contains s)]) W:=by
  have h:=run_lookup_ok (k:=.string ⟨s.toArray⟩) Tryz.underlying92 Tryz.underlying9 (KeyOk.str _) keyMap_all (zeroFn W) hb
  exact h.trans (by rw [(keyMap_find s).1,(keyMap_find s).2])
theorem key_lookP (W : World) (g : Nat) (s : Bytes) (hb : W.heap[g]? = some (.map keyMap 7)) :
    (Instr.lookup 92 (.map (some g)) (.string ⟨s.toArray⟩) false).run Tryz.prog W = .ok (keyFn s) W:=by
  have h:=run_lookup_plain (k:=.string ⟨s.toArray⟩) Tryz.underlying92 Tryz.underlying9 (KeyOk.str _) keyMap_all (zeroFn W) hb
  exact h.trans (by rw [(keyMap_find s).1])
theorem ba_ne (a : Bytes) (b : Array UInt8) (h : a ≠ b.toList) : (ByteArray.mk a.toArray = ByteArray.mk b) = False := by
  apply propext
  constructor
  · intro e
    injection e with e
    exact h (by rw [← e])
  · exact False.elim
set_option maxHeartbeats 2000000 in
theorem field_stands (k : Int) (s : Bytes) (w : World) : Calls Tryz.prog 29 #[.int .i64 k, .string ⟨s.toArray⟩] w fun e w' => e = .returned (.bool (standsC k s)) ∧ Below w.heap.size w w' := by
  have HF:=zh (field_fixed k w)
  obtain ⟨R,hR⟩ : ∃ R,fixedR k = R:=⟨_,rfl⟩
  obtain ⟨c,b⟩:=R
  rw [hR] at HF
  have hb : b = (decide (k = 3) || decide (k = 4)) := by
    unfold fixedR at hR
    split at hR
    · next h => subst h;injection hR with h1 h2;rw [← h2];rfl
    · split at hR
      · next h1 h => subst h;injection hR with h1 h2;rw [← h2];rfl
      · next h1 h2 => injection hR with h3 h4;rw [← h4,decide_eq_false h1,decide_eq_false h2];rfl
  obtain ⟨q0,hq0⟩ : ∃ q,(s == [110,97,109,101,100]) = q:=⟨_,rfl⟩
  obtain ⟨q1,hq1⟩ : ∃ q,(s == [112,101,114,105,111,100,115]) = q:=⟨_,rfl⟩
  obtain ⟨q2,hq2⟩ : ∃ q,(s == [112,97,121]) = q:=⟨_,rfl⟩
  obtain ⟨q3,hq3⟩ : ∃ q,(s == [101,120,116,114,97]) = q:=⟨_,rfl⟩
  have hst : standsC k s = if q0 then (!b && (k != 5)) else if q1 || q2 || q3 then (!b && (k != 6)) else true := by
    rw [hb,← hq0,← hq1,← hq2,← hq3]
    unfold standsC
    have e : ∀ m : Int,decide (k ≠ m) = (k != m):=fun m => by by_cases h : k = m <;> simp [h]
    have e2 : ∀ m : Int,decide (k = m) = !(k != m):=fun m => by by_cases h : k = m <;> simp [h]
    simp only [e,e2,Bool.not_or,Bool.not_not,beq_iff_eq,Bool.or_eq_true]
    rw [show b_named = [110,97,109,101,100] from rfl,show b_periods = [112,101,114,105,111,100,115] from rfl,show b_pay = [112,97,121] from rfl,show b_extra = [101,120,116,114,97] from rfl]
    simp only [or_assoc]
  rw [hst]
  obtain ⟨k5,hk5⟩ : ∃ q,(k != 5) = q:=⟨_,rfl⟩
  obtain ⟨k6,hk6⟩ : ∃ q,(k != 6) = q:=⟨_,rfl⟩
  rw [hk5,hk6]
  clear hst hb hR
  dsimp only [calV] at HF
  obtain ⟨nm,kind,day,month,shift,shape,p0,p1,p2,cycle,extra,first,last,policy⟩:=c
  dsimp only at HF
  cases q0
  · cases q1
    · cases q2
      · cases q3
        · skip
          go_enter Tryz.func29,Tryz.ntmps29
          go_wp2_with fail
          refine HF.out.mono ?_
          rintro e w1 ⟨rfl,hb1⟩
          have HB1:=zh (Below.alloc hb1 hb1.size (.cells #[.string ⟨nm.toArray⟩, .int .i64 kind, .int .i64 day, .int .i64 month, .int .i64 shift, .int .i64 shape, .int .i64 p0, .int .i64 p1, .int .i64 p2, .int .i64 cycle, .int .i64 extra, .int .i64 first, .int .i64 last, .int .i64 policy] 37))
          clear hb1
          go_wp2_with fail
          go_ret
          exact ⟨rfl,HB1.out⟩
        · cases b <;> (go_enter Tryz.func29,Tryz.ntmps29;go_wp2_with fail;refine HF.out.mono ?_;rintro e w1 ⟨rfl,hb1⟩;have HB1:=zh (Below.alloc hb1 hb1.size (.cells #[.string ⟨nm.toArray⟩, .int .i64 kind, .int .i64 day, .int .i64 month, .int .i64 shift, .int .i64 shape, .int .i64 p0, .int .i64 p1, .int .i64 p2, .int .i64 cycle, .int .i64 extra, .int .i64 first, .int .i64 last, .int .i64 policy] 37));clear hb1;go_wp2_with fail;go_ret;exact ⟨rfl,HB1.out⟩)
      · cases b <;> (go_enter Tryz.func29,Tryz.ntmps29;go_wp2_with fail;refine HF.out.mono ?_;rintro e w1 ⟨rfl,hb1⟩;have HB1:=zh (Below.alloc hb1 hb1.size (.cells #[.string ⟨nm.toArray⟩, .int .i64 kind, .int .i64 day, .int .i64 month, .int .i64 shift, .int .i64 shape, .int .i64 p0, .int .i64 p1, .int .i64 p2, .int .i64 cycle, .int .i64 extra, .int .i64 first, .int .i64 last, .int .i64 policy] 37));clear hb1;go_wp2_with fail;go_ret;exact ⟨rfl,HB1.out⟩)
    · cases b <;> (go_enter Tryz.func29,Tryz.ntmps29;go_wp2_with fail;refine HF.out.mono ?_;rintro e w1 ⟨rfl,hb1⟩;have HB1:=zh (Below.alloc hb1 hb1.size (.cells #[.string ⟨nm.toArray⟩, .int .i64 kind, .int .i64 day, .int .i64 month, .int .i64 shift, .int .i64 shape, .int .i64 p0, .int .i64 p1, .int .i64 p2, .int .i64 cycle, .int .i64 extra, .int .i64 first, .int .i64 last, .int .i64 policy] 37));clear hb1;go_wp2_with fail;go_ret;exact ⟨rfl,HB1.out⟩)
  · cases b <;> (go_enter Tryz.func29,Tryz.ntmps29;go_wp2_with fail;refine HF.out.mono ?_;rintro e w1 ⟨rfl,hb1⟩;have HB1:=zh (Below.alloc hb1 hb1.size (.cells #[.string ⟨nm.toArray⟩, .int .i64 kind, .int .i64 day, .int .i64 month, .int .i64 shift, .int .i64 shape, .int .i64 p0, .int .i64 p1, .int .i64 p2, .int .i64 cycle, .int .i64 extra, .int .i64 first, .int .i64 last, .int .i64 policy] 37));clear hb1;go_wp2_with fail;go_ret;exact ⟨rfl,HB1.out⟩)
end
section
open Go.RowKit
open Go.Joins renaming cell_of_block → zb, unfrozen_of_block → zu
open Go.Lib renaming hid → zh
set_option maxHeartbeats 4000000 in
theorem key_named : KeyAt 73 (keyK b_named) (fun _ => True) := by
  intro c ws A cw w B cb _ hne hlen hB hc hr
  obtain ⟨t,r,rfl⟩ : ∃ t r,ws = t :: r := by
    cases ws with
    | nil => exact absurd rfl hne
    | cons t r => exact ⟨t,r,rfl⟩
  obtain ⟨ad,rfl,hadb,e0,e1,e2,e3⟩:=word0 hr
  have hk : keyK b_named c (t :: r) = ({ c with shift:=placeW shifts t - 1 },decide (0 < placeW shifts t) && decide ((t :: r).length = 1)):=rfl
  rw [hk]
  have hdb : ad.block ≠ cb:=by omega
  have hlt:=hc.lt
  have HC:=zh hc
  clear hk hr hc hne
  have hL0 : (0 : Int) < (t :: r).length:=by simp
  generalize hL : (t :: r).length = L at *
  clear hL
  have hL1 : ((L : Int) == 1) = decide (L = 1) := by
    by_cases h : L = 1
    · subst h;rfl
    · rw [decide_eq_false h];exact beq_false_of_ne (by omega)
  generalize decide (L = 1) = b1 at *
  have hrng : 0 ≤ placeW shifts t ∧ placeW shifts t ≤ 2 := by
    have:=posL_nonneg shifts t.s
    unfold placeW
    split
    · omega
    · have e : shifts.length = 2 := rfl
      omega
  have HP:=zh (fun g W h => field_named shifts t g 2 W (by decide) h)
  have wf : IntKind.i64.wrap (placeW shifts t - 1) = placeW shifts t - 1:=by rw [IntKind.wrap_i64];omega
  generalize placeW shifts t = z at *
  obtain ⟨tn,n,s,pos⟩:=t
  dsimp only at *
  have hb0 : Below w.heap.size w (w.alloc (.cells #[.string ⟨#[108,97,115,116]⟩, .string ⟨#[102,105,114,115,116]⟩] 9)):=below_cal _ _
  have hg0 : StrBlk (w.alloc (.cells #[.string ⟨#[108,97,115,116]⟩, .string ⟨#[102,105,114,115,116]⟩] 9)) w.heap.size shifts:=⟨_,heap_alloc_new w _⟩
  have HP1:=zh (HP.out _ _ hg0)
  have s0:=(World.cell?_alloc_lt w (.cells #[.string ⟨#[108,97,115,116]⟩, .string ⟨#[102,105,114,115,116]⟩] 9) ad (by omega)).trans e0
  have s1:=(World.cell?_alloc_lt w (.cells #[.string ⟨#[108,97,115,116]⟩, .string ⟨#[102,105,114,115,116]⟩] 9) ⟨ad.block,ad.off + 1,none⟩ (by show ad.block < _;omega)).trans e1
  have s2:=(World.cell?_alloc_lt w (.cells #[.string ⟨#[108,97,115,116]⟩, .string ⟨#[102,105,114,115,116]⟩] 9) ⟨ad.block,ad.off + 2,none⟩ (by show ad.block < _;omega)).trans e2
  have s3:=(World.cell?_alloc_lt w (.cells #[.string ⟨#[108,97,115,116]⟩, .string ⟨#[102,105,114,115,116]⟩] 9) ⟨ad.block,ad.off + 3,none⟩ (by show ad.block < _;omega)).trans e3
  have HB0:=zh hb0
  clear hb0 hg0 HP
  have hz0 : 0 < z ∨ z = 0:=by omega
  cases b1 <;> rcases hz0 with hz0 | hz0 <;> (
    first | (have hd : decide (0 < z) = true:=decide_eq_true hz0) | (subst hz0;have hd : decide ((0 : Int) < 0) = false:=by decide)
    go_enter Tryz.func73,Tryz.ntmps73
    go_wp2_with fail
    refine HP1.out.mono ?_
    rintro e w1 ⟨rfl,hb1⟩
    have hbb:=HB0.out.trans (hb1.mono HB0.out.size)
    have hc1:=HC.out.keep hbb
    have hf:=zu hc1
    have f4:=hf 4
    have c4:=zb hc1 4
    have hfin : ∀ u : Int,CalBlk (w1.setCell ⟨cb,4,none⟩ (.int .i64 u)) cb { c with shift := u } := fun u => by
      have:=Joins.block_setCell hc1 (i:=4) (.int .i64 u)
      simpa [CalBlk] using this
    have HF:=zh hfin
    have HS:=zh (step_below (cb:=cb) hbb)
    clear hb1 hbb hc1 hf hfin
    go_wp2_with fail
    go_ret
    refine ⟨?_,HF.out _,HS.out.put 4 _⟩
    first | rfl | (rw [hd];rfl) | simp)
end
section
open Go.RowKit
open Go.Joins renaming cell_of_block → zb, unfrozen_of_block → zu
open Go.Lib renaming hid → zh
set_option maxHeartbeats 8000000 in
theorem key_compare : KeyAt 80 (keyK b_compare) (fun _ => True) := by
  intro c ws A cw w B cb _ hne hlen hB hc hr
  obtain ⟨t,r,rfl⟩ : ∃ t r,ws = t :: r := by
    cases ws with
    | nil => exact absurd rfl hne
    | cons t r => exact ⟨t,r,rfl⟩
  obtain ⟨ad,rfl,hadb,e0,e1,e2,e3⟩:=word0 hr
  have hk : keyK b_compare c (t :: r) = ({ c with policy:=placeW pols t },decide (0 < placeW pols t) && decide ((t :: r).length = 1)):=rfl
  rw [hk]
  have hdb : ad.block ≠ cb:=by omega
  have hlt:=hc.lt
  have HC:=zh hc
  clear hk hr hc hne
  have hL0 : (0 : Int) < (t :: r).length:=by simp
  generalize hL : (t :: r).length = L at *
  clear hL
  have hL1 : ((L : Int) == 1) = decide (L = 1) := by
    by_cases h : L = 1
    · subst h;rfl
    · rw [decide_eq_false h];exact beq_false_of_ne (by omega)
  generalize decide (L = 1) = b1 at *
  have hrng : 0 ≤ placeW pols t ∧ placeW pols t ≤ 4 := by
    have:=posL_nonneg pols t.s
    unfold placeW
    split
    · omega
    · have e : pols.length = 4 := rfl
      omega
  have HP:=zh (fun g W h => field_named pols t g 4 W (by decide) h)
  generalize placeW pols t = z at *
  obtain ⟨tn,n,s,pos⟩:=t
  dsimp only at *
  have hz0 : 0 < z ∨ z = 0:=by omega
  have hdl : ad.block < w.heap.size:=by omega
  cases b1 <;> rcases hz0 with hz0 | hz0 <;> (
    first | (have hd : decide (0 < z) = true:=decide_eq_true hz0) | (subst hz0;have hd : decide ((0 : Int) < 0) = false:=by decide)
    go_enter Tryz.func80,Tryz.ntmps80
    go_wp2_with fail
    go_region_with (first | (go_at_call 32;refine (field_policies _).mono ?_;rintro e w1 ⟨rfl,hg1,hb1⟩;have s0:=(hb1.cell (p:=ad) hdl).trans e0;have s1:=(hb1.cell (p:=⟨ad.block,ad.off + 1,none⟩) hdl).trans e1;have s2:=(hb1.cell (p:=⟨ad.block,ad.off + 2,none⟩) hdl).trans e2;have s3:=(hb1.cell (p:=⟨ad.block,ad.off + 3,none⟩) hdl).trans e3) | (go_at_call 74;refine (HP.out _ _ (by assumption)).mono ?_;rintro e w2 ⟨rfl,hb2⟩;have hc2:=(hb2.block cb (Nat.lt_of_lt_of_le hlt hb1.size)).trans ((hb1.block cb hlt).trans HC.out);have c13:=zb hc2 13;have f13:=zu hc2 13))
    all_goals (
      have hbb : Below w.heap.size w w2:=Below.trans (show Below w.heap.size w w1 from ⟨hb1.os,hb1.tape,hb1.output,hb1.size,hb1.block⟩) (hb2.mono hb1.size)
      have hfin : ∀ u : Int,CalBlk (w2.setCell ⟨cb,13,none⟩ (.int .i64 u)) cb { c with policy := u } := fun u => by
        have:=Joins.block_setCell hc2 (i:=13) (.int .i64 u)
        simpa [CalBlk] using this
      have HF:=zh hfin
      have HS:=zh (step_below (cb:=cb) hbb)
      clear hb1 hb2 hbb hc2 hfin hg1
      go_wp2_with fail
      go_ret
      refine ⟨?_,HF.out _,(HS.out.put 13 _)⟩
      first | rfl | (rw [hd];rfl) | simp))
end
section
open Go.RowKit
/-- Each key does what it says. -/
theorem key_fn (s : Bytes) (h : keysL.contains s = true) : ∃ f,keyFn s = .func (.func f) #[] #[] ∧ (∀ args w,(callFunc f args).run Tryz.prog w = .ok (.enter f args) w) ∧ KeyAt f (putK s) (fun c => s = b_end → c = { calZ with name := c.name }) := by
  have e : keysL = [b_end,b_periods,b_named,b_pay,b_extra,b_serve,b_compare]:=rfl
  rw [e] at h
  simp only [List.contains_cons,List.contains_nil,Bool.or_false,Bool.or_eq_true,beq_iff_eq] at h
  have hn : ∀ (f : FuncId) (k : Bytes),k ≠ b_end → KeyAt f (keyK k) (fun _ => True) → KeyAt f (putK k) (fun c => k = b_end → c = { calZ with name := c.name }) := by
    intro f k hk hK c ws A cw w B cb _ a1 a2 a3 a4 a5
    have h:=hK c ws A cw w B cb trivial a1 a2 a3 a4 a5
    unfold putK
    rw [if_neg hk]
    exact h
  rcases h with rfl | rfl | rfl | rfl | rfl | rfl | rfl
  · refine ⟨_,rfl,fun args w => by simp [go_sem],?_⟩
    intro c ws A cw w B cb hc a1 a2 a3 a4 a5
    have h:=key_end c ws A cw w B cb (hc rfl) a1 a2 a3 a4 a5
    unfold putK
    rw [if_pos rfl]
    exact h
  · exact ⟨_,rfl,fun args w => by simp [go_sem],hn _ _ (by decide) key_periods⟩
  · exact ⟨_,rfl,fun args w => by simp [go_sem],hn _ _ (by decide) key_named⟩
  · exact ⟨_,rfl,fun args w => by simp [go_sem],hn _ _ (by decide) key_pay⟩
  · exact ⟨_,rfl,fun args w => by simp [go_sem],hn _ _ (by decide) key_extra⟩
  · exact ⟨_,rfl,fun args w => by simp [go_sem],hn _ _ (by decide) key_serve⟩
  · exact ⟨_,rfl,fun args w => by simp [go_sem],hn _ _ (by decide) key_compare⟩
/-- What formed tells. -/
def FormedPost (n : NodeL) (w : World) (e : Ending) (w' : World) : Prop :=
  Below w.heap.size w w' ∧
  match formedL (n.words.headD ⟨false,0,[],0⟩).s [] none n.kids with
  | .inl (p,er) => ∃ c,e = .returned (.tuple #[calV c, .map none, .int .i64 p, .int .i64 er])
  | .inr none => ∃ c,e = .returned (.tuple #[calV c, .map none, .int .i64 n.pos, .int .i64 10])
  | .inr (some c) => ∃ g,e = .returned (.tuple #[calV c, .map (some g), .int .i64 0, .int .i64 0]) ∧ w'.heap[g]? = some (.map (atMap (n.kids.map NodeL.name)) n.kids.length)
theorem formedL_step (nm : Bytes) (seen : List Bytes) (co : Option CalL) (k : NodeL) (r : List NodeL) :
    formedL nm seen co (k :: r) = if !keysL.contains k.name then .inl (k.pos,8) else if seen.contains k.name then .inl (k.pos,9) else if k.block || k.words.isEmpty || !(putK k.name { calZ with name := nm } k.words).2 then .inl (k.pos,5)
      else formedL nm (seen ++ [k.name]) (if k.name = b_end then some (putK k.name { calZ with name:=nm } k.words).1 else co) r:=rfl
theorem formed_8 {nm : Bytes} {seen : List Bytes} {co : Option CalL} {k : NodeL} {r : List NodeL} (h : keysL.contains k.name = false) : formedL nm seen co (k :: r) = .inl (k.pos,8) := by
  rw [formedL_step,h];rfl
theorem formed_9 {nm : Bytes} {seen : List Bytes} {co : Option CalL} {k : NodeL} {r : List NodeL} (h : keysL.contains k.name = true) (h2 : seen.contains k.name = true) : formedL nm seen co (k :: r) = .inl (k.pos,9) := by
  rw [formedL_step,h,h2];rfl
theorem formed_5 {nm : Bytes} {seen : List Bytes} {co : Option CalL} {k : NodeL} {r : List NodeL} (h : keysL.contains k.name = true) (h2 : seen.contains k.name = false) (h3 : (k.block || k.words.isEmpty || !(putK k.name { calZ with name := nm } k.words).2) = true) : formedL nm seen co (k :: r) = .inl (k.pos,5) := by
  rw [formedL_step,h,h2,if_neg (by simp),if_neg (by simp),if_pos h3]
theorem formed_go {nm : Bytes} {seen : List Bytes} {co : Option CalL} {k : NodeL} {r : List NodeL} (h : keysL.contains k.name = true) (h2 : seen.contains k.name = false) (h3 : (k.block || k.words.isEmpty || !(putK k.name { calZ with name := nm } k.words).2) = false) : formedL nm seen co (k :: r) = formedL nm (seen ++ [k.name]) (if k.name = b_end then some (putK k.name { calZ with name := nm } k.words).1 else co) r := by
  rw [formedL_step,h,h2,if_neg (by simp),if_neg (by simp),if_neg (by rw [h3];simp)]
theorem CalBlk.below {w0 w : World} {cb : Nat} (h : Below w0.heap.size w0 w) (hb : w0.heap.size ≤ cb) (d : CalL) :
    Below w0.heap.size w0 ((((((((((((((w.setCell ⟨cb,0,none⟩ (.string ⟨d.name.toArray⟩)).setCell ⟨cb,1,none⟩ (.int .i64 d.kind)).setCell ⟨cb,2,none⟩ (.int .i64 d.day)).setCell ⟨cb,3,none⟩ (.int .i64 d.month)).setCell ⟨cb,4,none⟩ (.int .i64 d.shift)).setCell ⟨cb,5,none⟩ (.int .i64 d.shape)).setCell ⟨cb,6,none⟩ (.int .i64 d.p0)).setCell ⟨cb,7,none⟩ (.int .i64 d.p1)).setCell ⟨cb,8,none⟩ (.int .i64 d.p2)).setCell ⟨cb,9,none⟩ (.int .i64 d.cycle)).setCell ⟨cb,10,none⟩ (.int .i64 d.extra)).setCell ⟨cb,11,none⟩ (.int .i64 d.first)).setCell ⟨cb,12,none⟩ (.int .i64 d.last)).setCell ⟨cb,13,none⟩ (.int .i64 d.policy)) :=
  ((((((((((((((h.setCell hb _).setCell hb _).setCell hb _).setCell hb _).setCell hb _).setCell hb _).setCell hb _).setCell hb _).setCell hb _).setCell hb _).setCell hb _).setCell hb _).setCell hb _).setCell hb _)
theorem four (w : World) (o1 o2 o3 o4 : Obj) : Below w.heap.size w ((((w.alloc o1).alloc o2).alloc o3).alloc o4) ∧ ((((w.alloc o1).alloc o2).alloc o3).alloc o4).heap[w.heap.size]? = some o1 ∧
    ((((w.alloc o1).alloc o2).alloc o3).alloc o4).heap[w.heap.size + 1]? = some o2 ∧ ((((w.alloc o1).alloc o2).alloc o3).alloc o4).heap[w.heap.size + 1 + 1]? = some o3 ∧ ((((w.alloc o1).alloc o2).alloc o3).alloc o4).heap[w.heap.size + 1 + 1 + 1]? = some o4:=by
  have z1 : (w.alloc o1).heap.size = w.heap.size + 1:=by simp
  have z2 : ((w.alloc o1).alloc o2).heap.size = w.heap.size + 1 + 1:=by simp
  have z3 : (((w.alloc o1).alloc o2).alloc o3).heap.size = w.heap.size + 1 + 1 + 1:=by simp
  refine ⟨((((Below.refl _ _).alloc (Nat.le_refl _) _).alloc (by omega) _).alloc (by omega) _).alloc (by omega) _,?_,?_,?_,?_⟩
  · rw [Go.heap_alloc_old _ _ (by omega),Go.heap_alloc_old _ _ (by omega),Go.heap_alloc_old _ _ (by omega)];exact heap_alloc_new w o1
  · rw [Go.heap_alloc_old _ _ (by omega),Go.heap_alloc_old _ _ (by omega),← z1];exact heap_alloc_new _ o2
  · rw [Go.heap_alloc_old _ _ (by omega),← z2];exact heap_alloc_new _ o3
  · rw [← z3];exact heap_alloc_new _ o4
theorem Step.toBelow {B : Nat} {w0 w w' : World} {r : Nat} (h : Below B w0 w) (hs : Step w w' [] (some r)) (hr : B ≤ r) (hB : B ≤ w.heap.size) : Below B w0 w' :=
  ⟨hs.os.trans h.os,hs.tape.trans h.tape,hs.output.trans h.output,Nat.le_trans h.size hs.size,fun k hk => (hs.block k (by omega) (by simp) (by intro e;injection e;omega)).trans (h.block k hk)⟩
theorem endK_name (nm : Bytes) (ws : List WordL) : (endK nm ws).1.name = nm := by
  rw [endK_eq nm ws _ rfl]
  unfold endB
  split
  · rfl
  · repeat' split
    all_goals rfl
/-- The state between two items: w0 the world when formed began;p the block's place. -/
structure FS (w0 w : World) (p : Int) (bc bm bk : Nat) (seen : List Bytes) (c : CalL) : Prop where
  below : Below w0.heap.size w0 w
  cal : CalBlk w bc c
  at_ : w.heap[bm]? = some (.map (atMap seen) seen.length)
  keys : w.heap[bk]? = some (.map keyMap 7)
  pos : w.cell? ⟨w0.heap.size,1,none⟩ = some (.int .i64 p)
  lt : w0.heap.size < w.heap.size
  bce : bc = w0.heap.size + 1
  bke : bk = w0.heap.size + 1 + 1
  bme : bm = w0.heap.size + 1 + 1 + 1
/-- What formed comes to: its error;0,if there is none ahead of the end. -/
def clsF : (Int × Int) ⊕ (Option CalL) → Int
  | .inl x => x.2
  | .inr _ => 0
end
end Go.Proofs.YtjbniichcopnlaaGreatDoor
