/- Layer 11 (field), the reference: the walk of shaped. Then: Layer 8, the reference: the walks of letter, digit, inner, kind, Name, Same. Then: Layer 9 (tree): the reference's Check, over any items. -/
import Derived.Test.YtjbniichcopnlaaGreatDoorPkS33
import Derived.Test.YtjbniichcopnlaaGreatDoorPkS2
import Derived.BigQuiet
import Derived.Deep.QuietTactic
import Derived.Test.YtjbniichcopnlaaGreatDoorPkS17
namespace Go.Proofs.YtjbniichcopnlaaGreatDoor
section
set_option linter.unusedVariables false
set_option linter.unusedSimpArgs false
set_option maxRecDepth 100000
open Go.RowKit
open Go.Lib renaming hid → zh
/-- Whether a shape of weeks may be,but for the week that is added. -/
def shapedR (d : CalL) : Bool :=
  if (!decide (d.shape = 1) && !patZ d) || (!decide (d.shape = 3) && !decide (d.cycle = 0)) then false
  else if d.shape = 1 then patOk d.p0 d.p1 d.p2 else if d.shape = 2 then true else if d.shape = 3 then cycOk d.cycle else false
theorem weeksR (d : CalL) : weeksC d = (shapedR d && tween d.extra 1 (manyR d.shape d.cycle)) := by
  unfold weeksC shapedR
  by_cases h1 : d.shape = 1
  · have hm : manyC d.shape d.cycle = manyR d.shape d.cycle := by rw [h1]; rfl
    rw [if_pos h1,if_pos h1,hm]
    have h3 : ¬ d.shape = 3:=by omega
    simp only [h1,h3,decide_true,decide_false,Bool.not_true,Bool.not_false,Bool.false_and,Bool.true_and,Bool.false_or]
    by_cases hc : d.cycle = 0 <;> simp [hc]
  · by_cases h2 : d.shape = 2
    · have hm : manyC d.shape d.cycle = manyR d.shape d.cycle := by rw [h2]; rfl
      rw [if_neg h1,if_pos h2,if_neg h1,if_pos h2,hm]
      have h3 : ¬ d.shape = 3:=by omega
      simp only [h1,h3,decide_true,decide_false,Bool.not_true,Bool.not_false,Bool.false_and,Bool.true_and,Bool.false_or]
      by_cases hc : d.cycle = 0 <;> cases hp : patZ d <;> simp [hc]
    · by_cases h3 : d.shape = 3
      · rw [if_neg h1,if_neg h2,if_pos h3,if_neg h1,if_neg h2,if_pos h3]
        simp only [h1,h3,decide_true,decide_false,Bool.not_true,Bool.not_false,Bool.false_and,Bool.true_and,Bool.false_or,Bool.or_false]
        cases hp : patZ d
        · simp
        · cases hc : cycOk d.cycle
          · simp [hc]
          · have hpos : 0 < d.cycle := by
              unfold cycOk at hc
              simp at hc
              omega
            have hm : manyC 3 d.cycle = manyR 3 d.cycle:=by unfold manyC manyR;rw [if_neg (by decide),if_pos ⟨rfl,hpos⟩,if_neg (by decide),if_pos rfl,if_pos hpos]
            simp [hm]
      · rw [if_neg h1,if_neg h2,if_neg h3,if_neg h1,if_neg h2,if_neg h3]
        simp
theorem run_nePat (W : World) (a b c d e f : Int) : (binOp .neq 35 (.agg #[.int .i64 a, .int .i64 b, .int .i64 c]) (.agg #[.int .i64 d, .int .i64 e, .int .i64 f])).run Tryz.prog W = .ok (.bool (!(decide (a = d) && decide (b = e) && decide (c = f)))) W := by
  obtain ⟨i,hi⟩:=info_int
  rw [run_neq_struct,run_equalIn_array W 9999 _ _ und_pat hi,cells_int]
  have h3 : List.range 3 = [0,1,2]:=rfl
  rw [h3]
  by_cases h1 : a = d <;> by_cases h2 : b = e <;> by_cases h3 : c = f <;> simp [go_sem,h1,h2,h3,Op.eqItems]
set_option maxHeartbeats 4000000 in
theorem shaped_1 (nm : Bytes) (kind day month shift p0 p1 p2 cycle extra first last policy : Int) (w : World) : Calls Tryz.prog 54 #[.agg #[.string ⟨nm.toArray⟩, .int .i64 kind, .int .i64 day, .int .i64 month, .int .i64 shift, .int .i64 1, .int .i64 p0, .int .i64 p1, .int .i64 p2, .int .i64 cycle, .int .i64 extra, .int .i64 first, .int .i64 last, .int .i64 policy]] w fun e w' => e = .returned (.bool (decide (cycle = 0) && patOk p0 p1 p2)) ∧ Below w.heap.size w w' := by
  have HB:=zh (below_cal w (.cells #[.string ⟨nm.toArray⟩, .int .i64 kind, .int .i64 day, .int .i64 month, .int .i64 shift, .int .i64 1, .int .i64 p0, .int .i64 p1, .int .i64 p2, .int .i64 cycle, .int .i64 extra, .int .i64 first, .int .i64 last, .int .i64 policy] 37))
  have hz:=fun W => run_nePat W p0 p1 p2 0 0 0
  have hq1:=fun W => run_eqPat W p0 p1 p2 4 4 5
  have hq2:=fun W => run_eqPat W p0 p1 p2 4 5 4
  have hq3:=fun W => run_eqPat W p0 p1 p2 5 4 4
  unfold patOk
  generalize hcy : decide (cycle = 0) = cz at *
  have hcz : (cycle == 0) = cz:=hcy
  clear hcy
  obtain ⟨pz,hpz⟩ : ∃ b,(decide (p0 = 0) && decide (p1 = 0) && decide (p2 = 0)) = b:=⟨_,rfl⟩
  simp only [hpz] at hz
  clear hpz
  generalize (decide (p0 = 4) && decide (p1 = 4) && decide (p2 = 5)) = q1 at *
  generalize (decide (p0 = 4) && decide (p1 = 5) && decide (p2 = 4)) = q2 at *
  generalize (decide (p0 = 5) && decide (p1 = 4) && decide (p2 = 4)) = q3 at *
  cases cz
  · skip
    go_enter Tryz.func54,Tryz.ntmps54
    go_wp2_with fail
    go_ret
    exact ⟨rfl,HB.out⟩
  · cases q1
    · cases q2
      · cases q3 <;> (
          go_enter Tryz.func54,Tryz.ntmps54
          go_wp2_with fail
          go_ret
          exact ⟨rfl,HB.out⟩)
      · skip
        go_enter Tryz.func54,Tryz.ntmps54
        go_wp2_with fail
        go_ret
        exact ⟨rfl,HB.out⟩
    · skip
      go_enter Tryz.func54,Tryz.ntmps54
      go_wp2_with fail
      go_ret
      exact ⟨rfl,HB.out⟩
set_option maxHeartbeats 4000000 in
theorem shaped_2 (nm : Bytes) (kind day month shift p0 p1 p2 cycle extra first last policy : Int) (w : World) : Calls Tryz.prog 54 #[.agg #[.string ⟨nm.toArray⟩, .int .i64 kind, .int .i64 day, .int .i64 month, .int .i64 shift, .int .i64 2, .int .i64 p0, .int .i64 p1, .int .i64 p2, .int .i64 cycle, .int .i64 extra, .int .i64 first, .int .i64 last, .int .i64 policy]] w fun e w' => e = .returned (.bool (decide (cycle = 0) && (decide (p0 = 0) && decide (p1 = 0) && decide (p2 = 0)))) ∧ Below w.heap.size w w' := by
  have HB:=zh (below_cal w (.cells #[.string ⟨nm.toArray⟩, .int .i64 kind, .int .i64 day, .int .i64 month, .int .i64 shift, .int .i64 2, .int .i64 p0, .int .i64 p1, .int .i64 p2, .int .i64 cycle, .int .i64 extra, .int .i64 first, .int .i64 last, .int .i64 policy] 37))
  have hz:=fun W => run_nePat W p0 p1 p2 0 0 0
  generalize hcy : decide (cycle = 0) = cz at *
  have hcz : (cycle == 0) = cz:=hcy
  clear hcy
  generalize (decide (p0 = 0) && decide (p1 = 0) && decide (p2 = 0)) = pz at *
  cases cz <;> cases pz <;> (
    go_enter Tryz.func54,Tryz.ntmps54
    go_wp2_with fail
    go_ret
    exact ⟨rfl,HB.out⟩)
set_option maxHeartbeats 4000000 in
theorem shaped_3 (nm : Bytes) (kind day month shift p0 p1 p2 cycle extra first last policy : Int) (w : World) : Calls Tryz.prog 54 #[.agg #[.string ⟨nm.toArray⟩, .int .i64 kind, .int .i64 day, .int .i64 month, .int .i64 shift, .int .i64 3, .int .i64 p0, .int .i64 p1, .int .i64 p2, .int .i64 cycle, .int .i64 extra, .int .i64 first, .int .i64 last, .int .i64 policy]] w fun e w' => e = .returned (.bool ((decide (p0 = 0) && decide (p1 = 0) && decide (p2 = 0)) && cycOk cycle)) ∧ Below w.heap.size w w' := by
  have HB:=zh (below_cal w (.cells #[.string ⟨nm.toArray⟩, .int .i64 kind, .int .i64 day, .int .i64 month, .int .i64 shift, .int .i64 3, .int .i64 p0, .int .i64 p1, .int .i64 p2, .int .i64 cycle, .int .i64 extra, .int .i64 first, .int .i64 last, .int .i64 policy] 37))
  have hz:=fun W => run_nePat W p0 p1 p2 0 0 0
  generalize (decide (p0 = 0) && decide (p1 = 0) && decide (p2 = 0)) = pz at *
  have hcyc : cycOk cycle = ((cycle == 1) || (cycle == 2) || (cycle == 4)):=rfl
  rw [hcyc]
  obtain ⟨c1,hc1⟩ : ∃ b,(cycle == 1) = b:=⟨_,rfl⟩
  obtain ⟨c2,hc2⟩ : ∃ b,(cycle == 2) = b:=⟨_,rfl⟩
  obtain ⟨c4,hc4⟩ : ∃ b,(cycle == 4) = b:=⟨_,rfl⟩
  rw [hc1,hc2,hc4]
  clear hcyc
  cases pz
  · skip
    go_enter Tryz.func54,Tryz.ntmps54
    go_wp2_with fail
    go_ret
    exact ⟨rfl,HB.out⟩
  · cases c1
    · cases c2
      · cases c4 <;> (
          go_enter Tryz.func54,Tryz.ntmps54
          go_wp2_with fail
          go_ret
          exact ⟨rfl,HB.out⟩)
      · skip
        go_enter Tryz.func54,Tryz.ntmps54
        go_wp2_with fail
        go_ret
        exact ⟨rfl,HB.out⟩
    · skip
      go_enter Tryz.func54,Tryz.ntmps54
      go_wp2_with fail
      go_ret
      exact ⟨rfl,HB.out⟩
set_option maxHeartbeats 4000000 in
theorem shaped_0 (nm : Bytes) (kind day month shift s p0 p1 p2 cycle extra first last policy : Int) (k1 : (s == 1) = false) (k2 : (s == 2) = false) (k3 : (s == 3) = false) (w : World) : Calls Tryz.prog 54 #[.agg #[.string ⟨nm.toArray⟩, .int .i64 kind, .int .i64 day, .int .i64 month, .int .i64 shift, .int .i64 s, .int .i64 p0, .int .i64 p1, .int .i64 p2, .int .i64 cycle, .int .i64 extra, .int .i64 first, .int .i64 last, .int .i64 policy]] w fun e w' => e = .returned (.bool false) ∧ Below w.heap.size w w' := by
  have HB:=zh (below_cal w (.cells #[.string ⟨nm.toArray⟩, .int .i64 kind, .int .i64 day, .int .i64 month, .int .i64 shift, .int .i64 s, .int .i64 p0, .int .i64 p1, .int .i64 p2, .int .i64 cycle, .int .i64 extra, .int .i64 first, .int .i64 last, .int .i64 policy] 37))
  have hz:=fun W => run_nePat W p0 p1 p2 0 0 0
  generalize hcy : decide (cycle = 0) = cz at *
  have hcz : (cycle == 0) = cz:=hcy
  clear hcy
  generalize (decide (p0 = 0) && decide (p1 = 0) && decide (p2 = 0)) = pz at *
  have hn1 : (s != 1) = true:=by rw [bne,k1];rfl
  have hn3 : (s != 3) = true:=by rw [bne,k3];rfl
  cases cz <;> cases pz <;> (
    go_enter Tryz.func54,Tryz.ntmps54
    go_wp2_with fail
    all_goals first | (go_ret;exact ⟨rfl,HB.out⟩) | (exfalso;simp_all;done))
theorem r11_shaped (d : CalL) (w : World) : Calls Tryz.prog 54 #[calV d] w fun e w' => e = .returned (.bool (shapedR d)) ∧ Below w.heap.size w w' := by
  obtain ⟨nm,kind,day,month,shift,s,p0,p1,p2,c,extra,first,last,policy⟩:=d
  by_cases h1 : s = 1
  · subst h1
    have e : shapedR ⟨nm,kind,day,month,shift,1,p0,p1,p2,c,extra,first,last,policy⟩ = (decide (c = 0) && patOk p0 p1 p2) := by
      unfold shapedR
      by_cases hc : c = 0 <;> simp [hc]
    rw [e]
    exact shaped_1 nm kind day month shift p0 p1 p2 c extra first last policy w
  by_cases h2 : s = 2
  · subst h2
    have e : shapedR ⟨nm,kind,day,month,shift,2,p0,p1,p2,c,extra,first,last,policy⟩ = (decide (c = 0) && (decide (p0 = 0) && decide (p1 = 0) && decide (p2 = 0))) := by
      unfold shapedR patZ
      by_cases hc : c = 0 <;> by_cases h0 : p0 = 0 <;> by_cases h1 : p1 = 0 <;> by_cases h2 : p2 = 0 <;> simp [hc,h0,h1,h2]
    rw [e]
    exact shaped_2 nm kind day month shift p0 p1 p2 c extra first last policy w
  by_cases h3 : s = 3
  · subst h3
    have e : shapedR ⟨nm,kind,day,month,shift,3,p0,p1,p2,c,extra,first,last,policy⟩ = ((decide (p0 = 0) && decide (p1 = 0) && decide (p2 = 0)) && cycOk c) := by
      unfold shapedR patZ
      by_cases h0 : p0 = 0 <;> by_cases h1 : p1 = 0 <;> by_cases h2 : p2 = 0 <;> simp [h0,h1,h2]
    rw [e]
    exact shaped_3 nm kind day month shift p0 p1 p2 c extra first last policy w
  · have e : shapedR ⟨nm,kind,day,month,shift,s,p0,p1,p2,c,extra,first,last,policy⟩ = false := by
      unfold shapedR
      simp [h1,h2,h3]
    rw [e]
    exact shaped_0 nm kind day month shift s p0 p1 p2 c extra first last policy (beq_false_of_ne h1) (beq_false_of_ne h2) (beq_false_of_ne h3) w
end
section
open Go.RowKit
open Go.Lib renaming hid → zh
set_option maxHeartbeats 400000 in
theorem ref8_letter (c : UInt8) (w : World) :
    Calls Tryz.prog 83 #[.int .u8 c.toNat] w fun e w' => e = .returned (.bool (isLetter c)) ∧ w = w':=by
  go_enter Tryz.func83,Tryz.ntmps83
  go_wp2
  all_goals (go_ret;exact ⟨ret_bool (by rw [Bool.eq_iff_iff,isLetter_iff];simp;omega),rfl⟩)
set_option maxHeartbeats 400000 in
theorem ref8_digit (c : UInt8) (w : World) :
    Calls Tryz.prog 108 #[.int .u8 c.toNat] w fun e w' => e = .returned (.bool (isDigit c)) ∧ w = w':=by
  go_enter Tryz.func108,Tryz.ntmps108
  go_wp2
  all_goals (go_ret;exact ⟨ret_bool (by rw [Bool.eq_iff_iff,isDigit_iff];simp;omega),rfl⟩)
set_option maxHeartbeats 400000 in
theorem ref8_inner (c : UInt8) (w : World) :
    Calls Tryz.prog 84 #[.int .u8 c.toNat] w fun e w' => e = .returned (.bool (isInner c)) ∧ w = w':=by
  go_enter Tryz.func84,Tryz.ntmps84
  go_wp2_with (first | (go_at_call 83;refine (ref8_letter _ _).mono ?_;rintro e w' ⟨rfl,rfl⟩) | (go_at_call 108;refine (ref8_digit _ _).mono ?_;rintro e w' ⟨rfl,rfl⟩))
  all_goals (go_ret;exact ⟨ret_bool (by simp [isInner_eq, *]),rfl⟩)
set_option maxRecDepth 100000 in
set_option maxHeartbeats 1000000 in
theorem ref8_Name (s : ByteArray) (w : World) (hs : s.size ≤ maxLen) :
    Calls Tryz.prog 53 #[.string s] w fun e w' => e = .returned (.bool (nameL s.data.toList)) ∧ w = w':=by
  have hs':=hs
  unfold maxLen at hs'
  have hn:=nameL_eq s
  have HN:=zh hn
  clear hn
  by_cases hA : 0 < s.size ∧ s.size ≤ 16
  · obtain ⟨h0,h16⟩ := hA
    cases hl : isLetter s[0]
    · go_enter Tryz.func53,Tryz.ntmps53
      go_wp2_with (first | (go_at_call 83;refine (ref8_letter _ _).mono ?_;rintro e w' ⟨rfl,rfl⟩))
      go_ret
      exact ⟨ret_bool (by rw [HN.out,dif_pos h0,hl];simp),rfl⟩
    · go_enter Tryz.func53,Tryz.ntmps53
      go_wp2_with (first | (go_at_call 83;refine (ref8_letter _ _).mono ?_;rintro e w' ⟨rfl,rfl⟩))
      go_loop [20] (fun i => ∃ k : Nat,k ≤ s.size ∧ i = .int .i64 k ∧ k ≤ runL isInner s.data.toList) (fun i => s.size - (intOf i).toNat)
      case atStart => exact ⟨0,Nat.zero_le _,rfl,Nat.zero_le _⟩
      case round =>
        obtain ⟨k,hk,rfl,hkr⟩:=hrel
        by_cases hlt : k < s.size
        · have hst := runL_ba isInner s k hlt hkr
          cases hi : isInner s[k]
          · have hr := hst.2 hi
            have HR:=zh hr
            clear hst hr hkr
            go_wp2_with (first | (go_at_call 84;refine (ref8_inner _ _).mono ?_;rintro e w' ⟨rfl,rfl⟩))
            go_ret
            exact ⟨ret_bool (by rw [HN.out,dif_pos h0,HR.out];simp;omega),rfl⟩
          · have hr := hst.1 hi
            clear hst
            go_wp2_with (first | (go_at_call 84;refine (ref8_inner _ _).mono ?_;rintro e w' ⟨rfl,rfl⟩))
            go_round
            case rel => exact ⟨k + 1,by omega,by go_num,hr⟩
            case measure => simp [intOf];omega
        · have hle := runL_le isInner s.data.toList
          rw [ba_len] at hle
          go_wp2_with fail
          go_ret
          exact ⟨ret_bool (by rw [HN.out,dif_pos h0,hl];simp;omega),rfl⟩
  · have hA' : s.size < 1 ∨ 16 < s.size := by omega
    have hf : nameL s.data.toList = false := by
      rw [HN.out]
      by_cases h : 0 < s.size
      · rw [dif_pos h];simp;omega
      · rw [dif_neg h]
    have HF:=zh hf
    clear hf
    rcases hA' with h | h
    · go_enter Tryz.func53,Tryz.ntmps53
      go_wp2
      go_ret
      exact ⟨ret_bool HF.out.symm,rfl⟩
    · go_enter Tryz.func53,Tryz.ntmps53
      go_wp2
      go_ret
      exact ⟨ret_bool HF.out.symm,rfl⟩
end
section
set_option linter.unusedVariables false
set_option linter.unusedSimpArgs false
open Go.RowKit
open Go.Joins renaming cell_of_block → zb, unfrozen_of_block → zu
open Go.Lib renaming hid → zh
theorem rname_atG (s : Bytes) (h : s.length ≤ maxLen) (W : World) : Calls Tryz.prog 53 #[.string ⟨s.toArray⟩] W fun e w' => e = .returned (.bool (nameL s)) ∧ W = w' :=
  ref8_Name ⟨s.toArray⟩ W (by show s.toArray.size ≤ _;rw [List.size_toArray];exact h)
def wordE (t : WordL) : Int:=if wordOk t then 0 else 1
theorem ref9_word (t : WordL) (ht : t.s.length ≤ maxLen) (w : World) :
    Calls Tryz.prog 106 #[.agg #[.bool t.num, .int .i64 t.n, .string ⟨t.s.toArray⟩, .int .i64 t.pos]] w fun e w' => e = .returned (.int .i64 (wordE t)) ∧ Below w.heap.size w w':=by
  obtain ⟨num,n,s,pos⟩:=t
  dsimp only at ht ⊢
  have hbW : Below w.heap.size w (w.alloc (.cells #[.bool num, .int .i64 n, .string ⟨s.toArray⟩, .int .i64 pos] 61)):=(Below.refl _ _).alloc (Nat.le_refl _) _
  have HB:=zh hbW
  have HN:=zh (rname_atG s ht)
  clear hbW ht
  cases num
  · have hr : wordOk ⟨false,n,s,pos⟩ = (decide (n = 0) && nameL s) := rfl
    by_cases hn : n = 0
    · subst hn
      rw [decide_eq_true rfl,Bool.true_and] at hr
      cases hnm : nameL s
      · have he : wordE ⟨false,0,s,pos⟩ = 1 := by unfold wordE; rw [hr,hnm]; rfl
        rw [he]
        rw [hnm] at HN
        clear he hnm hr
        go_enter Tryz.func106,Tryz.ntmps106
        go_wp2_with fail
        refine (HN.out _).mono ?_
        rintro e w1 ⟨rfl,rfl⟩
        go_wp2_with fail
        go_ret
        exact ⟨rfl,HB.out⟩
      · have he : wordE ⟨false,0,s,pos⟩ = 0 := by unfold wordE; rw [hr,hnm]; rfl
        rw [he]
        rw [hnm] at HN
        clear he hnm hr
        go_enter Tryz.func106,Tryz.ntmps106
        go_wp2_with fail
        refine (HN.out _).mono ?_
        rintro e w1 ⟨rfl,rfl⟩
        go_wp2_with fail
        go_ret
        exact ⟨rfl,HB.out⟩
    · rw [decide_eq_false hn,Bool.false_and] at hr
      have he : wordE ⟨false,n,s,pos⟩ = 1:=by unfold wordE;rw [hr];rfl
      rw [he]
      have hn' : (n == 0) = false:=by simpa using hn
      clear hn HN he hr
      go_enter Tryz.func106,Tryz.ntmps106
      go_wp2_with fail
      go_ret
      exact ⟨rfl,HB.out⟩
  · have hr : wordOk ⟨true,n,s,pos⟩ = (decide (s = []) && decide (0 ≤ n) && decide (n ≤ 999999999)) := rfl
    clear HN
    by_cases hs : s = []
    · subst hs
      by_cases h0 : 0 ≤ n
      · by_cases h9 : n ≤ 999999999
        · have he : wordE ⟨true,n,[],pos⟩ = 0 := by unfold wordE; rw [hr]; simp [h0,h9]
          rw [he]
          clear he hr
          go_enter Tryz.func106,Tryz.ntmps106
          go_wp2_with fail
          go_ret
          exact ⟨rfl,HB.out⟩
        · have he : wordE ⟨true,n,[],pos⟩ = 1 := by unfold wordE; rw [hr]; simp [h0,h9]
          rw [he]
          clear he hr
          go_enter Tryz.func106,Tryz.ntmps106
          go_wp2_with fail
          go_ret
          exact ⟨rfl,HB.out⟩
      · have he : wordE ⟨true,n,[],pos⟩ = 1 := by unfold wordE; rw [hr]; simp [h0]
        rw [he]
        clear he hr
        go_enter Tryz.func106,Tryz.ntmps106
        go_wp2_with fail
        go_ret
        exact ⟨rfl,HB.out⟩
    · have he : wordE ⟨true,n,s,pos⟩ = 1 := by unfold wordE; rw [hr]; simp [hs]
      rw [he]
      have hs' : (s == []) = false:=by simpa using hs
      clear he hr hs
      go_enter Tryz.func106,Tryz.ntmps106
      go_wp2_with fail
      go_ret
      exact ⟨rfl,HB.out⟩
theorem all_drop (ws : List WordL) (k : Nat) (t : WordL) (h : ws[k]? = some t) : (ws.drop k).all wordOk = (wordOk t && (ws.drop (k + 1)).all wordOk) := by
  obtain ⟨hk,rfl⟩:=List.getElem?_eq_some_iff.1 h
  rw [List.drop_eq_getElem_cons hk,List.all_cons]
set_option maxRecDepth 100000 in
set_option maxHeartbeats 4000000 in
theorem ref9_check : ∀ (N : Nat) (l : List NodeL) (A : Option Addr) (c : Nat) (w : World) (B d : Nat),cntL l < N → cntL l ≤ 100000 → B ≤ w.heap.size → ROk w B A l → d + N ≤ 200000 → fitNs l →
    Calls Tryz.prog 81 #[.slice A l.length c, .int .i64 d] w fun e w' => e = .returned (.int .i64 (checkL d l)) ∧ Below w.heap.size w w':=by
  intro N
  induction N with
  | zero => intro l A c w B d h;omega
  | succ N ih =>
    intro l A c w B d hN hsm hB hok hd100 hfit
    have hlen:=cntL_len l
    have HOK:=zh hok
    have HIH:=zh ih
    have HFIT:=zh hfit
    clear ih hok hfit
    go_enter Tryz.func81,Tryz.ntmps81
    go_wp2_with fail
    go_loopw [13] (fun i wr => ∃ k : Nat,k ≤ l.length ∧ i = .int .i64 k ∧ Below w.heap.size w wr ∧ checkL d l = checkL d (l.drop k)) (fun i _ => l.length - (intOf i).toNat)
    case atStart => exact ⟨0,Nat.zero_le _,rfl,Below.refl _ _,by simp⟩
    case round =>
      obtain ⟨k,hk,rfl,hb,hs⟩:=hrel
      have hbs:=hb.size
      by_cases hlt : k < l.length
      · obtain ⟨n,hn⟩ : ∃ n,l[k]? = some n := ⟨_,List.getElem?_eq_getElem hlt⟩
        obtain ⟨ad,Aw,cw,Ak,ck,hA,hadB,c0,c1,c2,c3,c4,hw,hkk⟩:=(HOK.out.below (hb.mono hB)).at k n hn
        subst hA
        obtain ⟨f1,f2,f3,f4,f5⟩:=fit_parts n (fit_at l k n HFIT.out hn)
        have hc1:=cntL_take_mem l k n hn
        have hc2:=cntN_eq n
        have hst:=checkL_step l k d n hn
        rw [checkN_eq] at hst
        have HNM:=zh (rname_atG n.name f1)
        obtain ⟨wa,hwa⟩ : ∃ wa,wa = wr.alloc (.cells #[.string ⟨n.name.toArray⟩, .int .i64 n.pos, .slice Aw n.words.length cw, .bool n.block, .slice Ak n.kids.length ck] 44):=⟨_,rfl⟩
        have hblk:=heap_alloc_new wr (.cells #[.string ⟨n.name.toArray⟩, .int .i64 n.pos, .slice Aw n.words.length cw, .bool n.block, .slice Ak n.kids.length ck] 44)
        have hW:=(Below.refl wr.heap.size wr).alloc (Nat.le_refl _) (.cells #[.string ⟨n.name.toArray⟩, .int .i64 n.pos, .slice Aw n.words.length cw, .bool n.block, .slice Ak n.kids.length ck] 44)
        have hsz : (wr.alloc (.cells #[.string ⟨n.name.toArray⟩, .int .i64 n.pos, .slice Aw n.words.length cw, .bool n.block, .slice Ak n.kids.length ck] 44)).heap.size = wr.heap.size + 1:=by simp
        have HWA:=zh hwa
        rw [← hwa] at hblk hW hsz
        have HW:=zh hW
        have HRD:=zh (hw.keep (w':=wa) (fun _ h => h) (fun p hp => hW.cell (by omega)))
        have HKK:=zh (hkk.below (hW.mono (by omega)))
        have HB:=zh (hb.trans (hW.mono hbs))
        have HF5:=zh f5
        have HF3:=zh f3
        have HBLK:=zh hblk
        have lk : (k : Int) < l.length:=by omega
        have lk0 : (0 : Int) ≤ k:=by omega
        have w1f : IntKind.i64.wrap ((k : Int) + 1) = (k : Int) + 1:=by rw [IntKind.wrap_i64];omega
        have w2f : IntKind.i64.wrap ((d : Int) + 1) = (d : Int) + 1:=by rw [IntKind.wrap_i64];omega
        have HS:=zh hs
        have HST:=zh hst
        cases hnm : nameL n.name
        · have HR := zh (show checkL d l = 1 by rw [HS.out,HST.out,hnm]; simp)
          rw [hnm] at HNM
          have HB':=HB
          rw [hwa] at HB'
          clear HST HS hW hw hkk hb f1 f2 f3 f4 f5 hs hst hwa hblk hsz
          go_wp2_with fail
          refine (HNM.out _).mono ?_
          rintro e w3 ⟨rfl,rfl⟩
          go_wp2_with fail
          go_ret
          exact ⟨by rw [HR.out];rfl,HB'.out⟩
        rw [hnm] at HNM
        have HNM1:=zh hnm
        by_cases hw8 : 8 < n.words.length
        · have HR := zh (show checkL d l = 1 by rw [HS.out,HST.out]; simp [hw8])
          have hw8' : (8 : Int) < n.words.length:=by omega
          have HB':=HB
          rw [hwa] at HB'
          clear HST HS hW hw hkk hb f1 f2 f3 f4 f5 hs hst hwa hblk hsz hw8
          go_wp2_with fail
          refine (HNM.out _).mono ?_
          rintro e w3 ⟨rfl,rfl⟩
          go_wp2_with fail
          go_ret
          exact ⟨by rw [HR.out];rfl,HB'.out⟩
        have hw8' : ¬ (8 : Int) < n.words.length:=by omega
        clear hW hw hkk hb f1 f2 f3 f4 f5 hs hst hblk
        obtain ⟨wo,hwo⟩ : ∃ wo,wo = wr:=⟨_,rfl⟩
        subst hwo
        go_wp2_with fail
        refine (HNM.out _).mono ?_
        rintro e w3 ⟨rfl,rfl⟩
        go_wp2_with fail
        rw [← hwa]
        have hwz : w.heap.size ≤ wa.heap.size:=by omega
        clear HWA hwa c0 c1 c2 c3 c4 hnm
        go_loopw [30] (fun i wr => ∃ j : Nat,j ≤ n.words.length ∧ i = .int .i64 j ∧ Below wa.heap.size wa wr ∧ n.words.all wordOk = (n.words.drop j).all wordOk) (fun i _ => n.words.length - (intOf i).toNat)
        case atStart => exact ⟨0,Nat.zero_le _,rfl,Below.refl _ _,by simp⟩
        case round =>
          obtain ⟨j,hj,rfl,hb2,ha2⟩:=hrel
          have hbs2:=hb2.size
          by_cases hjt : j < n.words.length
          · obtain ⟨t,ht⟩ : ∃ t,n.words[j]? = some t := ⟨_,List.getElem?_eq_getElem hjt⟩
            have hk' : ∀ p : Addr,p.block < B → wr.cell? p = wa.cell? p:=fun p hp => hb2.cell (by omega)
            obtain ⟨bd,rfl,hbd,d0,d1,d2,d3⟩:=word_cells (HRD.out.keep (fun _ h => h) hk') j t ht
            have HWD:=zh (ref9_word t (HF3.out t (List.mem_of_getElem? ht)))
            rw [all_drop n.words j t ht] at ha2
            have HB2:=zh hb2
            have lj : (j : Int) < n.words.length:=by omega
            have lj0 : (0 : Int) ≤ j:=by omega
            have w3f : IntKind.i64.wrap ((j : Int) + 1) = (j : Int) + 1:=by rw [IntKind.wrap_i64];omega
            unfold wordE at HWD
            cases hwk : wordOk t
            · rw [hwk,Bool.false_and] at ha2
              rw [hwk,if_neg (by simp)] at HWD
              have HR:=zh (show checkL d l = 1 by rw [HS.out,HST.out,ha2];simp)
              clear hk' hb2 ha2 hwk HST HS
              go_wp2_with fail
              refine (HWD.out _).mono ?_
              rintro e w5 ⟨rfl,hb5⟩
              have hb6 : Below w.heap.size w w5:=HB.out.trans ((HB2.out.trans (((Below.refl wr.heap.size wr).alloc (Nat.le_refl _) _ |>.trans (hb5.mono (by simp))).mono hbs2)).mono hwz)
              have HB6:=zh hb6
              clear hb5 hb6
              go_wp2_with fail
              go_ret
              exact ⟨by rw [HR.out];rfl,HB6.out⟩
            · rw [hwk,Bool.true_and] at ha2
              rw [hwk,if_pos rfl] at HWD
              have HA2:=zh ha2
              clear hk' hb2 ha2 hwk
              go_wp2_with fail
              refine (HWD.out _).mono ?_
              rintro e w5 ⟨rfl,hb5⟩
              have hb6 : Below wa.heap.size wa w5:=HB2.out.trans (((Below.refl wr.heap.size wr).alloc (Nat.le_refl _) _ |>.trans (hb5.mono (by simp))).mono hbs2)
              have HB6:=zh hb6
              clear hb5 hb6
              go_wp2_with fail
              exact ⟨⟨j + 1,by omega,by go_num,HB6.out,HA2.out⟩,by simp [intOf];omega⟩
          · have hall : n.words.all wordOk = true := by rw [ha2,List.drop_eq_nil_of_le (by omega)]; rfl
            have lj : ¬ (j : Int) < n.words.length:=by omega
            have hblk2 : wr.heap[wo.heap.size]? = _:=(hb2.block _ (by omega)).trans HBLK.out
            have e3:=zb hblk2 3
            have e4:=zb hblk2 4
            have HB3:=zh (HB.out.trans (hb2.mono hwz))
            have HKK3:=zh (HKK.out.below (hb2.mono (by omega)))
            have hB4 : B ≤ wr.heap.size:=by omega
            clear hb2 ha2 hblk2
            cases hbl : n.block
            · rw [hbl] at e3
              by_cases hk0 : 0 < n.kids.length
              · have HR := zh (show checkL d l = 1 by rw [HS.out,HST.out,hbl]; simp [hk0])
                have hk0' : (0 : Int) < n.kids.length:=by omega
                clear HST HS hw8 hall
                go_wp2_with fail
                go_ret
                exact ⟨by rw [HR.out];rfl,HB3.out⟩
              · have hkn : n.kids = [] := List.eq_nil_of_length_eq_zero (by omega)
                have HR:=zh (show checkL d l = checkL d (l.drop (k + 1)) by rw [HS.out,HST.out,hall,HNM1.out,hbl,hkn];simp [hw8,checkL_nil])
                have HI:=zh (HIH.out [] Ak ck wr B (d + 1) (by simp only [cntL];omega) (by simp only [cntL];omega) hB4 (by have:=HKK3.out;rw [hkn] at this;exact this) (by omega) (by simp only [fitNs]))
                rw [checkL_nil] at HI
                have HI2:=zh (show Calls Tryz.prog 81 #[.slice Ak 0 ck, .int .i64 ((d : Int) + 1)] wr fun e w' => e = .returned (.int .i64 0) ∧ Below wr.heap.size wr w' from HI.out)
                rw [hkn] at e4
                simp only [List.length_nil] at e4
                clear HST HS hw8 HI hall
                go_wp2_with fail
                refine HI2.out.mono ?_
                rintro e w5 ⟨rfl,hb5⟩
                have HB5:=zh (HB3.out.trans (hb5.mono HB3.out.size))
                clear hb5
                go_wp2_with fail
                exact ⟨⟨k + 1,by omega,by go_num,HB5.out,HR.out⟩,by simp [intOf];omega⟩
            · rw [hbl] at e3
              by_cases hd6 : d = 6
              · have HR := zh (show checkL d l = 7 by rw [HS.out,HST.out,hall,HNM1.out,hbl]; simp [hw8,hd6])
                have hd6' : ((d : Int) == 6) = true:=by simp [hd6]
                clear HST HS hw8 hd6 hall
                go_wp2_with fail
                go_ret
                exact ⟨by rw [HR.out];rfl,HB3.out⟩
              · have hd6' : ((d : Int) == 6) = false := beq_false_of_ne (by omega)
                have HR:=zh (show checkL d l = if checkL (d + 1) n.kids ≠ 0 then checkL (d + 1) n.kids else checkL d (l.drop (k + 1)) by rw [HS.out,HST.out,hall,HNM1.out,hbl];simp [hw8,hd6])
                have HI:=zh (HIH.out n.kids Ak ck wr B (d + 1) (by omega) (by omega) hB4 HKK3.out (by omega) HF5.out)
                have HI2:=zh (show Calls Tryz.prog 81 #[.slice Ak n.kids.length ck, .int .i64 ((d : Int) + 1)] wr fun e w' => e = .returned (.int .i64 (checkL (d + 1) n.kids)) ∧ Below wr.heap.size wr w' from HI.out)
                clear HST HS hw8 HI hd6 hall
                generalize checkL (d + 1) n.kids = y at *
                by_cases hy : y = 0
                · subst hy
                  rw [if_neg (by simp)] at HR
                  go_wp2_with fail
                  refine HI2.out.mono ?_
                  rintro e w5 ⟨rfl,hb5⟩
                  have HB5:=zh (HB3.out.trans (hb5.mono HB3.out.size))
                  clear hb5
                  go_wp2_with fail
                  exact ⟨⟨k + 1,by omega,by go_num,HB5.out,HR.out⟩,by simp [intOf];omega⟩
                · rw [if_pos hy] at HR
                  have hy' : (y != 0) = true:=by simpa using hy
                  clear hy
                  go_wp2_with fail
                  refine HI2.out.mono ?_
                  rintro e w5 ⟨rfl,hb5⟩
                  have HB5:=zh (HB3.out.trans (hb5.mono HB3.out.size))
                  clear hb5
                  go_wp2_with fail
                  go_ret
                  exact ⟨by rw [HR.out];rfl,HB5.out⟩
      · have lk : ¬ (k : Int) < l.length := by omega
        have hs2 : checkL d l = 0:=by rw [hs,List.drop_eq_nil_of_le (by omega),checkL_nil]
        have HS2:=zh hs2
        clear hs hs2
        go_wp2_with fail
        go_ret
        exact ⟨by rw [HS2.out];rfl,hb⟩
theorem ref9_Check (l : List NodeL) (A : Option Addr) (c : Nat) (w : World) (B : Nat) (hsm : cntL l ≤ 100000) (hB : B ≤ w.heap.size) (hok : ROk w B A l) (hfit : fitNs l) :
    Calls Tryz.prog 51 #[.slice A l.length c] w fun e w' => e = .returned (.int .i64 (checkL 0 l)) ∧ Below w.heap.size w w':=by
  have H:=zh (ref9_check (cntL l + 1) l A c w B 0 (by omega) hsm hB hok (by omega) hfit)
  clear hok hfit
  go_enter Tryz.func51,Tryz.ntmps51
  go_wp2_with fail
  refine H.out.mono ?_
  rintro e w1 ⟨rfl,hb1⟩
  go_wp2
  go_ret
  exact ⟨rfl,hb1⟩
end
end Go.Proofs.YtjbniichcopnlaaGreatDoor
