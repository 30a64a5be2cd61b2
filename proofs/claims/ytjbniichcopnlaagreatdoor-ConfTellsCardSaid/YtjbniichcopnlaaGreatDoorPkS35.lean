/- Layer 11 (field), the reference: the walk of Check, up to the kinds. Then: Layer 11 (field), the reference: the walk of Check, of the kinds that are fixed. -/
import Derived.Test.YtjbniichcopnlaaGreatDoorPkS34
set_option linter.unusedVariables false
set_option linter.unusedSimpArgs false
set_option maxRecDepth 100000
namespace Go.Proofs.YtjbniichcopnlaaGreatDoor
section
open Go.RowKit
open Go.Lib renaming hid → zh
/-- What the head of Check looks at. -/
structure HeadNo (nm : Bytes) (first last : Int) : Prop where
  any : nameL nm = false ∨ (nameL nm = true ∧ decide (first < 1602) = true) ∨ (nameL nm = true ∧ decide (first < 1602) = false ∧ decide (9996 < last) = true) ∨
    (nameL nm = true ∧ decide (first < 1602) = false ∧ decide (9996 < last) = false ∧ decide (last < first) = true) ∨
    (nameL nm = true ∧ decide (first < 1602) = false ∧ decide (9996 < last) = false ∧ decide (last < first) = false ∧ IntKind.i64.wrap (last - first) = last - first ∧ decide (400 ≤ last - first) = true)
theorem head_no {nm : Bytes} {first last : Int} (h : ¬ (nameL nm = true ∧ 1602 ≤ first ∧ last ≤ 9996 ∧ first ≤ last ∧ last - first < 400)) : HeadNo nm first last := by
  constructor
  cases hn : nameL nm
  · exact .inl rfl
  by_cases h1 : first < 1602
  · exact .inr (.inl ⟨rfl,decide_eq_true h1⟩)
  by_cases h2 : 9996 < last
  · exact .inr (.inr (.inl ⟨rfl,decide_eq_false h1,decide_eq_true h2⟩))
  by_cases h3 : last < first
  · exact .inr (.inr (.inr (.inl ⟨rfl,decide_eq_false h1,decide_eq_false h2,decide_eq_true h3⟩)))
  · refine .inr (.inr (.inr (.inr ⟨rfl,decide_eq_false h1,decide_eq_false h2,decide_eq_false h3,by rw [IntKind.wrap_i64]; omega,decide_eq_true ?_⟩)))
    have : ¬ (last - first < 400):=fun h4 => h ⟨hn,by omega,by omega,by omega,h4⟩
    omega
set_option maxHeartbeats 4000000 in
theorem r11_Check_head (nm : Bytes) (kind day month shift shape p0 p1 p2 cycle extra first last policy : Int) (hl : nm.length ≤ maxLen) (h : HeadNo nm first last) (w : World) :
    Calls Tryz.prog 25 #[.agg #[.string ⟨nm.toArray⟩, .int .i64 kind, .int .i64 day, .int .i64 month, .int .i64 shift, .int .i64 shape, .int .i64 p0, .int .i64 p1, .int .i64 p2, .int .i64 cycle, .int .i64 extra, .int .i64 first, .int .i64 last, .int .i64 policy]] w fun e w' => e = .returned (.int .i64 1) ∧ Below w.heap.size w w':=by
  have HB:=zh (below_cal w (.cells #[.string ⟨nm.toArray⟩, .int .i64 kind, .int .i64 day, .int .i64 month, .int .i64 shift, .int .i64 shape, .int .i64 p0, .int .i64 p1, .int .i64 p2, .int .i64 cycle, .int .i64 extra, .int .i64 first, .int .i64 last, .int .i64 policy] 37))
  have HN:=zh (fun W => rname_atG nm hl W)
  rcases h.any with hn | ⟨hn,h1⟩ | ⟨hn,h1,h2⟩ | ⟨hn,h1,h2,h3⟩ | ⟨hn,h1,h2,h3,h4,h5⟩ <;> (
    rw [hn] at HN
    clear hn h hl
    go_enter Tryz.func25,Tryz.ntmps25
    go_wp2_with fail
    refine (HN.out _).mono ?_
    rintro e w1 ⟨rfl,rfl⟩
    go_wp2_with fail
    go_ret
    exact ⟨rfl,HB.out⟩)
structure HeadOk (nm : Bytes) (first last : Int) : Prop where
  nam : nameL nm = true
  d1 : decide (first < 1602) = false
  d2 : decide (9996 < last) = false
  d3 : decide (last < first) = false
  d4 : IntKind.i64.wrap (last - first) = last - first
  d5 : decide (400 ≤ last - first) = false
theorem head_ok {nm : Bytes} {first last : Int} (h : nameL nm = true ∧ 1602 ≤ first ∧ last ≤ 9996 ∧ first ≤ last ∧ last - first < 400) : HeadOk nm first last :=
  ⟨h.1,decide_eq_false (by omega),decide_eq_false (by omega),decide_eq_false (by omega),by rw [IntKind.wrap_i64];omega,decide_eq_false (by omega)⟩
structure PolNo (kind policy : Int) : Prop where
  any : decide (policy < 1) = true ∨ (decide (policy < 1) = false ∧ decide (4 < policy) = true) ∨ (decide (policy < 1) = false ∧ decide (4 < policy) = false ∧ (policy == 4) = true ∧ (kind == 6) = false) ∨ (decide (policy < 1) = false ∧ decide (4 < policy) = false ∧ (policy == 4) = false ∧ (kind == 6) = true)
theorem pol_no {c : CalL} (h : policyC c = false) : PolNo c.kind c.policy := by
  constructor
  by_cases h1 : c.policy < 1
  · exact .inl (decide_eq_true h1)
  by_cases h2 : 4 < c.policy
  · exact .inr (.inl ⟨decide_eq_false h1,decide_eq_true h2⟩)
  unfold policyC tween at h
  by_cases h4 : c.policy = 4
  · by_cases h6 : c.kind = 6
    · simp [h4,h6] at h
    · exact .inr (.inr (.inl ⟨decide_eq_false h1,decide_eq_false h2,by simp [h4],by simp [h6]⟩))
  · by_cases h6 : c.kind = 6
    · exact .inr (.inr (.inr ⟨decide_eq_false h1,decide_eq_false h2,by simp [h4],by simp [h6]⟩))
    · simp [h4,h6] at h
      omega
set_option maxHeartbeats 4000000 in
theorem r11_Check_pol (nm : Bytes) (kind day month shift shape p0 p1 p2 cycle extra first last policy : Int) (hl : nm.length ≤ maxLen) (h : HeadOk nm first last) (hp : PolNo kind policy) (w : World) :
    Calls Tryz.prog 25 #[.agg #[.string ⟨nm.toArray⟩, .int .i64 kind, .int .i64 day, .int .i64 month, .int .i64 shift, .int .i64 shape, .int .i64 p0, .int .i64 p1, .int .i64 p2, .int .i64 cycle, .int .i64 extra, .int .i64 first, .int .i64 last, .int .i64 policy]] w fun e w' => e = .returned (.int .i64 1) ∧ Below w.heap.size w w':=by
  have HB:=zh (below_cal w (.cells #[.string ⟨nm.toArray⟩, .int .i64 kind, .int .i64 day, .int .i64 month, .int .i64 shift, .int .i64 shape, .int .i64 p0, .int .i64 p1, .int .i64 p2, .int .i64 cycle, .int .i64 extra, .int .i64 first, .int .i64 last, .int .i64 policy] 37))
  have HN:=zh (fun W => rname_atG nm hl W)
  obtain ⟨hn,h1,h2,h3,h4,h5⟩:=h
  rw [hn] at HN
  clear hn hl
  rcases hp.any with k1 | ⟨k1,k2⟩ | ⟨k1,k2,k3,k4⟩ | ⟨k1,k2,k3,k4⟩ <;> (
    clear hp
    go_enter Tryz.func25,Tryz.ntmps25
    go_wp2_with fail
    refine (HN.out _).mono ?_
    rintro e w1 ⟨rfl,rfl⟩
    go_wp2_with fail
    go_ret
    exact ⟨rfl,HB.out⟩)
end
section
open Go.RowKit
open Go.Lib renaming hid → zh
theorem below_al1 {w w' : World} (h : Below w.heap.size w w') (o : Obj) : Below w.heap.size w (w'.alloc o):=h.alloc h.size o
structure PolOk (policy : Int) (b : Bool) : Prop where
  p1 : decide (policy < 1) = false
  p2 : decide (4 < policy) = false
  p4 : (policy == 4) = b
theorem pol_ok {c : CalL} (h : policyC c = true) : PolOk c.policy (c.kind == 6) := by
  unfold policyC tween at h
  simp only [Bool.and_eq_true,decide_eq_true_eq,beq_iff_eq,decide_eq_decide] at h
  refine ⟨decide_eq_false (by omega),decide_eq_false (by omega),?_⟩
  have:=h.2
  by_cases h4 : c.policy = 4
  · have h6 := this.1 h4
    simp [h4,h6]
  · have h6 : ¬ c.kind = 6 := fun e => h4 (this.2 e)
    rw [beq_false_of_ne h4,beq_false_of_ne h6]
def e01 (b : Bool) : Int:=if b then 0 else 1
set_option maxHeartbeats 4000000 in
theorem r11_Check_3 (nm : Bytes) (day month shift shape p0 p1 p2 cycle extra first last policy : Int) (hl : nm.length ≤ maxLen) (h : HeadOk nm first last) (hp : PolOk policy false) (w : World) :
    Calls Tryz.prog 25 #[.agg #[.string ⟨nm.toArray⟩, .int .i64 3, .int .i64 day, .int .i64 month, .int .i64 shift, .int .i64 shape, .int .i64 p0, .int .i64 p1, .int .i64 p2, .int .i64 cycle, .int .i64 extra, .int .i64 first, .int .i64 last, .int .i64 policy]] w fun e w' =>
      e = .returned (.int .i64 (e01 (decide ((⟨[],3,day,month,shift,shape,p0,p1,p2,cycle,extra,0,0,0⟩ : CalL) = ⟨[],3,6,1,1,1,4,5,4,0,12,0,0,0⟩)))) ∧ Below w.heap.size w w':=by
  have HB:=zh (below_cal w (.cells #[.string ⟨nm.toArray⟩, .int .i64 3, .int .i64 day, .int .i64 month, .int .i64 shift, .int .i64 shape, .int .i64 p0, .int .i64 p1, .int .i64 p2, .int .i64 cycle, .int .i64 extra, .int .i64 first, .int .i64 last, .int .i64 policy] 37))
  have HB2:=zh (below_al1 HB.out (.cells #[.string ⟨#[]⟩, .int .i64 3, .int .i64 day, .int .i64 month, .int .i64 shift, .int .i64 shape, .int .i64 p0, .int .i64 p1, .int .i64 p2, .int .i64 cycle, .int .i64 extra, .int .i64 0, .int .i64 0, .int .i64 0] 37))
  have HN:=zh (fun W => rname_atG nm hl W)
  have HE:=fun W => run_eqCal W ⟨[],3,day,month,shift,shape,p0,p1,p2,cycle,extra,0,0,0⟩ ⟨[],3,6,1,1,1,4,5,4,0,12,0,0,0⟩
  generalize decide ((⟨[],3,day,month,shift,shape,p0,p1,p2,cycle,extra,0,0,0⟩ : CalL) = ⟨[],3,6,1,1,1,4,5,4,0,12,0,0,0⟩) = b at *
  dsimp only at HE
  obtain ⟨hn,h1,h2,h3,h4,h5⟩:=h
  obtain ⟨q1,q2,q4⟩:=hp
  rw [hn] at HN
  clear hn hl
  cases b <;> (
    go_enter Tryz.func25,Tryz.ntmps25
    go_wp2_with fail
    refine (HN.out _).mono ?_
    rintro e w1 ⟨rfl,rfl⟩
    go_wp2_with fail
    go_ret
    exact ⟨rfl,HB2.out⟩)
set_option maxHeartbeats 4000000 in
theorem r11_Check_4 (nm : Bytes) (day month shift shape p0 p1 p2 cycle extra first last policy : Int) (hl : nm.length ≤ maxLen) (h : HeadOk nm first last) (hp : PolOk policy false) (w : World) :
    Calls Tryz.prog 25 #[.agg #[.string ⟨nm.toArray⟩, .int .i64 4, .int .i64 day, .int .i64 month, .int .i64 shift, .int .i64 shape, .int .i64 p0, .int .i64 p1, .int .i64 p2, .int .i64 cycle, .int .i64 extra, .int .i64 first, .int .i64 last, .int .i64 policy]] w fun e w' =>
      e = .returned (.int .i64 (e01 (decide ((⟨[],4,day,month,shift,shape,p0,p1,p2,cycle,extra,0,0,0⟩ : CalL) = ⟨[],4,7,12,0,4,0,0,0,0,12,0,0,0⟩)))) ∧ Below w.heap.size w w':=by
  have HB:=zh (below_cal w (.cells #[.string ⟨nm.toArray⟩, .int .i64 4, .int .i64 day, .int .i64 month, .int .i64 shift, .int .i64 shape, .int .i64 p0, .int .i64 p1, .int .i64 p2, .int .i64 cycle, .int .i64 extra, .int .i64 first, .int .i64 last, .int .i64 policy] 37))
  have HB2:=zh (below_al1 HB.out (.cells #[.string ⟨#[]⟩, .int .i64 4, .int .i64 day, .int .i64 month, .int .i64 shift, .int .i64 shape, .int .i64 p0, .int .i64 p1, .int .i64 p2, .int .i64 cycle, .int .i64 extra, .int .i64 0, .int .i64 0, .int .i64 0] 37))
  have HN:=zh (fun W => rname_atG nm hl W)
  have HE:=fun W => run_eqCal W ⟨[],4,day,month,shift,shape,p0,p1,p2,cycle,extra,0,0,0⟩ ⟨[],4,7,12,0,4,0,0,0,0,12,0,0,0⟩
  generalize decide ((⟨[],4,day,month,shift,shape,p0,p1,p2,cycle,extra,0,0,0⟩ : CalL) = ⟨[],4,7,12,0,4,0,0,0,0,12,0,0,0⟩) = b at *
  dsimp only at HE
  obtain ⟨hn,h1,h2,h3,h4,h5⟩:=h
  obtain ⟨q1,q2,q4⟩:=hp
  rw [hn] at HN
  clear hn hl
  cases b <;> (
    go_enter Tryz.func25,Tryz.ntmps25
    go_wp2_with fail
    refine (HN.out _).mono ?_
    rintro e w1 ⟨rfl,rfl⟩
    go_wp2_with fail
    go_ret
    exact ⟨rfl,HB2.out⟩)
set_option maxHeartbeats 4000000 in
theorem r11_Check_x (nm : Bytes) (kind day month shift shape p0 p1 p2 cycle extra first last policy : Int) (hl : nm.length ≤ maxLen) (h : HeadOk nm first last) (hp : PolOk policy false) (k1 : (kind == 1) = false) (k2 : (kind == 2) = false) (k3 : (kind == 3) = false) (k4 : (kind == 4) = false) (k5 : (kind == 5) = false) (k6 : (kind == 6) = false) (w : World) :
    Calls Tryz.prog 25 #[.agg #[.string ⟨nm.toArray⟩, .int .i64 kind, .int .i64 day, .int .i64 month, .int .i64 shift, .int .i64 shape, .int .i64 p0, .int .i64 p1, .int .i64 p2, .int .i64 cycle, .int .i64 extra, .int .i64 first, .int .i64 last, .int .i64 policy]] w fun e w' =>
      e = .returned (.int .i64 1) ∧ Below w.heap.size w w':=by
  have HB:=zh (below_cal w (.cells #[.string ⟨nm.toArray⟩, .int .i64 kind, .int .i64 day, .int .i64 month, .int .i64 shift, .int .i64 shape, .int .i64 p0, .int .i64 p1, .int .i64 p2, .int .i64 cycle, .int .i64 extra, .int .i64 first, .int .i64 last, .int .i64 policy] 37))
  have HB2:=zh (below_al1 HB.out (.cells #[.string ⟨#[]⟩, .int .i64 kind, .int .i64 day, .int .i64 month, .int .i64 shift, .int .i64 shape, .int .i64 p0, .int .i64 p1, .int .i64 p2, .int .i64 cycle, .int .i64 extra, .int .i64 0, .int .i64 0, .int .i64 0] 37))
  have HN:=zh (fun W => rname_atG nm hl W)
  obtain ⟨hn,h1,h2,h3,h4,h5⟩:=h
  obtain ⟨q1,q2,q4⟩:=hp
  rw [hn] at HN
  clear hn hl
  go_enter Tryz.func25,Tryz.ntmps25
  go_wp2_with fail
  refine (HN.out _).mono ?_
  rintro e w1 ⟨rfl,rfl⟩
  go_wp2_with fail
  go_ret
  exact ⟨rfl,HB2.out⟩
/-- What a calendar of months is looked at for,before it is compared. -/
structure MonNo (month shift : Int) : Prop where
  any : decide (1 ≤ month) = false ∨ (decide (1 ≤ month) = true ∧ decide (month ≤ 12) = false) ∨ (decide (1 ≤ month) = true ∧ decide (month ≤ 12) = true ∧ (shift == 0) = false ∧ (shift == 1) = false)
structure MonOk (month shift : Int) : Prop where
  any : decide (1 ≤ month) = true ∧ decide (month ≤ 12) = true ∧ ((shift == 0) = true ∨ ((shift == 0) = false ∧ (shift == 1) = true))
set_option maxHeartbeats 4000000 in
theorem r11_Check_6n (nm : Bytes) (day month shift shape p0 p1 p2 cycle extra first last policy : Int) (hl : nm.length ≤ maxLen) (h : HeadOk nm first last) (hp : PolOk policy true) (hm : MonNo month shift) (w : World) :
    Calls Tryz.prog 25 #[.agg #[.string ⟨nm.toArray⟩, .int .i64 6, .int .i64 day, .int .i64 month, .int .i64 shift, .int .i64 shape, .int .i64 p0, .int .i64 p1, .int .i64 p2, .int .i64 cycle, .int .i64 extra, .int .i64 first, .int .i64 last, .int .i64 policy]] w fun e w' =>
      e = .returned (.int .i64 1) ∧ Below w.heap.size w w':=by
  have HB:=zh (below_cal w (.cells #[.string ⟨nm.toArray⟩, .int .i64 6, .int .i64 day, .int .i64 month, .int .i64 shift, .int .i64 shape, .int .i64 p0, .int .i64 p1, .int .i64 p2, .int .i64 cycle, .int .i64 extra, .int .i64 first, .int .i64 last, .int .i64 policy] 37))
  have HB2:=zh (below_al1 HB.out (.cells #[.string ⟨#[]⟩, .int .i64 6, .int .i64 day, .int .i64 month, .int .i64 shift, .int .i64 shape, .int .i64 p0, .int .i64 p1, .int .i64 p2, .int .i64 cycle, .int .i64 extra, .int .i64 0, .int .i64 0, .int .i64 0] 37))
  have HN:=zh (fun W => rname_atG nm hl W)
  obtain ⟨hn,h1,h2,h3,h4,h5⟩:=h
  obtain ⟨q1,q2,q4⟩:=hp
  rw [hn] at HN
  clear hn hl
  rcases hm.any with m1 | ⟨m1,m2⟩ | ⟨m1,m2,m3,m4⟩ <;> (
    clear hm
    go_enter Tryz.func25,Tryz.ntmps25
    go_wp2_with fail
    refine (HN.out _).mono ?_
    rintro e w1 ⟨rfl,rfl⟩
    go_wp2_with fail
    go_ret
    exact ⟨rfl,HB2.out⟩)
set_option maxHeartbeats 4000000 in
theorem r11_Check_6 (nm : Bytes) (day month shift shape p0 p1 p2 cycle extra first last policy : Int) (hl : nm.length ≤ maxLen) (h : HeadOk nm first last) (hp : PolOk policy true) (hm : MonOk month shift) (w : World) :
    Calls Tryz.prog 25 #[.agg #[.string ⟨nm.toArray⟩, .int .i64 6, .int .i64 day, .int .i64 month, .int .i64 shift, .int .i64 shape, .int .i64 p0, .int .i64 p1, .int .i64 p2, .int .i64 cycle, .int .i64 extra, .int .i64 first, .int .i64 last, .int .i64 policy]] w fun e w' =>
      e = .returned (.int .i64 (e01 (decide ((⟨[],6,day,month,shift,shape,p0,p1,p2,cycle,extra,0,0,0⟩ : CalL) = ⟨[],6,0,month,shift,5,0,0,0,0,0,0,0,0⟩)))) ∧ Below w.heap.size w w':=by
  have HB:=zh (below_cal w (.cells #[.string ⟨nm.toArray⟩, .int .i64 6, .int .i64 day, .int .i64 month, .int .i64 shift, .int .i64 shape, .int .i64 p0, .int .i64 p1, .int .i64 p2, .int .i64 cycle, .int .i64 extra, .int .i64 first, .int .i64 last, .int .i64 policy] 37))
  have HB2:=zh (below_al1 HB.out (.cells #[.string ⟨#[]⟩, .int .i64 6, .int .i64 day, .int .i64 month, .int .i64 shift, .int .i64 shape, .int .i64 p0, .int .i64 p1, .int .i64 p2, .int .i64 cycle, .int .i64 extra, .int .i64 0, .int .i64 0, .int .i64 0] 37))
  have HN:=zh (fun W => rname_atG nm hl W)
  have HE:=fun W => run_eqCal W ⟨[],6,day,month,shift,shape,p0,p1,p2,cycle,extra,0,0,0⟩ ⟨[],6,0,month,shift,5,0,0,0,0,0,0,0,0⟩
  generalize decide ((⟨[],6,day,month,shift,shape,p0,p1,p2,cycle,extra,0,0,0⟩ : CalL) = ⟨[],6,0,month,shift,5,0,0,0,0,0,0,0,0⟩) = b at *
  dsimp only at HE
  obtain ⟨hn,h1,h2,h3,h4,h5⟩:=h
  obtain ⟨q1,q2,q4⟩:=hp
  rw [hn] at HN
  clear hn hl
  obtain ⟨m1,m2,m3⟩:=hm.any
  rcases m3 with m3 | ⟨m3,m4⟩ <;> cases b <;> (
    clear hm
    go_enter Tryz.func25,Tryz.ntmps25
    go_wp2_with fail
    refine (HN.out _).mono ?_
    rintro e w1 ⟨rfl,rfl⟩
    go_wp2_with fail
    go_ret
    exact ⟨rfl,HB2.out⟩)
end
end Go.Proofs.YtjbniichcopnlaaGreatDoor
