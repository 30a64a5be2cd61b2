/- Layer 11 (field): calendars compared; the walks of ruled, Check, Periods. Then: Layer 11. Then: Layer 11. Then: Layer 11. Then: Layer 11. Then: Layer 11 (field): weeks. -/
import Derived.Test.YtjbniichcopnlaaGreatDoorPkS19
set_option linter.unusedVariables false
set_option linter.unusedSimpArgs false
set_option maxRecDepth 100000
namespace Go.Proofs.YtjbniichcopnlaaGreatDoor
section
open Go.RowKit
theorem eqPatIn (W : World) (a b c d e f : Int) : (Op.equalIn 9999 35 (.agg #[.int .i64 a, .int .i64 b, .int .i64 c]) (.agg #[.int .i64 d, .int .i64 e, .int .i64 f])).run Tryz.prog W = .ok (decide (a = d) && decide (b = e) && decide (c = f)) W := by
  obtain ⟨i,hi⟩:=info_int
  rw [show (9999 : Nat) = 9998 + 1 from rfl,run_equalIn_array W 9998 _ _ und_pat hi,cells_int]
  have h3 : List.range 3 = [0,1,2]:=rfl
  rw [h3]
  by_cases h1 : a = d <;> by_cases h2 : b = e <;> by_cases h3 : c = f <;> simp [go_sem,h1,h2,h3,Op.eqItems]
theorem cal_ext (a b : CalL) : a = b ↔ a.name = b.name ∧ a.kind = b.kind ∧ a.day = b.day ∧ a.month = b.month ∧ a.shift = b.shift ∧ a.shape = b.shape ∧ a.p0 = b.p0 ∧ a.p1 = b.p1 ∧ a.p2 = b.p2 ∧ a.cycle = b.cycle ∧ a.extra = b.extra ∧ a.first = b.first ∧ a.last = b.last ∧ a.policy = b.policy := by
  cases a;cases b;simp
set_option maxHeartbeats 4000000 in
theorem run_equalCal (W : World) (a b : CalL) : (Op.equalIn 10000 37 (.agg #[.string ⟨a.name.toArray⟩, .int .i64 a.kind, .int .i64 a.day, .int .i64 a.month, .int .i64 a.shift, .int .i64 a.shape, .int .i64 a.p0, .int .i64 a.p1, .int .i64 a.p2, .int .i64 a.cycle, .int .i64 a.extra, .int .i64 a.first, .int .i64 a.last, .int .i64 a.policy]) (.agg #[.string ⟨b.name.toArray⟩, .int .i64 b.kind, .int .i64 b.day, .int .i64 b.month, .int .i64 b.shift, .int .i64 b.shape, .int .i64 b.p0, .int .i64 b.p1, .int .i64 b.p2, .int .i64 b.cycle, .int .i64 b.extra, .int .i64 b.first, .int .i64 b.last, .int .i64 b.policy])).run Tryz.prog W = .ok (decide (a = b)) W := by
  rw [run_equalIn_agg W 9999 37 _ _ (by kernel_rfl) (by kernel_rfl)]
  simp only [cal_ext]
  obtain ⟨aname,akind,aday,amonth,ashift,ashape,ap0,ap1,ap2,acycle,aextra,afirst,alast,apolicy⟩:=a
  obtain ⟨bname,bkind,bday,bmonth,bshift,bshape,bp0,bp1,bp2,bcycle,bextra,bfirst,blast,bpolicy⟩:=b
  dsimp only
  by_cases h_name : aname = bname
  case neg => simp [go_sem,Op.eqFields,eqPatIn,h_name]
  subst h_name
  by_cases h_kind : akind = bkind
  case neg => simp [go_sem,Op.eqFields,eqPatIn,h_kind]
  subst h_kind
  by_cases h_day : aday = bday
  case neg => simp [go_sem,Op.eqFields,eqPatIn,h_day]
  subst h_day
  by_cases h_month : amonth = bmonth
  case neg => simp [go_sem,Op.eqFields,eqPatIn,h_month]
  subst h_month
  by_cases h_shift : ashift = bshift
  case neg => simp [go_sem,Op.eqFields,eqPatIn,h_shift]
  subst h_shift
  by_cases h_shape : ashape = bshape
  case neg => simp [go_sem,Op.eqFields,eqPatIn,h_shape]
  subst h_shape
  by_cases h_p0 : ap0 = bp0
  case neg => simp [go_sem,Op.eqFields,eqPatIn,h_p0]
  subst h_p0
  by_cases h_p1 : ap1 = bp1
  case neg => simp [go_sem,Op.eqFields,eqPatIn,h_p1]
  subst h_p1
  by_cases h_p2 : ap2 = bp2
  case neg => simp [go_sem,Op.eqFields,eqPatIn,h_p2]
  subst h_p2
  by_cases h_cycle : acycle = bcycle
  case neg => simp [go_sem,Op.eqFields,eqPatIn,h_cycle]
  subst h_cycle
  by_cases h_extra : aextra = bextra
  case neg => simp [go_sem,Op.eqFields,eqPatIn,h_extra]
  subst h_extra
  by_cases h_first : afirst = bfirst
  case neg => simp [go_sem,Op.eqFields,eqPatIn,h_first]
  subst h_first
  by_cases h_last : alast = blast
  case neg => simp [go_sem,Op.eqFields,eqPatIn,h_last]
  subst h_last
  by_cases h_policy : apolicy = bpolicy
  case neg => simp [go_sem,Op.eqFields,eqPatIn,h_policy]
  subst h_policy
  simp [go_sem,Op.eqFields,eqPatIn]
theorem run_eqCal (W : World) (a b : CalL) : (binOp .eql 37 (.agg #[.string ⟨a.name.toArray⟩, .int .i64 a.kind, .int .i64 a.day, .int .i64 a.month, .int .i64 a.shift, .int .i64 a.shape, .int .i64 a.p0, .int .i64 a.p1, .int .i64 a.p2, .int .i64 a.cycle, .int .i64 a.extra, .int .i64 a.first, .int .i64 a.last, .int .i64 a.policy]) (.agg #[.string ⟨b.name.toArray⟩, .int .i64 b.kind, .int .i64 b.day, .int .i64 b.month, .int .i64 b.shift, .int .i64 b.shape, .int .i64 b.p0, .int .i64 b.p1, .int .i64 b.p2, .int .i64 b.cycle, .int .i64 b.extra, .int .i64 b.first, .int .i64 b.last, .int .i64 b.policy])).run Tryz.prog W = .ok (.bool (decide (a = b))) W := by
  rw [run_eql_struct,run_equalCal];rfl
end
section
open Go.RowKit
open Go.Joins renaming cell_of_block → zb, unfrozen_of_block → zu
open Go.Lib renaming hid → zh
set_option maxHeartbeats 16000000 in
theorem weeks_0 (kind day month shift shape p0 p1 p2 cycle extra first last policy : Int) (nm : Bytes) (w : World) (k1 : (shape == 1) = false) (k2 : (shape == 2) = false) (k3 : (shape == 3) = false) :
    Calls Tryz.prog 67 #[.agg #[.string ⟨nm.toArray⟩, .int .i64 kind, .int .i64 day, .int .i64 month, .int .i64 shift, .int .i64 shape, .int .i64 p0, .int .i64 p1, .int .i64 p2, .int .i64 cycle, .int .i64 extra, .int .i64 first, .int .i64 last, .int .i64 policy]] w fun e w' => e = .returned (.bool (false)) ∧ Below w.heap.size w w':=by
  have HB0:=zh (show Below w.heap.size w (w.alloc (.cells #[.string ⟨nm.toArray⟩, .int .i64 kind, .int .i64 day, .int .i64 month, .int .i64 shift, .int .i64 shape, .int .i64 p0, .int .i64 p1, .int .i64 p2, .int .i64 cycle, .int .i64 extra, .int .i64 first, .int .i64 last, .int .i64 policy] 37)) from (Below.refl _ _).alloc (Nat.le_refl _) _)
  have HX0:=zh (heap_alloc_new w (.cells #[.string ⟨nm.toArray⟩, .int .i64 kind, .int .i64 day, .int .i64 month, .int .i64 shift, .int .i64 shape, .int .i64 p0, .int .i64 p1, .int .i64 p2, .int .i64 cycle, .int .i64 extra, .int .i64 first, .int .i64 last, .int .i64 policy] 37))
  have hz:=fun W => run_eqPat W p0 p1 p2 0 0 0
  have HM:=zh (fun W => field_many shape cycle W)
  have HT:=zh (fun W => field_between extra 1 (manyC shape cycle) W)
  generalize manyC shape cycle = m at *
  generalize tween extra 1 m = tw at *
  generalize hcy : decide (cycle = 0) = cz at *
  have hcz : (cycle == 0) = cz:=hcy
  clear hcy
  obtain ⟨pz,hpz⟩ : ∃ b,(decide (p0 = 0) && decide (p1 = 0) && decide (p2 = 0)) = b:=⟨_,rfl⟩
  simp only [hpz] at hz
  try rw [hpz]
  clear hpz
  go_enter Tryz.func67,Tryz.ntmps67
  go_wp2_with fail
  go_quiet (fail)
  generalize hWg : World.drewN _ _ = W
  have hbW : Below w.heap.size w W:=by rw [← hWg];exact below_drewN HB0.out _
  have hWh : _ = W.heap:=congrArg World.heap hWg
  have hxW:=HX0.out
  rw [show (w.alloc (.cells #[.string ⟨nm.toArray⟩, .int .i64 kind, .int .i64 day, .int .i64 month, .int .i64 shift, .int .i64 shape, .int .i64 p0, .int .i64 p1, .int .i64 p2, .int .i64 cycle, .int .i64 extra, .int .i64 first, .int .i64 last, .int .i64 policy] 37)).heap = W.heap from hWh] at hxW
  have hgl : w.heap.size < W.heap.size:=(Array.getElem?_eq_some_iff.1 hxW).1
  clear hWg hWh
  have y5:=zb hxW 5
  have y6:=zb hxW 6
  have y7:=zb hxW 7
  have y8:=zb hxW 8
  have y9:=zb hxW 9
  have y10:=zb hxW 10
  have HXW:=zh hxW
  have HBW:=zh hbW
  clear hxW hbW
  go_wp2_with fail
  go_ret
  exact ⟨rfl,HBW.out⟩
end
section
open Go.RowKit
open Go.Joins renaming cell_of_block → zb, unfrozen_of_block → zu
open Go.Lib renaming hid → zh
set_option maxHeartbeats 16000000 in
theorem weeks_1 (kind day month shift p0 p1 p2 cycle extra first last policy : Int) (nm : Bytes) (w : World)  :
    Calls Tryz.prog 67 #[.agg #[.string ⟨nm.toArray⟩, .int .i64 kind, .int .i64 day, .int .i64 month, .int .i64 shift, .int .i64 1, .int .i64 p0, .int .i64 p1, .int .i64 p2, .int .i64 cycle, .int .i64 extra, .int .i64 first, .int .i64 last, .int .i64 policy]] w fun e w' => e = .returned (.bool (patOk p0 p1 p2 && decide (cycle = 0) && tween extra 1 (manyC 1 cycle))) ∧ Below w.heap.size w w':=by
  have HB0:=zh (show Below w.heap.size w (w.alloc (.cells #[.string ⟨nm.toArray⟩, .int .i64 kind, .int .i64 day, .int .i64 month, .int .i64 shift, .int .i64 1, .int .i64 p0, .int .i64 p1, .int .i64 p2, .int .i64 cycle, .int .i64 extra, .int .i64 first, .int .i64 last, .int .i64 policy] 37)) from (Below.refl _ _).alloc (Nat.le_refl _) _)
  have HX0:=zh (heap_alloc_new w (.cells #[.string ⟨nm.toArray⟩, .int .i64 kind, .int .i64 day, .int .i64 month, .int .i64 shift, .int .i64 1, .int .i64 p0, .int .i64 p1, .int .i64 p2, .int .i64 cycle, .int .i64 extra, .int .i64 first, .int .i64 last, .int .i64 policy] 37))
  have hz:=fun W => run_eqPat W p0 p1 p2 0 0 0
  have HM:=zh (fun W => field_many 1 cycle W)
  have HT:=zh (fun W => field_between extra 1 (manyC 1 cycle) W)
  generalize manyC 1 cycle = m at *
  generalize tween extra 1 m = tw at *
  generalize hcy : decide (cycle = 0) = cz at *
  have hcz : (cycle == 0) = cz:=hcy
  clear hcy
  obtain ⟨pz,hpz⟩ : ∃ b,(decide (p0 = 0) && decide (p1 = 0) && decide (p2 = 0)) = b:=⟨_,rfl⟩
  simp only [hpz] at hz
  try rw [hpz]
  clear hpz
  have HPP:=zh (fun g W h => place_pat p0 p1 p2 g W h)
  have hpk:=patFrom_ok p0 p1 p2
  have hpr : 0 ≤ patFrom 0 p0 p1 p2 + 1:=by have:=(patFrom_rng p0 p1 p2).1;omega
  generalize patFrom 0 p0 p1 p2 + 1 = z at *
  generalize patOk p0 p1 p2 = po at *
  have hzz : (po = false ∧ z = 0) ∨ (po = true ∧ 0 < z) := by
    cases po
    · exact .inl ⟨rfl,by simp at hpk;omega⟩
    · exact .inr ⟨rfl,by simp at hpk;omega⟩
  clear hpk hpr
  rcases hzz with ⟨rfl,rfl⟩ | ⟨rfl,hz0⟩ <;> (
    go_enter Tryz.func67,Tryz.ntmps67
    go_wp2_with fail
    go_quiet (fail)
    generalize hWg : World.drewN _ _ = W
    have hbW : Below w.heap.size w W:=by rw [← hWg];exact below_drewN HB0.out _
    have hWh : _ = W.heap:=congrArg World.heap hWg
    have hxW:=HX0.out
    rw [show (w.alloc (.cells #[.string ⟨nm.toArray⟩, .int .i64 kind, .int .i64 day, .int .i64 month, .int .i64 shift, .int .i64 1, .int .i64 p0, .int .i64 p1, .int .i64 p2, .int .i64 cycle, .int .i64 extra, .int .i64 first, .int .i64 last, .int .i64 policy] 37)).heap = W.heap from hWh] at hxW
    have hgl : w.heap.size < W.heap.size:=(Array.getElem?_eq_some_iff.1 hxW).1
    clear hWg hWh
    have y5:=zb hxW 5
    have y6:=zb hxW 6
    have y7:=zb hxW 7
    have y8:=zb hxW 8
    have y9:=zb hxW 9
    have y10:=zb hxW 10
    have HXW:=zh hxW
    have HBW:=zh hbW
    clear hxW hbW
    go_wp2_with fail
    go_region_with (first | (go_at_call 98;refine (field_patterns _).mono ?_;rintro e w1 ⟨rfl,hp1,hb1⟩;have x6:=(hb1.cell (p:=⟨w.heap.size,6,none⟩) (by simpa using hgl)).trans y6;have x7:=(hb1.cell (p:=⟨w.heap.size,7,none⟩) (by simpa using hgl)).trans y7;have x8:=(hb1.cell (p:=⟨w.heap.size,8,none⟩) (by simpa using hgl)).trans y8) | (go_at_call 97;refine (HPP.out _ _ (by assumption)).mono ?_;rintro e w2 ⟨rfl,hb2⟩))
    all_goals (
      have hz1 : W.heap.size ≤ w1.heap.size:=hb1.size
      have hxx:=(hb2.block w.heap.size (by omega)).trans ((hb1.block w.heap.size hgl).trans HXW.out)
      have hbb : Below w.heap.size w w2:=((HBW.out.drew).trans (Below.mono hb1 (by show w.heap.size ≤ W.heap.size;omega))).trans (hb2.mono (by omega))
      have v5:=zb hxx 5
      have v9:=zb hxx 9
      have v10:=zb hxx 10
      have HBX:=zh hbb
      clear hp1 hb1 hb2 hxx hbb x6 x7 x8 y5 y6 y7 y8 y9 y10
      first
      | (have ht : 0 < z := hz0
         simp only [Act.put,List.setIfInBounds_toArray,List.set_cons_succ,List.set_cons_zero,List.getElem_toArray,List.getElem_cons_succ,List.getElem_cons_zero]
         cases cz <;> (
           go_wp2_with fail
           go_quiet (first | (go_at_call 99;exact quiet_add_left (HM.out _)) | (go_at_call 99;exact quiet_left (HM.out _)) | (go_at_call 38;exact quiet_add_left (HT.out _)) | (go_at_call 38;exact quiet_left (HT.out _)))
           go_wp2_with fail
           go_ret
           exact ⟨rfl,below_drewN HBX.out _⟩))
      | (simp only [Act.put,List.setIfInBounds_toArray,List.set_cons_succ,List.set_cons_zero,List.getElem_toArray,List.getElem_cons_succ,List.getElem_cons_zero]
         go_wp2_with fail
         go_quiet (fail)
         go_wp2_with fail
         go_ret
         exact ⟨rfl,below_drewN HBX.out _⟩)))
end
section
open Go.RowKit
open Go.Joins renaming cell_of_block → zb, unfrozen_of_block → zu
open Go.Lib renaming hid → zh
set_option maxHeartbeats 16000000 in
theorem weeks_2 (kind day month shift p0 p1 p2 cycle extra first last policy : Int) (nm : Bytes) (w : World)  :
    Calls Tryz.prog 67 #[.agg #[.string ⟨nm.toArray⟩, .int .i64 kind, .int .i64 day, .int .i64 month, .int .i64 shift, .int .i64 2, .int .i64 p0, .int .i64 p1, .int .i64 p2, .int .i64 cycle, .int .i64 extra, .int .i64 first, .int .i64 last, .int .i64 policy]] w fun e w' => e = .returned (.bool ((decide (p0 = 0) && decide (p1 = 0) && decide (p2 = 0)) && decide (cycle = 0) && tween extra 1 (manyC 2 cycle))) ∧ Below w.heap.size w w':=by
  have HB0:=zh (show Below w.heap.size w (w.alloc (.cells #[.string ⟨nm.toArray⟩, .int .i64 kind, .int .i64 day, .int .i64 month, .int .i64 shift, .int .i64 2, .int .i64 p0, .int .i64 p1, .int .i64 p2, .int .i64 cycle, .int .i64 extra, .int .i64 first, .int .i64 last, .int .i64 policy] 37)) from (Below.refl _ _).alloc (Nat.le_refl _) _)
  have HX0:=zh (heap_alloc_new w (.cells #[.string ⟨nm.toArray⟩, .int .i64 kind, .int .i64 day, .int .i64 month, .int .i64 shift, .int .i64 2, .int .i64 p0, .int .i64 p1, .int .i64 p2, .int .i64 cycle, .int .i64 extra, .int .i64 first, .int .i64 last, .int .i64 policy] 37))
  have hz:=fun W => run_eqPat W p0 p1 p2 0 0 0
  have HM:=zh (fun W => field_many 2 cycle W)
  have HT:=zh (fun W => field_between extra 1 (manyC 2 cycle) W)
  generalize manyC 2 cycle = m at *
  generalize tween extra 1 m = tw at *
  generalize hcy : decide (cycle = 0) = cz at *
  have hcz : (cycle == 0) = cz:=hcy
  clear hcy
  obtain ⟨pz,hpz⟩ : ∃ b,(decide (p0 = 0) && decide (p1 = 0) && decide (p2 = 0)) = b:=⟨_,rfl⟩
  simp only [hpz] at hz
  try rw [hpz]
  clear hpz
  cases pz
  · skip
    go_enter Tryz.func67,Tryz.ntmps67
    go_wp2_with fail
    go_quiet (fail)
    generalize hWg : World.drewN _ _ = W
    have hbW : Below w.heap.size w W:=by rw [← hWg];exact below_drewN HB0.out _
    have hWh : _ = W.heap:=congrArg World.heap hWg
    have hxW:=HX0.out
    rw [show (w.alloc (.cells #[.string ⟨nm.toArray⟩, .int .i64 kind, .int .i64 day, .int .i64 month, .int .i64 shift, .int .i64 2, .int .i64 p0, .int .i64 p1, .int .i64 p2, .int .i64 cycle, .int .i64 extra, .int .i64 first, .int .i64 last, .int .i64 policy] 37)).heap = W.heap from hWh] at hxW
    have hgl : w.heap.size < W.heap.size:=(Array.getElem?_eq_some_iff.1 hxW).1
    clear hWg hWh
    have y5:=zb hxW 5
    have y6:=zb hxW 6
    have y7:=zb hxW 7
    have y8:=zb hxW 8
    have y9:=zb hxW 9
    have y10:=zb hxW 10
    have HXW:=zh hxW
    have HBW:=zh hbW
    clear hxW hbW
    have HBX:=HBW
    go_wp2_with fail
    go_quiet (first | (go_at_call 99;exact quiet_add_left (HM.out _)) | (go_at_call 99;exact quiet_left (HM.out _)) | (go_at_call 38;exact quiet_add_left (HT.out _)) | (go_at_call 38;exact quiet_left (HT.out _)))
    go_wp2_with fail
    go_ret
    exact ⟨rfl,below_drewN HBX.out _⟩
  · cases cz <;> (
      go_enter Tryz.func67,Tryz.ntmps67
      go_wp2_with fail
      go_quiet (fail)
      generalize hWg : World.drewN _ _ = W
      have hbW : Below w.heap.size w W:=by rw [← hWg];exact below_drewN HB0.out _
      have hWh : _ = W.heap:=congrArg World.heap hWg
      have hxW:=HX0.out
      rw [show (w.alloc (.cells #[.string ⟨nm.toArray⟩, .int .i64 kind, .int .i64 day, .int .i64 month, .int .i64 shift, .int .i64 2, .int .i64 p0, .int .i64 p1, .int .i64 p2, .int .i64 cycle, .int .i64 extra, .int .i64 first, .int .i64 last, .int .i64 policy] 37)).heap = W.heap from hWh] at hxW
      have hgl : w.heap.size < W.heap.size:=(Array.getElem?_eq_some_iff.1 hxW).1
      clear hWg hWh
      have y5:=zb hxW 5
      have y6:=zb hxW 6
      have y7:=zb hxW 7
      have y8:=zb hxW 8
      have y9:=zb hxW 9
      have y10:=zb hxW 10
      have HXW:=zh hxW
      have HBW:=zh hbW
      clear hxW hbW
      have HBX:=HBW
      go_wp2_with fail
      go_quiet (first | (go_at_call 99;exact quiet_add_left (HM.out _)) | (go_at_call 99;exact quiet_left (HM.out _)) | (go_at_call 38;exact quiet_add_left (HT.out _)) | (go_at_call 38;exact quiet_left (HT.out _)))
      go_wp2_with fail
      go_ret
      exact ⟨rfl,below_drewN HBX.out _⟩)
end
section
open Go.RowKit
open Go.Joins renaming cell_of_block → zb, unfrozen_of_block → zu
open Go.Lib renaming hid → zh
set_option maxHeartbeats 16000000 in
theorem weeks_3 (kind day month shift p0 p1 p2 cycle extra first last policy : Int) (nm : Bytes) (w : World)  :
    Calls Tryz.prog 67 #[.agg #[.string ⟨nm.toArray⟩, .int .i64 kind, .int .i64 day, .int .i64 month, .int .i64 shift, .int .i64 3, .int .i64 p0, .int .i64 p1, .int .i64 p2, .int .i64 cycle, .int .i64 extra, .int .i64 first, .int .i64 last, .int .i64 policy]] w fun e w' => e = .returned (.bool ((decide (p0 = 0) && decide (p1 = 0) && decide (p2 = 0)) && cycOk cycle && tween extra 1 (manyC 3 cycle))) ∧ Below w.heap.size w w':=by
  have HB0:=zh (show Below w.heap.size w (w.alloc (.cells #[.string ⟨nm.toArray⟩, .int .i64 kind, .int .i64 day, .int .i64 month, .int .i64 shift, .int .i64 3, .int .i64 p0, .int .i64 p1, .int .i64 p2, .int .i64 cycle, .int .i64 extra, .int .i64 first, .int .i64 last, .int .i64 policy] 37)) from (Below.refl _ _).alloc (Nat.le_refl _) _)
  have HX0:=zh (heap_alloc_new w (.cells #[.string ⟨nm.toArray⟩, .int .i64 kind, .int .i64 day, .int .i64 month, .int .i64 shift, .int .i64 3, .int .i64 p0, .int .i64 p1, .int .i64 p2, .int .i64 cycle, .int .i64 extra, .int .i64 first, .int .i64 last, .int .i64 policy] 37))
  have hz:=fun W => run_eqPat W p0 p1 p2 0 0 0
  have HM:=zh (fun W => field_many 3 cycle W)
  have HT:=zh (fun W => field_between extra 1 (manyC 3 cycle) W)
  generalize manyC 3 cycle = m at *
  generalize tween extra 1 m = tw at *
  generalize hcy : decide (cycle = 0) = cz at *
  have hcz : (cycle == 0) = cz:=hcy
  clear hcy
  obtain ⟨pz,hpz⟩ : ∃ b,(decide (p0 = 0) && decide (p1 = 0) && decide (p2 = 0)) = b:=⟨_,rfl⟩
  simp only [hpz] at hz
  try rw [hpz]
  clear hpz
  unfold cycOk
  obtain ⟨b1,hb1⟩ : ∃ b,decide (cycle = 1) = b:=⟨_,rfl⟩
  obtain ⟨b2,hb2⟩ : ∃ b,decide (cycle = 2) = b:=⟨_,rfl⟩
  obtain ⟨b4,hb4⟩ : ∃ b,decide (cycle = 4) = b:=⟨_,rfl⟩
  rw [hb1,hb2,hb4]
  have q1 : (cycle == 1) = b1:=hb1
  have q2 : (cycle == 2) = b2:=hb2
  have q4 : (cycle == 4) = b4:=hb4
  clear hb1 hb2 hb4
  have hy : ∀ y,(b1 || b2 || b4) = y → Calls Tryz.prog 67 #[.agg #[.string ⟨nm.toArray⟩, .int .i64 kind, .int .i64 day, .int .i64 month, .int .i64 shift, .int .i64 3, .int .i64 p0, .int .i64 p1, .int .i64 p2, .int .i64 cycle, .int .i64 extra, .int .i64 first, .int .i64 last, .int .i64 policy]] w fun e w' => e = .returned (.bool (pz && y && tw)) ∧ Below w.heap.size w w' := by
    intro y hy
    cases b1
    · cases b2
      · cases b4 <;> (
          subst hy
          cases pz <;> (
            go_enter Tryz.func67,Tryz.ntmps67
            go_wp2_with fail
            go_quiet (fail)
            generalize hWg : World.drewN _ _ = W
            have hbW : Below w.heap.size w W:=by rw [← hWg];exact below_drewN HB0.out _
            have hWh : _ = W.heap:=congrArg World.heap hWg
            have hxW:=HX0.out
            rw [show (w.alloc (.cells #[.string ⟨nm.toArray⟩, .int .i64 kind, .int .i64 day, .int .i64 month, .int .i64 shift, .int .i64 3, .int .i64 p0, .int .i64 p1, .int .i64 p2, .int .i64 cycle, .int .i64 extra, .int .i64 first, .int .i64 last, .int .i64 policy] 37)).heap = W.heap from hWh] at hxW
            have hgl : w.heap.size < W.heap.size:=(Array.getElem?_eq_some_iff.1 hxW).1
            clear hWg hWh
            have y5:=zb hxW 5
            have y6:=zb hxW 6
            have y7:=zb hxW 7
            have y8:=zb hxW 8
            have y9:=zb hxW 9
            have y10:=zb hxW 10
            have HXW:=zh hxW
            have HBW:=zh hbW
            clear hxW hbW
            have HBX:=HBW
            go_wp2_with fail
            go_quiet (first | (go_at_call 99;exact quiet_add_left (HM.out _)) | (go_at_call 99;exact quiet_left (HM.out _)) | (go_at_call 38;exact quiet_add_left (HT.out _)) | (go_at_call 38;exact quiet_left (HT.out _)))
            go_wp2_with fail
            go_ret
            exact ⟨rfl,below_drewN HBX.out _⟩))
      · subst hy
        cases pz <;> (
          go_enter Tryz.func67,Tryz.ntmps67
          go_wp2_with fail
          go_quiet (fail)
          generalize hWg : World.drewN _ _ = W
          have hbW : Below w.heap.size w W:=by rw [← hWg];exact below_drewN HB0.out _
          have hWh : _ = W.heap:=congrArg World.heap hWg
          have hxW:=HX0.out
          rw [show (w.alloc (.cells #[.string ⟨nm.toArray⟩, .int .i64 kind, .int .i64 day, .int .i64 month, .int .i64 shift, .int .i64 3, .int .i64 p0, .int .i64 p1, .int .i64 p2, .int .i64 cycle, .int .i64 extra, .int .i64 first, .int .i64 last, .int .i64 policy] 37)).heap = W.heap from hWh] at hxW
          have hgl : w.heap.size < W.heap.size:=(Array.getElem?_eq_some_iff.1 hxW).1
          clear hWg hWh
          have y5:=zb hxW 5
          have y6:=zb hxW 6
          have y7:=zb hxW 7
          have y8:=zb hxW 8
          have y9:=zb hxW 9
          have y10:=zb hxW 10
          have HXW:=zh hxW
          have HBW:=zh hbW
          clear hxW hbW
          have HBX:=HBW
          go_wp2_with fail
          go_quiet (first | (go_at_call 99;exact quiet_add_left (HM.out _)) | (go_at_call 99;exact quiet_left (HM.out _)) | (go_at_call 38;exact quiet_add_left (HT.out _)) | (go_at_call 38;exact quiet_left (HT.out _)))
          go_wp2_with fail
          go_ret
          exact ⟨rfl,below_drewN HBX.out _⟩)
    · subst hy
      cases pz <;> (
        go_enter Tryz.func67,Tryz.ntmps67
        go_wp2_with fail
        go_quiet (fail)
        generalize hWg : World.drewN _ _ = W
        have hbW : Below w.heap.size w W:=by rw [← hWg];exact below_drewN HB0.out _
        have hWh : _ = W.heap:=congrArg World.heap hWg
        have hxW:=HX0.out
        rw [show (w.alloc (.cells #[.string ⟨nm.toArray⟩, .int .i64 kind, .int .i64 day, .int .i64 month, .int .i64 shift, .int .i64 3, .int .i64 p0, .int .i64 p1, .int .i64 p2, .int .i64 cycle, .int .i64 extra, .int .i64 first, .int .i64 last, .int .i64 policy] 37)).heap = W.heap from hWh] at hxW
        have hgl : w.heap.size < W.heap.size:=(Array.getElem?_eq_some_iff.1 hxW).1
        clear hWg hWh
        have y5:=zb hxW 5
        have y6:=zb hxW 6
        have y7:=zb hxW 7
        have y8:=zb hxW 8
        have y9:=zb hxW 9
        have y10:=zb hxW 10
        have HXW:=zh hxW
        have HBW:=zh hbW
        clear hxW hbW
        have HBX:=HBW
        go_wp2_with fail
        go_quiet (first | (go_at_call 99;exact quiet_add_left (HM.out _)) | (go_at_call 99;exact quiet_left (HM.out _)) | (go_at_call 38;exact quiet_add_left (HT.out _)) | (go_at_call 38;exact quiet_left (HT.out _)))
        go_wp2_with fail
        go_ret
        exact ⟨rfl,below_drewN HBX.out _⟩)
  exact hy _ rfl
end
section
open Go.RowKit
theorem field_weeks (c : CalL) (w : World) : Calls Tryz.prog 67 #[calV c] w fun e w' => e = .returned (.bool (weeksC c)) ∧ Below w.heap.size w w' := by
  obtain ⟨nm,kind,day,month,shift,shape,p0,p1,p2,cycle,extra,first,last,policy⟩:=c
  unfold weeksC patZ
  dsimp only [calV]
  by_cases h1 : shape = 1
  · subst h1
    rw [if_pos rfl]
    exact weeks_1 kind day month shift p0 p1 p2 cycle extra first last policy nm w
  rw [if_neg h1]
  by_cases h2 : shape = 2
  · subst h2
    rw [if_pos rfl]
    exact weeks_2 kind day month shift p0 p1 p2 cycle extra first last policy nm w
  rw [if_neg h2]
  by_cases h3 : shape = 3
  · subst h3
    rw [if_pos rfl]
    exact weeks_3 kind day month shift p0 p1 p2 cycle extra first last policy nm w
  rw [if_neg h3]
  exact weeks_0 kind day month shift shape p0 p1 p2 cycle extra first last policy nm w (beq_false_of_ne h1) (beq_false_of_ne h2) (beq_false_of_ne h3)
end
end Go.Proofs.YtjbniichcopnlaaGreatDoor
