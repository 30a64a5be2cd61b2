/- Layer 11 (field), the reference: Check, of any calendar. Then: Layer 12 (conf), in plain Lean: what an item says does not lie in its places; where what is wrong is told. Then: Layer 11 (field): items laid in a block of their own. -/
import Derived.Test.YtjbniichcopnlaaGreatDoorPkS36
import Derived.Test.YtjbniichcopnlaaGreatDoorPkS37
import Derived.Test.YtjbniichcopnlaaGreatDoorPkS19
import Derived.Test.YtjbniichcopnlaaGreatDoorPkS15
import Derived.Test.YtjbniichcopnlaaGreatDoorPkS6
import Derived.Test.YtjbniichcopnlaaGreatDoorPkS13
namespace Go.Proofs.YtjbniichcopnlaaGreatDoor
section
set_option linter.unusedVariables false
set_option linter.unusedSimpArgs false
set_option maxRecDepth 100000
open Go.RowKit
theorem tween01 (x : Int) : tween x 0 1 = (x == 0 || x == 1) := by
  unfold tween
  by_cases h0 : x = 0
  · subst h0;rfl
  · by_cases h1 : x = 1
    · subst h1;rfl
    · rw [beq_false_of_ne h0,beq_false_of_ne h1]
      by_cases h2 : 0 ≤ x
      · rw [decide_eq_false (show ¬ x ≤ 1 by omega)];simp
      · rw [decide_eq_false h2];simp
theorem wk_ruled (c : CalL) (hk : c.kind = 1 ∨ c.kind = 2) : ruledC c = wkR c.day c.month c.shift (shapedR c) c.extra (manyR c.shape c.cycle) := by
  unfold ruledC fixedC
  rw [if_neg (by omega),if_neg (by omega)]
  dsimp only
  rw [tween01,weeksR]
  unfold wkR tween
  rw [if_pos hk]
  cases decide (1 ≤ c.month) <;> cases decide (c.month ≤ 12) <;> cases (c.shift == 0 || c.shift == 1) <;> cases decide (1 ≤ c.day) <;> cases decide (c.day ≤ 7) <;> cases shapedR c <;> cases decide (1 ≤ c.extra) <;> cases decide (c.extra ≤ manyR c.shape c.cycle) <;> rfl
theorem iso_ruled (c : CalL) (hk : c.kind = 5) : ruledC c = isoR c.day c.month c.shift (shapedR c) c.extra (manyR c.shape c.cycle) := by
  unfold ruledC fixedC
  rw [if_neg (by omega),if_neg (by omega)]
  dsimp only
  rw [tween01,weeksR,if_neg (show ¬ (c.kind = 1 ∨ c.kind = 2) by omega),if_pos hk]
  unfold isoR tween
  by_cases h1 : c.month = 12
  · by_cases h2 : c.shift = 0
    · rw [h1,h2]
      by_cases h3 : c.day = 7
      · rw [h3]
        cases shapedR c <;> cases decide (1 ≤ c.extra) <;> cases decide (c.extra ≤ manyR c.shape c.cycle) <;> rfl
      · simp [h3]
    · rw [beq_false_of_ne h2]
      simp [h2]
  · rw [beq_false_of_ne h1]
    simp [h1]
theorem mon_ruled (c : CalL) (hk : c.kind = 6) : ruledC c = (decide (1 ≤ c.month) && decide (c.month ≤ 12) && (c.shift == 0 || c.shift == 1) && (decide (c.day = 0) && decide (c.shape = 5) && patZ c && decide (c.cycle = 0) && decide (c.extra = 0))) := by
  unfold ruledC fixedC
  rw [if_neg (by omega),if_neg (by omega)]
  dsimp only
  rw [tween01,if_neg (show ¬ (c.kind = 1 ∨ c.kind = 2) by omega),if_neg (show ¬ c.kind = 5 by omega),if_pos hk]
  unfold tween
  cases decide (1 ≤ c.month) <;> cases decide (c.month ≤ 12) <;> cases (c.shift == 0 || c.shift == 1) <;> simp
theorem errC_ok {c : CalL} (h1 : nameL c.name = true ∧ 1602 ≤ c.first ∧ c.last ≤ 9996 ∧ c.first ≤ c.last ∧ c.last - c.first < 400) (h2 : policyC c = true) : errC c = e01 (ruledC c) := by
  unfold errC e01 okC servedC
  rw [h1.1,h2,decide_eq_true h1.2.1,decide_eq_true h1.2.2.1,decide_eq_true h1.2.2.2.1,decide_eq_true h1.2.2.2.2]
  simp
theorem r11_Check (c : CalL) (hl : c.name.length ≤ maxLen) (w : World) : Calls Tryz.prog 25 #[calV c] w fun e w' => e = .returned (.int .i64 (errC c)) ∧ Below w.heap.size w w' := by
  by_cases hh : nameL c.name = true ∧ 1602 ≤ c.first ∧ c.last ≤ 9996 ∧ c.first ≤ c.last ∧ c.last - c.first < 400
  · have hH := head_ok hh
    cases hp : policyC c
    · have he : errC c = 1 := by unfold errC okC; rw [hp]; simp
      rw [he]
      exact r11_Check_pol c.name c.kind c.day c.month c.shift c.shape c.p0 c.p1 c.p2 c.cycle c.extra c.first c.last c.policy hl hH (pol_no hp) w
    · have hP := pol_ok hp
      rw [errC_ok hh hp]
      by_cases k1 : c.kind = 1 ∨ c.kind = 2
      · rw [wk_ruled c k1]
        have k6 : (c.kind == 6) = false:=beq_false_of_ne (by omega)
        rw [k6] at hP
        have hk : (c.kind == 1) = true ∨ ((c.kind == 1) = false ∧ (c.kind == 2) = true) := by
          rcases k1 with h | h
          · exact .inl (by rw [h];rfl)
          · exact .inr (by rw [h];exact ⟨rfl,rfl⟩)
        cases d1 : decide (1 ≤ c.day)
        · exact r11_Check_12n c.name c.kind c.day c.month c.shift c.shape c.p0 c.p1 c.p2 c.cycle c.extra c.first c.last c.policy hl hH hP hk k6 (.inl d1) w
        cases d2 : decide (c.day ≤ 7)
        · exact r11_Check_12n c.name c.kind c.day c.month c.shift c.shape c.p0 c.p1 c.p2 c.cycle c.extra c.first c.last c.policy hl hH hP hk k6 (.inr (.inl ⟨d1,d2⟩)) w
        cases d3 : decide (1 ≤ c.month)
        · exact r11_Check_12n c.name c.kind c.day c.month c.shift c.shape c.p0 c.p1 c.p2 c.cycle c.extra c.first c.last c.policy hl hH hP hk k6 (.inr (.inr (.inl ⟨d1,d2,d3⟩))) w
        cases d4 : decide (c.month ≤ 12)
        · exact r11_Check_12n c.name c.kind c.day c.month c.shift c.shape c.p0 c.p1 c.p2 c.cycle c.extra c.first c.last c.policy hl hH hP hk k6 (.inr (.inr (.inr (.inl ⟨d1,d2,d3,d4⟩)))) w
        cases s0 : (c.shift == 0)
        · cases s1 : (c.shift == 1)
          · exact r11_Check_12n c.name c.kind c.day c.month c.shift c.shape c.p0 c.p1 c.p2 c.cycle c.extra c.first c.last c.policy hl hH hP hk k6 (.inr (.inr (.inr (.inr ⟨d1,d2,d3,d4,s0,s1⟩)))) w
          · exact r11_Check_12b c.name c.kind c.day c.month c.shift c.shape c.p0 c.p1 c.p2 c.cycle c.extra c.first c.last c.policy hl hH hP hk k6 d1 d2 d3 d4 s0 s1 w
        · exact r11_Check_12a c.name c.kind c.day c.month c.shift c.shape c.p0 c.p1 c.p2 c.cycle c.extra c.first c.last c.policy hl hH hP hk k6 d1 d2 d3 d4 s0 w
      · by_cases k5 : c.kind = 5
        · rw [iso_ruled c k5]
          have k6 : (c.kind == 6) = false:=beq_false_of_ne (by omega)
          rw [k6] at hP
          obtain ⟨nm,kind,day,month,shift,shape,p0,p1,p2,cycle,extra,first,last,policy⟩:=c
          dsimp only at k5 hH hP hl ⊢
          subst k5
          exact r11_Check_5 nm day month shift shape p0 p1 p2 cycle extra first last policy hl hH hP w
        · by_cases k3 : c.kind = 3
          · have k6 : (c.kind == 6) = false := beq_false_of_ne (by omega)
            rw [k6] at hP
            obtain ⟨nm,kind,day,month,shift,shape,p0,p1,p2,cycle,extra,first,last,policy⟩:=c
            dsimp only at k3 hH hP hl
            subst k3
            have hr : ruledC ⟨nm,3,day,month,shift,shape,p0,p1,p2,cycle,extra,first,last,policy⟩ = decide ((⟨[],3,day,month,shift,shape,p0,p1,p2,cycle,extra,0,0,0⟩ : CalL) = ⟨[],3,6,1,1,1,4,5,4,0,12,0,0,0⟩) := by
              unfold ruledC fixedC nrfC
              simp
            rw [hr]
            exact r11_Check_3 nm day month shift shape p0 p1 p2 cycle extra first last policy hl hH hP w
          · by_cases k4 : c.kind = 4
            · have k6 : (c.kind == 6) = false := beq_false_of_ne (by omega)
              rw [k6] at hP
              obtain ⟨nm,kind,day,month,shift,shape,p0,p1,p2,cycle,extra,first,last,policy⟩:=c
              dsimp only at k4 hH hP hl
              subst k4
              have hr : ruledC ⟨nm,4,day,month,shift,shape,p0,p1,p2,cycle,extra,first,last,policy⟩ = decide ((⟨[],4,day,month,shift,shape,p0,p1,p2,cycle,extra,0,0,0⟩ : CalL) = ⟨[],4,7,12,0,4,0,0,0,0,12,0,0,0⟩) := by
                unfold ruledC fixedC broadC
                simp
              rw [hr]
              exact r11_Check_4 nm day month shift shape p0 p1 p2 cycle extra first last policy hl hH hP w
            · by_cases k6 : c.kind = 6
              · have hm := mon_ruled c k6
                have k6b : (c.kind == 6) = true:=by rw [k6];rfl
                rw [k6b] at hP
                obtain ⟨nm,kind,day,month,shift,shape,p0,p1,p2,cycle,extra,first,last,policy⟩:=c
                dsimp only at k6 hH hP hl hm
                subst k6
                rw [hm]
                cases d3 : decide (1 ≤ month)
                · exact r11_Check_6n nm day month shift shape p0 p1 p2 cycle extra first last policy hl hH hP ⟨.inl d3⟩ w
                cases d4 : decide (month ≤ 12)
                · exact r11_Check_6n nm day month shift shape p0 p1 p2 cycle extra first last policy hl hH hP ⟨.inr (.inl ⟨d3,d4⟩)⟩ w
                have hb : ∀ b : Bool,(decide (day = 0) && decide (shape = 5) && patZ ⟨nm,6,day,month,shift,shape,p0,p1,p2,cycle,extra,first,last,policy⟩ && decide (cycle = 0) && decide (extra = 0)) = decide ((⟨[],6,day,month,shift,shape,p0,p1,p2,cycle,extra,0,0,0⟩ : CalL) = ⟨[],6,0,month,shift,5,0,0,0,0,0,0,0,0⟩) := fun _ => by
                  unfold patZ
                  rw [Bool.eq_iff_iff]
                  simp
                  constructor
                  · rintro ⟨⟨⟨⟨a1,a2⟩,⟨a3,a4⟩,a5⟩,a6⟩,a7⟩
                    exact ⟨a1,a2,a3,a4,a5,a6,a7⟩
                  · rintro ⟨a1,a2,a3,a4,a5,a6,a7⟩
                    exact ⟨⟨⟨⟨a1,a2⟩,⟨a3,a4⟩,a5⟩,a6⟩,a7⟩
                rw [hb true]
                cases s0 : (shift == 0)
                · cases s1 : (shift == 1)
                  · exact r11_Check_6n nm day month shift shape p0 p1 p2 cycle extra first last policy hl hH hP ⟨.inr (.inr ⟨d3,d4,s0,s1⟩)⟩ w
                  · have := r11_Check_6 nm day month shift shape p0 p1 p2 cycle extra first last policy hl hH hP ⟨d3,d4, .inr ⟨s0,s1⟩⟩ w
                    simp only [Bool.true_and,Bool.false_or,Bool.true_or,Bool.or_true]
                    exact this
                · have := r11_Check_6 nm day month shift shape p0 p1 p2 cycle extra first last policy hl hH hP ⟨d3,d4, .inl s0⟩ w
                  simp only [Bool.true_and,Bool.false_or,Bool.true_or,Bool.or_true]
                  exact this
              · have k6b : (c.kind == 6) = false := beq_false_of_ne k6
                rw [k6b] at hP
                have hr : ruledC c = false := by
                  unfold ruledC fixedC
                  rw [if_neg k3,if_neg k4]
                  dsimp only
                  rw [if_neg k1,if_neg k5,if_neg k6]
                  split <;> rfl
                rw [hr]
                exact r11_Check_x c.name c.kind c.day c.month c.shift c.shape c.p0 c.p1 c.p2 c.cycle c.extra c.first c.last c.policy hl hH hP (beq_false_of_ne (fun e => k1 (.inl e))) (beq_false_of_ne (fun e => k1 (.inr e))) (beq_false_of_ne k3) (beq_false_of_ne k4) (beq_false_of_ne k5) k6b w
  · have he : errC c = 1 := by
      unfold errC okC servedC
      rw [if_neg]
      simp only [Bool.and_eq_true,decide_eq_true_eq]
      rintro ⟨⟨⟨⟨⟨⟨a1,a2⟩,a3⟩,a4⟩,_⟩,a5⟩,_⟩
      exact hh ⟨a5,a1,a2,a3,a4⟩
    rw [he]
    exact r11_Check_head c.name c.kind c.day c.month c.shift c.shape c.p0 c.p1 c.p2 c.cycle c.extra c.first c.last c.policy hl (head_no hh) w
end
section

end
section
set_option linter.unusedVariables false
open Go.RowKit
theorem add_blk0 (g j : Nat) : (⟨g,0,none⟩ : Addr).add j = ⟨g,j,none⟩ := by
  unfold Addr.add
  split
  · next h => subst h;rfl
  · simp
theorem NodeOk.below {w w' : World} {B : Nat} {n : NodeL} {cs : List Value} (h : NodeOk w (· < B) n cs) (hb : Below B w w') : NodeOk w' (· < B) n cs:=NodeOk.keep (fun _ h => h) (fun q hq => hb.cell hq) _ _ h
theorem NodeOk.up {w : World} {B B' : Nat} {n : NodeL} {cs : List Value} (h : NodeOk w (· < B) n cs) (hb : B ≤ B') : NodeOk w (· < B') n cs:=NodeOk.keep (fun _ h => Nat.lt_of_lt_of_le h hb) (fun _ _ => rfl) _ _ h
end
end Go.Proofs.YtjbniichcopnlaaGreatDoor
