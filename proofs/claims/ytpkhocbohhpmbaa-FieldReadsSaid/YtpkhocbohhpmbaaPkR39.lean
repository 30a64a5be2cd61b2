/- Layer 11 (field), the reference: Check, of any calendar. Then: Layer 11 (field), the reference: the walks of Periods, days, months. Then: Layer 11 (field), the reference: the walk of end. Then: Layer 11 (field), the reference: the walk of end: the end iso. -/
import Derived.Test.YtpkhocbohhpmbaaPkR37
import Derived.Test.YtpkhocbohhpmbaaPkR38
import Derived.Test.YtpkhocbohhpmbaaPkR28
set_option linter.unusedVariables false
set_option linter.unusedSimpArgs false
set_option maxRecDepth 100000
namespace Go.Proofs.Ytpkhocbohhpmbaa
section
open Go.RowKit
theorem tween01 (x : Int) : tween x 0 1 = (x == 0 || x == 1) := by
  unfold tween
  by_cases h0 : x = 0
  · subst h0;rfl
  · by_cases h1 : x = 1
    · subst h1;rfl
    · rw [beq_false_of_ne h0,beq_false_of_ne h1]
      by_cases h2 : 0 ≤ x
      · rw [decide_eq_false (show ¬ x ≤ 1 by omega)];simp
      · rw [decide_eq_false h2];simp
theorem wk_ruled (c : CalL) (hk : c.kind = 1 ∨ c.kind = 2) : ruledC c = wkR c.day c.month c.shift (shapedR c) c.extra (manyR c.shape c.cycle) := by
  unfold ruledC fixedC
  rw [if_neg (by omega),if_neg (by omega)]
  dsimp only
  rw [tween01,weeksR]
  unfold wkR tween
  rw [if_pos hk]
  cases decide (1 ≤ c.month) <;> cases decide (c.month ≤ 12) <;> cases (c.shift == 0 || c.shift == 1) <;> cases decide (1 ≤ c.day) <;> cases decide (c.day ≤ 7) <;> cases shapedR c <;> cases decide (1 ≤ c.extra) <;> cases decide (c.extra ≤ manyR c.shape c.cycle) <;> rfl
theorem iso_ruled (c : CalL) (hk : c.kind = 5) : ruledC c = isoR c.day c.month c.shift (shapedR c) c.extra (manyR c.shape c.cycle) := by
  unfold ruledC fixedC
  rw [if_neg (by omega),if_neg (by omega)]
  dsimp only
  rw [tween01,weeksR,if_neg (show ¬ (c.kind = 1 ∨ c.kind = 2) by omega),if_pos hk]
  unfold isoR tween
  by_cases h1 : c.month = 12
  · by_cases h2 : c.shift = 0
    · rw [h1,h2]
      by_cases h3 : c.day = 7
      · rw [h3]
        cases shapedR c <;> cases decide (1 ≤ c.extra) <;> cases decide (c.extra ≤ manyR c.shape c.cycle) <;> rfl
      · simp [h3]
    · rw [beq_false_of_ne h2]
      simp [h2]
  · rw [beq_false_of_ne h1]
    simp [h1]
theorem mon_ruled (c : CalL) (hk : c.kind = 6) : ruledC c = (decide (1 ≤ c.month) && decide (c.month ≤ 12) && (c.shift == 0 || c.shift == 1) && (decide (c.day = 0) && decide (c.shape = 5) && patZ c && decide (c.cycle = 0) && decide (c.extra = 0))) := by
  unfold ruledC fixedC
  rw [if_neg (by omega),if_neg (by omega)]
  dsimp only
  rw [tween01,if_neg (show ¬ (c.kind = 1 ∨ c.kind = 2) by omega),if_neg (show ¬ c.kind = 5 by omega),if_pos hk]
  unfold tween
  cases decide (1 ≤ c.month) <;> cases decide (c.month ≤ 12) <;> cases (c.shift == 0 || c.shift == 1) <;> simp
theorem errC_ok {c : CalL} (h1 : nameL c.name = true ∧ 1602 ≤ c.first ∧ c.last ≤ 9996 ∧ c.first ≤ c.last ∧ c.last - c.first < 400) (h2 : policyC c = true) : errC c = e01 (ruledC c) := by
  unfold errC e01 okC servedC
  rw [h1.1,h2,decide_eq_true h1.2.1,decide_eq_true h1.2.2.1,decide_eq_true h1.2.2.2.1,decide_eq_true h1.2.2.2.2]
  simp
theorem r11_Check (c : CalL) (hl : c.name.length ≤ maxLen) (w : World) : Calls Try.prog 15 #[calV c] w fun e w' => e = .returned (.int .i64 (errC c)) ∧ Below w.heap.size w w' := by
  by_cases hh : nameL c.name = true ∧ 1602 ≤ c.first ∧ c.last ≤ 9996 ∧ c.first ≤ c.last ∧ c.last - c.first < 400
  · have hH := head_ok hh
    cases hp : policyC c
    · have he : errC c = 1 := by unfold errC okC; rw [hp]; simp
      rw [he]
      exact r11_Check_pol c.name c.kind c.day c.month c.shift c.shape c.p0 c.p1 c.p2 c.cycle c.extra c.first c.last c.policy hl hH (pol_no hp) w
    · have hP := pol_ok hp
      rw [errC_ok hh hp]
      by_cases k1 : c.kind = 1 ∨ c.kind = 2
      · rw [wk_ruled c k1]
        have k6 : (c.kind == 6) = false:=beq_false_of_ne (by omega)
        rw [k6] at hP
        have hk : (c.kind == 1) = true ∨ ((c.kind == 1) = false ∧ (c.kind == 2) = true) := by
          rcases k1 with h | h
          · exact .inl (by rw [h];rfl)
          · exact .inr (by rw [h];exact ⟨rfl,rfl⟩)
        cases d1 : decide (1 ≤ c.day)
        · exact r11_Check_12n c.name c.kind c.day c.month c.shift c.shape c.p0 c.p1 c.p2 c.cycle c.extra c.first c.last c.policy hl hH hP hk k6 (.inl d1) w
        cases d2 : decide (c.day ≤ 7)
        · exact r11_Check_12n c.name c.kind c.day c.month c.shift c.shape c.p0 c.p1 c.p2 c.cycle c.extra c.first c.last c.policy hl hH hP hk k6 (.inr (.inl ⟨d1,d2⟩)) w
        cases d3 : decide (1 ≤ c.month)
        · exact r11_Check_12n c.name c.kind c.day c.month c.shift c.shape c.p0 c.p1 c.p2 c.cycle c.extra c.first c.last c.policy hl hH hP hk k6 (.inr (.inr (.inl ⟨d1,d2,d3⟩))) w
        cases d4 : decide (c.month ≤ 12)
        · exact r11_Check_12n c.name c.kind c.day c.month c.shift c.shape c.p0 c.p1 c.p2 c.cycle c.extra c.first c.last c.policy hl hH hP hk k6 (.inr (.inr (.inr (.inl ⟨d1,d2,d3,d4⟩)))) w
        cases s0 : (c.shift == 0)
        · cases s1 : (c.shift == 1)
          · exact r11_Check_12n c.name c.kind c.day c.month c.shift c.shape c.p0 c.p1 c.p2 c.cycle c.extra c.first c.last c.policy hl hH hP hk k6 (.inr (.inr (.inr (.inr ⟨d1,d2,d3,d4,s0,s1⟩)))) w
          · exact r11_Check_12b c.name c.kind c.day c.month c.shift c.shape c.p0 c.p1 c.p2 c.cycle c.extra c.first c.last c.policy hl hH hP hk k6 d1 d2 d3 d4 s0 s1 w
        · exact r11_Check_12a c.name c.kind c.day c.month c.shift c.shape c.p0 c.p1 c.p2 c.cycle c.extra c.first c.last c.policy hl hH hP hk k6 d1 d2 d3 d4 s0 w
      · by_cases k5 : c.kind = 5
        · rw [iso_ruled c k5]
          have k6 : (c.kind == 6) = false:=beq_false_of_ne (by omega)
          rw [k6] at hP
          obtain ⟨nm,kind,day,month,shift,shape,p0,p1,p2,cycle,extra,first,last,policy⟩:=c
          dsimp only at k5 hH hP hl ⊢
          subst k5
          exact r11_Check_5 nm day month shift shape p0 p1 p2 cycle extra first last policy hl hH hP w
        · by_cases k3 : c.kind = 3
          · have k6 : (c.kind == 6) = false := beq_false_of_ne (by omega)
            rw [k6] at hP
            obtain ⟨nm,kind,day,month,shift,shape,p0,p1,p2,cycle,extra,first,last,policy⟩:=c
            dsimp only at k3 hH hP hl
            subst k3
            have hr : ruledC ⟨nm,3,day,month,shift,shape,p0,p1,p2,cycle,extra,first,last,policy⟩ = decide ((⟨[],3,day,month,shift,shape,p0,p1,p2,cycle,extra,0,0,0⟩ : CalL) = ⟨[],3,6,1,1,1,4,5,4,0,12,0,0,0⟩) := by
              unfold ruledC fixedC nrfC
              simp
            rw [hr]
            exact r11_Check_3 nm day month shift shape p0 p1 p2 cycle extra first last policy hl hH hP w
          · by_cases k4 : c.kind = 4
            · have k6 : (c.kind == 6) = false := beq_false_of_ne (by omega)
              rw [k6] at hP
              obtain ⟨nm,kind,day,month,shift,shape,p0,p1,p2,cycle,extra,first,last,policy⟩:=c
              dsimp only at k4 hH hP hl
              subst k4
              have hr : ruledC ⟨nm,4,day,month,shift,shape,p0,p1,p2,cycle,extra,first,last,policy⟩ = decide ((⟨[],4,day,month,shift,shape,p0,p1,p2,cycle,extra,0,0,0⟩ : CalL) = ⟨[],4,7,12,0,4,0,0,0,0,12,0,0,0⟩) := by
                unfold ruledC fixedC broadC
                simp
              rw [hr]
              exact r11_Check_4 nm day month shift shape p0 p1 p2 cycle extra first last policy hl hH hP w
            · by_cases k6 : c.kind = 6
              · have hm := mon_ruled c k6
                have k6b : (c.kind == 6) = true:=by rw [k6];rfl
                rw [k6b] at hP
                obtain ⟨nm,kind,day,month,shift,shape,p0,p1,p2,cycle,extra,first,last,policy⟩:=c
                dsimp only at k6 hH hP hl hm
                subst k6
                rw [hm]
                cases d3 : decide (1 ≤ month)
                · exact r11_Check_6n nm day month shift shape p0 p1 p2 cycle extra first last policy hl hH hP ⟨.inl d3⟩ w
                cases d4 : decide (month ≤ 12)
                · exact r11_Check_6n nm day month shift shape p0 p1 p2 cycle extra first last policy hl hH hP ⟨.inr (.inl ⟨d3,d4⟩)⟩ w
                have hb : ∀ b : Bool,(decide (day = 0) && decide (shape = 5) && patZ ⟨nm,6,day,month,shift,shape,p0,p1,p2,cycle,extra,first,last,policy⟩ && decide (cycle = 0) && decide (extra = 0)) = decide ((⟨[],6,day,month,shift,shape,p0,p1,p2,cycle,extra,0,0,0⟩ : CalL) = ⟨[],6,0,month,shift,5,0,0,0,0,0,0,0,0⟩) := fun _ => by
                  unfold patZ
                  rw [Bool.eq_iff_iff]
                  simp
                  constructor
                  · rintro ⟨⟨⟨⟨a1,a2⟩,⟨a3,a4⟩,a5⟩,a6⟩,a7⟩
                    exact ⟨a1,a2,a3,a4,a5,a6,a7⟩
                  · rintro ⟨a1,a2,a3,a4,a5,a6,a7⟩
                    exact ⟨⟨⟨⟨a1,a2⟩,⟨a3,a4⟩,a5⟩,a6⟩,a7⟩
                rw [hb true]
                cases s0 : (shift == 0)
                · cases s1 : (shift == 1)
                  · exact r11_Check_6n nm day month shift shape p0 p1 p2 cycle extra first last policy hl hH hP ⟨.inr (.inr ⟨d3,d4,s0,s1⟩)⟩ w
                  · have := r11_Check_6 nm day month shift shape p0 p1 p2 cycle extra first last policy hl hH hP ⟨d3,d4, .inr ⟨s0,s1⟩⟩ w
                    simp only [Bool.true_and,Bool.false_or,Bool.true_or,Bool.or_true]
                    exact this
                · have := r11_Check_6 nm day month shift shape p0 p1 p2 cycle extra first last policy hl hH hP ⟨d3,d4, .inl s0⟩ w
                  simp only [Bool.true_and,Bool.false_or,Bool.true_or,Bool.or_true]
                  exact this
              · have k6b : (c.kind == 6) = false := beq_false_of_ne k6
                rw [k6b] at hP
                have hr : ruledC c = false := by
                  unfold ruledC fixedC
                  rw [if_neg k3,if_neg k4]
                  dsimp only
                  rw [if_neg k1,if_neg k5,if_neg k6]
                  split <;> rfl
                rw [hr]
                exact r11_Check_x c.name c.kind c.day c.month c.shift c.shape c.p0 c.p1 c.p2 c.cycle c.extra c.first c.last c.policy hl hH hP (beq_false_of_ne (fun e => k1 (.inl e))) (beq_false_of_ne (fun e => k1 (.inr e))) (beq_false_of_ne k3) (beq_false_of_ne k4) (beq_false_of_ne k5) k6b w
  · have he : errC c = 1 := by
      unfold errC okC servedC
      rw [if_neg]
      simp only [Bool.and_eq_true,decide_eq_true_eq]
      rintro ⟨⟨⟨⟨⟨⟨a1,a2⟩,a3⟩,a4⟩,_⟩,a5⟩,_⟩
      exact hh ⟨a5,a1,a2,a3,a4⟩
    rw [he]
    exact r11_Check_head c.name c.kind c.day c.month c.shift c.shape c.p0 c.p1 c.p2 c.cycle c.extra c.first c.last c.policy hl (head_no hh) w
end
section
open Go.RowKit
open Go.Lib renaming hid → zh
def calOf (c : CalL) : Obj:=.cells #[.string ⟨c.name.toArray⟩, .int .i64 c.kind, .int .i64 c.day, .int .i64 c.month, .int .i64 c.shift, .int .i64 c.shape, .int .i64 c.p0, .int .i64 c.p1, .int .i64 c.p2, .int .i64 c.cycle, .int .i64 c.extra, .int .i64 c.first, .int .i64 c.last, .int .i64 c.policy] 30
theorem r11_days (w : World) : Calls Try.prog 34 #[] w (StrsPost days w) := by
  go_enter Try.func34,Try.ntmps34
  go_wp2_with fail
  go_ret
  exact ⟨rfl,⟨9,heap_alloc_new w _⟩,below_cal w _⟩
theorem r11_months (w : World) : Calls Try.prog 35 #[] w (StrsPost mons w) := by
  go_enter Try.func35,Try.ntmps35
  go_wp2_with fail
  go_ret
  exact ⟨rfl,⟨9,heap_alloc_new w _⟩,below_cal w _⟩
set_option maxHeartbeats 4000000 in
theorem r11_Periods (c : CalL) (hl : c.name.length ≤ maxLen) (w : World) : Calls Try.prog 12 #[calV c] w fun e w' =>
    e = .returned (.tuple #[.int .i64 (if okC c then manyR c.shape c.cycle else 0), .int .i64 (errC c)]) ∧ Below w.heap.size w w':=by
  have HB:=zh (below_cal w (calOf c))
  have HX:=zh (heap_alloc_new w (calOf c))
  have HCH:=zh (fun W => r11_Check c hl W)
  have HMA:=zh (fun W => r11_many c W)
  unfold calOf at HB HX
  unfold errC
  unfold errC at HCH
  generalize okC c = ok at *
  clear hl
  obtain ⟨nm,kind,day,month,shift,shape,p0,p1,p2,cycle,extra,first,last,policy⟩:=c
  dsimp only at HB HX HMA
  dsimp only [calV] at HCH HMA
  dsimp only [calV]
  generalize manyR shape cycle = mn at *
  cases ok
  · go_enter Try.func12,Try.ntmps12
    go_wp2_with fail
    refine (HCH.out _).mono ?_
    rintro e w1 ⟨rfl,hb1⟩
    have HB1:=zh (HB.out.trans (hb1.mono HB.out.size))
    clear hb1
    go_wp2_with fail
    refine bodyPost_ret (v:=.tuple #[.int .i64 0, .int .i64 1]) (by simp [results,Try.results12,go_sem, *]) rfl ?_
    exact ⟨rfl,HB1.out⟩
  · go_enter Try.func12,Try.ntmps12
    go_wp2_with fail
    refine (HCH.out _).mono ?_
    rintro e w1 ⟨rfl,hb1⟩
    have HB1:=zh (HB.out.trans (hb1.mono HB.out.size))
    have y1:=(hb1.block w.heap.size (by simp)).trans HX.out
    obtain ⟨g0,g1,g2,g3,g4,g5,g6,g7,g8,g9,g10,g11,g12,g13⟩:=cells14 y1
    clear hb1 y1
    go_wp2_with fail
    refine (HMA.out _).mono ?_
    rintro e w2 ⟨rfl,hb2⟩
    have HB2:=zh (HB1.out.trans (hb2.mono HB1.out.size))
    clear hb2
    go_wp2_with fail
    refine bodyPost_ret (v:=.tuple #[.int .i64 mn, .int .i64 0]) (by simp [results,Try.results12,go_sem, *]) rfl ?_
    exact ⟨rfl,HB2.out⟩
end
section
open Go.RowKit
open Go.Lib renaming hid → zh
/-- What end tells: what it puts in counts where its words may be. -/
def EndPost (nm : Bytes) (ws : List WordL) (w : World) (e : Ending) (w' : World) : Prop :=
  ∃ d,e = .returned (.tuple #[calV d, .bool (endK nm ws).2]) ∧ ((endK nm ws).2 = true → d = (endK nm ws).1) ∧ Below w.heap.size w w'
def calZn (nm : Bytes) : Obj:=.cells #[.string ⟨nm.toArray⟩, .int .i64 0, .int .i64 0, .int .i64 0, .int .i64 0, .int .i64 0, .int .i64 0, .int .i64 0, .int .i64 0, .int .i64 0, .int .i64 0, .int .i64 0, .int .i64 0, .int .i64 0] 30
theorem belowS {B : Nat} {w : World} (g : Nat) (hg : B ≤ g) : ∀ (l : List (Nat × Value)) (W : World),Below B w W → Below B w (l.foldl (fun W p => W.setCell ⟨g,p.1,none⟩ p.2) W)
  | [],W,h => h
  | p :: r,W,h => belowS g hg r _ (Below.setCell h hg _)
theorem len_one (l : List WordL) : decide (l.length + 1 = 1) = ((l.length : Int) + 1 == 1) := by
  cases l with
  | nil => rfl
  | cons a r =>
    rw [decide_eq_false (by simp),beq_false_of_ne (by simp only [List.length_cons];omega)]
def endsO : Obj:=.cells #[.string ⟨#[108,97,115,116]⟩, .string ⟨#[110,101,97,114]⟩, .string ⟨#[110,114,102]⟩, .string ⟨#[98,114,111,97,100,99,97,115,116]⟩, .string ⟨#[105,115,111]⟩, .string ⟨#[109,111,110,116,104]⟩] 9
theorem endsO_blk {w : World} {g : Nat} (h : w.heap[g]? = some endsO) : StrBlk w g endsL:=⟨9,h⟩
set_option maxHeartbeats 8000000 in
theorem r11_end_0 (nm : Bytes) (num : Bool) (n : Int) (s : Bytes) (pos : Int) (rest : List WordL) (ad : Addr) (cp : Nat) (w : World) (hk : placeW endsL ⟨num,n,s,pos⟩ = 0) (hlt : ad.block < w.heap.size)
    (c0 : w.cell? ad = some (.bool num)) (c1 : w.cell? ⟨ad.block,ad.off + 1,none⟩ = some (.int .i64 n)) (c2 : w.cell? ⟨ad.block,ad.off + 2,none⟩ = some (.string ⟨s.toArray⟩)) (c3 : w.cell? ⟨ad.block,ad.off + 3,none⟩ = some (.int .i64 pos)) :
    Calls Try.prog 59 #[calV { calZ with name:=nm }, .slice (some ad) (rest.length + 1) cp] w (EndPost nm (⟨num,n,s,pos⟩ :: rest) w):=by
  have HT:=zh (three w (calZn nm) (calZn []) endsO)
  have HPL:=zh (fun W g c h => r11_place endsL ⟨num,n,s,pos⟩ g c W (by decide) h)
  rw [hk] at HPL
  have hen : endK nm (⟨num,n,s,pos⟩ :: rest) = ({ calZ with name := nm,kind := 0 },false) := by
    rw [endK_eq nm (⟨num,n,s,pos⟩ :: rest) 0 hk]
    rfl
  have HEN:=zh hen
  generalize hQ : EndPost nm (⟨num,n,s,pos⟩ :: rest) w = Q
  have HQ:=zh hQ
  have a0:=(HT.out.1.cell hlt).trans c0
  have a1:=(HT.out.1.cell (p:=⟨ad.block,ad.off + 1,none⟩) hlt).trans c1
  have a2:=(HT.out.1.cell (p:=⟨ad.block,ad.off + 2,none⟩) hlt).trans c2
  have a3:=(HT.out.1.cell (p:=⟨ad.block,ad.off + 3,none⟩) hlt).trans c3
  have HSB:=zh (endsO_blk HT.out.2.2.2.1)
  unfold calZn endsO at HT a0 a1 a2 a3 HSB
  clear hk hen hQ c0 c1 c2 c3
  dsimp only [calV,calZ]
  go_enter Try.func59,Try.ntmps59
  go_wp2_with fail
  refine (HPL.out _ _ _ HSB.out).mono ?_
  rintro e w1 ⟨rfl,hb1⟩
  have y1:=(hb1.block w.heap.size (by simp;omega)).trans HT.out.2.1
  have z1:=(hb1.block (w.heap.size + 1) (by simp)).trans HT.out.2.2.1
  have HB1:=zh (HT.out.1.trans (hb1.mono HT.out.1.size))
  have HYZ:=zh (And.intro y1 z1)
  obtain ⟨g0,g1,g2,g3,g4,g5,g6,g7,g8,g9,g10,g11,g12,g13⟩:=cells14 y1
  obtain ⟨n0,n1,n2,n3,n4,n5,n6,n7,n8,n9,n10,n11,n12,n13⟩:=cells14 z1
  have ly:=(Array.getElem?_eq_some_iff.1 y1).1
  have lz:=(Array.getElem?_eq_some_iff.1 z1).1
  obtain ⟨fu0,fu1,fu2,fu3,fu4,fu5,fu6,fu7,fu8,fu9,fu10,fu11,fu12,fu13⟩:=unf14 y1
  obtain ⟨fz0,fz1,fz2,fz3,fz4,fz5,fz6,fz7,fz8,fz9,fz10,fz11,fz12,fz13⟩:=unf14 z1
  clear hb1 y1 z1 a0 a1 a2 a3
  go_wp2_with fail
  refine bodyPost_ret (v:=.tuple #[.agg #[.string ⟨nm.toArray⟩, .int .i64 0, .int .i64 0, .int .i64 0, .int .i64 0, .int .i64 0, .int .i64 0, .int .i64 0, .int .i64 0, .int .i64 0, .int .i64 0, .int .i64 0, .int .i64 0, .int .i64 0], .bool false]) (by simp [results,Try.results59,go_sem, *]) rfl ?_
  rw [← HQ.out]
  unfold EndPost
  rw [HEN.out]
  refine ⟨{ calZ with name:=nm,kind:=0 },rfl,fun _ => rfl,?_⟩
  exact belowS (w.heap.size + 1) (Nat.le_succ _) [(0, .string ⟨nm.toArray⟩),(1, .int .i64 0),(2, .int .i64 0),(3, .int .i64 0),(4, .int .i64 0),(5, .int .i64 0),(6, .int .i64 0),(7, .int .i64 0),(8, .int .i64 0),(9, .int .i64 0),(10, .int .i64 0),(11, .int .i64 0),(12, .int .i64 0),(13, .int .i64 0)] _ (belowS w.heap.size (Nat.le_refl _) [(1, .int .i64 0)] _ HB1.out)
set_option maxHeartbeats 8000000 in
theorem r11_end_3 (nm : Bytes) (num : Bool) (n : Int) (s : Bytes) (pos : Int) (rest : List WordL) (ad : Addr) (cp : Nat) (w : World) (hk : placeW endsL ⟨num,n,s,pos⟩ = 3) (hlt : ad.block < w.heap.size)
    (c0 : w.cell? ad = some (.bool num)) (c1 : w.cell? ⟨ad.block,ad.off + 1,none⟩ = some (.int .i64 n)) (c2 : w.cell? ⟨ad.block,ad.off + 2,none⟩ = some (.string ⟨s.toArray⟩)) (c3 : w.cell? ⟨ad.block,ad.off + 3,none⟩ = some (.int .i64 pos)) :
    Calls Try.prog 59 #[calV { calZ with name:=nm }, .slice (some ad) (rest.length + 1) cp] w (EndPost nm (⟨num,n,s,pos⟩ :: rest) w):=by
  have HT:=zh (three w (calZn nm) (calZn []) endsO)
  have HPL:=zh (fun W g c h => r11_place endsL ⟨num,n,s,pos⟩ g c W (by decide) h)
  rw [hk] at HPL
  have hen : endK nm (⟨num,n,s,pos⟩ :: rest) = ({ nrfC with name := nm },decide (rest.length + 1 = 1)) := by
    unfold endK
    show (match fixedC (placeW endsL ⟨num,n,s,pos⟩) with | some f => _ | none => _) = _
    rw [hk]
    rfl
  have HEN:=zh hen
  generalize hQ : EndPost nm (⟨num,n,s,pos⟩ :: rest) w = Q
  have HQ:=zh hQ
  have a0:=(HT.out.1.cell hlt).trans c0
  have a1:=(HT.out.1.cell (p:=⟨ad.block,ad.off + 1,none⟩) hlt).trans c1
  have a2:=(HT.out.1.cell (p:=⟨ad.block,ad.off + 2,none⟩) hlt).trans c2
  have a3:=(HT.out.1.cell (p:=⟨ad.block,ad.off + 3,none⟩) hlt).trans c3
  have HSB:=zh (endsO_blk HT.out.2.2.2.1)
  unfold calZn endsO at HT a0 a1 a2 a3 HSB
  clear hk hen hQ c0 c1 c2 c3
  dsimp only [calV,calZ]
  go_enter Try.func59,Try.ntmps59
  go_wp2_with fail
  refine (HPL.out _ _ _ HSB.out).mono ?_
  rintro e w1 ⟨rfl,hb1⟩
  have y1:=(hb1.block w.heap.size (by simp;omega)).trans HT.out.2.1
  have z1:=(hb1.block (w.heap.size + 1) (by simp)).trans HT.out.2.2.1
  have HB1:=zh (HT.out.1.trans (hb1.mono HT.out.1.size))
  have HYZ:=zh (And.intro y1 z1)
  obtain ⟨g0,g1,g2,g3,g4,g5,g6,g7,g8,g9,g10,g11,g12,g13⟩:=cells14 y1
  obtain ⟨n0,n1,n2,n3,n4,n5,n6,n7,n8,n9,n10,n11,n12,n13⟩:=cells14 z1
  have ly:=(Array.getElem?_eq_some_iff.1 y1).1
  have lz:=(Array.getElem?_eq_some_iff.1 z1).1
  obtain ⟨fu0,fu1,fu2,fu3,fu4,fu5,fu6,fu7,fu8,fu9,fu10,fu11,fu12,fu13⟩:=unf14 y1
  obtain ⟨fz0,fz1,fz2,fz3,fz4,fz5,fz6,fz7,fz8,fz9,fz10,fz11,fz12,fz13⟩:=unf14 z1
  clear hb1 y1 z1 a0 a1 a2 a3
  go_wp2_with fail
  refine bodyPost_ret (v:=.tuple #[.agg #[.string ⟨nm.toArray⟩, .int .i64 3, .int .i64 6, .int .i64 1, .int .i64 1, .int .i64 1, .int .i64 4, .int .i64 5, .int .i64 4, .int .i64 0, .int .i64 12, .int .i64 0, .int .i64 0, .int .i64 0], .bool ((rest.length : Int) + 1 == 1)]) (by simp [results,Try.results59,go_sem, *]) rfl ?_
  rw [← HQ.out]
  unfold EndPost
  rw [HEN.out]
  refine ⟨{ nrfC with name:=nm },by rw [len_one];rfl,fun _ => rfl,?_⟩
  exact belowS (w.heap.size + 1) (Nat.le_succ _) [(0, .string ⟨nm.toArray⟩),(1, .int .i64 3),(2, .int .i64 6),(3, .int .i64 1),(4, .int .i64 1),(5, .int .i64 1),(6, .int .i64 4),(7, .int .i64 5),(8, .int .i64 4),(9, .int .i64 0),(10, .int .i64 12),(11, .int .i64 0),(12, .int .i64 0),(13, .int .i64 0)] _ (belowS w.heap.size (Nat.le_refl _) [(1, .int .i64 3),(2, .int .i64 6),(3, .int .i64 1),(4, .int .i64 1),(5, .int .i64 1),(6, .int .i64 4),(7, .int .i64 5),(8, .int .i64 4),(10, .int .i64 12)] _ HB1.out)
set_option maxHeartbeats 8000000 in
theorem r11_end_4 (nm : Bytes) (num : Bool) (n : Int) (s : Bytes) (pos : Int) (rest : List WordL) (ad : Addr) (cp : Nat) (w : World) (hk : placeW endsL ⟨num,n,s,pos⟩ = 4) (hlt : ad.block < w.heap.size)
    (c0 : w.cell? ad = some (.bool num)) (c1 : w.cell? ⟨ad.block,ad.off + 1,none⟩ = some (.int .i64 n)) (c2 : w.cell? ⟨ad.block,ad.off + 2,none⟩ = some (.string ⟨s.toArray⟩)) (c3 : w.cell? ⟨ad.block,ad.off + 3,none⟩ = some (.int .i64 pos)) :
    Calls Try.prog 59 #[calV { calZ with name:=nm }, .slice (some ad) (rest.length + 1) cp] w (EndPost nm (⟨num,n,s,pos⟩ :: rest) w):=by
  have HT:=zh (three w (calZn nm) (calZn []) endsO)
  have HPL:=zh (fun W g c h => r11_place endsL ⟨num,n,s,pos⟩ g c W (by decide) h)
  rw [hk] at HPL
  have hen : endK nm (⟨num,n,s,pos⟩ :: rest) = ({ broadC with name := nm },decide (rest.length + 1 = 1)) := by
    unfold endK
    show (match fixedC (placeW endsL ⟨num,n,s,pos⟩) with | some f => _ | none => _) = _
    rw [hk]
    rfl
  have HEN:=zh hen
  generalize hQ : EndPost nm (⟨num,n,s,pos⟩ :: rest) w = Q
  have HQ:=zh hQ
  have a0:=(HT.out.1.cell hlt).trans c0
  have a1:=(HT.out.1.cell (p:=⟨ad.block,ad.off + 1,none⟩) hlt).trans c1
  have a2:=(HT.out.1.cell (p:=⟨ad.block,ad.off + 2,none⟩) hlt).trans c2
  have a3:=(HT.out.1.cell (p:=⟨ad.block,ad.off + 3,none⟩) hlt).trans c3
  have HSB:=zh (endsO_blk HT.out.2.2.2.1)
  unfold calZn endsO at HT a0 a1 a2 a3 HSB
  clear hk hen hQ c0 c1 c2 c3
  dsimp only [calV,calZ]
  go_enter Try.func59,Try.ntmps59
  go_wp2_with fail
  refine (HPL.out _ _ _ HSB.out).mono ?_
  rintro e w1 ⟨rfl,hb1⟩
  have y1:=(hb1.block w.heap.size (by simp;omega)).trans HT.out.2.1
  have z1:=(hb1.block (w.heap.size + 1) (by simp)).trans HT.out.2.2.1
  have HB1:=zh (HT.out.1.trans (hb1.mono HT.out.1.size))
  have HYZ:=zh (And.intro y1 z1)
  obtain ⟨g0,g1,g2,g3,g4,g5,g6,g7,g8,g9,g10,g11,g12,g13⟩:=cells14 y1
  obtain ⟨n0,n1,n2,n3,n4,n5,n6,n7,n8,n9,n10,n11,n12,n13⟩:=cells14 z1
  have ly:=(Array.getElem?_eq_some_iff.1 y1).1
  have lz:=(Array.getElem?_eq_some_iff.1 z1).1
  obtain ⟨fu0,fu1,fu2,fu3,fu4,fu5,fu6,fu7,fu8,fu9,fu10,fu11,fu12,fu13⟩:=unf14 y1
  obtain ⟨fz0,fz1,fz2,fz3,fz4,fz5,fz6,fz7,fz8,fz9,fz10,fz11,fz12,fz13⟩:=unf14 z1
  clear hb1 y1 z1 a0 a1 a2 a3
  go_wp2_with fail
  refine bodyPost_ret (v:=.tuple #[.agg #[.string ⟨nm.toArray⟩, .int .i64 4, .int .i64 7, .int .i64 12, .int .i64 0, .int .i64 4, .int .i64 0, .int .i64 0, .int .i64 0, .int .i64 0, .int .i64 12, .int .i64 0, .int .i64 0, .int .i64 0], .bool ((rest.length : Int) + 1 == 1)]) (by simp [results,Try.results59,go_sem, *]) rfl ?_
  rw [← HQ.out]
  unfold EndPost
  rw [HEN.out]
  refine ⟨{ broadC with name:=nm },by rw [len_one];rfl,fun _ => rfl,?_⟩
  exact belowS (w.heap.size + 1) (Nat.le_succ _) [(0, .string ⟨nm.toArray⟩),(1, .int .i64 4),(2, .int .i64 7),(3, .int .i64 12),(4, .int .i64 0),(5, .int .i64 4),(6, .int .i64 0),(7, .int .i64 0),(8, .int .i64 0),(9, .int .i64 0),(10, .int .i64 12),(11, .int .i64 0),(12, .int .i64 0),(13, .int .i64 0)] _ (belowS w.heap.size (Nat.le_refl _) [(1, .int .i64 4),(2, .int .i64 7),(3, .int .i64 12),(5, .int .i64 4),(10, .int .i64 12)] _ HB1.out)
end
section
open Go.RowKit
open Go.Lib renaming hid → zh
set_option maxHeartbeats 8000000 in
theorem r11_end_5 (nm : Bytes) (num : Bool) (n : Int) (s : Bytes) (pos : Int) (rest : List WordL) (ad : Addr) (cp : Nat) (w : World) (hk : placeW endsL ⟨num,n,s,pos⟩ = 5) (hlt : ad.block < w.heap.size)
    (c0 : w.cell? ad = some (.bool num)) (c1 : w.cell? ⟨ad.block,ad.off + 1,none⟩ = some (.int .i64 n)) (c2 : w.cell? ⟨ad.block,ad.off + 2,none⟩ = some (.string ⟨s.toArray⟩)) (c3 : w.cell? ⟨ad.block,ad.off + 3,none⟩ = some (.int .i64 pos)) :
    Calls Try.prog 59 #[calV { calZ with name:=nm }, .slice (some ad) (rest.length + 1) cp] w (EndPost nm (⟨num,n,s,pos⟩ :: rest) w):=by
  have HT:=zh (three w (calZn nm) (calZn []) endsO)
  have HPL:=zh (fun W g c h => r11_place endsL ⟨num,n,s,pos⟩ g c W (by decide) h)
  rw [hk] at HPL
  have hen : endK nm (⟨num,n,s,pos⟩ :: rest) = ({ calZ with name := nm,kind := 5,day := 7,month := 12 },decide (rest.length + 1 = 1)) := by
    rw [endK_eq nm (⟨num,n,s,pos⟩ :: rest) 5 hk,show decide (rest.length + 1 = 1) = (((rest.length + 1 : Nat) : Int) == 1) from (natEq (rest.length + 1) 1).symm]
    rfl
  have HEN:=zh hen
  generalize hQ : EndPost nm (⟨num,n,s,pos⟩ :: rest) w = Q
  have HQ:=zh hQ
  have a0:=(HT.out.1.cell hlt).trans c0
  have a1:=(HT.out.1.cell (p:=⟨ad.block,ad.off + 1,none⟩) hlt).trans c1
  have a2:=(HT.out.1.cell (p:=⟨ad.block,ad.off + 2,none⟩) hlt).trans c2
  have a3:=(HT.out.1.cell (p:=⟨ad.block,ad.off + 3,none⟩) hlt).trans c3
  have HSB:=zh (endsO_blk HT.out.2.2.2.1)
  unfold calZn endsO at HT a0 a1 a2 a3 HSB
  clear hk hen hQ c0 c1 c2 c3
  dsimp only [calV,calZ]
  go_enter Try.func59,Try.ntmps59
  go_wp2_with fail
  refine (HPL.out _ _ _ HSB.out).mono ?_
  rintro e w1 ⟨rfl,hb1⟩
  have y1:=(hb1.block w.heap.size (by simp;omega)).trans HT.out.2.1
  have z1:=(hb1.block (w.heap.size + 1) (by simp)).trans HT.out.2.2.1
  have HB1:=zh (HT.out.1.trans (hb1.mono HT.out.1.size))
  have HYZ:=zh (And.intro y1 z1)
  obtain ⟨g0,g1,g2,g3,g4,g5,g6,g7,g8,g9,g10,g11,g12,g13⟩:=cells14 y1
  obtain ⟨n0,n1,n2,n3,n4,n5,n6,n7,n8,n9,n10,n11,n12,n13⟩:=cells14 z1
  have ly:=(Array.getElem?_eq_some_iff.1 y1).1
  have lz:=(Array.getElem?_eq_some_iff.1 z1).1
  obtain ⟨fu0,fu1,fu2,fu3,fu4,fu5,fu6,fu7,fu8,fu9,fu10,fu11,fu12,fu13⟩:=unf14 y1
  obtain ⟨fz0,fz1,fz2,fz3,fz4,fz5,fz6,fz7,fz8,fz9,fz10,fz11,fz12,fz13⟩:=unf14 z1
  clear hb1 y1 z1 a0 a1 a2 a3
  go_wp2_with fail
  refine bodyPost_ret (v:=.tuple #[.agg #[.string ⟨nm.toArray⟩, .int .i64 5, .int .i64 7, .int .i64 12, .int .i64 0, .int .i64 0, .int .i64 0, .int .i64 0, .int .i64 0, .int .i64 0, .int .i64 0, .int .i64 0, .int .i64 0, .int .i64 0], .bool ((rest.length : Int) + 1 == 1)]) (by simp [results,Try.results59,go_sem, *]) rfl ?_
  rw [← HQ.out]
  unfold EndPost
  rw [HEN.out]
  refine ⟨{ calZ with name:=nm,kind:=5,day:=7,month:=12 },by rw [len_one];rfl,fun _ => rfl,?_⟩
  exact belowS (w.heap.size + 1) (Nat.le_succ _) [(0, .string ⟨nm.toArray⟩),(1, .int .i64 5),(2, .int .i64 7),(3, .int .i64 12),(4, .int .i64 0),(5, .int .i64 0),(6, .int .i64 0),(7, .int .i64 0),(8, .int .i64 0),(9, .int .i64 0),(10, .int .i64 0),(11, .int .i64 0),(12, .int .i64 0),(13, .int .i64 0)] _ (belowS w.heap.size (Nat.le_refl _) [(1, .int .i64 5),(2, .int .i64 7),(3, .int .i64 12)] _ HB1.out)
end
end Go.Proofs.Ytpkhocbohhpmbaa
