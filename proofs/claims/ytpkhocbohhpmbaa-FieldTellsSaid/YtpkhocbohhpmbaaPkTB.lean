/- The law FieldTells walked: it answers true at any calendar. Written by wip/gen_tells.py. -/
import Derived.Test.YtpkhocbohhpmbaaPkTA
import Derived.Test.YtpkhocbohhpmbaaPkT5
import Derived.Test.YtpkhocbohhpmbaaPkR29
import Derived.Test.YtpkhocbohhpmbaaPkR13
import Derived.Test.YtpkhocbohhpmbaaPkT7
set_option linter.unusedVariables false
set_option linter.unusedSimpArgs false
set_option maxRecDepth 100000
namespace Go.Proofs.Ytpkhocbohhpmbaa
open Go.RowKit
open Go.Joins renaming cell_of_block → zb, unfrozen_of_block → zu
open Go.Lib renaming hid → zh
open List renaming setIfInBounds_toArray → zA, set_cons_succ → zB, set_cons_zero → zC, getElem_toArray → zD, getElem_cons_succ → zE, getElem_cons_zero → zF
theorem two_roks (W : World) (n : NodeL) (a b : List Value) (ha : NodeOk W (· < W.heap.size) n a) (hb : NodeOk W (· < W.heap.size) n b) :
    ROk ((W.alloc (.cells a.toArray 25)).alloc (.cells b.toArray 25)) ((W.alloc (.cells a.toArray 25)).alloc (.cells b.toArray 25)).heap.size (some ⟨W.heap.size,0,none⟩) [n] ∧
    ROk ((W.alloc (.cells a.toArray 25)).alloc (.cells b.toArray 25)) ((W.alloc (.cells a.toArray 25)).alloc (.cells b.toArray 25)).heap.size (some ⟨W.heap.size + 1,0,none⟩) [n]:=by
  have b1:=(Below.refl W.heap.size W).alloc (Nat.le_refl _) (.cells a.toArray 25)
  have b2:=(Below.refl (W.alloc (.cells a.toArray 25)).heap.size (W.alloc (.cells a.toArray 25))).alloc (Nat.le_refl _) (.cells b.toArray 25)
  have h1:=(rok_new W n a 25 ha).below b2
  have h2:=rok_new (W.alloc (.cells a.toArray 25)) n b 25 ((hb.below b1).up b1.size)
  have hs : (W.alloc (.cells a.toArray 25)).heap.size = W.heap.size + 1:=by simp
  rw [hs] at h2
  obtain ⟨cs,r,m⟩:=h1
  exact ⟨⟨cs,r.keep (fun b h => by simp at h ⊢;omega) (fun _ _ => rfl),NodesOk.keep (fun b h => by simp at h ⊢;omega) (fun _ _ => rfl) _ _ m⟩,h2⟩
set_option maxHeartbeats 16000000 in
theorem walk_FieldTells (c : CalL) (w : World) (hl : c.name.length ≤ maxLen) :
    Calls Try.prog 4 #[calV c] w fun e w' => e = .returned (.bool true) ∧ Below w.heap.size w w':=by
  have HB0:=zh (below_cal w (calOf c))
  have HX0:=zh (heap_alloc_new w (calOf c))
  unfold calOf at HB0 HX0
  have HN1:=zh (fun W => field_NodeB c hl W)
  have HN2:=zh (fun W => r11_NodeB c hl W)
  have HP1:=zh (fun W => field_Periods c hl W)
  have HP2:=zh (fun W => r11_Periods c hl W)
  have HC1:=zh (fun W => field_Check c hl W)
  have HC2:=zh (fun W => r11_Check c hl W)
  have hper : (if okC c then manyR c.shape c.cycle else 0) = periodsC c:=many_ok c
  rw [hper] at HP2
  have hfit : fitNs [nodeB c] := by
    unfold nodeB
    cases okC c
    · exact ⟨⟨by simp [maxLen],by simp [maxLen],by simp,by simp [maxLen],trivial⟩,trivial⟩
    · exact ⟨fit_node hl,trivial⟩
  have hfew : 0 ≤ leftL 60 12 [nodeB c] := by
    unfold nodeB
    cases okC c
    · show (0 : Int) ≤ leftL 60 12 [nodeZ]
      rw [leftL_go _ _ _ (by decide)]
      simp only [leftGo]
      rw [leftN_eq,if_neg (by show ¬ ((60 : Int) < 0 ∨ 20 < 0);omega)]
      show 0 ≤ leftL (60 - 1) (12 - 1) []
      simp [leftL]
    · exact few_node c
  obtain ⟨a1,a2,a3⟩:=left_geL [nodeB c] 60 12 (by omega)
  have hcn : cntL [nodeB c] ≤ 100000:=by have:=(a3 hfew).2;omega
  have HFew:=zh (fun g W (h : ROk W W.heap.size (some ⟨g,0,none⟩) [nodeB c]) => ref9_FewG [nodeB c] (some ⟨g,0,none⟩) 1 W W.heap.size 60 (by omega) (by omega) (by simp [maxLen]) hfit (Nat.le_refl _) h)
  rw [decide_eq_true hfew] at HFew
  have HEX:=zh (fun g g' W h h' => ref9_exactTo 100001 [nodeB c] (some ⟨g,0,none⟩) (some ⟨g',0,none⟩) 1 1 W W.heap.size (by omega) hcn (Nat.le_refl _) h h')
  unfold NodeBoth at HN1 HN2
  generalize nodeB c = n at *
  generalize nameB c = bn at *
  generalize okC c = ok at *
  generalize errC c = ec at *
  generalize periodsC c = pc at *
  clear a1 a2 a3 hcn hfew hfit hper hl
  obtain ⟨nm,kind,day,month,shift,shape,p0,p1,p2,cycle,extra,first,last,policy⟩:=c
  dsimp only at *
  dsimp only [calV] at HN1 HN2 HP1 HP2 HC1 HC2
  dsimp only [calV]
  by_cases hbig : (100 : Int) < nm.length
  · go_enter Try.func4,Try.ntmps4
    go_wp2_with fail
    refine (law11_live _).mono ?_
    rintro e w1 ⟨rfl,hb1⟩
    have HB1:=zh (HB0.out.trans (hb1.mono HB0.out.size))
    have e0:=zb ((hb1.block w.heap.size (by simp)).trans HX0.out) 0
    clear hb1
    go_wp2_with fail
    go_ret
    exact ⟨rfl,HB1.out⟩
  go_enter Try.func4,Try.ntmps4
  go_wp2_with fail
  refine (law11_live _).mono ?_
  rintro e w1 ⟨rfl,hb1⟩
  have HB1:=zh (HB0.out.trans (hb1.mono HB0.out.size))
  have y1:=(hb1.block w.heap.size (by simp)).trans HX0.out
  have HY1:=zh y1
  obtain ⟨g0,g1,g2,g3,g4,g5,g6,g7,g8,g9,g10,g11,g12,g13⟩:=cells14 y1
  have hl1:=(Array.getElem?_eq_some_iff.1 y1).1
  clear hb1 y1
  go_wp2_with fail
  refine (HN1.out _).mono ?_
  rintro e w2 ⟨A1,n1,c1,B1,m1,d1,rfl,hn1,hb2⟩
  have HB2:=zh (HB1.out.trans (hb2.mono HB1.out.size))
  have y2:=(hb2.block w.heap.size hl1).trans HY1.out
  have HY2:=zh y2
  have hl2:=(Array.getElem?_eq_some_iff.1 y2).1
  have HA2:=zh hn1
  clear g0 g1 g2 g3 g4 g5 g6 g7 g8 g9 g10 g11 g12 g13 hb2 hn1 HN1
  obtain ⟨g0,g1,g2,g3,g4,g5,g6,g7,g8,g9,g10,g11,g12,g13⟩:=cells14 y2
  clear y2
  go_wp2_with fail
  obtain ⟨ga,hga⟩ : ∃ g,g = w2.heap.size:=⟨_,rfl⟩
  have hba2:=HB2.out.alloc HB2.out.size (.cells #[.string ⟨bn.toArray⟩, .int .i64 0, .slice A1 n1 c1, .bool ok, .slice B1 m1 d1] 25)
  have hA2n:=heap_alloc_new w2 (.cells #[.string ⟨bn.toArray⟩, .int .i64 0, .slice A1 n1 c1, .bool ok, .slice B1 m1 d1] 25)
  refine (HN2.out _).mono ?_
  rintro e w3 ⟨A2,n2,c2,B2,m2,d2,rfl,hn2,hb3⟩
  have HB3:=zh (hba2.trans (hb3.mono hba2.size))
  have HAN3:=zh ((hb3.block w2.heap.size (by simp)).trans hA2n)
  have hb23 : Below w2.heap.size w2 w3:=(below_cal w2 _).trans (hb3.mono (below_cal w2 _).size)
  have HA3:=zh ((HA2.out.below hb23).up hb23.size)
  have HD3:=zh hn2
  have HY3:=zh ((hb23.block w.heap.size hl2).trans HY2.out)
  have y3:=HY3.out
  clear g0 g1 g2 g3 g4 g5 g6 g7 g8 g9 g10 g11 g12 g13 hb3 hn2 hba2 hA2n hb23 HN2 HY2 HA2 HY1 hl1
  obtain ⟨g0,g1,g2,g3,g4,g5,g6,g7,g8,g9,g10,g11,g12,g13⟩:=cells14 y3
  have hl3:=(Array.getElem?_eq_some_iff.1 y3).1
  clear y3
  go_wp2_with fail
  have hba3:=HB3.out.alloc HB3.out.size (.cells #[.string ⟨bn.toArray⟩, .int .i64 0, .slice A2 n2 c2, .bool ok, .slice B2 m2 d2] 25)
  refine (HP1.out _).mono ?_
  rintro e w4 ⟨rfl,hb4⟩
  have HB4:=zh (hba3.trans (hb4.mono hba3.size))
  have hb34 : Below w3.heap.size w3 w4:=(below_cal w3 _).trans (hb4.mono (below_cal w3 _).size)
  have HDN4:=zh ((hb4.block w3.heap.size (by simp)).trans (heap_alloc_new w3 (.cells #[.string ⟨bn.toArray⟩, .int .i64 0, .slice A2 n2 c2, .bool ok, .slice B2 m2 d2] 25)))
  have HAN4:=zh ((hb34.block w2.heap.size (Array.getElem?_eq_some_iff.1 HAN3.out).1).trans HAN3.out)
  have HA4:=zh ((HA3.out.below hb34).up hb34.size)
  have HD4:=zh ((HD3.out.below hb34).up hb34.size)
  have HY4:=zh ((hb34.block w.heap.size hl3).trans HY3.out)
  have y4:=HY4.out
  clear g0 g1 g2 g3 g4 g5 g6 g7 g8 g9 g10 g11 g12 g13 hb4 hba3 hb34 HAN3 HA3 HD3 HY3 hl3 hl2
  obtain ⟨g0,g1,g2,g3,g4,g5,g6,g7,g8,g9,g10,g11,g12,g13⟩:=cells14 y4
  have hl4:=(Array.getElem?_eq_some_iff.1 y4).1
  clear y4
  go_wp2_with fail
  refine (HP2.out _).mono ?_
  rintro e wx ⟨rfl,hb5⟩
  have HBX:=zh (HB4.out.trans (hb5.mono HB4.out.size))
  have HDNX:=(hb5.block w3.heap.size (Array.getElem?_eq_some_iff.1 HDN4.out).1).trans HDN4.out
  have HANX:=(hb5.block w2.heap.size (Array.getElem?_eq_some_iff.1 HAN4.out).1).trans HAN4.out
  have HAX:=zh ((HA4.out.below hb5).up hb5.size)
  have HDX:=zh ((HD4.out.below hb5).up hb5.size)
  have HYX:=(hb5.block w.heap.size hl4).trans HY4.out
  have HCA : Hid (∀ X,Below wx.heap.size wx X → X.cell? ⟨w2.heap.size,0,none⟩ = some (.string ⟨bn.toArray⟩) ∧ X.cell? ⟨w2.heap.size,1,none⟩ = some (.int .i64 0) ∧ X.cell? ⟨w2.heap.size,2,none⟩ = some (.slice A1 n1 c1) ∧ X.cell? ⟨w2.heap.size,3,none⟩ = some (.bool ok) ∧ X.cell? ⟨w2.heap.size,4,none⟩ = some (.slice B1 m1 d1)) := zh (fun X h => by
    have e:=(h.block w2.heap.size (Array.getElem?_eq_some_iff.1 HANX).1).trans HANX
    exact ⟨zb e 0,zb e 1,zb e 2,zb e 3,zb e 4⟩)
  have HCB : Hid (∀ X,Below wx.heap.size wx X → X.cell? ⟨w3.heap.size,0,none⟩ = some (.string ⟨bn.toArray⟩) ∧ X.cell? ⟨w3.heap.size,1,none⟩ = some (.int .i64 0) ∧ X.cell? ⟨w3.heap.size,2,none⟩ = some (.slice A2 n2 c2) ∧ X.cell? ⟨w3.heap.size,3,none⟩ = some (.bool ok) ∧ X.cell? ⟨w3.heap.size,4,none⟩ = some (.slice B2 m2 d2)) := zh (fun X h => by
    have e:=(h.block w3.heap.size (Array.getElem?_eq_some_iff.1 HDNX).1).trans HDNX
    exact ⟨zb e 0,zb e 1,zb e 2,zb e 3,zb e 4⟩)
  have HCC:=zh (fun X (h : Below wx.heap.size wx X) => cells14 ((h.block w.heap.size (Array.getElem?_eq_some_iff.1 HYX).1).trans HYX))
  have HFW:=zh (fun W (hW : Below wx.heap.size wx W) => HFew.out W.heap.size (W.alloc (.cells #[.string ⟨bn.toArray⟩, .int .i64 0, .slice A1 n1 c1, .bool ok, .slice B1 m1 d1] 25)) (rok_new W n [.string ⟨bn.toArray⟩, .int .i64 0, .slice A1 n1 c1, .bool ok, .slice B1 m1 d1] 25 ((HAX.out.below hW).up hW.size)))
  have HE1:=zh (fun W (hW : Below wx.heap.size wx W) => HEX.out W.heap.size (W.heap.size + 1) ((W.alloc (.cells #[.string ⟨bn.toArray⟩, .int .i64 0, .slice A1 n1 c1, .bool ok, .slice B1 m1 d1] 25)).alloc (.cells #[.string ⟨bn.toArray⟩, .int .i64 0, .slice A2 n2 c2, .bool ok, .slice B2 m2 d2] 25)) (two_roks W n [.string ⟨bn.toArray⟩, .int .i64 0, .slice A1 n1 c1, .bool ok, .slice B1 m1 d1] [.string ⟨bn.toArray⟩, .int .i64 0, .slice A2 n2 c2, .bool ok, .slice B2 m2 d2] ((HAX.out.below hW).up hW.size) ((HDX.out.below hW).up hW.size)).1 (two_roks W n [.string ⟨bn.toArray⟩, .int .i64 0, .slice A1 n1 c1, .bool ok, .slice B1 m1 d1] [.string ⟨bn.toArray⟩, .int .i64 0, .slice A2 n2 c2, .bool ok, .slice B2 m2 d2] ((HAX.out.below hW).up hW.size) ((HDX.out.below hW).up hW.size)).2)
  have HE2:=zh (fun W (hW : Below wx.heap.size wx W) => HEX.out (W.heap.size + 1) W.heap.size ((W.alloc (.cells #[.string ⟨bn.toArray⟩, .int .i64 0, .slice A2 n2 c2, .bool ok, .slice B2 m2 d2] 25)).alloc (.cells #[.string ⟨bn.toArray⟩, .int .i64 0, .slice A1 n1 c1, .bool ok, .slice B1 m1 d1] 25)) (two_roks W n [.string ⟨bn.toArray⟩, .int .i64 0, .slice A2 n2 c2, .bool ok, .slice B2 m2 d2] [.string ⟨bn.toArray⟩, .int .i64 0, .slice A1 n1 c1, .bool ok, .slice B1 m1 d1] ((HDX.out.below hW).up hW.size) ((HAX.out.below hW).up hW.size)).2 (two_roks W n [.string ⟨bn.toArray⟩, .int .i64 0, .slice A2 n2 c2, .bool ok, .slice B2 m2 d2] [.string ⟨bn.toArray⟩, .int .i64 0, .slice A1 n1 c1, .bool ok, .slice B1 m1 d1] ((HDX.out.below hW).up hW.size) ((HAX.out.below hW).up hW.size)).1)
  clear g0 g1 g2 g3 g4 g5 g6 g7 g8 g9 g10 g11 g12 g13 hb5 HDN4 HAN4 HA4 HD4 HY4 hl4 HDNX HANX HYX
  go_wp2_with fail
  refine wp_region_held_drew (S:=Below wx.heap.size wx) (by kernel_rfl) ?_ (fun hHeld => ?_)
  · exact (Below.refl wx.heap.size wx).drew
  have hS0:=hHeld
  generalize wx.drew = wd at *
  refine wpAnyH_take (i:=0) (v:=?_) rfl (by kernel_rfl) (by kernel_rfl) (by kernel_rfl) (fun _ _ _ h => h) (Or.inl ⟨by rfl,?_⟩) hHeld ?_;rotate_left;(focus (intro X hSw;obtain ⟨t0,t1,t2,t3,t4⟩:=HCA.out X hSw;go_simp;try with_reducible rfl));try simp only [Act.put,zA,zB,zC,zD,zE,zF]
  refine wpAnyH_ready (rs:=[1]) (by kernel_rfl) (by simp) ?_
  refine AllReadyH.cons rfl (fun K hK => ?_) AllReadyH.nil
  go_simp
  have hz0:=hS0.alloc hS0.size (.cells #[.string ⟨bn.toArray⟩, .int .i64 0, .slice A1 n1 c1, .bool ok, .slice B1 m1 d1] 25)
  refine hK.out _ _ hz0 (fun hHeld => ?_)
  clear hK K
  try simp only [Act.put,zA,zB,zC,zD,zE,zF]
  refine wpAnyH_ready (rs:=[2]) (by kernel_rfl) (by simp) ?_
  refine AllReadyH.cons rfl (fun K hK => ?_) AllReadyH.nil
  go_simp
  refine Calls.mono (HFW.out wd hS0) ?_
  rintro e y2 ⟨rfl,hbc⟩
  have hSy2:=hz0.trans (hbc.mono hz0.size)
  refine hK.out _ _ hSy2 (fun hHeld => ?_)
  clear hK K hbc
  try simp only [Act.put,zA,zB,zC,zD,zE,zF]
  refine wpAnyH_take (i:=3) (v:=?_) rfl (by kernel_rfl) (by kernel_rfl) (by kernel_rfl) (fun _ _ _ h => h) (Or.inl ⟨by rfl,?_⟩) hHeld ?_;rotate_left;(focus (intro X hSw;go_simp;try with_reducible rfl));try simp only [Act.put,zA,zB,zC,zD,zE,zF]
  refine wpAnyH_take (i:=4) (v:=?_) rfl (by kernel_rfl) (by kernel_rfl) (by kernel_rfl) (fun _ _ _ h => h) (Or.inl ⟨by rfl,?_⟩) hHeld ?_;rotate_left;(focus (intro X hSw;obtain ⟨t0,t1,t2,t3,t4⟩:=HCA.out X hSw;go_simp;try with_reducible rfl));try simp only [Act.put,zA,zB,zC,zD,zE,zF]
  refine wpAnyH_take (i:=6) (v:=?_) rfl (by kernel_rfl) (by kernel_rfl) (by kernel_rfl) (fun _ _ _ h => h) (Or.inl ⟨by rfl,?_⟩) hHeld ?_;rotate_left;(focus (intro X hSw;obtain ⟨t0,t1,t2,t3,t4⟩:=HCB.out X hSw;go_simp;try with_reducible rfl));try simp only [Act.put,zA,zB,zC,zD,zE,zF]
  refine wpAnyH_ready (rs:=[5,7]) (by kernel_rfl) (by simp) ?_
  refine AllReadyH.cons rfl (fun K hK => ?_) ?_
  · skip
    go_simp
    have hz1:=hSy2.alloc hSy2.size (.cells #[.string ⟨bn.toArray⟩, .int .i64 0, .slice A1 n1 c1, .bool ok, .slice B1 m1 d1] 25)
    refine hK.out _ _ hz1 (fun hHeld => ?_)
    clear hK K
    try simp only [Act.put,zA,zB,zC,zD,zE,zF]
    refine wpAnyH_ready (rs:=[7]) (by kernel_rfl) (by simp) ?_
    refine AllReadyH.cons rfl (fun K hK => ?_) AllReadyH.nil
    go_simp
    have hz2:=hz1.alloc hz1.size (.cells #[.string ⟨bn.toArray⟩, .int .i64 0, .slice A2 n2 c2, .bool ok, .slice B2 m2 d2] 25)
    refine hK.out _ _ hz2 (fun hHeld => ?_)
    clear hK K
    try simp only [Act.put,zA,zB,zC,zD,zE,zF]
    refine wpAnyH_ready (rs:=[8]) (by kernel_rfl) (by simp) ?_
    refine AllReadyH.cons rfl (fun K hK => ?_) AllReadyH.nil
    go_simp
    refine Calls.mono (HE1.out y2 hSy2) ?_
    rintro e y4 ⟨rfl,hbc⟩
    have hSy4:=hz2.trans (hbc.mono hz2.size)
    refine hK.out _ _ hSy4 (fun hHeld => ?_)
    clear hK K hbc
    try simp only [Act.put,zA,zB,zC,zD,zE,zF]
    refine wpAnyH_take (i:=9) (v:=?_) rfl (by kernel_rfl) (by kernel_rfl) (by kernel_rfl) (fun _ _ _ h => h) (Or.inl ⟨by rfl,?_⟩) hHeld ?_;rotate_left;(focus (intro X hSw;go_simp;try with_reducible rfl));try simp only [Act.put,zA,zB,zC,zD,zE,zF]
    refine wpAnyH_take (i:=10) (v:=?_) rfl (by kernel_rfl) (by kernel_rfl) (by kernel_rfl) (fun _ _ _ h => h) (Or.inl ⟨by rfl,?_⟩) hHeld ?_;rotate_left;(focus (intro X hSw;go_simp;try with_reducible rfl));try simp only [Act.put,zA,zB,zC,zD,zE,zF]
    refine wpAnyH_take (i:=11) (v:=?_) rfl (by kernel_rfl) (by kernel_rfl) (by kernel_rfl) (fun _ _ _ h => h) (Or.inl ⟨by rfl,?_⟩) hHeld ?_;rotate_left;(focus (intro X hSw;go_simp;try with_reducible rfl));try simp only [Act.put,zA,zB,zC,zD,zE,zF]
    refine wpAnyH_take (i:=12) (v:=?_) rfl (by kernel_rfl) (by kernel_rfl) (by kernel_rfl) (fun _ _ _ h => h) (Or.inl ⟨by rfl,?_⟩) hHeld ?_;rotate_left;(focus (intro X hSw;go_simp;try with_reducible rfl));try simp only [Act.put,zA,zB,zC,zD,zE,zF]
    refine wpAnyH_take (i:=13) (v:=?_) rfl (by kernel_rfl) (by kernel_rfl) (by kernel_rfl) (fun _ _ _ h => h) (Or.inl ⟨by rfl,?_⟩) hHeld ?_;rotate_left;(focus (intro X hSw;go_simp;try with_reducible rfl));try simp only [Act.put,zA,zB,zC,zD,zE,zF]
    refine wpAnyH_take (i:=14) (v:=?_) rfl (by kernel_rfl) (by kernel_rfl) (by kernel_rfl) (fun _ _ _ h => h) (Or.inl ⟨by rfl,?_⟩) hHeld ?_;rotate_left;(focus (intro X hSw;go_simp;try with_reducible rfl));try simp only [Act.put,zA,zB,zC,zD,zE,zF]
    refine wpAnyH_take (i:=15) (v:=?_) rfl (by kernel_rfl) (by kernel_rfl) (by kernel_rfl) (fun _ _ _ h => h) (Or.inl ⟨by rfl,?_⟩) hHeld ?_;rotate_left;(focus (intro X hSw;go_simp;try with_reducible rfl));try simp only [Act.put,zA,zB,zC,zD,zE,zF]
    refine wpAnyH_take (i:=16) (v:=?_) rfl (by kernel_rfl) (by kernel_rfl) (by kernel_rfl) (fun _ _ _ h => h) (Or.inl ⟨by rfl,?_⟩) hHeld ?_;rotate_left;(focus (intro X hSw;go_simp;try with_reducible rfl));try simp only [Act.put,zA,zB,zC,zD,zE,zF]
    refine wpAnyH_take (i:=17) (v:=?_) rfl (by kernel_rfl) (by kernel_rfl) (by kernel_rfl) (fun _ _ _ h => h) (Or.inl ⟨by rfl,?_⟩) hHeld ?_;rotate_left;(focus (intro X hSw;go_simp;try with_reducible rfl));try simp only [Act.put,zA,zB,zC,zD,zE,zF]
    refine wpAnyH_take (i:=18) (v:=?_) rfl (by kernel_rfl) (by kernel_rfl) (by kernel_rfl) (fun _ _ _ h => h) (Or.inl ⟨by rfl,?_⟩) hHeld ?_;rotate_left;(focus (intro X hSw;go_simp;try with_reducible rfl));try simp only [Act.put,zA,zB,zC,zD,zE,zF]
    refine wpAnyH_take (i:=19) (v:=?_) rfl (by kernel_rfl) (by kernel_rfl) (by kernel_rfl) (fun _ _ _ h => h) (Or.inl ⟨by rfl,?_⟩) hHeld ?_;rotate_left;(focus (intro X hSw;go_simp;try with_reducible rfl));try simp only [Act.put,zA,zB,zC,zD,zE,zF]
    refine wpAnyH_take (i:=20) (v:=?_) rfl (by kernel_rfl) (by kernel_rfl) (by kernel_rfl) (fun _ _ _ h => h) (Or.inl ⟨by rfl,?_⟩) hHeld ?_;rotate_left;(focus (intro X hSw;go_simp;try with_reducible rfl));try simp only [Act.put,zA,zB,zC,zD,zE,zF]
    refine wpAnyH_take (i:=21) (v:=?_) rfl (by kernel_rfl) (by kernel_rfl) (by kernel_rfl) (fun _ _ _ h => h) (Or.inl ⟨by rfl,?_⟩) hHeld ?_;rotate_left;(focus (intro X hSw;go_simp;try with_reducible rfl));try simp only [Act.put,zA,zB,zC,zD,zE,zF]
    refine wpAnyH_take (i:=22) (v:=?_) rfl (by kernel_rfl) (by kernel_rfl) (by kernel_rfl) (fun _ _ _ h => h) (Or.inl ⟨by rfl,?_⟩) hHeld ?_;rotate_left;(focus (intro X hSw;go_simp;try with_reducible rfl));try simp only [Act.put,zA,zB,zC,zD,zE,zF]
    refine wpAnyH_take (i:=23) (v:=?_) rfl (by kernel_rfl) (by kernel_rfl) (by kernel_rfl) (fun _ _ _ h => h) (Or.inl ⟨by rfl,?_⟩) hHeld ?_;rotate_left;(focus (intro X hSw;go_simp;try with_reducible rfl));try simp only [Act.put,zA,zB,zC,zD,zE,zF]
    refine wpAnyH_take (i:=24) (v:=?_) rfl (by kernel_rfl) (by kernel_rfl) (by kernel_rfl) (fun _ _ _ h => h) (Or.inl ⟨by rfl,?_⟩) hHeld ?_;rotate_left;(focus (intro X hSw;go_simp;try with_reducible rfl));try simp only [Act.put,zA,zB,zC,zD,zE,zF]
    refine wpAnyH_take (i:=25) (v:=?_) rfl (by kernel_rfl) (by kernel_rfl) (by kernel_rfl) (fun _ _ _ h => h) (Or.inl ⟨by rfl,?_⟩) hHeld ?_;rotate_left;(focus (intro X hSw;go_simp;try with_reducible rfl));try simp only [Act.put,zA,zB,zC,zD,zE,zF]
    refine wpAnyH_take (i:=26) (v:=?_) rfl (by kernel_rfl) (by kernel_rfl) (by kernel_rfl) (fun _ _ _ h => h) (Or.inl ⟨by rfl,?_⟩) hHeld ?_;rotate_left;(focus (intro X hSw;obtain ⟨g0,g1,g2,g3,g4,g5,g6,g7,g8,g9,g10,g11,g12,g13⟩:=HCC.out X hSw;go_simp;try with_reducible rfl));try simp only [Act.put,zA,zB,zC,zD,zE,zF]
    refine wpAnyH_take (i:=28) (v:=?_) rfl (by kernel_rfl) (by kernel_rfl) (by kernel_rfl) (fun _ _ _ h => h) (Or.inl ⟨by rfl,?_⟩) hHeld ?_;rotate_left;(focus (intro X hSw;obtain ⟨g0,g1,g2,g3,g4,g5,g6,g7,g8,g9,g10,g11,g12,g13⟩:=HCC.out X hSw;go_simp;try with_reducible rfl));try simp only [Act.put,zA,zB,zC,zD,zE,zF]
    refine wpAnyH_ready (rs:=[27]) (by kernel_rfl) (by simp) ?_
    refine AllReadyH.cons rfl (fun K hK => ?_) AllReadyH.nil
    go_simp
    refine Calls.mono (HC1.out _) ?_
    rintro e y5 ⟨rfl,hbc⟩
    have hSy5:=hSy4.trans (hbc.mono hSy4.size)
    refine hK.out _ _ hSy5 (fun hHeld => ?_)
    clear hK K hbc
    try simp only [Act.put,zA,zB,zC,zD,zE,zF]
    refine wpAnyH_ready (rs:=[29]) (by kernel_rfl) (by simp) ?_
    refine AllReadyH.cons rfl (fun K hK => ?_) AllReadyH.nil
    go_simp
    refine Calls.mono (HC2.out _) ?_
    rintro e y6 ⟨rfl,hbc⟩
    have hSy6:=hSy5.trans (hbc.mono hSy5.size)
    refine hK.out _ _ hSy6 (fun hHeld => ?_)
    clear hK K hbc
    try simp only [Act.put,zA,zB,zC,zD,zE,zF]
    refine wpAnyH_take (i:=30) (v:=?_) rfl (by kernel_rfl) (by kernel_rfl) (by kernel_rfl) (fun _ _ _ h => h) (Or.inl ⟨by rfl,?_⟩) hHeld ?_;rotate_left;(focus (intro X hSw;go_simp;try with_reducible rfl));try simp only [Act.put,zA,zB,zC,zD,zE,zF]
    refine wpAnyH_take (i:=31) (v:=?_) rfl (by kernel_rfl) (by kernel_rfl) (by kernel_rfl) (fun _ _ _ h => h) (Or.inl ⟨by rfl,?_⟩) hHeld ?_;rotate_left;(focus (intro X hSw;go_simp;try with_reducible rfl));try simp only [Act.put,zA,zB,zC,zD,zE,zF]
    refine wpAnyH_take (i:=32) (v:=?_) rfl (by kernel_rfl) (by kernel_rfl) (by kernel_rfl) (fun _ _ _ h => h) (Or.inl ⟨by rfl,?_⟩) hHeld ?_;rotate_left;(focus (intro X hSw;go_simp;try with_reducible rfl));try simp only [Act.put,zA,zB,zC,zD,zE,zF]
    refine wpAnyH_done (by kernel_rfl) ?_ _
    go_wp2_with fail
    go_ret
    exact ⟨by first | trivial | rfl | simp,HBX.out.trans (hSy6.mono HBX.out.size)⟩
  refine AllReadyH.cons rfl (fun K hK => ?_) AllReadyH.nil
  go_simp
  have hz1:=hSy2.alloc hSy2.size (.cells #[.string ⟨bn.toArray⟩, .int .i64 0, .slice A2 n2 c2, .bool ok, .slice B2 m2 d2] 25)
  refine hK.out _ _ hz1 (fun hHeld => ?_)
  clear hK K
  try simp only [Act.put,zA,zB,zC,zD,zE,zF]
  refine wpAnyH_ready (rs:=[5]) (by kernel_rfl) (by simp) ?_
  refine AllReadyH.cons rfl (fun K hK => ?_) AllReadyH.nil
  go_simp
  have hz2:=hz1.alloc hz1.size (.cells #[.string ⟨bn.toArray⟩, .int .i64 0, .slice A1 n1 c1, .bool ok, .slice B1 m1 d1] 25)
  refine hK.out _ _ hz2 (fun hHeld => ?_)
  clear hK K
  try simp only [Act.put,zA,zB,zC,zD,zE,zF]
  refine wpAnyH_ready (rs:=[8]) (by kernel_rfl) (by simp) ?_
  refine AllReadyH.cons rfl (fun K hK => ?_) AllReadyH.nil
  go_simp
  refine Calls.mono (HE2.out y2 hSy2) ?_
  rintro e y4 ⟨rfl,hbc⟩
  have hSy4:=hz2.trans (hbc.mono hz2.size)
  refine hK.out _ _ hSy4 (fun hHeld => ?_)
  clear hK K hbc
  try simp only [Act.put,zA,zB,zC,zD,zE,zF]
  refine wpAnyH_take (i:=9) (v:=?_) rfl (by kernel_rfl) (by kernel_rfl) (by kernel_rfl) (fun _ _ _ h => h) (Or.inl ⟨by rfl,?_⟩) hHeld ?_;rotate_left;(focus (intro X hSw;go_simp;try with_reducible rfl));try simp only [Act.put,zA,zB,zC,zD,zE,zF]
  refine wpAnyH_take (i:=10) (v:=?_) rfl (by kernel_rfl) (by kernel_rfl) (by kernel_rfl) (fun _ _ _ h => h) (Or.inl ⟨by rfl,?_⟩) hHeld ?_;rotate_left;(focus (intro X hSw;go_simp;try with_reducible rfl));try simp only [Act.put,zA,zB,zC,zD,zE,zF]
  refine wpAnyH_take (i:=11) (v:=?_) rfl (by kernel_rfl) (by kernel_rfl) (by kernel_rfl) (fun _ _ _ h => h) (Or.inl ⟨by rfl,?_⟩) hHeld ?_;rotate_left;(focus (intro X hSw;go_simp;try with_reducible rfl));try simp only [Act.put,zA,zB,zC,zD,zE,zF]
  refine wpAnyH_take (i:=12) (v:=?_) rfl (by kernel_rfl) (by kernel_rfl) (by kernel_rfl) (fun _ _ _ h => h) (Or.inl ⟨by rfl,?_⟩) hHeld ?_;rotate_left;(focus (intro X hSw;go_simp;try with_reducible rfl));try simp only [Act.put,zA,zB,zC,zD,zE,zF]
  refine wpAnyH_take (i:=13) (v:=?_) rfl (by kernel_rfl) (by kernel_rfl) (by kernel_rfl) (fun _ _ _ h => h) (Or.inl ⟨by rfl,?_⟩) hHeld ?_;rotate_left;(focus (intro X hSw;go_simp;try with_reducible rfl));try simp only [Act.put,zA,zB,zC,zD,zE,zF]
  refine wpAnyH_take (i:=14) (v:=?_) rfl (by kernel_rfl) (by kernel_rfl) (by kernel_rfl) (fun _ _ _ h => h) (Or.inl ⟨by rfl,?_⟩) hHeld ?_;rotate_left;(focus (intro X hSw;go_simp;try with_reducible rfl));try simp only [Act.put,zA,zB,zC,zD,zE,zF]
  refine wpAnyH_take (i:=15) (v:=?_) rfl (by kernel_rfl) (by kernel_rfl) (by kernel_rfl) (fun _ _ _ h => h) (Or.inl ⟨by rfl,?_⟩) hHeld ?_;rotate_left;(focus (intro X hSw;go_simp;try with_reducible rfl));try simp only [Act.put,zA,zB,zC,zD,zE,zF]
  refine wpAnyH_take (i:=16) (v:=?_) rfl (by kernel_rfl) (by kernel_rfl) (by kernel_rfl) (fun _ _ _ h => h) (Or.inl ⟨by rfl,?_⟩) hHeld ?_;rotate_left;(focus (intro X hSw;go_simp;try with_reducible rfl));try simp only [Act.put,zA,zB,zC,zD,zE,zF]
  refine wpAnyH_take (i:=17) (v:=?_) rfl (by kernel_rfl) (by kernel_rfl) (by kernel_rfl) (fun _ _ _ h => h) (Or.inl ⟨by rfl,?_⟩) hHeld ?_;rotate_left;(focus (intro X hSw;go_simp;try with_reducible rfl));try simp only [Act.put,zA,zB,zC,zD,zE,zF]
  refine wpAnyH_take (i:=18) (v:=?_) rfl (by kernel_rfl) (by kernel_rfl) (by kernel_rfl) (fun _ _ _ h => h) (Or.inl ⟨by rfl,?_⟩) hHeld ?_;rotate_left;(focus (intro X hSw;go_simp;try with_reducible rfl));try simp only [Act.put,zA,zB,zC,zD,zE,zF]
  refine wpAnyH_take (i:=19) (v:=?_) rfl (by kernel_rfl) (by kernel_rfl) (by kernel_rfl) (fun _ _ _ h => h) (Or.inl ⟨by rfl,?_⟩) hHeld ?_;rotate_left;(focus (intro X hSw;go_simp;try with_reducible rfl));try simp only [Act.put,zA,zB,zC,zD,zE,zF]
  refine wpAnyH_take (i:=20) (v:=?_) rfl (by kernel_rfl) (by kernel_rfl) (by kernel_rfl) (fun _ _ _ h => h) (Or.inl ⟨by rfl,?_⟩) hHeld ?_;rotate_left;(focus (intro X hSw;go_simp;try with_reducible rfl));try simp only [Act.put,zA,zB,zC,zD,zE,zF]
  refine wpAnyH_take (i:=21) (v:=?_) rfl (by kernel_rfl) (by kernel_rfl) (by kernel_rfl) (fun _ _ _ h => h) (Or.inl ⟨by rfl,?_⟩) hHeld ?_;rotate_left;(focus (intro X hSw;go_simp;try with_reducible rfl));try simp only [Act.put,zA,zB,zC,zD,zE,zF]
  refine wpAnyH_take (i:=22) (v:=?_) rfl (by kernel_rfl) (by kernel_rfl) (by kernel_rfl) (fun _ _ _ h => h) (Or.inl ⟨by rfl,?_⟩) hHeld ?_;rotate_left;(focus (intro X hSw;go_simp;try with_reducible rfl));try simp only [Act.put,zA,zB,zC,zD,zE,zF]
  refine wpAnyH_take (i:=23) (v:=?_) rfl (by kernel_rfl) (by kernel_rfl) (by kernel_rfl) (fun _ _ _ h => h) (Or.inl ⟨by rfl,?_⟩) hHeld ?_;rotate_left;(focus (intro X hSw;go_simp;try with_reducible rfl));try simp only [Act.put,zA,zB,zC,zD,zE,zF]
  refine wpAnyH_take (i:=24) (v:=?_) rfl (by kernel_rfl) (by kernel_rfl) (by kernel_rfl) (fun _ _ _ h => h) (Or.inl ⟨by rfl,?_⟩) hHeld ?_;rotate_left;(focus (intro X hSw;go_simp;try with_reducible rfl));try simp only [Act.put,zA,zB,zC,zD,zE,zF]
  refine wpAnyH_take (i:=25) (v:=?_) rfl (by kernel_rfl) (by kernel_rfl) (by kernel_rfl) (fun _ _ _ h => h) (Or.inl ⟨by rfl,?_⟩) hHeld ?_;rotate_left;(focus (intro X hSw;go_simp;try with_reducible rfl));try simp only [Act.put,zA,zB,zC,zD,zE,zF]
  refine wpAnyH_take (i:=26) (v:=?_) rfl (by kernel_rfl) (by kernel_rfl) (by kernel_rfl) (fun _ _ _ h => h) (Or.inl ⟨by rfl,?_⟩) hHeld ?_;rotate_left;(focus (intro X hSw;obtain ⟨g0,g1,g2,g3,g4,g5,g6,g7,g8,g9,g10,g11,g12,g13⟩:=HCC.out X hSw;go_simp;try with_reducible rfl));try simp only [Act.put,zA,zB,zC,zD,zE,zF]
  refine wpAnyH_take (i:=28) (v:=?_) rfl (by kernel_rfl) (by kernel_rfl) (by kernel_rfl) (fun _ _ _ h => h) (Or.inl ⟨by rfl,?_⟩) hHeld ?_;rotate_left;(focus (intro X hSw;obtain ⟨g0,g1,g2,g3,g4,g5,g6,g7,g8,g9,g10,g11,g12,g13⟩:=HCC.out X hSw;go_simp;try with_reducible rfl));try simp only [Act.put,zA,zB,zC,zD,zE,zF]
  refine wpAnyH_ready (rs:=[27]) (by kernel_rfl) (by simp) ?_
  refine AllReadyH.cons rfl (fun K hK => ?_) AllReadyH.nil
  go_simp
  refine Calls.mono (HC1.out _) ?_
  rintro e y5 ⟨rfl,hbc⟩
  have hSy5:=hSy4.trans (hbc.mono hSy4.size)
  refine hK.out _ _ hSy5 (fun hHeld => ?_)
  clear hK K hbc
  try simp only [Act.put,zA,zB,zC,zD,zE,zF]
  refine wpAnyH_ready (rs:=[29]) (by kernel_rfl) (by simp) ?_
  refine AllReadyH.cons rfl (fun K hK => ?_) AllReadyH.nil
  go_simp
  refine Calls.mono (HC2.out _) ?_
  rintro e y6 ⟨rfl,hbc⟩
  have hSy6:=hSy5.trans (hbc.mono hSy5.size)
  refine hK.out _ _ hSy6 (fun hHeld => ?_)
  clear hK K hbc
  try simp only [Act.put,zA,zB,zC,zD,zE,zF]
  refine wpAnyH_take (i:=30) (v:=?_) rfl (by kernel_rfl) (by kernel_rfl) (by kernel_rfl) (fun _ _ _ h => h) (Or.inl ⟨by rfl,?_⟩) hHeld ?_;rotate_left;(focus (intro X hSw;go_simp;try with_reducible rfl));try simp only [Act.put,zA,zB,zC,zD,zE,zF]
  refine wpAnyH_take (i:=31) (v:=?_) rfl (by kernel_rfl) (by kernel_rfl) (by kernel_rfl) (fun _ _ _ h => h) (Or.inl ⟨by rfl,?_⟩) hHeld ?_;rotate_left;(focus (intro X hSw;go_simp;try with_reducible rfl));try simp only [Act.put,zA,zB,zC,zD,zE,zF]
  refine wpAnyH_take (i:=32) (v:=?_) rfl (by kernel_rfl) (by kernel_rfl) (by kernel_rfl) (fun _ _ _ h => h) (Or.inl ⟨by rfl,?_⟩) hHeld ?_;rotate_left;(focus (intro X hSw;go_simp;try with_reducible rfl));try simp only [Act.put,zA,zB,zC,zD,zE,zF]
  refine wpAnyH_done (by kernel_rfl) ?_ _
  go_wp2_with fail
  go_ret
  exact ⟨by first | trivial | rfl | simp,HBX.out.trans (hSy6.mono HBX.out.size)⟩
end Go.Proofs.Ytpkhocbohhpmbaa
