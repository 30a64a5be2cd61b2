/- The law FieldReads walked: it answers true at any item. -/
import Derived.Test.YtpkhocbohhpmbaaPkR29
import Derived.Test.YtpkhocbohhpmbaaPkR13
import Derived.Test.YtpkhocbohhpmbaaPkR49
set_option linter.unusedVariables false
set_option linter.unusedSimpArgs false
set_option maxRecDepth 100000
namespace Go.Proofs.Ytpkhocbohhpmbaa
open Go.RowKit
open Go.Joins renaming cell_of_block → zb, unfrozen_of_block → zu
open Go.Lib renaming hid → zh
set_option maxHeartbeats 8000000 in
theorem walk_FieldReads (n : NodeL) (cs : List Value) (w : World) (hn : NodeOk w (· < w.heap.size) n cs) (hfit : fitN n) (hcap : ∀ A m c,Value.slice A m c ∈ cs → m ≤ c) :
    Calls Try.prog 3 #[.agg cs.toArray] w fun e w' => e = .returned (.bool true) ∧ Below w.heap.size w w':=by
  have HN:=zh hn
  have hfs : fitNs [n]:=⟨hfit,trivial⟩
  have HFew:=zh (fun g W (h : ROk W W.heap.size (some ⟨g,0,none⟩) [n]) => ref9_FewG [n] (some ⟨g,0,none⟩) 1 W W.heap.size 40 (by omega) (by omega) (by simp [maxLen]) hfs (Nat.le_refl _) h)
  obtain ⟨a1,a2,a3⟩:=left_geL [n] 40 12 (by omega)
  have HRD:=zh (fun W B h0 h1 (h2 : cntL [n] ≤ 100000) => field_Read n cs W B h0 h1 h2 hfs)
  have HRR:=zh (fun W B h0 h1 (h2 : cntL [n] ≤ 100000) => r11_Read n cs W B h0 h1 hcap h2 hfs)
  unfold ReadPost at HRD HRR
  obtain ⟨nm,p,ws,b,ks⟩:=n
  simp only [NodeOk] at hn
  obtain ⟨Aw,cw,Ak,ck,kcs,rfl,_,_,hrw,hrk,hks⟩:=hn
  have HB0:=zh (below_cal w (.cells #[.string ⟨nm.toArray⟩, .int .i64 p, .slice Aw ws.length cw, .bool b, .slice Ak ks.length ck] 25))
  have HX0:=zh (heap_alloc_new w (.cells #[.string ⟨nm.toArray⟩, .int .i64 p, .slice Aw ws.length cw, .bool b, .slice Ak ks.length ck] 25))
  clear hrw hrk hks hfit hfs hcap
  have HPRE:=zh (fun (W : World) (hb : Below w.heap.size w W) => rok_new W _ _ 25 ((HN.out.below hb).up hb.size))
  by_cases hf1 : 0 ≤ leftL 40 12 [.mk nm p ws b ks]
  case neg =>
    rw [decide_eq_false hf1] at HFew
    clear a1 a2 a3 hf1 HRD HRR
    go_enter Try.func3,Try.ntmps3
    go_wp2_with fail
    refine (law11_live _).mono ?_
    rintro e w1 ⟨rfl,hb1⟩
    have HB1:=zh (HB0.out.trans (hb1.mono HB0.out.size))
    have y1:=(hb1.block w.heap.size (by simp)).trans HX0.out
    have e0:=zb y1 0
    have e1:=zb y1 1
    have e2:=zb y1 2
    have e3:=zb y1 3
    have e4:=zb y1 4
    have HO:=zh (HPRE.out w1 HB1.out)
    clear hb1 y1
    go_wp2_with fail
    refine (HFew.out _ _ HO.out).mono ?_
    rintro e w2 ⟨rfl,hb2⟩
    have HB2:=zh (Below.trans (HB1.out.alloc HB1.out.size _) (hb2.mono (HB1.out.alloc HB1.out.size _).size))
    clear hb2
    go_wp2_with fail
    go_ret
    exact ⟨rfl,HB2.out⟩
  rw [decide_eq_true hf1] at HFew
  obtain ⟨_,hcn⟩:=a3 hf1
  have hcl : cntL [.mk nm p ws b ks] ≤ 100000:=by omega
  have HRD':=zh (fun W B h0 h1 => HRD.out W B h0 h1 hcl)
  have HRR':=zh (fun W B h0 h1 => HRR.out W B h0 h1 hcl)
  clear HRD HRR a1 a2 a3 hf1 hcn hcl
  generalize readC (.mk nm p ws b ks) = R at *
  obtain ⟨rc,rp,re⟩:=R
  dsimp only at HRD' HRR'
  have heq:=fun W => run_eqCal W rc rc
  rw [decide_eq_true (rfl : rc = rc)] at heq
  obtain ⟨cname,ckind,cday,cmonth,cshift,cshape,cp0,cp1,cp2,ccyc,cextra,cfirst,clast,cpol⟩:=rc
  dsimp only at heq
  dsimp only [calV] at HRD' HRR'
  go_enter Try.func3,Try.ntmps3
  go_wp2_with fail
  refine (law11_live _).mono ?_
  rintro e w1 ⟨rfl,hb1⟩
  have HB1:=zh (HB0.out.trans (hb1.mono HB0.out.size))
  have y1:=(hb1.block w.heap.size (by simp)).trans HX0.out
  have e0:=zb y1 0
  have e1:=zb y1 1
  have e2:=zb y1 2
  have e3:=zb y1 3
  have e4:=zb y1 4
  have HO:=zh (HPRE.out w1 HB1.out)
  have HY1:=zh y1
  clear hb1 y1
  go_wp2_with fail
  refine (HFew.out _ _ HO.out).mono ?_
  rintro e w2 ⟨rfl,hb2⟩
  have hba:=HB1.out.alloc HB1.out.size (.cells #[.string ⟨nm.toArray⟩, .int .i64 p, .slice Aw ws.length cw, .bool b, .slice Ak ks.length ck] 25)
  have HB2:=zh (Below.trans hba (hb2.mono hba.size))
  have hl1:=(Array.getElem?_eq_some_iff.1 HY1.out).1
  have y2:=(hb2.block w.heap.size (by simp;omega)).trans (((below_cal w1 _).block w.heap.size hl1).trans HY1.out)
  have f0:=zb y2 0
  have f1:=zb y2 1
  have f2:=zb y2 2
  have f3:=zb y2 3
  have f4:=zb y2 4
  have HY2:=zh y2
  have HN2:=zh (HN.out.below HB2.out)
  clear hb2 hba hl1 y2 e0 e1 e2 e3 e4
  go_wp2_with fail
  refine (HRD'.out _ w.heap.size HB2.out.size HN2.out).mono ?_
  rintro e w3 ⟨rfl,hb3⟩
  have hl2:=(Array.getElem?_eq_some_iff.1 HY2.out).1
  have HB3:=zh (HB2.out.trans (hb3.mono HB2.out.size))
  have HY3:=zh ((hb3.block w.heap.size hl2).trans HY2.out)
  obtain ⟨s0,s1,s2,s3,s4⟩ : w3.cell? ⟨w.heap.size,0,none⟩ = some (.string ⟨nm.toArray⟩) ∧ w3.cell? ⟨w.heap.size,1,none⟩ = some (.int .i64 p) ∧ w3.cell? ⟨w.heap.size,2,none⟩ = some (.slice Aw ws.length cw) ∧ w3.cell? ⟨w.heap.size,3,none⟩ = some (.bool b) ∧ w3.cell? ⟨w.heap.size,4,none⟩ = some (.slice Ak ks.length ck) :=
    ⟨zb HY3.out 0,zb HY3.out 1,zb HY3.out 2,zb HY3.out 3,zb HY3.out 4⟩
  have hl3:=(Array.getElem?_eq_some_iff.1 HY3.out).1
  clear hb3 f0 f1 f2 f3 f4 hl2
  go_wp2_with fail
  have hba3:=HB3.out.alloc HB3.out.size (.cells #[.string ⟨cname.toArray⟩, .int .i64 ckind, .int .i64 cday, .int .i64 cmonth, .int .i64 cshift, .int .i64 cshape, .int .i64 cp0, .int .i64 cp1, .int .i64 cp2, .int .i64 ccyc, .int .i64 cextra, .int .i64 cfirst, .int .i64 clast, .int .i64 cpol] 30)
  have hz3:=heap_alloc_new w3 (.cells #[.string ⟨cname.toArray⟩, .int .i64 ckind, .int .i64 cday, .int .i64 cmonth, .int .i64 cshift, .int .i64 cshape, .int .i64 cp0, .int .i64 cp1, .int .i64 cp2, .int .i64 ccyc, .int .i64 cextra, .int .i64 cfirst, .int .i64 clast, .int .i64 cpol] 30)
  refine (HRR'.out _ w.heap.size hba3.size (HN.out.below hba3)).mono ?_
  rintro e w4 ⟨rfl,hb4⟩
  have HB4:=zh (hba3.trans (hb4.mono hba3.size))
  have hz4:=(hb4.block w3.heap.size (by simp)).trans hz3
  obtain ⟨z0,z1,z2,z3,z4,z5,z6,z7,z8,z9,z10,z11,z12,z13⟩:=cells14 hz4
  have hl4:=(Array.getElem?_eq_some_iff.1 hz4).1
  clear hb4 hz3 hba3 hz4 s0 s1 s2 s3 s4 hl3
  go_wp2_with fail
  go_ret
  exact ⟨by first | trivial | rfl | simp,HB4.out.alloc HB4.out.size _⟩
end Go.Proofs.Ytpkhocbohhpmbaa
