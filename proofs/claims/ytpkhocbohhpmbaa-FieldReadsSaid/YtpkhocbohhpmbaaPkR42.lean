/- Layer 11 (field), the reference: the walk of key: a block; no words; the key end. Written by wip/gen_key.py. Then: Layer 11 (field), the reference: the walk of key: the key periods. Then: Layer 11 (field), the reference: the walk of key: the key periods. -/
import Derived.Test.YtpkhocbohhpmbaaPkR30
import Derived.Test.YtpkhocbohhpmbaaPkR39
import Derived.Test.YtpkhocbohhpmbaaPkR41
import Derived.Test.YtpkhocbohhpmbaaPkR19
set_option linter.unusedVariables false
set_option linter.unusedSimpArgs false
set_option maxRecDepth 100000
namespace Go.Proofs.Ytpkhocbohhpmbaa
section
open Go.RowKit
open Go.Joins renaming cell_of_block → zb, unfrozen_of_block → zu
open Go.Lib renaming hid → zh
set_option maxHeartbeats 16000000 in
theorem key_block (c : CalL) (kn : Bytes) (kp : Int) (Aw : Option Addr) (wl cw : Nat) (Ak : Option Addr) (kl ck : Nat) (w : World) (d : CalL) :
    Calls Try.prog 25 #[calV c, .agg #[.string ⟨kn.toArray⟩, .int .i64 kp, .slice Aw wl cw, .bool true, .slice Ak kl ck]] w (KeyPost d false w):=by
  have HK:=zh (keyW_start w c kn kp Aw wl cw true Ak kl ck)
  generalize hQ : KeyPost d false w = Q
  have HQ:=zh hQ
  clear hQ
  unfold calO nodO at HK
  obtain ⟨cnm,ckd,cdy,cmo,csh,csp,cp0,cp1,cp2,ccy,cex,cfi,cla,cpo⟩:=c
  dsimp only [calV,calZ] at HK ⊢
  go_enter Try.func25,Try.ntmps25
  go_upto_region 1 with fail
  (generalize World.alloc _ _ = W at HK ⊢;obtain ⟨hbw,hlow,hcal,hnode,hres⟩:=HK.out;generalize hbc : w.heap.size = bc at hlow hcal hnode hres hbw HK ⊢;have HBC:=zh hbc;have HBW:=zh hbw)
  dsimp only [nodO] at hnode
  dsimp only [CalBlk,calZ] at hcal hres
  obtain ⟨g0,g1,g2,g3,g4,g5,g6,g7,g8,g9,g10,g11,g12,g13⟩:=cells14 hcal
  obtain ⟨n0,n1,n2,n3,n4,n5,n6,n7,n8,n9,n10,n11,n12,n13⟩:=cells14 hres
  have m0:=zb hnode 0;have m1:=zb hnode 1;have m2:=zb hnode 2;have m3:=zb hnode 3;have m4:=zb hnode 4
  have ly:=(Array.getElem?_eq_some_iff.1 hcal).1
  have lz:=(Array.getElem?_eq_some_iff.1 hres).1
  obtain ⟨fu0,fu1,fu2,fu3,fu4,fu5,fu6,fu7,fu8,fu9,fu10,fu11,fu12,fu13⟩:=unf14 hcal
  obtain ⟨fz0,fz1,fz2,fz3,fz4,fz5,fz6,fz7,fz8,fz9,fz10,fz11,fz12,fz13⟩:=unf14 hres
  clear hbw hcal hres hnode HK hlow hbc
  go_wp2_with fail
  refine bodyPost_ret (v:=.tuple #[.agg #[.string ⟨cnm.toArray⟩, .int .i64 ckd, .int .i64 cdy, .int .i64 cmo, .int .i64 csh, .int .i64 csp, .int .i64 cp0, .int .i64 cp1, .int .i64 cp2, .int .i64 ccy, .int .i64 cex, .int .i64 cfi, .int .i64 cla, .int .i64 cpo], .bool false]) (by simp [results,Try.results25,go_sem, *]) rfl ?_
  rw [← HQ.out]
  unfold KeyPost
  refine ⟨⟨cnm,ckd,cdy,cmo,csh,csp,cp0,cp1,cp2,ccy,cex,cfi,cla,cpo⟩,rfl,fun h => Bool.noConfusion h,?_⟩
  rw [HBC.out]
  exact (belowK (bc + 1 + 1) (by omega) [(0, .string ⟨cnm.toArray⟩),(1, .int .i64 ckd),(2, .int .i64 cdy),(3, .int .i64 cmo),(4, .int .i64 csh),(5, .int .i64 csp),(6, .int .i64 cp0),(7, .int .i64 cp1),(8, .int .i64 cp2),(9, .int .i64 ccy),(10, .int .i64 cex),(11, .int .i64 cfi),(12, .int .i64 cla),(13, .int .i64 cpo)] _ HBW.out)
set_option maxHeartbeats 16000000 in
theorem key_bare (c : CalL) (kn : Bytes) (kp : Int) (Aw : Option Addr) (cw : Nat) (Ak : Option Addr) (kl ck : Nat) (w : World) (d : CalL) :
    Calls Try.prog 25 #[calV c, .agg #[.string ⟨kn.toArray⟩, .int .i64 kp, .slice Aw 0 cw, .bool false, .slice Ak kl ck]] w (KeyPost d false w):=by
  have HK:=zh (keyW_start w c kn kp Aw 0 cw false Ak kl ck)
  generalize hQ : KeyPost d false w = Q
  have HQ:=zh hQ
  clear hQ
  unfold calO nodO at HK
  obtain ⟨cnm,ckd,cdy,cmo,csh,csp,cp0,cp1,cp2,ccy,cex,cfi,cla,cpo⟩:=c
  dsimp only [calV,calZ] at HK ⊢
  go_enter Try.func25,Try.ntmps25
  go_upto_region 1 with fail
  (generalize World.alloc _ _ = W at HK ⊢;obtain ⟨hbw,hlow,hcal,hnode,hres⟩:=HK.out;generalize hbc : w.heap.size = bc at hlow hcal hnode hres hbw HK ⊢;have HBC:=zh hbc;have HBW:=zh hbw)
  dsimp only [nodO] at hnode
  dsimp only [CalBlk,calZ] at hcal hres
  obtain ⟨g0,g1,g2,g3,g4,g5,g6,g7,g8,g9,g10,g11,g12,g13⟩:=cells14 hcal
  obtain ⟨n0,n1,n2,n3,n4,n5,n6,n7,n8,n9,n10,n11,n12,n13⟩:=cells14 hres
  have m0:=zb hnode 0;have m1:=zb hnode 1;have m2:=zb hnode 2;have m3:=zb hnode 3;have m4:=zb hnode 4
  have ly:=(Array.getElem?_eq_some_iff.1 hcal).1
  have lz:=(Array.getElem?_eq_some_iff.1 hres).1
  obtain ⟨fu0,fu1,fu2,fu3,fu4,fu5,fu6,fu7,fu8,fu9,fu10,fu11,fu12,fu13⟩:=unf14 hcal
  obtain ⟨fz0,fz1,fz2,fz3,fz4,fz5,fz6,fz7,fz8,fz9,fz10,fz11,fz12,fz13⟩:=unf14 hres
  clear hbw hcal hres hnode HK hlow hbc
  go_wp2_with fail
  refine bodyPost_ret (v:=.tuple #[.agg #[.string ⟨cnm.toArray⟩, .int .i64 ckd, .int .i64 cdy, .int .i64 cmo, .int .i64 csh, .int .i64 csp, .int .i64 cp0, .int .i64 cp1, .int .i64 cp2, .int .i64 ccy, .int .i64 cex, .int .i64 cfi, .int .i64 cla, .int .i64 cpo], .bool false]) (by simp [results,Try.results25,go_sem, *]) rfl ?_
  rw [← HQ.out]
  unfold KeyPost
  refine ⟨⟨cnm,ckd,cdy,cmo,csh,csp,cp0,cp1,cp2,ccy,cex,cfi,cla,cpo⟩,rfl,fun h => Bool.noConfusion h,?_⟩
  rw [HBC.out]
  exact (belowK (bc + 1 + 1) (by omega) [(0, .string ⟨cnm.toArray⟩),(1, .int .i64 ckd),(2, .int .i64 cdy),(3, .int .i64 cmo),(4, .int .i64 csh),(5, .int .i64 csp),(6, .int .i64 cp0),(7, .int .i64 cp1),(8, .int .i64 cp2),(9, .int .i64 ccy),(10, .int .i64 cex),(11, .int .i64 cfi),(12, .int .i64 cla),(13, .int .i64 cpo)] _ HBW.out)
theorem r11_end (nm : Bytes) (ws : List WordL) (A : Option Addr) (cp : Nat) (w : World) (B : Nat) (hB : B ≤ w.heap.size) (hne : ws ≠ []) (hr : ReadsM w (· < B) 4 A ws.length (ws.flatMap WordL.cells)) :
    Calls Try.prog 59 #[calV { calZ with name:=nm }, .slice A ws.length cp] w (EndPost nm ws w):=by
  match ws,hne with
  | t :: r,_ =>
    obtain ⟨ad,rfl,hadb,e0,e1,e2,e3⟩:=word0 hr
    have hlt : ad.block < w.heap.size:=by omega
    have hrng:=place_rng endsL t
    have hle : (endsL.length : Int) = 6:=rfl
    obtain ⟨num,n,s,pos⟩:=t
    generalize hk : placeW endsL ⟨num,n,s,pos⟩ = k at hrng
    obtain rfl | rfl | rfl | rfl | rfl | rfl | rfl : k = 0 ∨ k = 1 ∨ k = 2 ∨ k = 3 ∨ k = 4 ∨ k = 5 ∨ k = 6:=by omega
    · exact r11_end_0 nm num n s pos r ad cp w hk hlt e0 e1 e2 e3
    · by_cases h : r.length = 2
      · match r,h,hr with
        | [u,x],_,hr =>
          obtain ⟨a0,a1,a2,a3⟩:=word1 hr 1 u rfl (by decide)
          obtain ⟨d0,d1,d2,d3⟩:=word1 hr 2 x rfl (by decide)
          exact r11_end_1 nm num n s pos u.num u.n u.s u.pos x.num x.n x.s x.pos ad cp w hk hlt e0 e1 e2 e3 a0 a1 a2 a3 d0 d1 d2 d3
      · exact r11_end_1no nm num n s pos r ad cp w hk h hlt e0 e1 e2 e3
    · by_cases h : r.length = 2
      · match r,h,hr with
        | [u,x],_,hr =>
          obtain ⟨a0,a1,a2,a3⟩:=word1 hr 1 u rfl (by decide)
          obtain ⟨d0,d1,d2,d3⟩:=word1 hr 2 x rfl (by decide)
          exact r11_end_2 nm num n s pos u.num u.n u.s u.pos x.num x.n x.s x.pos ad cp w hk hlt e0 e1 e2 e3 a0 a1 a2 a3 d0 d1 d2 d3
      · exact r11_end_2no nm num n s pos r ad cp w hk h hlt e0 e1 e2 e3
    · exact r11_end_3 nm num n s pos r ad cp w hk hlt e0 e1 e2 e3
    · exact r11_end_4 nm num n s pos r ad cp w hk hlt e0 e1 e2 e3
    · exact r11_end_5 nm num n s pos r ad cp w hk hlt e0 e1 e2 e3
    · by_cases h : r.length = 1
      · match r,h,hr with
        | [u],_,hr =>
          obtain ⟨a0,a1,a2,a3⟩:=word1 hr 1 u rfl (by decide)
          exact r11_end_6 nm num n s pos u.num u.n u.s u.pos ad cp w hk hlt e0 e1 e2 e3 a0 a1 a2 a3
      · exact r11_end_6no nm num n s pos r ad cp w hk h hlt e0 e1 e2 e3
set_option maxHeartbeats 16000000 in
theorem key_endR (nm : Bytes) (kp : Int) (ws : List WordL) (A : Option Addr) (cw : Nat) (Ak : Option Addr) (kl ck : Nat) (w : World) (B : Nat) (hB : B ≤ w.heap.size) (hne : ws ≠ []) (hlen : ws.length ≤ 100000) (hr : ReadsM w (· < B) 4 A ws.length (ws.flatMap WordL.cells)) :
    Calls Try.prog 25 #[calV (calN nm), .agg #[.string ⟨b_end.toArray⟩, .int .i64 kp, .slice A ws.length cw, .bool false, .slice Ak kl ck]] w (KeyPost (endK nm ws).1 (endK nm ws).2 w):=by
  have HK:=zh (keyW_start w (calN nm) b_end kp A ws.length cw false Ak kl ck)
  have HEND:=zh (fun W (hb : Below w.heap.size w W) => r11_end nm ws A cw W B (Nat.le_trans hB hb.size) hne (hr.keep (fun _ h => h) (fun q hq => hb.cell (by have : q.block < B:=hq;omega))))
  have hl0 : ((ws.length : Int) == 0) = false:=beq_false_of_ne (by have:=List.length_pos_iff.2 hne;omega)
  generalize hQ : KeyPost (endK nm ws).1 (endK nm ws).2 w = Q
  have HQ:=zh hQ
  have HEP : Hid (∀ W e W',EndPost nm ws W e W' → ∃ d ok,e = .returned (.tuple #[calV d, .bool ok]) ∧ ok = (endK nm ws).2 ∧ (ok = true → d = (endK nm ws).1) ∧ Below W.heap.size W W') := zh (by
    rintro W e W' ⟨d,h1,h2,h3⟩
    exact ⟨d,_,h1,rfl,h2,h3⟩)
  clear hQ hr hne
  unfold calO nodO b_end calN at HK
  unfold b_end calN
  dsimp only [calV,calZ] at HK HEND ⊢
  go_enter Try.func25,Try.ntmps25
  go_upto_region 1 with fail
  (generalize World.alloc _ _ = W at HK ⊢;obtain ⟨hbw,hlow,hcal,hnode,hres⟩:=HK.out;have HB0:=zh (HEND.out W hbw);generalize hbc : w.heap.size = bc at hlow hcal hnode hres hbw HK ⊢;have HBC:=zh hbc;have HBW:=zh hbw)
  dsimp only [nodO] at hnode
  dsimp only [CalBlk,calZ] at hcal hres
  obtain ⟨g0,g1,g2,g3,g4,g5,g6,g7,g8,g9,g10,g11,g12,g13⟩:=cells14 hcal
  obtain ⟨n0,n1,n2,n3,n4,n5,n6,n7,n8,n9,n10,n11,n12,n13⟩:=cells14 hres
  have m0:=zb hnode 0;have m1:=zb hnode 1;have m2:=zb hnode 2;have m3:=zb hnode 3;have m4:=zb hnode 4
  have ly:=(Array.getElem?_eq_some_iff.1 hcal).1
  have lz:=(Array.getElem?_eq_some_iff.1 hres).1
  obtain ⟨fu0,fu1,fu2,fu3,fu4,fu5,fu6,fu7,fu8,fu9,fu10,fu11,fu12,fu13⟩:=unf14 hcal
  obtain ⟨fz0,fz1,fz2,fz3,fz4,fz5,fz6,fz7,fz8,fz9,fz10,fz11,fz12,fz13⟩:=unf14 hres
  clear hbw hcal hres hnode hlow hbc HEND
  go_wp2_with fail
  refine HB0.out.mono ?_
  intro e w1 hep
  obtain ⟨d,ok,rfl,hok,hd,hb1⟩:=HEP.out W e w1 hep
  have HD:=zh (And.intro hok hd)
  replace HK:=zh (HK.out.keep hb1)
  obtain ⟨hbw,hlow,hcal,hnode,hres⟩:=HK.out
  clear HBW hb1 hep hok hd HEP HB0 g0 fu0 n0 fz0 g1 fu1 n1 fz1 g2 fu2 n2 fz2 g3 fu3 n3 fz3 g4 fu4 n4 fz4 g5 fu5 n5 fz5 g6 fu6 n6 fz6 g7 fu7 n7 fz7 g8 fu8 n8 fz8 g9 fu9 n9 fz9 g10 fu10 n10 fz10 g11 fu11 n11 fz11 g12 fu12 n12 fz12 g13 fu13 n13 fz13 ly lz m0 m1 m2 m3 m4
  have HBW : Hid (Below bc w w1):=zh (by rw [← HBC.out];exact hbw)
  dsimp only [CalBlk] at hres
  obtain ⟨n0,n1,n2,n3,n4,n5,n6,n7,n8,n9,n10,n11,n12,n13⟩:=cells14 hres
  have lz:=(Array.getElem?_eq_some_iff.1 hres).1
  obtain ⟨fz0,fz1,fz2,fz3,fz4,fz5,fz6,fz7,fz8,fz9,fz10,fz11,fz12,fz13⟩:=unf14 hres
  obtain ⟨cnm,ckd,cdy,cmo,csh,csp,cp0,cp1,cp2,ccy,cex,cfi,cla,cpo⟩:=d
  dsimp only [calV]
  clear hbw hcal hres hnode HK hlow
  go_wp2_with fail
  refine bodyPost_ret (v:=.tuple #[.agg #[.string ⟨cnm.toArray⟩, .int .i64 ckd, .int .i64 cdy, .int .i64 cmo, .int .i64 csh, .int .i64 csp, .int .i64 cp0, .int .i64 cp1, .int .i64 cp2, .int .i64 ccy, .int .i64 cex, .int .i64 cfi, .int .i64 cla, .int .i64 cpo], .bool ok]) (by simp [results,Try.results25,go_sem, *]) rfl ?_
  rw [← HQ.out]
  unfold KeyPost
  refine ⟨⟨cnm,ckd,cdy,cmo,csh,csp,cp0,cp1,cp2,ccy,cex,cfi,cla,cpo⟩,by rw [HD.out.1];rfl,fun h => HD.out.2 (HD.out.1.trans h),?_⟩
  rw [HBC.out]
  exact belowK (bc + 1 + 1) (by omega) [(0, .string ⟨cnm.toArray⟩),(1, .int .i64 ckd),(2, .int .i64 cdy),(3, .int .i64 cmo),(4, .int .i64 csh),(5, .int .i64 csp),(6, .int .i64 cp0),(7, .int .i64 cp1),(8, .int .i64 cp2),(9, .int .i64 ccy),(10, .int .i64 cex),(11, .int .i64 cfi),(12, .int .i64 cla),(13, .int .i64 cpo)] _ HBW.out
end
section
open Go.RowKit
open Go.Joins renaming cell_of_block → zb, unfrozen_of_block → zu
open Go.Lib renaming hid → zh
theorem perK_no (c : CalL) (ws : List WordL) (h : ws.all (·.num) = false) : keyK b_periods c ws = (c,false) := by
  unfold keyK;dsimp only;rw [if_pos rfl,if_neg (by rw [h];simp)]
theorem perK_len (c : CalL) (ws : List WordL) (h : ws.all (·.num) = true) (h1 : ws.length ≠ 1) (h3 : ws.length ≠ 3) : keyK b_periods c ws = (c,false) := by
  unfold keyK;dsimp only;rw [if_pos rfl,if_pos h,if_neg h1,if_neg h3]
theorem perK_1 (c : CalL) (t : WordL) (h : [t].all (·.num) = true) : keyK b_periods c [t] = ({ c with shape := 2 },decide (t.n = 4)) := by
  unfold keyK;dsimp only;rw [if_pos rfl,if_pos h];rfl
theorem perK_3 (c : CalL) (t u x : WordL) (h : [t,u,x].all (·.num) = true) : keyK b_periods c [t,u,x] = ({ c with shape := 1,p0 := t.n,p1 := u.n,p2 := x.n },patOk t.n u.n x.n) := by
  unfold keyK;dsimp only;rw [if_pos rfl,if_pos h];rfl
theorem shapedR_pat (a b c : Int) : shapedR ⟨[],0,0,0,0,1,a,b,c,0,0,0,0,0⟩ = patOk a b c := by
  unfold shapedR;simp
set_option maxHeartbeats 16000000 in
theorem key_per_no (c : CalL) (kp : Int) (ws : List WordL) (A : Option Addr) (cw : Nat) (Ak : Option Addr) (kl ck : Nat) (w : World) (B : Nat) (hB : B ≤ w.heap.size) (hne : ws ≠ []) (hlen : ws.length ≤ 100000) (hr : ReadsM w (· < B) 4 A ws.length (ws.flatMap WordL.cells)) (hall : ws.all (·.num) = false) :
    Calls Try.prog 25 #[calV c, .agg #[.string ⟨b_periods.toArray⟩, .int .i64 kp, .slice A ws.length cw, .bool false, .slice Ak kl ck]] w (KeyPost (keyK b_periods c ws).1 (keyK b_periods c ws).2 w):=by
  have HK:=zh (keyW_start w c b_periods kp A ws.length cw false Ak kl ck)
  have HR:=zh hr
  have HALL:=zh hall
  have hl0 : ((ws.length : Int) == 0) = false:=beq_false_of_ne (by have:=List.length_pos_iff.2 hne;omega)
  generalize hQ : KeyPost (keyK b_periods c ws).1 (keyK b_periods c ws).2 w = Q
  have HQ:=zh hQ
  clear hQ hr hne hall
  unfold calO nodO b_periods at HK
  obtain ⟨cnm,ckd,cdy,cmo,csh,csp,cp0,cp1,cp2,ccy,cex,cfi,cla,cpo⟩:=c
  have HBP:=zh (show b_periods = b_periods from rfl)
  dsimp only [calV,calZ] at HK ⊢
  rw [show (b_periods.toArray : Array UInt8) = #[112,101,114,105,111,100,115] from rfl]
  go_enter Try.func25,Try.ntmps25
  go_upto_region 1 with fail
  (generalize World.alloc _ _ = W at HK ⊢;obtain ⟨hbw,hlow,hcal,hnode,hres⟩:=HK.out;generalize hbc : w.heap.size = bc at hlow hcal hnode hres hbw hB HK ⊢;have HBC:=zh hbc;have HBW:=zh hbw)
  dsimp only [nodO] at hnode
  have m0:=zb hnode 0;have m1:=zb hnode 1;have m2:=zb hnode 2;have m3:=zb hnode 3;have m4:=zb hnode 4
  have hBb : B ≤ bc:=hB
  clear hbw hcal hres hnode hlow hbc hB
  go_wp2_with fail
  go_loopw [50] (fun i wr => ∃ k : Nat,k ≤ ws.length ∧ i = .int .i64 k ∧ KeyW w wr bc ⟨cnm,ckd,cdy,cmo,csh,csp,cp0,cp1,cp2,ccy,cex,cfi,cla,cpo⟩ [112,101,114,105,111,100,115] kp A ws.length cw false Ak kl ck ∧ ws.all (·.num) = (ws.drop k).all (·.num)) (fun i _ => ws.length - (intOf i).toNat)
  case atStart => exact ⟨0,Nat.zero_le _,rfl,HK.out,rfl⟩
  case round =>
    clear m0 m1 m2 m3 m4 HK HBW
    obtain ⟨k,hk,rfl,hkw,hs⟩:=hrel
    have hb:=hkw.below
    have hbs:=hb.size
    have hlow:=hkw.low
    have hBw : B ≤ w.heap.size:=by rw [HBC.out];exact hBb
    have hk' : ∀ p : Addr,p.block < B → wr.cell? p = w.cell? p:=fun p hp => hb.cell (by omega)
    by_cases hlt : k < ws.length
    · obtain ⟨t,ht⟩ : ∃ t,ws[k]? = some t := ⟨_,List.getElem?_eq_getElem hlt⟩
      obtain ⟨ad,rfl,hadb,d0,d1,d2,d3⟩:=word_cells (HR.out.keep (fun _ h => h) hk') k t ht
      rw [all_num_drop ws k t ht] at hs
      have lk : (k : Int) < ws.length:=by omega
      have lk0 : (0 : Int) ≤ k:=by omega
      have w1f : IntKind.i64.wrap ((k : Int) + 1) = (k : Int) + 1:=by rw [IntKind.wrap_i64];omega
      obtain ⟨tb,tn,ts,tp⟩:=t
      dsimp only at *
      cases tb
      · have hs' : ws.all (·.num) = false := by rw [hs]; rfl
        have HKK:=zh (perK_no ⟨cnm,ckd,cdy,cmo,csh,csp,cp0,cp1,cp2,ccy,cex,cfi,cla,cpo⟩ ws hs')
        have hk2:=hkw.keep (below_cal wr (.cells #[.bool false, .int .i64 tn, .string ⟨ts.toArray⟩, .int .i64 tp] 47))
        have hb2:=hk2.below
        rw [HBC.out] at hb2
        have HB2:=zh hb2
        obtain ⟨_,_,hcal,_,hres⟩:=hk2
        dsimp only [CalBlk,calZ] at hcal hres
        obtain ⟨g0,g1,g2,g3,g4,g5,g6,g7,g8,g9,g10,g11,g12,g13⟩:=cells14 hcal
        have ly:=(Array.getElem?_eq_some_iff.1 hcal).1
        have lz:=(Array.getElem?_eq_some_iff.1 hres).1
        obtain ⟨fz0,fz1,fz2,fz3,fz4,fz5,fz6,fz7,fz8,fz9,fz10,fz11,fz12,fz13⟩:=unf14 hres
        obtain ⟨n0,n1,n2,n3,n4,n5,n6,n7,n8,n9,n10,n11,n12,n13⟩:=cells14 hres
        have hkc:=hkw.cal
        have hkr:=hkw.res
        clear hs hs' hkw ht hk' hb hbs hcal hres hb2 hkc hkr
        go_wp2_with fail
        refine bodyPost_ret (v:=.tuple #[.agg #[.string ⟨cnm.toArray⟩, .int .i64 ckd, .int .i64 cdy, .int .i64 cmo, .int .i64 csh, .int .i64 csp, .int .i64 cp0, .int .i64 cp1, .int .i64 cp2, .int .i64 ccy, .int .i64 cex, .int .i64 cfi, .int .i64 cla, .int .i64 cpo], .bool false]) (by simp [results,Try.results25,go_sem, *]) rfl ?_
        rw [← HQ.out,HKK.out]
        unfold KeyPost
        refine ⟨⟨cnm,ckd,cdy,cmo,csh,csp,cp0,cp1,cp2,ccy,cex,cfi,cla,cpo⟩,rfl,fun h => Bool.noConfusion h,?_⟩
        rw [HBC.out]
        exact belowK (bc + 1 + 1) (by omega) [(0, .string ⟨cnm.toArray⟩),(1, .int .i64 ckd),(2, .int .i64 cdy),(3, .int .i64 cmo),(4, .int .i64 csh),(5, .int .i64 csp),(6, .int .i64 cp0),(7, .int .i64 cp1),(8, .int .i64 cp2),(9, .int .i64 ccy),(10, .int .i64 cex),(11, .int .i64 cfi),(12, .int .i64 cla),(13, .int .i64 cpo)] _ HB2.out
      · have HS := zh (show ws.all (·.num) = (ws.drop (k + 1)).all (·.num) by rw [hs]; simp)
        have HKW:=zh hkw
        clear hs hkw ht hk' hb hbs hlow
        go_wp2_with fail
        exact ⟨⟨k + 1,by omega,by go_num,HKW.out.keep (below_cal _ _),HS.out⟩,by simp [intOf];omega⟩
    · have lk : ¬ (k : Int) < ws.length := by omega
      have hk2 : k = ws.length:=by omega
      have hs2 : ws.all (·.num) = true:=by rw [hs,hk2];simp
      exact absurd (hs2.symm.trans HALL.out) (by simp)
end
section
open Go.RowKit
open Go.Joins renaming cell_of_block → zb, unfrozen_of_block → zu
open Go.Lib renaming hid → zh
set_option maxHeartbeats 16000000 in
theorem key_per_1 (c : CalL) (kp : Int) (ws : List WordL) (A : Option Addr) (cw : Nat) (Ak : Option Addr) (kl ck : Nat) (w : World) (B : Nat) (hB : B ≤ w.heap.size) (hne : ws ≠ []) (hlen : ws.length ≤ 100000) (hr : ReadsM w (· < B) 4 A ws.length (ws.flatMap WordL.cells)) (hall : ws.all (·.num) = true) (h1 : ws.length = 1) :
    Calls Try.prog 25 #[calV c, .agg #[.string ⟨b_periods.toArray⟩, .int .i64 kp, .slice A ws.length cw, .bool false, .slice Ak kl ck]] w (KeyPost (keyK b_periods c ws).1 (keyK b_periods c ws).2 w):=by
  have HK:=zh (keyW_start w c b_periods kp A ws.length cw false Ak kl ck)
  have HR:=zh hr
  have HALL:=zh hall
  have HLN:=zh h1
  clear h1
  have hl0 : ((ws.length : Int) == 0) = false:=beq_false_of_ne (by have:=List.length_pos_iff.2 hne;omega)
  generalize hQ : KeyPost (keyK b_periods c ws).1 (keyK b_periods c ws).2 w = Q
  have HQ:=zh hQ
  clear hQ hr hne hall
  unfold calO nodO b_periods at HK
  obtain ⟨cnm,ckd,cdy,cmo,csh,csp,cp0,cp1,cp2,ccy,cex,cfi,cla,cpo⟩:=c
  have HBP:=zh (show b_periods = b_periods from rfl)
  dsimp only [calV,calZ] at HK ⊢
  rw [show (b_periods.toArray : Array UInt8) = #[112,101,114,105,111,100,115] from rfl]
  go_enter Try.func25,Try.ntmps25
  go_upto_region 1 with fail
  (generalize World.alloc _ _ = W at HK ⊢;obtain ⟨hbw,hlow,hcal,hnode,hres⟩:=HK.out;generalize hbc : w.heap.size = bc at hlow hcal hnode hres hbw hB HK ⊢;have HBC:=zh hbc;have HBW:=zh hbw)
  dsimp only [nodO] at hnode
  have m0:=zb hnode 0;have m1:=zb hnode 1;have m2:=zb hnode 2;have m3:=zb hnode 3;have m4:=zb hnode 4
  have hBb : B ≤ bc:=hB
  clear hbw hcal hres hnode hlow hbc hB
  go_wp2_with fail
  go_loopw [50] (fun i wr => ∃ k : Nat,k ≤ ws.length ∧ i = .int .i64 k ∧ KeyW w wr bc ⟨cnm,ckd,cdy,cmo,csh,csp,cp0,cp1,cp2,ccy,cex,cfi,cla,cpo⟩ [112,101,114,105,111,100,115] kp A ws.length cw false Ak kl ck ∧ ws.all (·.num) = (ws.drop k).all (·.num)) (fun i _ => ws.length - (intOf i).toNat)
  case atStart => exact ⟨0,Nat.zero_le _,rfl,HK.out,rfl⟩
  case round =>
    clear m0 m1 m2 m3 m4 HK HBW
    obtain ⟨k,hk,rfl,hkw,hs⟩:=hrel
    have hb:=hkw.below
    have hbs:=hb.size
    have hlow:=hkw.low
    have hBw : B ≤ w.heap.size:=by rw [HBC.out];exact hBb
    have hk' : ∀ p : Addr,p.block < B → wr.cell? p = w.cell? p:=fun p hp => hb.cell (by omega)
    by_cases hlt : k < ws.length
    · obtain ⟨t,ht⟩ : ∃ t,ws[k]? = some t := ⟨_,List.getElem?_eq_getElem hlt⟩
      obtain ⟨ad,rfl,hadb,d0,d1,d2,d3⟩:=word_cells (HR.out.keep (fun _ h => h) hk') k t ht
      rw [all_num_drop ws k t ht] at hs
      have lk : (k : Int) < ws.length:=by omega
      have lk0 : (0 : Int) ≤ k:=by omega
      have w1f : IntKind.i64.wrap ((k : Int) + 1) = (k : Int) + 1:=by rw [IntKind.wrap_i64];omega
      obtain ⟨tb,tn,ts,tp⟩:=t
      dsimp only at *
      cases tb
      · exact absurd (HALL.out.symm.trans hs) (by simp)
      · have HS := zh (show ws.all (·.num) = (ws.drop (k + 1)).all (·.num) by rw [hs]; simp)
        have HKW:=zh hkw
        clear hs hkw ht hk' hb hbs hlow
        go_wp2_with fail
        exact ⟨⟨k + 1,by omega,by go_num,HKW.out.keep (below_cal _ _),HS.out⟩,by simp [intOf];omega⟩
    · have lk : ¬ (k : Int) < ws.length := by omega
      have hk2 : k = ws.length:=by omega
      have hs2 : ws.all (·.num) = true:=by rw [hs,hk2];simp
      have HS2:=zh hs2
      have hr2:=HR.out.keep (fun _ h => h) hk'
      rw [HBC.out] at hb
      have HBW:=zh hb
      have hc2:=hkw.cal
      have hres:=hkw.res
      dsimp only [CalBlk,calZ] at hc2 hres
      have hcal:=hc2
      clear hc2
      obtain ⟨g0,g1,g2,g3,g4,g5,g6,g7,g8,g9,g10,g11,g12,g13⟩:=cells14 hcal
      obtain ⟨n0,n1,n2,n3,n4,n5,n6,n7,n8,n9,n10,n11,n12,n13⟩:=cells14 hres
      have ly:=(Array.getElem?_eq_some_iff.1 hcal).1
      have lz:=(Array.getElem?_eq_some_iff.1 hres).1
      obtain ⟨fu0,fu1,fu2,fu3,fu4,fu5,fu6,fu7,fu8,fu9,fu10,fu11,fu12,fu13⟩:=unf14 hcal
      obtain ⟨fz0,fz1,fz2,fz3,fz4,fz5,fz6,fz7,fz8,fz9,fz10,fz11,fz12,fz13⟩:=unf14 hres
      have HKW:=zh hkw
      clear hs hs2 hcal hres hkw hb hk'
      obtain ⟨t,rfl⟩ : ∃ t,ws = [t] := by
        match ws,HLN.out with
        | [t],_ => exact ⟨t,rfl⟩
      obtain ⟨ad,rfl,hadb,e0,e1,e2,e3⟩:=word0 hr2
      obtain ⟨tb,tn,ts,tp⟩:=t
      have hkk:=perK_1 ⟨cnm,ckd,cdy,cmo,csh,csp,cp0,cp1,cp2,ccy,cex,cfi,cla,cpo⟩ ⟨tb,tn,ts,tp⟩ HS2.out
      have hadc : ad.block ≠ bc:=by omega
      have hadz : ad.block ≠ bc + 1 + 1:=by omega
      have lk1 : ¬ (k : Int) < 1:=by simp at hk2;omega
      clear HLN hr2 HR HS2 hlt hk hl0 hlen lk hk2
      dsimp only [List.length_cons,List.length_nil,Nat.zero_add] at *
      by_cases h4 : tn = 4
      · subst h4
        have HKK:=zh hkk
        clear hkk
        go_wp2_with fail
        replace e0:=(World.cell?_setCell_other wr ⟨bc,5,none⟩ ad (.int .i64 2) (fun e => hadc (congrArg Addr.block e).symm)).trans e0
        replace e1:=(World.cell?_setCell_other wr ⟨bc,5,none⟩ ⟨ad.block,ad.off + 1,none⟩ (.int .i64 2) (fun e => hadc (congrArg Addr.block e).symm)).trans e1
        go_region
        all_goals (
          go_wp2_with fail
          refine bodyPost_ret (v:=.tuple #[.agg #[.string ⟨cnm.toArray⟩, .int .i64 ckd, .int .i64 cdy, .int .i64 cmo, .int .i64 csh, .int .i64 2, .int .i64 cp0, .int .i64 cp1, .int .i64 cp2, .int .i64 ccy, .int .i64 cex, .int .i64 cfi, .int .i64 cla, .int .i64 cpo], .bool true]) (by simp [results,Try.results25,go_sem, *]) rfl ?_
          rw [← HQ.out,HKK.out]
          unfold KeyPost
          refine ⟨⟨cnm,ckd,cdy,cmo,csh,2,cp0,cp1,cp2,ccy,cex,cfi,cla,cpo⟩,rfl,fun _ => rfl,?_⟩
          rw [HBC.out]
          exact Below.drew (belowK (bc + 1 + 1) (by omega) [(0, .string ⟨cnm.toArray⟩),(1, .int .i64 ckd),(2, .int .i64 cdy),(3, .int .i64 cmo),(4, .int .i64 csh),(5, .int .i64 2),(6, .int .i64 cp0),(7, .int .i64 cp1),(8, .int .i64 cp2),(9, .int .i64 ccy),(10, .int .i64 cex),(11, .int .i64 cfi),(12, .int .i64 cla),(13, .int .i64 cpo)] _ (belowK bc (Nat.le_refl _) [(5, .int .i64 2)] _ HBW.out)))
      · have n4 : (tn == 4) = false := beq_false_of_ne h4
        have HKK:=zh (hkk.trans (by rw [decide_eq_false h4]))
        clear hkk h4
        go_wp2_with fail
        replace e0:=(World.cell?_setCell_other wr ⟨bc,5,none⟩ ad (.int .i64 2) (fun e => hadc (congrArg Addr.block e).symm)).trans e0
        replace e1:=(World.cell?_setCell_other wr ⟨bc,5,none⟩ ⟨ad.block,ad.off + 1,none⟩ (.int .i64 2) (fun e => hadc (congrArg Addr.block e).symm)).trans e1
        go_region
        all_goals (
          go_wp2_with fail
          refine bodyPost_ret (v:=.tuple #[.agg #[.string ⟨cnm.toArray⟩, .int .i64 ckd, .int .i64 cdy, .int .i64 cmo, .int .i64 csh, .int .i64 2, .int .i64 cp0, .int .i64 cp1, .int .i64 cp2, .int .i64 ccy, .int .i64 cex, .int .i64 cfi, .int .i64 cla, .int .i64 cpo], .bool false]) (by simp [results,Try.results25,go_sem, *]) rfl ?_
          rw [← HQ.out,HKK.out]
          unfold KeyPost
          refine ⟨⟨cnm,ckd,cdy,cmo,csh,2,cp0,cp1,cp2,ccy,cex,cfi,cla,cpo⟩,rfl,fun h => Bool.noConfusion h,?_⟩
          rw [HBC.out]
          exact Below.drew (belowK (bc + 1 + 1) (by omega) [(0, .string ⟨cnm.toArray⟩),(1, .int .i64 ckd),(2, .int .i64 cdy),(3, .int .i64 cmo),(4, .int .i64 csh),(5, .int .i64 2),(6, .int .i64 cp0),(7, .int .i64 cp1),(8, .int .i64 cp2),(9, .int .i64 ccy),(10, .int .i64 cex),(11, .int .i64 cfi),(12, .int .i64 cla),(13, .int .i64 cpo)] _ (belowK bc (Nat.le_refl _) [(5, .int .i64 2)] _ HBW.out)))
end
end Go.Proofs.Ytpkhocbohhpmbaa
