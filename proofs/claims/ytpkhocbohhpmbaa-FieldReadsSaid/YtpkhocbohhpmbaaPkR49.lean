/- Layer 11 (field), the reference: the walk of Read: an item that may not be; no block of a calendar. Written by wip/gen_read.py. Then: Layer 11 (field), the reference: Read, all outcomes together. -/
import Derived.Test.YtpkhocbohhpmbaaPkR44
import Derived.Deep.DeepCutAuto
import Derived.BigRegion
import Derived.Test.YtpkhocbohhpmbaaPkR45
import Derived.Test.YtpkhocbohhpmbaaPkR46
import Derived.Test.YtpkhocbohhpmbaaPkR47
import Derived.Test.YtpkhocbohhpmbaaPkR48
set_option linter.unusedVariables false
namespace Go.Proofs.Ytpkhocbohhpmbaa
section
set_option linter.unusedSimpArgs false
set_option maxRecDepth 100000
open Go.RowKit
open Go.Joins renaming cell_of_block → zb, unfrozen_of_block → zu
open Go.Lib renaming hid → zh
set_option maxHeartbeats 16000000 in
theorem r11_Read_chk (nm : Bytes) (p : Int) (ws : List WordL) (b : Bool) (ks : List NodeL) (Aw Ak : Option Addr) (cw ck : Nat) (w : World) (B : Nat) (hB : B ≤ w.heap.size) (hn : NodeOk w (· < B) (.mk nm p ws b ks) [.string ⟨nm.toArray⟩, .int .i64 p, .slice Aw ws.length cw, .bool b, .slice Ak ks.length ck]) (hsm : cntL [.mk nm p ws b ks] ≤ 100000) (hfit : fitNs [.mk nm p ws b ks]) (hc : checkL 0 [.mk nm p ws b ks] ≠ 0) :
    Calls Try.prog 8 #[.agg #[.string ⟨nm.toArray⟩, .int .i64 p, .slice Aw ws.length cw, .bool b, .slice Ak ks.length ck]] w (fun e w' => e = .returned (.tuple #[calV calZ, .int .i64 0, .int .i64 1]) ∧ Below w.heap.size w w'):=by
  obtain ⟨ck0,hck⟩ : ∃ x,checkL 0 [.mk nm p ws b ks] = x:=⟨_,rfl⟩
  generalize hQ : (fun (e : Ending) (w' : World) => e = .returned (.tuple #[calV calZ, .int .i64 0, .int .i64 1]) ∧ Below w.heap.size w w') = Q
  have HQ:=zh hQ
  have HTC : Hid (∀ (W : World) (g B' : Nat),B' ≤ W.heap.size → ROk W B' (some ⟨g,0,none⟩) [.mk nm p ws b ks] → Calls Try.prog 22 #[.slice (some ⟨g,0,none⟩) 1 1] W fun e w' => e = .returned (.int .i64 ck0) ∧ Below W.heap.size W w') := zh (fun W g B' h1 h2 => by
    have:=ref9_Check [.mk nm p ws b ks] (some ⟨g,0,none⟩) 1 W B' hsm h1 h2 hfit
    rw [hck] at this
    exact this)
  have HN:=zh hn
  rw [hck] at hc
  have hne : (ck0 != 0) = true:=by simpa using hc
  clear hc hck
  clear hn hsm hfit hQ
  go_enter Try.func8,Try.ntmps8
  go_wp2_with fail
  have hB3:=threeK w (.cells #[.string ⟨nm.toArray⟩, .int .i64 p, .slice Aw ws.length cw, .bool b, .slice Ak ks.length ck] 25) (.cells #[.string ⟨#[]⟩, .int .i64 0, .int .i64 0, .int .i64 0, .int .i64 0, .int .i64 0, .int .i64 0, .int .i64 0, .int .i64 0, .int .i64 0, .int .i64 0, .int .i64 0, .int .i64 0, .int .i64 0] 30) (.cells #[.string ⟨nm.toArray⟩, .int .i64 p, .slice Aw ws.length cw, .bool b, .slice Ak ks.length ck] 25)
  obtain ⟨W0,hW0⟩ : ∃ W0,((w.alloc (.cells #[.string ⟨nm.toArray⟩, .int .i64 p, .slice Aw ws.length cw, .bool b, .slice Ak ks.length ck] 25)).alloc (.cells #[.string ⟨#[]⟩, .int .i64 0, .int .i64 0, .int .i64 0, .int .i64 0, .int .i64 0, .int .i64 0, .int .i64 0, .int .i64 0, .int .i64 0, .int .i64 0, .int .i64 0, .int .i64 0, .int .i64 0] 30)).alloc (.cells #[.string ⟨nm.toArray⟩, .int .i64 p, .slice Aw ws.length cw, .bool b, .slice Ak ks.length ck] 25) = W0:=⟨_,rfl⟩
  rw [hW0] at hB3
  rw [hW0]
  obtain ⟨hb0,x0,x1,x2,z0⟩:=hB3
  have hrok : ROk W0 W0.heap.size (some ⟨w.heap.size + 1 + 1,0,none⟩) [.mk nm p ws b ks] := by
    refine ⟨[.string ⟨nm.toArray⟩, .int .i64 p, .slice Aw ws.length cw, .bool b, .slice Ak ks.length ck],⟨rfl,fun _ => ⟨_,rfl,by show w.heap.size + 1 + 1 < _;omega,fun j u hu => ?_⟩⟩,NodesOk.one (NodeOk.keep (M:=(· < B)) (fun b hb => by show b < _;omega) (fun q hq => hb0.cell (by omega)) _ _ HN.out)⟩
    have : (⟨w.heap.size + 1 + 1,0,none⟩ : Addr).add j = ⟨w.heap.size + 1 + 1,j,none⟩ := by
      unfold Addr.add
      split
      · next h => subst h;rfl
      · simp
    rw [this,zb x2 j]
    simpa using hu
  refine (HTC.out W0 _ _ (Nat.le_refl _) hrok).mono ?_
  rintro e w1 ⟨rfl,hb1⟩
  have hbw : Below w.heap.size w w1:=hb0.trans (hb1.mono hb0.size)
  have y0:=(hb1.block w.heap.size (by omega)).trans x0
  have y1 : CalBlk w1 (w.heap.size + 1) calZ:=(hb1.block (w.heap.size + 1) (by omega)).trans x1
  obtain ⟨br,hbr⟩ : ∃ x,x = w.heap.size + 1:=⟨_,rfl⟩
  obtain ⟨bn,hbn⟩ : ∃ x,x = w.heap.size:=⟨_,rfl⟩
  rw [← hbr] at y1
  rw [← hbn] at y0
  rw [← hbr,← hbn]
  have hnr : br ≠ bn:=by omega
  have HBW:=zh (show Below w.heap.size w w1 ∧ w.heap.size ≤ br from ⟨hbw,by omega⟩)
  have hres:=y1
  dsimp only [CalBlk,calZ] at hres
  obtain ⟨n0,n1,n2,n3,n4,n5,n6,n7,n8,n9,n10,n11,n12,n13⟩:=cells14 hres
  obtain ⟨fz0,fz1,fz2,fz3,fz4,fz5,fz6,fz7,fz8,fz9,fz10,fz11,fz12,fz13⟩:=unf14 hres
  have lz:=(Array.getElem?_eq_some_iff.1 hres).1
  have m0:=zb y0 0
  have m1:=zb y0 1
  have m2:=zb y0 2
  have m3:=zb y0 3
  clear hW0 hb0 x0 x1 x2 z0 hrok hb1 hbw HTC y0 y1 hbr hbn HN hres
  go_wp2_with fail
  refine bodyPost_ret (v:=.tuple #[calV calZ, .int .i64 0, .int .i64 1]) (by simp [results,calV,calZ,Try.results8,go_sem, *]) rfl ?_
  rw [← HQ.out]
  exact ⟨rfl,belowK br HBW.out.2 [(0, .string ⟨#[]⟩),(1, .int .i64 0),(2, .int .i64 0),(3, .int .i64 0),(4, .int .i64 0),(5, .int .i64 0),(6, .int .i64 0),(7, .int .i64 0),(8, .int .i64 0),(9, .int .i64 0),(10, .int .i64 0),(11, .int .i64 0),(12, .int .i64 0),(13, .int .i64 0)] _ HBW.out.1⟩
set_option maxHeartbeats 16000000 in
theorem r11_Read_name (nm : Bytes) (p : Int) (ws : List WordL) (b : Bool) (ks : List NodeL) (Aw Ak : Option Addr) (cw ck : Nat) (w : World) (B : Nat) (hB : B ≤ w.heap.size) (hn : NodeOk w (· < B) (.mk nm p ws b ks) [.string ⟨nm.toArray⟩, .int .i64 p, .slice Aw ws.length cw, .bool b, .slice Ak ks.length ck]) (hsm : cntL [.mk nm p ws b ks] ≤ 100000) (hfit : fitNs [.mk nm p ws b ks]) (hc : checkL 0 [.mk nm p ws b ks] = 0) (hq : (nm == [99,97,108,101,110,100,97,114]) = false) :
    Calls Try.prog 8 #[.agg #[.string ⟨nm.toArray⟩, .int .i64 p, .slice Aw ws.length cw, .bool b, .slice Ak ks.length ck]] w (fun e w' => e = .returned (.tuple #[calV calZ, .int .i64 p, .int .i64 5]) ∧ Below w.heap.size w w'):=by
  obtain ⟨ck0,hck⟩ : ∃ x,checkL 0 [.mk nm p ws b ks] = x:=⟨_,rfl⟩
  generalize hQ : (fun (e : Ending) (w' : World) => e = .returned (.tuple #[calV calZ, .int .i64 p, .int .i64 5]) ∧ Below w.heap.size w w') = Q
  have HQ:=zh hQ
  have HTC : Hid (∀ (W : World) (g B' : Nat),B' ≤ W.heap.size → ROk W B' (some ⟨g,0,none⟩) [.mk nm p ws b ks] → Calls Try.prog 22 #[.slice (some ⟨g,0,none⟩) 1 1] W fun e w' => e = .returned (.int .i64 ck0) ∧ Below W.heap.size W w') := zh (fun W g B' h1 h2 => by
    have:=ref9_Check [.mk nm p ws b ks] (some ⟨g,0,none⟩) 1 W B' hsm h1 h2 hfit
    rw [hck] at this
    exact this)
  have HN:=zh hn
  rw [hck] at hc
  subst hc
  clear hck
  clear hn hsm hfit hQ
  go_enter Try.func8,Try.ntmps8
  go_wp2_with fail
  have hB3:=threeK w (.cells #[.string ⟨nm.toArray⟩, .int .i64 p, .slice Aw ws.length cw, .bool b, .slice Ak ks.length ck] 25) (.cells #[.string ⟨#[]⟩, .int .i64 0, .int .i64 0, .int .i64 0, .int .i64 0, .int .i64 0, .int .i64 0, .int .i64 0, .int .i64 0, .int .i64 0, .int .i64 0, .int .i64 0, .int .i64 0, .int .i64 0] 30) (.cells #[.string ⟨nm.toArray⟩, .int .i64 p, .slice Aw ws.length cw, .bool b, .slice Ak ks.length ck] 25)
  obtain ⟨W0,hW0⟩ : ∃ W0,((w.alloc (.cells #[.string ⟨nm.toArray⟩, .int .i64 p, .slice Aw ws.length cw, .bool b, .slice Ak ks.length ck] 25)).alloc (.cells #[.string ⟨#[]⟩, .int .i64 0, .int .i64 0, .int .i64 0, .int .i64 0, .int .i64 0, .int .i64 0, .int .i64 0, .int .i64 0, .int .i64 0, .int .i64 0, .int .i64 0, .int .i64 0, .int .i64 0] 30)).alloc (.cells #[.string ⟨nm.toArray⟩, .int .i64 p, .slice Aw ws.length cw, .bool b, .slice Ak ks.length ck] 25) = W0:=⟨_,rfl⟩
  rw [hW0] at hB3
  rw [hW0]
  obtain ⟨hb0,x0,x1,x2,z0⟩:=hB3
  have hrok : ROk W0 W0.heap.size (some ⟨w.heap.size + 1 + 1,0,none⟩) [.mk nm p ws b ks] := by
    refine ⟨[.string ⟨nm.toArray⟩, .int .i64 p, .slice Aw ws.length cw, .bool b, .slice Ak ks.length ck],⟨rfl,fun _ => ⟨_,rfl,by show w.heap.size + 1 + 1 < _;omega,fun j u hu => ?_⟩⟩,NodesOk.one (NodeOk.keep (M:=(· < B)) (fun b hb => by show b < _;omega) (fun q hq => hb0.cell (by omega)) _ _ HN.out)⟩
    have : (⟨w.heap.size + 1 + 1,0,none⟩ : Addr).add j = ⟨w.heap.size + 1 + 1,j,none⟩ := by
      unfold Addr.add
      split
      · next h => subst h;rfl
      · simp
    rw [this,zb x2 j]
    simpa using hu
  refine (HTC.out W0 _ _ (Nat.le_refl _) hrok).mono ?_
  rintro e w1 ⟨rfl,hb1⟩
  have hbw : Below w.heap.size w w1:=hb0.trans (hb1.mono hb0.size)
  have y0:=(hb1.block w.heap.size (by omega)).trans x0
  have y1 : CalBlk w1 (w.heap.size + 1) calZ:=(hb1.block (w.heap.size + 1) (by omega)).trans x1
  obtain ⟨br,hbr⟩ : ∃ x,x = w.heap.size + 1:=⟨_,rfl⟩
  obtain ⟨bn,hbn⟩ : ∃ x,x = w.heap.size:=⟨_,rfl⟩
  rw [← hbr] at y1
  rw [← hbn] at y0
  rw [← hbr,← hbn]
  have hnr : br ≠ bn:=by omega
  have HBW:=zh (show Below w.heap.size w w1 ∧ w.heap.size ≤ br from ⟨hbw,by omega⟩)
  have hres:=y1
  dsimp only [CalBlk,calZ] at hres
  obtain ⟨n0,n1,n2,n3,n4,n5,n6,n7,n8,n9,n10,n11,n12,n13⟩:=cells14 hres
  obtain ⟨fz0,fz1,fz2,fz3,fz4,fz5,fz6,fz7,fz8,fz9,fz10,fz11,fz12,fz13⟩:=unf14 hres
  have lz:=(Array.getElem?_eq_some_iff.1 hres).1
  have m0:=zb y0 0
  have m1:=zb y0 1
  have m2:=zb y0 2
  have m3:=zb y0 3
  clear hW0 hb0 x0 x1 x2 z0 hrok hb1 hbw HTC y0 y1 hbr hbn HN hres
  go_wp2_with fail
  go_region
  all_goals (
    go_wp2_with fail
    refine bodyPost_ret (v:=.tuple #[calV calZ, .int .i64 p, .int .i64 5]) (by simp [results,calV,calZ,Try.results8,go_sem, *]) rfl ?_
    rw [← HQ.out]
    exact ⟨rfl,Below.drew (belowK br HBW.out.2 [(0, .string ⟨#[]⟩),(1, .int .i64 0),(2, .int .i64 0),(3, .int .i64 0),(4, .int .i64 0),(5, .int .i64 0),(6, .int .i64 0),(7, .int .i64 0),(8, .int .i64 0),(9, .int .i64 0),(10, .int .i64 0),(11, .int .i64 0),(12, .int .i64 0),(13, .int .i64 0)] _ HBW.out.1)⟩)
set_option maxHeartbeats 16000000 in
theorem r11_Read_bare (nm : Bytes) (p : Int) (ws : List WordL) (ks : List NodeL) (Aw Ak : Option Addr) (cw ck : Nat) (w : World) (B : Nat) (hB : B ≤ w.heap.size) (hn : NodeOk w (· < B) (.mk nm p ws false ks) [.string ⟨nm.toArray⟩, .int .i64 p, .slice Aw ws.length cw, .bool false, .slice Ak ks.length ck]) (hsm : cntL [.mk nm p ws false ks] ≤ 100000) (hfit : fitNs [.mk nm p ws false ks]) (hc : checkL 0 [.mk nm p ws false ks] = 0) (hq : (nm == [99,97,108,101,110,100,97,114]) = true) :
    Calls Try.prog 8 #[.agg #[.string ⟨nm.toArray⟩, .int .i64 p, .slice Aw ws.length cw, .bool false, .slice Ak ks.length ck]] w (fun e w' => e = .returned (.tuple #[calV calZ, .int .i64 p, .int .i64 5]) ∧ Below w.heap.size w w'):=by
  obtain ⟨ck0,hck⟩ : ∃ x,checkL 0 [.mk nm p ws false ks] = x:=⟨_,rfl⟩
  generalize hQ : (fun (e : Ending) (w' : World) => e = .returned (.tuple #[calV calZ, .int .i64 p, .int .i64 5]) ∧ Below w.heap.size w w') = Q
  have HQ:=zh hQ
  have HTC : Hid (∀ (W : World) (g B' : Nat),B' ≤ W.heap.size → ROk W B' (some ⟨g,0,none⟩) [.mk nm p ws false ks] → Calls Try.prog 22 #[.slice (some ⟨g,0,none⟩) 1 1] W fun e w' => e = .returned (.int .i64 ck0) ∧ Below W.heap.size W w') := zh (fun W g B' h1 h2 => by
    have:=ref9_Check [.mk nm p ws false ks] (some ⟨g,0,none⟩) 1 W B' hsm h1 h2 hfit
    rw [hck] at this
    exact this)
  have HN:=zh hn
  rw [hck] at hc
  subst hc
  clear hck
  clear hn hsm hfit hQ
  go_enter Try.func8,Try.ntmps8
  go_wp2_with fail
  have hB3:=threeK w (.cells #[.string ⟨nm.toArray⟩, .int .i64 p, .slice Aw ws.length cw, .bool false, .slice Ak ks.length ck] 25) (.cells #[.string ⟨#[]⟩, .int .i64 0, .int .i64 0, .int .i64 0, .int .i64 0, .int .i64 0, .int .i64 0, .int .i64 0, .int .i64 0, .int .i64 0, .int .i64 0, .int .i64 0, .int .i64 0, .int .i64 0] 30) (.cells #[.string ⟨nm.toArray⟩, .int .i64 p, .slice Aw ws.length cw, .bool false, .slice Ak ks.length ck] 25)
  obtain ⟨W0,hW0⟩ : ∃ W0,((w.alloc (.cells #[.string ⟨nm.toArray⟩, .int .i64 p, .slice Aw ws.length cw, .bool false, .slice Ak ks.length ck] 25)).alloc (.cells #[.string ⟨#[]⟩, .int .i64 0, .int .i64 0, .int .i64 0, .int .i64 0, .int .i64 0, .int .i64 0, .int .i64 0, .int .i64 0, .int .i64 0, .int .i64 0, .int .i64 0, .int .i64 0, .int .i64 0] 30)).alloc (.cells #[.string ⟨nm.toArray⟩, .int .i64 p, .slice Aw ws.length cw, .bool false, .slice Ak ks.length ck] 25) = W0:=⟨_,rfl⟩
  rw [hW0] at hB3
  rw [hW0]
  obtain ⟨hb0,x0,x1,x2,z0⟩:=hB3
  have hrok : ROk W0 W0.heap.size (some ⟨w.heap.size + 1 + 1,0,none⟩) [.mk nm p ws false ks] := by
    refine ⟨[.string ⟨nm.toArray⟩, .int .i64 p, .slice Aw ws.length cw, .bool false, .slice Ak ks.length ck],⟨rfl,fun _ => ⟨_,rfl,by show w.heap.size + 1 + 1 < _;omega,fun j u hu => ?_⟩⟩,NodesOk.one (NodeOk.keep (M:=(· < B)) (fun b hb => by show b < _;omega) (fun q hq => hb0.cell (by omega)) _ _ HN.out)⟩
    have : (⟨w.heap.size + 1 + 1,0,none⟩ : Addr).add j = ⟨w.heap.size + 1 + 1,j,none⟩ := by
      unfold Addr.add
      split
      · next h => subst h;rfl
      · simp
    rw [this,zb x2 j]
    simpa using hu
  refine (HTC.out W0 _ _ (Nat.le_refl _) hrok).mono ?_
  rintro e w1 ⟨rfl,hb1⟩
  have hbw : Below w.heap.size w w1:=hb0.trans (hb1.mono hb0.size)
  have y0:=(hb1.block w.heap.size (by omega)).trans x0
  have y1 : CalBlk w1 (w.heap.size + 1) calZ:=(hb1.block (w.heap.size + 1) (by omega)).trans x1
  obtain ⟨br,hbr⟩ : ∃ x,x = w.heap.size + 1:=⟨_,rfl⟩
  obtain ⟨bn,hbn⟩ : ∃ x,x = w.heap.size:=⟨_,rfl⟩
  rw [← hbr] at y1
  rw [← hbn] at y0
  rw [← hbr,← hbn]
  have hnr : br ≠ bn:=by omega
  have HBW:=zh (show Below w.heap.size w w1 ∧ w.heap.size ≤ br from ⟨hbw,by omega⟩)
  have hres:=y1
  dsimp only [CalBlk,calZ] at hres
  obtain ⟨n0,n1,n2,n3,n4,n5,n6,n7,n8,n9,n10,n11,n12,n13⟩:=cells14 hres
  obtain ⟨fz0,fz1,fz2,fz3,fz4,fz5,fz6,fz7,fz8,fz9,fz10,fz11,fz12,fz13⟩:=unf14 hres
  have lz:=(Array.getElem?_eq_some_iff.1 hres).1
  have m0:=zb y0 0
  have m1:=zb y0 1
  have m2:=zb y0 2
  have m3:=zb y0 3
  clear hW0 hb0 x0 x1 x2 z0 hrok hb1 hbw HTC y0 y1 hbr hbn HN hres
  go_wp2_with fail
  go_region
  all_goals (
    go_wp2_with fail
    refine bodyPost_ret (v:=.tuple #[calV calZ, .int .i64 p, .int .i64 5]) (by simp [results,calV,calZ,Try.results8,go_sem, *]) rfl ?_
    rw [← HQ.out]
    exact ⟨rfl,Below.drew (belowK br HBW.out.2 [(0, .string ⟨#[]⟩),(1, .int .i64 0),(2, .int .i64 0),(3, .int .i64 0),(4, .int .i64 0),(5, .int .i64 0),(6, .int .i64 0),(7, .int .i64 0),(8, .int .i64 0),(9, .int .i64 0),(10, .int .i64 0),(11, .int .i64 0),(12, .int .i64 0),(13, .int .i64 0)] _ HBW.out.1)⟩)
set_option maxHeartbeats 16000000 in
theorem r11_Read_words (nm : Bytes) (p : Int) (ws : List WordL) (ks : List NodeL) (Aw Ak : Option Addr) (cw ck : Nat) (w : World) (B : Nat) (hB : B ≤ w.heap.size) (hn : NodeOk w (· < B) (.mk nm p ws true ks) [.string ⟨nm.toArray⟩, .int .i64 p, .slice Aw ws.length cw, .bool true, .slice Ak ks.length ck]) (hsm : cntL [.mk nm p ws true ks] ≤ 100000) (hfit : fitNs [.mk nm p ws true ks]) (hc : checkL 0 [.mk nm p ws true ks] = 0) (hq : (nm == [99,97,108,101,110,100,97,114]) = true) (hl : ((ws.length : Int) != 1) = true) :
    Calls Try.prog 8 #[.agg #[.string ⟨nm.toArray⟩, .int .i64 p, .slice Aw ws.length cw, .bool true, .slice Ak ks.length ck]] w (fun e w' => e = .returned (.tuple #[calV calZ, .int .i64 p, .int .i64 5]) ∧ Below w.heap.size w w'):=by
  obtain ⟨ck0,hck⟩ : ∃ x,checkL 0 [.mk nm p ws true ks] = x:=⟨_,rfl⟩
  generalize hQ : (fun (e : Ending) (w' : World) => e = .returned (.tuple #[calV calZ, .int .i64 p, .int .i64 5]) ∧ Below w.heap.size w w') = Q
  have HQ:=zh hQ
  have HTC : Hid (∀ (W : World) (g B' : Nat),B' ≤ W.heap.size → ROk W B' (some ⟨g,0,none⟩) [.mk nm p ws true ks] → Calls Try.prog 22 #[.slice (some ⟨g,0,none⟩) 1 1] W fun e w' => e = .returned (.int .i64 ck0) ∧ Below W.heap.size W w') := zh (fun W g B' h1 h2 => by
    have:=ref9_Check [.mk nm p ws true ks] (some ⟨g,0,none⟩) 1 W B' hsm h1 h2 hfit
    rw [hck] at this
    exact this)
  have HN:=zh hn
  rw [hck] at hc
  subst hc
  clear hck
  clear hn hsm hfit hQ
  go_enter Try.func8,Try.ntmps8
  go_wp2_with fail
  have hB3:=threeK w (.cells #[.string ⟨nm.toArray⟩, .int .i64 p, .slice Aw ws.length cw, .bool true, .slice Ak ks.length ck] 25) (.cells #[.string ⟨#[]⟩, .int .i64 0, .int .i64 0, .int .i64 0, .int .i64 0, .int .i64 0, .int .i64 0, .int .i64 0, .int .i64 0, .int .i64 0, .int .i64 0, .int .i64 0, .int .i64 0, .int .i64 0] 30) (.cells #[.string ⟨nm.toArray⟩, .int .i64 p, .slice Aw ws.length cw, .bool true, .slice Ak ks.length ck] 25)
  obtain ⟨W0,hW0⟩ : ∃ W0,((w.alloc (.cells #[.string ⟨nm.toArray⟩, .int .i64 p, .slice Aw ws.length cw, .bool true, .slice Ak ks.length ck] 25)).alloc (.cells #[.string ⟨#[]⟩, .int .i64 0, .int .i64 0, .int .i64 0, .int .i64 0, .int .i64 0, .int .i64 0, .int .i64 0, .int .i64 0, .int .i64 0, .int .i64 0, .int .i64 0, .int .i64 0, .int .i64 0] 30)).alloc (.cells #[.string ⟨nm.toArray⟩, .int .i64 p, .slice Aw ws.length cw, .bool true, .slice Ak ks.length ck] 25) = W0:=⟨_,rfl⟩
  rw [hW0] at hB3
  rw [hW0]
  obtain ⟨hb0,x0,x1,x2,z0⟩:=hB3
  have hrok : ROk W0 W0.heap.size (some ⟨w.heap.size + 1 + 1,0,none⟩) [.mk nm p ws true ks] := by
    refine ⟨[.string ⟨nm.toArray⟩, .int .i64 p, .slice Aw ws.length cw, .bool true, .slice Ak ks.length ck],⟨rfl,fun _ => ⟨_,rfl,by show w.heap.size + 1 + 1 < _;omega,fun j u hu => ?_⟩⟩,NodesOk.one (NodeOk.keep (M:=(· < B)) (fun b hb => by show b < _;omega) (fun q hq => hb0.cell (by omega)) _ _ HN.out)⟩
    have : (⟨w.heap.size + 1 + 1,0,none⟩ : Addr).add j = ⟨w.heap.size + 1 + 1,j,none⟩ := by
      unfold Addr.add
      split
      · next h => subst h;rfl
      · simp
    rw [this,zb x2 j]
    simpa using hu
  refine (HTC.out W0 _ _ (Nat.le_refl _) hrok).mono ?_
  rintro e w1 ⟨rfl,hb1⟩
  have hbw : Below w.heap.size w w1:=hb0.trans (hb1.mono hb0.size)
  have y0:=(hb1.block w.heap.size (by omega)).trans x0
  have y1 : CalBlk w1 (w.heap.size + 1) calZ:=(hb1.block (w.heap.size + 1) (by omega)).trans x1
  obtain ⟨br,hbr⟩ : ∃ x,x = w.heap.size + 1:=⟨_,rfl⟩
  obtain ⟨bn,hbn⟩ : ∃ x,x = w.heap.size:=⟨_,rfl⟩
  rw [← hbr] at y1
  rw [← hbn] at y0
  rw [← hbr,← hbn]
  have hnr : br ≠ bn:=by omega
  have HBW:=zh (show Below w.heap.size w w1 ∧ w.heap.size ≤ br from ⟨hbw,by omega⟩)
  have hres:=y1
  dsimp only [CalBlk,calZ] at hres
  obtain ⟨n0,n1,n2,n3,n4,n5,n6,n7,n8,n9,n10,n11,n12,n13⟩:=cells14 hres
  obtain ⟨fz0,fz1,fz2,fz3,fz4,fz5,fz6,fz7,fz8,fz9,fz10,fz11,fz12,fz13⟩:=unf14 hres
  have lz:=(Array.getElem?_eq_some_iff.1 hres).1
  have m0:=zb y0 0
  have m1:=zb y0 1
  have m2:=zb y0 2
  have m3:=zb y0 3
  clear hW0 hb0 x0 x1 x2 z0 hrok hb1 hbw HTC y0 y1 hbr hbn HN hres
  go_wp2_with fail
  go_region
  all_goals (
    go_wp2_with fail
    refine bodyPost_ret (v:=.tuple #[calV calZ, .int .i64 p, .int .i64 5]) (by simp [results,calV,calZ,Try.results8,go_sem, *]) rfl ?_
    rw [← HQ.out]
    exact ⟨rfl,Below.drew (belowK br HBW.out.2 [(0, .string ⟨#[]⟩),(1, .int .i64 0),(2, .int .i64 0),(3, .int .i64 0),(4, .int .i64 0),(5, .int .i64 0),(6, .int .i64 0),(7, .int .i64 0),(8, .int .i64 0),(9, .int .i64 0),(10, .int .i64 0),(11, .int .i64 0),(12, .int .i64 0),(13, .int .i64 0)] _ HBW.out.1)⟩)
set_option maxHeartbeats 16000000 in
theorem r11_Read_num (nm : Bytes) (p : Int) (ws : List WordL) (ks : List NodeL) (ad : Addr) (Ak : Option Addr) (cw ck : Nat) (w : World) (B : Nat) (hB : B ≤ w.heap.size) (hn : NodeOk w (· < B) (.mk nm p ws true ks) [.string ⟨nm.toArray⟩, .int .i64 p, .slice (some ad) ws.length cw, .bool true, .slice Ak ks.length ck]) (hsm : cntL [.mk nm p ws true ks] ≤ 100000) (hfit : fitNs [.mk nm p ws true ks]) (hc : checkL 0 [.mk nm p ws true ks] = 0) (hq : (nm == [99,97,108,101,110,100,97,114]) = true) (hl : ws.length = 1) (hadb : ad.block < B) (v0 : w.cell? ad = some (.bool true)) :
    Calls Try.prog 8 #[.agg #[.string ⟨nm.toArray⟩, .int .i64 p, .slice (some ad) ws.length cw, .bool true, .slice Ak ks.length ck]] w (fun e w' => e = .returned (.tuple #[calV calZ, .int .i64 p, .int .i64 5]) ∧ Below w.heap.size w w'):=by
  obtain ⟨ck0,hck⟩ : ∃ x,checkL 0 [.mk nm p ws true ks] = x:=⟨_,rfl⟩
  generalize hQ : (fun (e : Ending) (w' : World) => e = .returned (.tuple #[calV calZ, .int .i64 p, .int .i64 5]) ∧ Below w.heap.size w w') = Q
  have HQ:=zh hQ
  have HTC : Hid (∀ (W : World) (g B' : Nat),B' ≤ W.heap.size → ROk W B' (some ⟨g,0,none⟩) [.mk nm p ws true ks] → Calls Try.prog 22 #[.slice (some ⟨g,0,none⟩) 1 1] W fun e w' => e = .returned (.int .i64 ck0) ∧ Below W.heap.size W w') := zh (fun W g B' h1 h2 => by
    have:=ref9_Check [.mk nm p ws true ks] (some ⟨g,0,none⟩) 1 W B' hsm h1 h2 hfit
    rw [hck] at this
    exact this)
  have HN:=zh hn
  rw [hck] at hc
  subst hc
  clear hck
  have hl1 : ((ws.length : Int) != 1) = false:=by simp;omega
  have lw0 : (0 : Int) < ws.length:=by omega
  have HL:=zh hl
  clear hl
  clear hn hsm hfit hQ
  go_enter Try.func8,Try.ntmps8
  go_wp2_with fail
  have hB3:=threeK w (.cells #[.string ⟨nm.toArray⟩, .int .i64 p, .slice (some ad) ws.length cw, .bool true, .slice Ak ks.length ck] 25) (.cells #[.string ⟨#[]⟩, .int .i64 0, .int .i64 0, .int .i64 0, .int .i64 0, .int .i64 0, .int .i64 0, .int .i64 0, .int .i64 0, .int .i64 0, .int .i64 0, .int .i64 0, .int .i64 0, .int .i64 0] 30) (.cells #[.string ⟨nm.toArray⟩, .int .i64 p, .slice (some ad) ws.length cw, .bool true, .slice Ak ks.length ck] 25)
  obtain ⟨W0,hW0⟩ : ∃ W0,((w.alloc (.cells #[.string ⟨nm.toArray⟩, .int .i64 p, .slice (some ad) ws.length cw, .bool true, .slice Ak ks.length ck] 25)).alloc (.cells #[.string ⟨#[]⟩, .int .i64 0, .int .i64 0, .int .i64 0, .int .i64 0, .int .i64 0, .int .i64 0, .int .i64 0, .int .i64 0, .int .i64 0, .int .i64 0, .int .i64 0, .int .i64 0, .int .i64 0] 30)).alloc (.cells #[.string ⟨nm.toArray⟩, .int .i64 p, .slice (some ad) ws.length cw, .bool true, .slice Ak ks.length ck] 25) = W0:=⟨_,rfl⟩
  rw [hW0] at hB3
  rw [hW0]
  obtain ⟨hb0,x0,x1,x2,z0⟩:=hB3
  have hrok : ROk W0 W0.heap.size (some ⟨w.heap.size + 1 + 1,0,none⟩) [.mk nm p ws true ks] := by
    refine ⟨[.string ⟨nm.toArray⟩, .int .i64 p, .slice (some ad) ws.length cw, .bool true, .slice Ak ks.length ck],⟨rfl,fun _ => ⟨_,rfl,by show w.heap.size + 1 + 1 < _;omega,fun j u hu => ?_⟩⟩,NodesOk.one (NodeOk.keep (M:=(· < B)) (fun b hb => by show b < _;omega) (fun q hq => hb0.cell (by omega)) _ _ HN.out)⟩
    have : (⟨w.heap.size + 1 + 1,0,none⟩ : Addr).add j = ⟨w.heap.size + 1 + 1,j,none⟩ := by
      unfold Addr.add
      split
      · next h => subst h;rfl
      · simp
    rw [this,zb x2 j]
    simpa using hu
  refine (HTC.out W0 _ _ (Nat.le_refl _) hrok).mono ?_
  rintro e w1 ⟨rfl,hb1⟩
  have hbw : Below w.heap.size w w1:=hb0.trans (hb1.mono hb0.size)
  have y0:=(hb1.block w.heap.size (by omega)).trans x0
  have y1 : CalBlk w1 (w.heap.size + 1) calZ:=(hb1.block (w.heap.size + 1) (by omega)).trans x1
  obtain ⟨br,hbr⟩ : ∃ x,x = w.heap.size + 1:=⟨_,rfl⟩
  obtain ⟨bn,hbn⟩ : ∃ x,x = w.heap.size:=⟨_,rfl⟩
  rw [← hbr] at y1
  rw [← hbn] at y0
  rw [← hbr,← hbn]
  have hnr : br ≠ bn:=by omega
  have HBW:=zh (show Below w.heap.size w w1 ∧ w.heap.size ≤ br from ⟨hbw,by omega⟩)
  have hres:=y1
  dsimp only [CalBlk,calZ] at hres
  obtain ⟨n0,n1,n2,n3,n4,n5,n6,n7,n8,n9,n10,n11,n12,n13⟩:=cells14 hres
  obtain ⟨fz0,fz1,fz2,fz3,fz4,fz5,fz6,fz7,fz8,fz9,fz10,fz11,fz12,fz13⟩:=unf14 hres
  have lz:=(Array.getElem?_eq_some_iff.1 hres).1
  have m0:=zb y0 0
  have m1:=zb y0 1
  have m2:=zb y0 2
  have m3:=zb y0 3
  have v1:=(hbw.cell (p:=ad) (by omega)).trans v0
  have hadr : ad.block ≠ br:=by omega
  clear hW0 hb0 x0 x1 x2 z0 hrok hb1 hbw HTC y0 y1 hbr hbn HN hres
  go_wp2_with fail
  go_region
  all_goals (
    go_wp2_with fail
    refine bodyPost_ret (v:=.tuple #[calV calZ, .int .i64 p, .int .i64 5]) (by simp [results,calV,calZ,Try.results8,go_sem, *]) rfl ?_
    rw [← HQ.out]
    exact ⟨rfl,Below.drew (belowK br HBW.out.2 [(0, .string ⟨#[]⟩),(1, .int .i64 0),(2, .int .i64 0),(3, .int .i64 0),(4, .int .i64 0),(5, .int .i64 0),(6, .int .i64 0),(7, .int .i64 0),(8, .int .i64 0),(9, .int .i64 0),(10, .int .i64 0),(11, .int .i64 0),(12, .int .i64 0),(13, .int .i64 0)] _ HBW.out.1)⟩)
end
section
open Go.RowKit
theorem read_to {n : NodeL} {w : World} {f : FuncId} {args : Array Value} {c : CalL} {a e : Int} (hr : readC n = ⟨c,a,e⟩)
    (h : Calls Try.prog f args w (fun e' w' => e' = .returned (.tuple #[calV c, .int .i64 a, .int .i64 e]) ∧ Below w.heap.size w w')) : Calls Try.prog f args w (ReadPost n w):=by
  refine h.mono ?_
  rintro e' w' ⟨h1,h2⟩
  unfold ReadPost
  rw [hr]
  exact ⟨h1,h2⟩
/-- The reference reads an item as the plain function does. -/
theorem r11_Read (n : NodeL) (cs : List Value) (w : World) (B : Nat) (hB : B ≤ w.heap.size) (hn : NodeOk w (· < B) n cs) (hcap : ∀ A m c,Value.slice A m c ∈ cs → m ≤ c) (hsm : cntL [n] ≤ 100000) (hfit : fitNs [n]) :
    Calls Try.prog 8 #[.agg cs.toArray] w (ReadPost n w):=by
  have hn0:=hn
  obtain ⟨nm,p,ws,b,ks⟩:=n
  simp only [NodeOk] at hn
  obtain ⟨Aw,cw,Ak,ck,kcs,rfl,n1,n2,hrw,hrk,hks⟩:=hn
  by_cases hc : checkL 0 [.mk nm p ws b ks] = 0
  case neg => exact read_to (by unfold readC;rw [if_pos hc]) (r11_Read_chk nm p ws b ks Aw Ak cw ck w B hB hn0 hsm hfit hc)
  have hform:=readC_form nm p ws b ks hc
  by_cases hq : nm = b_calendar
  case neg => exact read_to (hform (.inl hq)) (r11_Read_name nm p ws b ks Aw Ak cw ck w B hB hn0 hsm hfit hc (beq_false_of_ne hq))
  subst hq
  have hqt : ((b_calendar : Bytes) == [99,97,108,101,110,100,97,114]) = true:=by rfl
  cases b
  · exact read_to (hform (.inr (.inl rfl))) (r11_Read_bare b_calendar p ws ks Aw Ak cw ck w B hB hn0 hsm hfit hc hqt)
  by_cases hl : ws.length = 1
  case neg => exact read_to (hform (.inr (.inr (.inl hl)))) (r11_Read_words b_calendar p ws ks Aw Ak cw ck w B hB hn0 hsm hfit hc hqt (by simp;omega))
  obtain ⟨t,rfl⟩ : ∃ t,ws = [t] := by
    match ws,hl with
    | [t],_ => exact ⟨t,rfl⟩
  obtain ⟨ad,rfl,hadb,w0,_,_,_⟩:=word0 hrw
  obtain ⟨tb,tn,ts,tp⟩:=t
  cases tb
  case true => exact read_to (hform (.inr (.inr (.inr rfl)))) (r11_Read_num b_calendar p [⟨true,tn,ts,tp⟩] ks ad Ak cw ck w B hB hn0 hsm hfit hc hqt rfl hadb w0)
  have hb := readC_block b_calendar p [⟨false,tn,ts,tp⟩] true ks hc (by
    rintro (h | h | h | h)
    · exact h rfl
    · cases h
    · exact h rfl
    · cases h)
  have hck : ks.length ≤ ck:=hcap Ak _ _ (by simp)
  have hend : ∀ {p' e' : Int} {c' : CalL},readBlock (.mk b_calendar p [⟨false,tn,ts,tp⟩] true ks) = ⟨c',p',e'⟩ → readC (.mk b_calendar p [⟨false,tn,ts,tp⟩] true ks) = ⟨c',p',e'⟩:=fun h => hb.trans h
  match hp : passL ts [] ks with
  | some (p',er) =>
    exact read_to (hend (rb_inl (formed_some hp))) (r11_Read_pass p tn ts tp ks ad cw Ak ck w B hB hn0 hsm hfit hc hck p' er hp)
  | none =>
    cases heb : (ks.map NodeL.name).contains b_end
    · refine read_to (hend ?_) (r11_Read_noEnd p tn ts tp ks ad cw Ak ck w B hB hn0 hsm hfit hc hck hp heb)
      show (match formedL ts [] none ks with
        | .inl (p,e) => (⟨calZ,p,e⟩ : CalR)
        | .inr none => ⟨calZ,p,10⟩
        | .inr (some c) => _) = _
      rw [formed_noEnd hp heb]
    · have hF := formed_good hp heb
      match hf : fitsL (putEnd ts (calN ts) ks).kind [] ks with
      | some (p',er) => exact read_to (hend (rb_fits hF hf)) (r11_Read_fits p tn ts tp ks ad cw Ak ck w B hB hn0 hsm hfit hc hck hp heb p' er hf)
      | none =>
        cases hms : missL (putEnd ts (calN ts) ks).kind (ks.map NodeL.name)
        · cases hok : okC (putAll (putEnd ts (calN ts) ks) ks)
          · exact read_to (hend (rb_arg hF hf hms hok)) (r11_Read_end p tn ts tp ks ad cw Ak ck w B hB hn0 hsm hfit hc hck hp heb hf hms false hok)
          · exact read_to (hend (rb_ok hF hf hms hok)) (r11_Read_end p tn ts tp ks ad cw Ak ck w B hB hn0 hsm hfit hc hck hp heb hf hms true hok)
        · exact read_to (hend (rb_miss hF hf hms)) (r11_Read_miss p tn ts tp ks ad cw Ak ck w B hB hn0 hsm hfit hc hck hp heb hf hms)
end
end Go.Proofs.Ytpkhocbohhpmbaa
