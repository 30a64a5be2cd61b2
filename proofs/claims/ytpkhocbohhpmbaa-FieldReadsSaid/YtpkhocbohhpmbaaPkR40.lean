/- Layer 11 (field), the reference: the walk of end: the ends last, near, month. Then: Layer 11 (field), the reference: the walk of end: the ends last, near, with all their words. -/
import Derived.Test.YtpkhocbohhpmbaaPkR39
import Derived.BigRegion
set_option linter.unusedVariables false
set_option linter.unusedSimpArgs false
set_option maxRecDepth 100000
namespace Go.Proofs.Ytpkhocbohhpmbaa
section
open Go.RowKit
open Go.Lib renaming hid → zh
theorem endB_no12 (nm : Bytes) (ws : List WordL) (k : Int) (hk : k = 1 ∨ k = 2) (hl : ws.length ≠ 3) : endB nm ws k = ({ calZ with name := nm,kind := k },false) := by
  unfold endB fixedC
  rw [if_neg (by omega),if_neg (by omega)]
  dsimp only
  rw [if_neg (by omega),if_neg (by omega),if_neg (by omega)]
theorem endB_no6 (nm : Bytes) (ws : List WordL) (hl : ws.length ≠ 2) : endB nm ws 6 = ({ calZ with name := nm,kind := 6 },false) := by
  unfold endB fixedC
  rw [if_neg (by omega),if_neg (by omega)]
  dsimp only
  rw [if_neg (by omega),if_neg (by omega),if_neg (by omega)]
theorem endB_12 (nm : Bytes) (t u x : WordL) (k : Int) (hk : k = 1 ∨ k = 2) : endB nm [t,u,x] k = ({ calZ with name := nm,kind := k,day := placeW days u,month := placeW mons x },decide (0 < placeW days u) && decide (0 < placeW mons x)) := by
  unfold endB fixedC
  rw [if_neg (by omega),if_neg (by omega)]
  dsimp only
  rw [if_neg (by omega),if_neg (by omega),if_pos (by simp;omega)]
  rfl
theorem endB_6 (nm : Bytes) (t u : WordL) : endB nm [t,u] 6 = ({ calZ with name := nm,kind := 6,shape := 5,month := placeW mons u },decide (0 < placeW mons u)) := by
  unfold endB fixedC
  rw [if_neg (by omega),if_neg (by omega)]
  dsimp only
  rw [if_neg (by omega),if_pos (by simp)]
  rfl
set_option maxHeartbeats 8000000 in
theorem r11_end_1no (nm : Bytes) (num : Bool) (n : Int) (s : Bytes) (pos : Int) (rest : List WordL) (ad : Addr) (cp : Nat) (w : World) (hk : placeW endsL ⟨num,n,s,pos⟩ = 1) (hr : rest.length ≠ 2) (hlt : ad.block < w.heap.size)
    (c0 : w.cell? ad = some (.bool num)) (c1 : w.cell? ⟨ad.block,ad.off + 1,none⟩ = some (.int .i64 n)) (c2 : w.cell? ⟨ad.block,ad.off + 2,none⟩ = some (.string ⟨s.toArray⟩)) (c3 : w.cell? ⟨ad.block,ad.off + 3,none⟩ = some (.int .i64 pos)) :
    Calls Try.prog 59 #[calV { calZ with name:=nm }, .slice (some ad) (rest.length + 1) cp] w (EndPost nm (⟨num,n,s,pos⟩ :: rest) w):=by
  have HT:=zh (three w (calZn nm) (calZn []) endsO)
  have HPL:=zh (fun W g c h => r11_place endsL ⟨num,n,s,pos⟩ g c W (by decide) h)
  rw [hk] at HPL
  have HEN:=zh ((endK_eq nm (⟨num,n,s,pos⟩ :: rest) 1 hk).trans (endB_no12 _ _ _ (by decide) (by simp;omega)))
  have hl : ((rest.length : Int) + 1 != 3) = true:=by simp;omega
  generalize hQ : EndPost nm (⟨num,n,s,pos⟩ :: rest) w = Q
  have HQ:=zh hQ
  have a0:=(HT.out.1.cell hlt).trans c0
  have a1:=(HT.out.1.cell (p:=⟨ad.block,ad.off + 1,none⟩) hlt).trans c1
  have a2:=(HT.out.1.cell (p:=⟨ad.block,ad.off + 2,none⟩) hlt).trans c2
  have a3:=(HT.out.1.cell (p:=⟨ad.block,ad.off + 3,none⟩) hlt).trans c3
  have HSB:=zh (endsO_blk HT.out.2.2.2.1)
  unfold calZn endsO at HT a0 a1 a2 a3 HSB
  clear hk hQ c0 c1 c2 c3 hr
  dsimp only [calV,calZ]
  go_enter Try.func59,Try.ntmps59
  go_wp2_with fail
  refine (HPL.out _ _ _ HSB.out).mono ?_
  rintro e w1 ⟨rfl,hb1⟩
  have y1:=(hb1.block w.heap.size (by simp;omega)).trans HT.out.2.1
  have z1:=(hb1.block (w.heap.size + 1) (by simp)).trans HT.out.2.2.1
  have HB1:=zh (HT.out.1.trans (hb1.mono HT.out.1.size))
  obtain ⟨g0,g1,g2,g3,g4,g5,g6,g7,g8,g9,g10,g11,g12,g13⟩:=cells14 y1
  obtain ⟨n0,n1,n2,n3,n4,n5,n6,n7,n8,n9,n10,n11,n12,n13⟩:=cells14 z1
  have ly:=(Array.getElem?_eq_some_iff.1 y1).1
  have lz:=(Array.getElem?_eq_some_iff.1 z1).1
  obtain ⟨fu0,fu1,fu2,fu3,fu4,fu5,fu6,fu7,fu8,fu9,fu10,fu11,fu12,fu13⟩:=unf14 y1
  obtain ⟨fz0,fz1,fz2,fz3,fz4,fz5,fz6,fz7,fz8,fz9,fz10,fz11,fz12,fz13⟩:=unf14 z1
  clear hb1 y1 z1 a0 a1 a2 a3
  go_wp2_with fail
  refine bodyPost_ret (v:=.tuple #[.agg #[.string ⟨nm.toArray⟩, .int .i64 1, .int .i64 0, .int .i64 0, .int .i64 0, .int .i64 0, .int .i64 0, .int .i64 0, .int .i64 0, .int .i64 0, .int .i64 0, .int .i64 0, .int .i64 0, .int .i64 0], .bool false]) (by simp [results,Try.results59,go_sem, *]) rfl ?_
  rw [← HQ.out]
  unfold EndPost
  rw [HEN.out]
  refine ⟨{ calZ with name:=nm,kind:=1 },rfl,fun _ => rfl,?_⟩
  exact belowS (w.heap.size + 1) (Nat.le_succ _) [(0, .string ⟨nm.toArray⟩),(1, .int .i64 1),(2, .int .i64 0),(3, .int .i64 0),(4, .int .i64 0),(5, .int .i64 0),(6, .int .i64 0),(7, .int .i64 0),(8, .int .i64 0),(9, .int .i64 0),(10, .int .i64 0),(11, .int .i64 0),(12, .int .i64 0),(13, .int .i64 0)] _ (belowS w.heap.size (Nat.le_refl _) [(1, .int .i64 1)] _ HB1.out)
set_option maxHeartbeats 8000000 in
theorem r11_end_2no (nm : Bytes) (num : Bool) (n : Int) (s : Bytes) (pos : Int) (rest : List WordL) (ad : Addr) (cp : Nat) (w : World) (hk : placeW endsL ⟨num,n,s,pos⟩ = 2) (hr : rest.length ≠ 2) (hlt : ad.block < w.heap.size)
    (c0 : w.cell? ad = some (.bool num)) (c1 : w.cell? ⟨ad.block,ad.off + 1,none⟩ = some (.int .i64 n)) (c2 : w.cell? ⟨ad.block,ad.off + 2,none⟩ = some (.string ⟨s.toArray⟩)) (c3 : w.cell? ⟨ad.block,ad.off + 3,none⟩ = some (.int .i64 pos)) :
    Calls Try.prog 59 #[calV { calZ with name:=nm }, .slice (some ad) (rest.length + 1) cp] w (EndPost nm (⟨num,n,s,pos⟩ :: rest) w):=by
  have HT:=zh (three w (calZn nm) (calZn []) endsO)
  have HPL:=zh (fun W g c h => r11_place endsL ⟨num,n,s,pos⟩ g c W (by decide) h)
  rw [hk] at HPL
  have HEN:=zh ((endK_eq nm (⟨num,n,s,pos⟩ :: rest) 2 hk).trans (endB_no12 _ _ _ (by decide) (by simp;omega)))
  have hl : ((rest.length : Int) + 1 != 3) = true:=by simp;omega
  generalize hQ : EndPost nm (⟨num,n,s,pos⟩ :: rest) w = Q
  have HQ:=zh hQ
  have a0:=(HT.out.1.cell hlt).trans c0
  have a1:=(HT.out.1.cell (p:=⟨ad.block,ad.off + 1,none⟩) hlt).trans c1
  have a2:=(HT.out.1.cell (p:=⟨ad.block,ad.off + 2,none⟩) hlt).trans c2
  have a3:=(HT.out.1.cell (p:=⟨ad.block,ad.off + 3,none⟩) hlt).trans c3
  have HSB:=zh (endsO_blk HT.out.2.2.2.1)
  unfold calZn endsO at HT a0 a1 a2 a3 HSB
  clear hk hQ c0 c1 c2 c3 hr
  dsimp only [calV,calZ]
  go_enter Try.func59,Try.ntmps59
  go_wp2_with fail
  refine (HPL.out _ _ _ HSB.out).mono ?_
  rintro e w1 ⟨rfl,hb1⟩
  have y1:=(hb1.block w.heap.size (by simp;omega)).trans HT.out.2.1
  have z1:=(hb1.block (w.heap.size + 1) (by simp)).trans HT.out.2.2.1
  have HB1:=zh (HT.out.1.trans (hb1.mono HT.out.1.size))
  obtain ⟨g0,g1,g2,g3,g4,g5,g6,g7,g8,g9,g10,g11,g12,g13⟩:=cells14 y1
  obtain ⟨n0,n1,n2,n3,n4,n5,n6,n7,n8,n9,n10,n11,n12,n13⟩:=cells14 z1
  have ly:=(Array.getElem?_eq_some_iff.1 y1).1
  have lz:=(Array.getElem?_eq_some_iff.1 z1).1
  obtain ⟨fu0,fu1,fu2,fu3,fu4,fu5,fu6,fu7,fu8,fu9,fu10,fu11,fu12,fu13⟩:=unf14 y1
  obtain ⟨fz0,fz1,fz2,fz3,fz4,fz5,fz6,fz7,fz8,fz9,fz10,fz11,fz12,fz13⟩:=unf14 z1
  clear hb1 y1 z1 a0 a1 a2 a3
  go_wp2_with fail
  refine bodyPost_ret (v:=.tuple #[.agg #[.string ⟨nm.toArray⟩, .int .i64 2, .int .i64 0, .int .i64 0, .int .i64 0, .int .i64 0, .int .i64 0, .int .i64 0, .int .i64 0, .int .i64 0, .int .i64 0, .int .i64 0, .int .i64 0, .int .i64 0], .bool false]) (by simp [results,Try.results59,go_sem, *]) rfl ?_
  rw [← HQ.out]
  unfold EndPost
  rw [HEN.out]
  refine ⟨{ calZ with name:=nm,kind:=2 },rfl,fun _ => rfl,?_⟩
  exact belowS (w.heap.size + 1) (Nat.le_succ _) [(0, .string ⟨nm.toArray⟩),(1, .int .i64 2),(2, .int .i64 0),(3, .int .i64 0),(4, .int .i64 0),(5, .int .i64 0),(6, .int .i64 0),(7, .int .i64 0),(8, .int .i64 0),(9, .int .i64 0),(10, .int .i64 0),(11, .int .i64 0),(12, .int .i64 0),(13, .int .i64 0)] _ (belowS w.heap.size (Nat.le_refl _) [(1, .int .i64 2)] _ HB1.out)
set_option maxHeartbeats 8000000 in
theorem r11_end_6no (nm : Bytes) (num : Bool) (n : Int) (s : Bytes) (pos : Int) (rest : List WordL) (ad : Addr) (cp : Nat) (w : World) (hk : placeW endsL ⟨num,n,s,pos⟩ = 6) (hr : rest.length ≠ 1) (hlt : ad.block < w.heap.size)
    (c0 : w.cell? ad = some (.bool num)) (c1 : w.cell? ⟨ad.block,ad.off + 1,none⟩ = some (.int .i64 n)) (c2 : w.cell? ⟨ad.block,ad.off + 2,none⟩ = some (.string ⟨s.toArray⟩)) (c3 : w.cell? ⟨ad.block,ad.off + 3,none⟩ = some (.int .i64 pos)) :
    Calls Try.prog 59 #[calV { calZ with name:=nm }, .slice (some ad) (rest.length + 1) cp] w (EndPost nm (⟨num,n,s,pos⟩ :: rest) w):=by
  have HT:=zh (three w (calZn nm) (calZn []) endsO)
  have HPL:=zh (fun W g c h => r11_place endsL ⟨num,n,s,pos⟩ g c W (by decide) h)
  rw [hk] at HPL
  have HEN:=zh ((endK_eq nm (⟨num,n,s,pos⟩ :: rest) 6 hk).trans (endB_no6 _ _ (by simp;omega)))
  have hl : ((rest.length : Int) + 1 != 2) = true:=by simp;omega
  generalize hQ : EndPost nm (⟨num,n,s,pos⟩ :: rest) w = Q
  have HQ:=zh hQ
  have a0:=(HT.out.1.cell hlt).trans c0
  have a1:=(HT.out.1.cell (p:=⟨ad.block,ad.off + 1,none⟩) hlt).trans c1
  have a2:=(HT.out.1.cell (p:=⟨ad.block,ad.off + 2,none⟩) hlt).trans c2
  have a3:=(HT.out.1.cell (p:=⟨ad.block,ad.off + 3,none⟩) hlt).trans c3
  have HSB:=zh (endsO_blk HT.out.2.2.2.1)
  unfold calZn endsO at HT a0 a1 a2 a3 HSB
  clear hk hQ c0 c1 c2 c3 hr
  dsimp only [calV,calZ]
  go_enter Try.func59,Try.ntmps59
  go_wp2_with fail
  refine (HPL.out _ _ _ HSB.out).mono ?_
  rintro e w1 ⟨rfl,hb1⟩
  have y1:=(hb1.block w.heap.size (by simp;omega)).trans HT.out.2.1
  have z1:=(hb1.block (w.heap.size + 1) (by simp)).trans HT.out.2.2.1
  have HB1:=zh (HT.out.1.trans (hb1.mono HT.out.1.size))
  obtain ⟨g0,g1,g2,g3,g4,g5,g6,g7,g8,g9,g10,g11,g12,g13⟩:=cells14 y1
  obtain ⟨n0,n1,n2,n3,n4,n5,n6,n7,n8,n9,n10,n11,n12,n13⟩:=cells14 z1
  have ly:=(Array.getElem?_eq_some_iff.1 y1).1
  have lz:=(Array.getElem?_eq_some_iff.1 z1).1
  obtain ⟨fu0,fu1,fu2,fu3,fu4,fu5,fu6,fu7,fu8,fu9,fu10,fu11,fu12,fu13⟩:=unf14 y1
  obtain ⟨fz0,fz1,fz2,fz3,fz4,fz5,fz6,fz7,fz8,fz9,fz10,fz11,fz12,fz13⟩:=unf14 z1
  clear hb1 y1 z1 a0 a1 a2 a3
  go_wp2_with fail
  refine bodyPost_ret (v:=.tuple #[.agg #[.string ⟨nm.toArray⟩, .int .i64 6, .int .i64 0, .int .i64 0, .int .i64 0, .int .i64 0, .int .i64 0, .int .i64 0, .int .i64 0, .int .i64 0, .int .i64 0, .int .i64 0, .int .i64 0, .int .i64 0], .bool false]) (by simp [results,Try.results59,go_sem, *]) rfl ?_
  rw [← HQ.out]
  unfold EndPost
  rw [HEN.out]
  refine ⟨{ calZ with name:=nm,kind:=6 },rfl,fun _ => rfl,?_⟩
  exact belowS (w.heap.size + 1) (Nat.le_succ _) [(0, .string ⟨nm.toArray⟩),(1, .int .i64 6),(2, .int .i64 0),(3, .int .i64 0),(4, .int .i64 0),(5, .int .i64 0),(6, .int .i64 0),(7, .int .i64 0),(8, .int .i64 0),(9, .int .i64 0),(10, .int .i64 0),(11, .int .i64 0),(12, .int .i64 0),(13, .int .i64 0)] _ (belowS w.heap.size (Nat.le_refl _) [(1, .int .i64 6)] _ HB1.out)
end
section
open Go.RowKit
open Go.Joins renaming cell_of_block → zb, unfrozen_of_block → zu
open Go.Lib renaming hid → zh
/-- What end leaves where its own blocks stand: the calendar,the result. -/
def EndW (w W : World) (bc bz : Nat) (c : CalL) : Prop:=CalBlk W bc c ∧ CalBlk W bz calZ ∧ Below w.heap.size w W
theorem EndW.keep {w W W' : World} {bc bz : Nat} {c : CalL} (h : EndW w W bc bz c) (hb : Below W.heap.size W W') : EndW w W' bc bz c:=⟨h.1.keep hb,h.2.1.keep hb,h.2.2.trans (hb.mono h.2.2.size)⟩
theorem EndW.put {w W : World} {bc bz : Nat} {c : CalL} (h : EndW w W bc bz c) (i : Nat) (v : Value) (c' : CalL) (hc : CalBlk (W.setCell ⟨bc,i,none⟩ v) bc c') (hne : bz ≠ bc) (hB : w.heap.size ≤ bc) : EndW w (W.setCell ⟨bc,i,none⟩ v) bc bz c' :=
  ⟨hc,(((Step.refl W [] (some bc)).put i v).block bz h.2.1.lt (by simp) (by intro e;injection e;omega)).trans h.2.1,h.2.2.setCell hB _⟩
theorem EndW.kind {w W : World} {bc bz : Nat} {c : CalL} (h : EndW w W bc bz c) (v : Int) (hne : bz ≠ bc) (hB : w.heap.size ≤ bc) : EndW w (W.setCell ⟨bc,1,none⟩ (.int .i64 v)) bc bz { c with kind:=v }:=h.put 1 _ _ (h.1.kind v) hne hB
theorem EndW.day {w W : World} {bc bz : Nat} {c : CalL} (h : EndW w W bc bz c) (v : Int) (hne : bz ≠ bc) (hB : w.heap.size ≤ bc) : EndW w (W.setCell ⟨bc,2,none⟩ (.int .i64 v)) bc bz { c with day:=v }:=h.put 2 _ _ (h.1.day v) hne hB
theorem EndW.month {w W : World} {bc bz : Nat} {c : CalL} (h : EndW w W bc bz c) (v : Int) (hne : bz ≠ bc) (hB : w.heap.size ≤ bc) : EndW w (W.setCell ⟨bc,3,none⟩ (.int .i64 v)) bc bz { c with month:=v }:=h.put 3 _ _ (h.1.month v) hne hB
theorem EndW.shape {w W : World} {bc bz : Nat} {c : CalL} (h : EndW w W bc bz c) (v : Int) (hne : bz ≠ bc) (hB : w.heap.size ≤ bc) : EndW w (W.setCell ⟨bc,5,none⟩ (.int .i64 v)) bc bz { c with shape:=v }:=h.put 5 _ _ (h.1.shape v) hne hB
set_option maxHeartbeats 16000000 in
theorem r11_end_1 (nm : Bytes) (num : Bool) (n : Int) (s : Bytes) (pos : Int) (un : Bool) (nn : Int) (us : Bytes) (up : Int) (xn : Bool) (xx : Int) (xs : Bytes) (xp : Int) (ad : Addr) (cp : Nat) (w : World) (hk : placeW endsL ⟨num,n,s,pos⟩ = 1) (hlt : ad.block < w.heap.size)
    (c0 : w.cell? ad = some (.bool num)) (c1 : w.cell? ⟨ad.block,ad.off + 1,none⟩ = some (.int .i64 n)) (c2 : w.cell? ⟨ad.block,ad.off + 2,none⟩ = some (.string ⟨s.toArray⟩)) (c3 : w.cell? ⟨ad.block,ad.off + 3,none⟩ = some (.int .i64 pos))
    (a0 : w.cell? ⟨ad.block,ad.off + 4,none⟩ = some (.bool un)) (a1 : w.cell? ⟨ad.block,ad.off + 4 + 1,none⟩ = some (.int .i64 nn)) (a2 : w.cell? ⟨ad.block,ad.off + 4 + 2,none⟩ = some (.string ⟨us.toArray⟩)) (a3 : w.cell? ⟨ad.block,ad.off + 4 + 3,none⟩ = some (.int .i64 up))
    (d0 : w.cell? ⟨ad.block,ad.off + 8,none⟩ = some (.bool xn)) (d1 : w.cell? ⟨ad.block,ad.off + 8 + 1,none⟩ = some (.int .i64 xx)) (d2 : w.cell? ⟨ad.block,ad.off + 8 + 2,none⟩ = some (.string ⟨xs.toArray⟩)) (d3 : w.cell? ⟨ad.block,ad.off + 8 + 3,none⟩ = some (.int .i64 xp)) :
    Calls Try.prog 59 #[calV { calZ with name:=nm }, .slice (some ad) 3 cp] w (EndPost nm [⟨num,n,s,pos⟩,⟨un,nn,us,up⟩,⟨xn,xx,xs,xp⟩] w):=by
  have HT:=zh (three w (calZn nm) (calZn []) endsO)
  have HPL:=zh (fun W g c h => r11_place endsL ⟨num,n,s,pos⟩ g c W (by decide) h)
  rw [hk] at HPL
  have HPD:=zh (fun g W h => r11_place days ⟨un,nn,us,up⟩ g 7 W (by decide) h)
  have HPM:=zh (fun g W h => r11_place mons ⟨xn,xx,xs,xp⟩ g 12 W (by decide) h)
  have hm0:=(place_rng mons ⟨xn,xx,xs,xp⟩).1
  have hd0:=(place_rng days ⟨un,nn,us,up⟩).1
  have hen:=(endK_eq nm [⟨num,n,s,pos⟩,⟨un,nn,us,up⟩,⟨xn,xx,xs,xp⟩] 1 hk).trans (endB_12 nm _ _ _ 1 (by decide))
  generalize placeW mons ⟨xn,xx,xs,xp⟩ = m at *
  generalize placeW days ⟨un,nn,us,up⟩ = dd at *
  have HEN0:=zh hen
  have HA:=zh (And.intro a0 (And.intro a1 (And.intro a2 a3)))
  have HD:=zh (And.intro d0 (And.intro d1 (And.intro d2 d3)))
  clear hen a0 a1 a2 a3 d0 d1 d2 d3
  generalize hQ : EndPost nm [⟨num,n,s,pos⟩,⟨un,nn,us,up⟩,⟨xn,xx,xs,xp⟩] w = Q
  have HQ:=zh hQ
  have e0:=(HT.out.1.cell hlt).trans c0
  have e1:=(HT.out.1.cell (p:=⟨ad.block,ad.off + 1,none⟩) hlt).trans c1
  have e2:=(HT.out.1.cell (p:=⟨ad.block,ad.off + 2,none⟩) hlt).trans c2
  have e3:=(HT.out.1.cell (p:=⟨ad.block,ad.off + 3,none⟩) hlt).trans c3
  have HSB:=zh (endsO_blk HT.out.2.2.2.1)
  unfold calZn endsO at HT e0 e1 e2 e3 HSB
  have hlt1 : ad.block < w.heap.size + 1:=by omega
  clear hk hQ c0 c1 c2 c3
  dsimp only [calV,calZ]
  go_enter Try.func59,Try.ntmps59
  go_wp2_with fail
  refine (HPL.out _ _ _ HSB.out).mono ?_
  rintro e w1 ⟨rfl,hb1⟩
  have y1:=(hb1.block w.heap.size (by simp;omega)).trans HT.out.2.1
  have z1:=(hb1.block (w.heap.size + 1) (by simp)).trans HT.out.2.2.1
  have hbw1:=HT.out.1.trans (hb1.mono HT.out.1.size)
  obtain ⟨bz,hbz⟩ : ∃ x,x = w.heap.size + 1:=⟨_,rfl⟩
  obtain ⟨bc,hbc⟩ : ∃ x,x = w.heap.size:=⟨_,rfl⟩
  have hadc : ad.block ≠ bc:=by omega
  have hadz : ad.block ≠ bz:=by omega
  have hbb : bz ≠ bc:=by omega
  have HBC:=zh (show w.heap.size ≤ bc ∧ w.heap.size ≤ bz by omega)
  have hE1 : EndW w w1 bc bz { calZ with name:=nm }:=⟨by rw [hbc];exact y1,by rw [hbz];exact z1,hbw1⟩
  have q1:=zb hE1.1 1
  have u1:=zu hE1.1 1
  rw [← hbz,← hbc]
  have HE1:=zh hE1
  have HHB:=zh (And.intro hbz hbc)
  clear hb1 y1 z1 hbw1 hE1 e0 e1 e2 e3 HT HSB hbz hbc HPL hlt1
  go_wp2_with fail
  generalize hWg : World.setCell _ _ _ = W
  have HE : Hid (EndW w W bc bz { calZ with name:=nm,kind:=1 }):=zh (by rw [← hWg];exact HE1.out.kind 1 hbb HBC.out.1)
  clear hWg HE1 q1 u1
  have hbW:=HE.out.2.2
  have a0:=(hbW.cell (p:=⟨ad.block,ad.off + 4,none⟩) hlt).trans HA.out.1
  have a1:=(hbW.cell (p:=⟨ad.block,ad.off + 4 + 1,none⟩) hlt).trans HA.out.2.1
  have a2:=(hbW.cell (p:=⟨ad.block,ad.off + 4 + 2,none⟩) hlt).trans HA.out.2.2.1
  have a3:=(hbW.cell (p:=⟨ad.block,ad.off + 4 + 3,none⟩) hlt).trans HA.out.2.2.2
  have hgW:=HE.out.1.lt
  have hgZ:=HE.out.2.1.lt
  have hdl : ad.block < W.heap.size:=Nat.lt_of_lt_of_le hlt hbW.size
  clear hbW
  go_cut [25] (fun s25 wx => s25 = .int .i64 dd ∧ EndW w wx bc bz { calZ with name:=nm,kind:=1,day:=dd })
  case first =>
    go_region_with (first | (go_at_call 34;refine (r11_days _).mono ?_;rintro e w4 ⟨rfl,hg4,hb4⟩;have a0:=(hb4.cell (p:=⟨ad.block,ad.off + 4,none⟩) hdl).trans a0;have a1:=(hb4.cell (p:=⟨ad.block,ad.off + 4 + 1,none⟩) hdl).trans a1;have a2:=(hb4.cell (p:=⟨ad.block,ad.off + 4 + 2,none⟩) hdl).trans a2;have a3:=(hb4.cell (p:=⟨ad.block,ad.off + 4 + 3,none⟩) hdl).trans a3) | (go_at_call 23;refine (HPD.out _ _ (by assumption)).mono ?_;rintro e w5 ⟨rfl,hb5⟩;have hb45 : Below W.heap.size W w5:=Below.trans (show Below W.heap.size W w4 from ⟨hb4.os,hb4.tape,hb4.output,hb4.size,hb4.block⟩) (hb5.mono hb4.size);have hE5:=HE.out.keep hb45;have f2:=zu hE5.1 2;have c2:=zb hE5.1 2))
    all_goals (
      have HE5:=zh hE5
      clear hb4 hb5 hb45 hE5 hg4
      go_wp2_with fail
      go_meet
      exact ⟨rfl,HE5.out.day _ hbb HBC.out.1⟩)
  case rest =>
  obtain ⟨rfl,hE⟩:=hcut
  replace HE:=zh hE
  clear hE hgW hgZ hdl a0 a1 a2 a3
  go_wp2_with fail
  have hbwc:=HE.out.2.2
  have d0:=(hbwc.cell (p:=⟨ad.block,ad.off + 8,none⟩) hlt).trans HD.out.1
  have d1:=(hbwc.cell (p:=⟨ad.block,ad.off + 8 + 1,none⟩) hlt).trans HD.out.2.1
  have d2:=(hbwc.cell (p:=⟨ad.block,ad.off + 8 + 2,none⟩) hlt).trans HD.out.2.2.1
  have d3:=(hbwc.cell (p:=⟨ad.block,ad.off + 8 + 3,none⟩) hlt).trans HD.out.2.2.2
  have hgW:=HE.out.1.lt
  have hgZ:=HE.out.2.1.lt
  have hdl : ad.block < wc.heap.size:=Nat.lt_of_lt_of_le hlt hbwc.size
  clear hbwc
  go_cut [31] (fun s25 wx => s25 = .int .i64 m ∧ EndW w wx bc bz { calZ with name:=nm,kind:=1,day:=dd,month:=m })
  case first =>
    go_region_with (first | (go_at_call 35;refine (r11_months _).mono ?_;rintro e w4 ⟨rfl,hg4,hb4⟩;have d0:=(hb4.cell (p:=⟨ad.block,ad.off + 8,none⟩) hdl).trans d0;have d1:=(hb4.cell (p:=⟨ad.block,ad.off + 8 + 1,none⟩) hdl).trans d1;have d2:=(hb4.cell (p:=⟨ad.block,ad.off + 8 + 2,none⟩) hdl).trans d2;have d3:=(hb4.cell (p:=⟨ad.block,ad.off + 8 + 3,none⟩) hdl).trans d3) | (go_at_call 23;refine (HPM.out _ _ (by assumption)).mono ?_;rintro e w5 ⟨rfl,hb5⟩;have hb45 : Below wc.heap.size wc w5:=Below.trans (show Below wc.heap.size wc w4 from ⟨hb4.os,hb4.tape,hb4.output,hb4.size,hb4.block⟩) (hb5.mono hb4.size);have hE5:=HE.out.keep hb45;have f2:=zu hE5.1 3;have c2:=zb hE5.1 3))
    all_goals (
      have HE5:=zh hE5
      clear hb4 hb5 hb45 hE5 hg4
      go_wp2_with fail
      go_meet
      exact ⟨rfl,HE5.out.month _ hbb HBC.out.1⟩)
  case rest =>
  obtain ⟨rfl,hE⟩:=hcut
  replace HE:=zh hE
  clear hE hgW hgZ hdl d0 d1 d2 d3
  go_wp2_with fail
  by_cases hd : dd = 0
  · subst hd
    have HEN : Hid (endK nm [⟨num,n,s,pos⟩,⟨un,nn,us,up⟩,⟨xn,xx,xs,xp⟩] = (⟨nm,1,0,m,0,0,0,0,0,0,0,0,0,0⟩,false)):=zh (HEN0.out.trans (by simp [calZ]))
    clear hm0 hd0
    have hE:=HE.out
    obtain ⟨hcal,hres,hb9⟩:=hE
    have HB9:=zh hb9
    dsimp only [CalBlk,calZ] at hcal hres
    obtain ⟨g0,g1,g2,g3,g4,g5,g6,g7,g8,g9,g10,g11,g12,g13⟩:=cells14 hcal
    obtain ⟨n0,n1,n2,n3,n4,n5,n6,n7,n8,n9,n10,n11,n12,n13⟩:=cells14 hres
    have ly:=(Array.getElem?_eq_some_iff.1 hcal).1
    have lz:=(Array.getElem?_eq_some_iff.1 hres).1
    obtain ⟨fu0,fu1,fu2,fu3,fu4,fu5,fu6,fu7,fu8,fu9,fu10,fu11,fu12,fu13⟩:=unf14 hcal
    obtain ⟨fz0,fz1,fz2,fz3,fz4,fz5,fz6,fz7,fz8,fz9,fz10,fz11,fz12,fz13⟩:=unf14 hres
    clear hcal hres hb9 HE
    go_region
    all_goals (
      go_wp2_with fail
      refine bodyPost_ret (v:=.tuple #[.agg #[.string ⟨nm.toArray⟩, .int .i64 1, .int .i64 0, .int .i64 m, .int .i64 0, .int .i64 0, .int .i64 0, .int .i64 0, .int .i64 0, .int .i64 0, .int .i64 0, .int .i64 0, .int .i64 0, .int .i64 0], .bool false]) (by simp [results,Try.results59,go_sem, *]) rfl ?_
      rw [← HQ.out]
      unfold EndPost
      rw [HEN.out]
      refine ⟨⟨nm,1,0,m,0,0,0,0,0,0,0,0,0,0⟩,rfl,fun _ => rfl,?_⟩
      refine Below.drew ?_
      iterate 14 refine Below.setCell ?_ HBC.out.2 _
      exact HB9.out)
  by_cases hm : m = 0
  · subst hm
    have p0 : 0 < dd:=by omega
    have HEN : Hid (endK nm [⟨num,n,s,pos⟩,⟨un,nn,us,up⟩,⟨xn,xx,xs,xp⟩] = (⟨nm,1,dd,0,0,0,0,0,0,0,0,0,0,0⟩,false)):=zh (HEN0.out.trans (by simp [calZ]))
    clear hm0 hd0 hd
    have hE:=HE.out
    obtain ⟨hcal,hres,hb9⟩:=hE
    have HB9:=zh hb9
    dsimp only [CalBlk,calZ] at hcal hres
    obtain ⟨g0,g1,g2,g3,g4,g5,g6,g7,g8,g9,g10,g11,g12,g13⟩:=cells14 hcal
    obtain ⟨n0,n1,n2,n3,n4,n5,n6,n7,n8,n9,n10,n11,n12,n13⟩:=cells14 hres
    have ly:=(Array.getElem?_eq_some_iff.1 hcal).1
    have lz:=(Array.getElem?_eq_some_iff.1 hres).1
    obtain ⟨fu0,fu1,fu2,fu3,fu4,fu5,fu6,fu7,fu8,fu9,fu10,fu11,fu12,fu13⟩:=unf14 hcal
    obtain ⟨fz0,fz1,fz2,fz3,fz4,fz5,fz6,fz7,fz8,fz9,fz10,fz11,fz12,fz13⟩:=unf14 hres
    clear hcal hres hb9 HE
    go_region
    all_goals (
      go_wp2_with fail
      refine bodyPost_ret (v:=.tuple #[.agg #[.string ⟨nm.toArray⟩, .int .i64 1, .int .i64 dd, .int .i64 0, .int .i64 0, .int .i64 0, .int .i64 0, .int .i64 0, .int .i64 0, .int .i64 0, .int .i64 0, .int .i64 0, .int .i64 0, .int .i64 0], .bool false]) (by simp [results,Try.results59,go_sem, *]) rfl ?_
      rw [← HQ.out]
      unfold EndPost
      rw [HEN.out]
      refine ⟨⟨nm,1,dd,0,0,0,0,0,0,0,0,0,0,0⟩,rfl,fun _ => rfl,?_⟩
      refine Below.drew ?_
      iterate 14 refine Below.setCell ?_ HBC.out.2 _
      exact HB9.out)
  · skip
    have p0 : 0 < dd:=by omega
    have p1 : 0 < m:=by omega
    have HEN : Hid (endK nm [⟨num,n,s,pos⟩,⟨un,nn,us,up⟩,⟨xn,xx,xs,xp⟩] = (⟨nm,1,dd,m,0,0,0,0,0,0,0,0,0,0⟩,true)):=zh (HEN0.out.trans (by simp [calZ,p0,p1]))
    clear hm0 hd0 hd hm
    have hE:=HE.out
    obtain ⟨hcal,hres,hb9⟩:=hE
    have HB9:=zh hb9
    dsimp only [CalBlk,calZ] at hcal hres
    obtain ⟨g0,g1,g2,g3,g4,g5,g6,g7,g8,g9,g10,g11,g12,g13⟩:=cells14 hcal
    obtain ⟨n0,n1,n2,n3,n4,n5,n6,n7,n8,n9,n10,n11,n12,n13⟩:=cells14 hres
    have ly:=(Array.getElem?_eq_some_iff.1 hcal).1
    have lz:=(Array.getElem?_eq_some_iff.1 hres).1
    obtain ⟨fu0,fu1,fu2,fu3,fu4,fu5,fu6,fu7,fu8,fu9,fu10,fu11,fu12,fu13⟩:=unf14 hcal
    obtain ⟨fz0,fz1,fz2,fz3,fz4,fz5,fz6,fz7,fz8,fz9,fz10,fz11,fz12,fz13⟩:=unf14 hres
    clear hcal hres hb9 HE
    go_region
    all_goals (
      go_wp2_with fail
      refine bodyPost_ret (v:=.tuple #[.agg #[.string ⟨nm.toArray⟩, .int .i64 1, .int .i64 dd, .int .i64 m, .int .i64 0, .int .i64 0, .int .i64 0, .int .i64 0, .int .i64 0, .int .i64 0, .int .i64 0, .int .i64 0, .int .i64 0, .int .i64 0], .bool true]) (by simp [results,Try.results59,go_sem, *]) rfl ?_
      rw [← HQ.out]
      unfold EndPost
      rw [HEN.out]
      refine ⟨⟨nm,1,dd,m,0,0,0,0,0,0,0,0,0,0⟩,rfl,fun _ => rfl,?_⟩
      refine Below.drew ?_
      iterate 14 refine Below.setCell ?_ HBC.out.2 _
      exact HB9.out)
end
end Go.Proofs.Ytpkhocbohhpmbaa
