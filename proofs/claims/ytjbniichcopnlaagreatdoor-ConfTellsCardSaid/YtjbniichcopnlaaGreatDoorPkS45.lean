/- Layer 12 (conf): the walk of Print. Then: Layer 11 (field), the reference: the walks of Periods, days, months. -/
import Derived.Test.YtjbniichcopnlaaGreatDoorPkS44
import Derived.Test.YtjbniichcopnlaaGreatDoorPkS33
import Derived.Laws.MakeOwn
import Derived.Test.YtjbniichcopnlaaGreatDoorPkS38
set_option linter.unusedVariables false
set_option linter.unusedSimpArgs false
namespace Go.Proofs.YtjbniichcopnlaaGreatDoor
section
open Go.RowKit
open Go.Joins renaming cell_of_block → zb, unfrozen_of_block → zu
open Go.Lib renaming hid → zh
theorem info_node3 : (Tryz.prog.info? 44).map (fun i => (i.zero,i.size,i.bytes)) = some (some (.agg #[.string ⟨#[]⟩, .int .i64 0, .slice none 0 0, .bool false, .slice none 0 0]),5,80):=by kernel_rfl
theorem run_make_nodes (n : Nat) (hn : n ≤ 1000) (w : World) : (Instr.makeSlice 41 (.int .i64 (n : Int)) (.int .i64 (n : Int))).run Tryz.prog w =
    .ok (.slice (some ⟨w.heap.size,0,none⟩) n n) (w.alloc (.cells (madeCells #[.string ⟨#[]⟩, .int .i64 0, .slice none 0 0, .bool false, .slice none 0 0] (n * 5)) 44)):=by
  obtain ⟨i,hi,hzz⟩:=Option.map_eq_some_iff.1 info_node3
  simp only [Prod.mk.injEq] at hzz
  obtain ⟨hz,hs,hb⟩:=hzz
  have hr:=run_make (P:=Tryz.prog) w 41 44 i _ Tryz.underlying41 hi hz .i64 .i64 n n (by omega) (Int.le_refl _) (by rw [hb];omega) (by omega)
  rw [hs] at hr
  simpa [Value.cells] using hr
theorem own_readsM {w : World} {base size n : Nat} {e : TypeId} {v : Value} {xs : List Value} (h : w.ownsRow base e size v n xs) : ∃ A cap,v = .slice A n cap ∧ NilOk A cap ∧ ReadsM w (fun b => base ≤ b ∧ b < w.heap.size) size A n xs := by
  rcases h.2 with ⟨rfl,hn⟩ | ⟨g,cap,cur,rfl,hb,hg,h1,h2,h3,h4⟩
  · subst hn
    exact ⟨none,0,rfl,fun _ => rfl,⟨h.1,fun h => absurd h (by omega)⟩⟩
  · refine ⟨some ⟨g,0,none⟩,cap,rfl,(fun h => by cases h),⟨h.1,fun _ => ⟨_,rfl,⟨hb,(Array.getElem?_eq_some_iff.1 hg).1⟩,fun j u hu => ?_⟩⟩⟩
    have hz : (⟨g,0,none⟩ : Addr).add j = ⟨g,j,none⟩:=by unfold Addr.add;split <;> simp_all
    rw [hz,zb hg j]
    have hj:=(List.getElem?_eq_some_iff.1 hu).1
    rw [← h4] at hu hj
    rw [List.getElem?_take_of_lt (by rw [List.length_take] at hj;omega)] at hu
    simpa using hu
theorem node_laidM {c : CalL} {B : Nat} {w' : World} {gw g cap : Nat} (hgw : B ≤ gw) (hg : w'.heap[gw]? = some (.cells #[.bool false, .int .i64 0, .string ⟨c.name.toArray⟩, .int .i64 0] 61 (0,0)))
    (ho : OwnNodes w' B (.slice (some ⟨g,0,none⟩) (kidsC c).length cap) (kidsC c)) :
    NodeOk w' (fun b => B ≤ b ∧ b < w'.heap.size) (nodeC c) [.string ⟨b_calendar.toArray⟩, .int .i64 0, .slice (some ⟨gw,0,none⟩) 1 1, .bool true, .slice (some ⟨g,0,none⟩) (kidsC c).length cap]:=by
  obtain ⟨kcs,h1,h2⟩:=ho
  obtain ⟨A,cp,hv,hnil,hr⟩:=own_readsM h1
  injection hv with e1 e2 e3
  subst e1 e3
  unfold nodeC
  simp only [NodeOk]
  refine ⟨some ⟨gw,0,none⟩,1,some ⟨g,0,none⟩,cap,kcs,rfl,(fun h => by cases h),hnil,⟨rfl,fun _ => ⟨_,rfl,⟨hgw,(Array.getElem?_eq_some_iff.1 hg).1⟩,fun j u hu => ?_⟩⟩,hr,NodesOk.keep (fun b h => ⟨h.1,h.2.1⟩) (fun _ _ => rfl) _ _ h2⟩
  rw [add_blk0,zb hg j]
  simpa [WordL.cells,wS] using hu
theorem cnt_nodes : ∀ l : List CalL,cntL (l.map nodeC) ≤ 30 * l.length
  | [] => by simp [cntL]
  | c :: r => by
    have h1:=cnt_nodes r
    have h3:=kids_len c
    have h2 : ∀ l : List NodeL,(∀ k ∈ l,k.kids = [] ∧ k.words.length ≤ 3) → cntL l ≤ 4 * l.length := by
      intro l
      induction l with
      | nil => intro _;simp [cntL]
      | cons n r ih =>
        intro h
        have a:=ih fun k hk => h k (by simp [hk])
        obtain ⟨b1,b2⟩:=h n (by simp)
        obtain ⟨nm,p,ws,b,ks⟩:=n
        simp only [NodeL.kids,NodeL.words] at b1 b2
        subst b1
        simp only [cntL,cntN,List.length_cons]
        omega
    have h4:=h2 (kidsC c) (kids_plain c)
    have h5 : cntN (nodeC c) = 2 + cntL (kidsC c):=by unfold nodeC;simp only [cntN,List.length_cons,List.length_nil]
    simp only [List.map_cons,cntL,List.length_cons,h5]
    omega
theorem fit_nodes (l : List CalL) (h : ∀ t ∈ l,t.name.length ≤ maxLen) : fitNs (l.map nodeC) :=
  fitNs_ofK _ fun n hn => by
    obtain ⟨c,hc,rfl⟩:=List.mem_map.1 hn
    exact fit_node (h c hc)
theorem put5W (w : World) (g k n : Nat) (cs : Array Value) (T : TypeId) (h : w.heap[g]? = some (.cells cs T (0,0))) (kcs : List Value) (hcs : cs.size = n * 5) (hk : k < n) (hkl : kcs.length = k * 5)
    (hkc : ∀ (j : Nat) (u : Value),kcs[j]? = some u → cs[j]? = some u) (v0 v1 v2 v3 v4 : Value) (W : World)
    (hW : W = ((((w.setCell ⟨g,k * 5,none⟩ v0).setCell ⟨g,k * 5 + 1,none⟩ v1).setCell ⟨g,k * 5 + 2,none⟩ v2).setCell ⟨g,k * 5 + 3,none⟩ v3).setCell ⟨g,k * 5 + 4,none⟩ v4) :
    (∃ cs' : Array Value,W.heap[g]? = some (.cells cs' T (0,0)) ∧ cs'.size = n * 5 ∧ ∀ (j : Nat) (u : Value),(kcs ++ [v0,v1,v2,v3,v4])[j]? = some u → cs'[j]? = some u) ∧
    W.heap.size = w.heap.size ∧ (∀ b,b ≠ g → W.heap[b]? = w.heap[b]?) ∧ ∀ (w0 : World) (base : Nat),base ≤ g → Below base w0 w → Below base w0 W:=by
  subst hW
  refine ⟨⟨_,Joins.block_setCell (Joins.block_setCell (Joins.block_setCell (Joins.block_setCell (Joins.block_setCell h v0) v1) v2) v3) v4,by simp [hcs],fun j u hj => ?_⟩,by simp,fun b hb => ?_,fun w0 base hb hbl => ?_⟩
  · simp only [Array.getElem?_setIfInBounds,Array.size_setIfInBounds]
    by_cases hjk : j < k * 5
    · rw [List.getElem?_append_left (by omega)] at hj
      rw [if_neg (by omega),if_neg (by omega),if_neg (by omega),if_neg (by omega),if_neg (by omega)]
      exact hkc j u hj
    · rw [List.getElem?_append_right (by omega),hkl] at hj
      have hj5 : j - k * 5 < 5:=(List.getElem?_eq_some_iff.1 hj).1
      have hm : j = k * 5 ∨ j = k * 5 + 1 ∨ j = k * 5 + 2 ∨ j = k * 5 + 3 ∨ j = k * 5 + 4:=by omega
      rcases hm with rfl | rfl | rfl | rfl | rfl
      · rw [Nat.sub_self] at hj
        rw [if_neg (by omega),if_neg (by omega),if_neg (by omega),if_neg (by omega),if_pos rfl,if_pos (by omega)]
        simpa using hj
      · rw [show k * 5 + 1 - k * 5 = 1 by omega] at hj
        rw [if_neg (by omega),if_neg (by omega),if_neg (by omega),if_pos rfl,if_pos (by omega)]
        simpa using hj
      · rw [show k * 5 + 2 - k * 5 = 2 by omega] at hj
        rw [if_neg (by omega),if_neg (by omega),if_pos rfl,if_pos (by omega)]
        simpa using hj
      · rw [show k * 5 + 3 - k * 5 = 3 by omega] at hj
        rw [if_neg (by omega),if_pos rfl,if_pos (by omega)]
        simpa using hj
      · rw [show k * 5 + 4 - k * 5 = 4 by omega] at hj
        rw [if_pos rfl,if_pos (by omega)]
        simpa using hj
  · rw [heap_setCell_other _ _ _ _ hb,heap_setCell_other _ _ _ _ hb,heap_setCell_other _ _ _ _ hb,heap_setCell_other _ _ _ _ hb,heap_setCell_other _ _ _ _ hb]
  · exact ((((hbl.setCell hb _).setCell hb _).setCell hb _).setCell hb _).setCell hb _
set_option maxRecDepth 100000 in
set_option maxHeartbeats 4000000 in
theorem conf_Print (l : List CalL) (A : Option Addr) (c : Nat) (w : World) (B : Nat) (hB : B ≤ w.heap.size) (hr : ReadsM w (· < B) 14 A l.length (l.flatMap CalL.cc)) (hl : l.length ≤ maxLen) (hn : ∀ t ∈ l,t.name.length ≤ maxLen) (ht : Tab w) (hsp : SpaceTab w)
    (hg1 : 0 < w.heap.size) (hg2 : 2 < w.heap.size) :
    Calls Tryz.prog 8 #[.slice A l.length c] w fun e w' => e = .returned (.tuple #[.string ⟨(confP l).1.toArray⟩, .int .i64 (confP l).2]) ∧ Below w.heap.size w w':=by
  have HCK:=zh (conf_Check l A c w B hB hr hl hn)
  have HR:=zh hr
  have HN:=zh hn
  have HT:=zh (And.intro ht hsp)
  by_cases hE : confC l = 0
  case neg =>
    have HX:=zh (show confP l = ([],confC l) by unfold confP;rw [if_pos hE])
    generalize confP l = F at *
    generalize confC l = C at *
    have hne : (C == 0) = false:=beq_false_of_ne hE
    clear hE hr hl hn ht hsp
    go_enter Tryz.func8,Tryz.ntmps8
    go_wp2_with fail
    refine HCK.out.mono ?_
    rintro e1 w1 ⟨rfl,hb1⟩
    have HB1:=zh hb1
    clear hb1
    go_wp2_with fail
    go_ret2
    exact ⟨by rw [HX.out];rfl,HB1.out⟩
  have hlen:=(conf_parts l hE).1
  have HOK:=zh (confGo_ok l [] (conf_parts l hE).2)
  have HX:=zh (show confP l = layL (l.map nodeC) by unfold confP;rw [if_neg (by simp [hE])])
  generalize confP l = F at *
  have hE':=hE
  rw [hE] at HCK
  have hmk:=run_make_nodes l.length (by omega)
  clear hE hE' hr hl hn ht hsp
  go_enter Tryz.func8,Tryz.ntmps8
  go_wp2_with fail
  refine HCK.out.mono ?_
  rintro e1 w1 ⟨rfl,hb1⟩
  have HB1:=zh hb1
  have hz1:=hb1.size
  clear hb1
  go_wp2_with fail
  obtain ⟨g,hg⟩ : ∃ g,g = w1.heap.size:=⟨_,rfl⟩
  rw [← hg]
  have HST := zh (show Below w.heap.size w (w1.alloc (.cells (madeCells #[.string ⟨#[]⟩, .int .i64 0, .slice none 0 0, .bool false, .slice none 0 0] (l.length * 5)) 44)) ∧
    g < (w1.alloc (.cells (madeCells #[.string ⟨#[]⟩, .int .i64 0, .slice none 0 0, .bool false, .slice none 0 0] (l.length * 5)) 44)).heap.size ∧
    (w1.alloc (.cells (madeCells #[.string ⟨#[]⟩, .int .i64 0, .slice none 0 0, .bool false, .slice none 0 0] (l.length * 5)) 44)).heap[g]? = some (.cells (madeCells #[.string ⟨#[]⟩, .int .i64 0, .slice none 0 0, .bool false, .slice none 0 0] (l.length * 5)) 44 (0,0)) from
    ⟨HB1.out.alloc hz1 _,by rw [hg];simp,by rw [hg];exact heap_alloc_new w1 _⟩)
  have hwg : w.heap.size ≤ g:=by omega
  clear hg hmk
  go_loopw [20] (fun iv wr => ∃ (k : Nat) (cs : Array Value) (kcs : List Value),k ≤ l.length ∧ iv = .int .i64 k ∧ Below w.heap.size w wr ∧ g < wr.heap.size ∧ wr.heap[g]? = some (.cells cs 44 (0,0)) ∧ cs.size = l.length * 5 ∧
    kcs.length = k * 5 ∧ (∀ (j : Nat) (u : Value),kcs[j]? = some u → cs[j]? = some u) ∧ NodesOk wr (fun b => g < b ∧ b < wr.heap.size) ((l.take k).map nodeC) kcs) (fun iv _ => l.length - (intOf iv).toNat)
  case atStart => exact ⟨0,_,[],Nat.zero_le _,rfl,HST.out.1,HST.out.2.1,HST.out.2.2,size_madeCells _ _,rfl,fun j u h => by simp at h,by simp only [List.take_zero,List.map_nil,NodesOk]⟩
  case round =>
    obtain ⟨k,cs,kcs,hk,rfl,hbw,hgl,hblk,hcs,hkl,hkc,hok⟩:=hrel
    have hzw:=hbw.size
    by_cases hlt : k < l.length
    · obtain ⟨t,ht⟩ : ∃ n,l[k]? = some n := ⟨_,List.getElem?_eq_getElem hlt⟩
      have htm:=List.mem_of_getElem? ht
      have hnd:=field_Node_ok t (HOK.out t htm) (HN.out t htm)
      obtain ⟨ad,hA,hM,hc14⟩:=cal_at (ccells_keep HR.out (hbw.mono hB) (Nat.le_refl _)) k t ht
      subst hA
      obtain ⟨t0,ht0⟩ : ∃ x,x = t:=⟨_,rfl⟩
      have HT0:=zh (And.intro ht0 ht)
      unfold NodePost at hnd
      generalize hkl' : (kidsC t).length = kl at hnd
      have HKL:=zh hkl'
      obtain ⟨nm,kind,day,month,shift,shape,p0,p1,p2,cycle,extra,first,last,policy⟩:=t
      obtain ⟨x0,x1,x2,x3,x4,x5,x6,x7,x8,x9,x10,x11,x12,x13⟩:=hc14
      dsimp only at x0 x1 x2 x3 x4 x5 x6 x7 x8 x9 x10 x11 x12 x13
      dsimp only [calV] at hnd
      have lk : (k : Int) < l.length:=by omega
      have lk0 : (0 : Int) ≤ k:=by omega
      have w1f : IntKind.i64.wrap ((k : Int) + 1) = (k : Int) + 1:=by rw [IntKind.wrap_i64];omega
      have HND:=zh (hnd (wr.alloc (.cells #[.string ⟨nm.toArray⟩, .int .i64 kind, .int .i64 day, .int .i64 month, .int .i64 shift, .int .i64 shape, .int .i64 p0, .int .i64 p1, .int .i64 p2, .int .i64 cycle, .int .i64 extra, .int .i64 first, .int .i64 last, .int .i64 policy] 37)))
      have HAB:=zh ((Below.refl wr.heap.size wr).alloc (Nat.le_refl _) (.cells #[.string ⟨nm.toArray⟩, .int .i64 kind, .int .i64 day, .int .i64 month, .int .i64 shift, .int .i64 shape, .int .i64 p0, .int .i64 p1, .int .i64 p2, .int .i64 cycle, .int .i64 extra, .int .i64 first, .int .i64 last, .int .i64 policy] 37))
      have HB:=zh hbw
      have HBLK:=zh hblk
      have HKC:=zh (And.intro hcs (And.intro hkl (And.intro hkc hok)))
      clear hbw hblk hcs hkl hkc hok ht htm hnd hM ht0 hkl'
      go_wp2_with fail
      refine HND.out.mono ?_
      rintro e2 w2 ⟨gw,gk,cap,rfl,hgw,hgne,hword,hown,hb2⟩
      have hz2:=hb2.size
      have hzz : wr.heap.size + 1 ≤ w2.heap.size:=by simpa using hz2
      have hgw' : wr.heap.size + 1 ≤ gw:=by simpa using hgw
      have hb02 : Below wr.heap.size wr w2:=HAB.out.trans (hb2.mono (by simp))
      have hnok2 : NodeOk w2 (fun b => wr.heap.size + 1 ≤ b ∧ b < w2.heap.size) (nodeC ⟨nm,kind,day,month,shift,shape,p0,p1,p2,cycle,extra,first,last,policy⟩) [.string ⟨b_calendar.toArray⟩, .int .i64 0, .slice (some ⟨gw,0,none⟩) 1 1, .bool true, .slice (some ⟨gk,0,none⟩) kl cap] := by
        have:=node_laidM hgw hword (by rw [HKL.out];exact hown)
        rw [HKL.out] at this
        simpa using this
      have hbn:=(Below.refl w2.heap.size w2).alloc (Nat.le_refl _) (.cells #[.string ⟨b_calendar.toArray⟩, .int .i64 0, .slice (some ⟨gw,0,none⟩) 1 1, .bool true, .slice (some ⟨gk,0,none⟩) kl cap] 44)
      have hnew:=heap_alloc_new w2 (.cells #[.string ⟨b_calendar.toArray⟩, .int .i64 0, .slice (some ⟨gw,0,none⟩) 1 1, .bool true, .slice (some ⟨gk,0,none⟩) kl cap] 44)
      have hblk3:=(heap_alloc_old w2 (.cells #[.string ⟨b_calendar.toArray⟩, .int .i64 0, .slice (some ⟨gw,0,none⟩) 1 1, .bool true, .slice (some ⟨gk,0,none⟩) kl cap] 44) (show g < w2.heap.size by omega)).trans ((hb02.block g (by omega)).trans HBLK.out)
      have hb03:=hb02.trans (hbn.mono (show wr.heap.size ≤ w2.heap.size by omega))
      have hnok3:=NodeOk.keep (M':=fun b => g < b ∧ b < w2.heap.size + 1) (fun b h => ⟨by have:=h.1;omega,by have:=h.2;omega⟩) (fun p hp => hbn.cell hp.2) _ _ hnok2
      have hsz3 : (w2.alloc (.cells #[.string ⟨b_calendar.toArray⟩, .int .i64 0, .slice (some ⟨gw,0,none⟩) 1 1, .bool true, .slice (some ⟨gk,0,none⟩) kl cap] 44)).heap.size = w2.heap.size + 1:=by simp
      rw [← hsz3] at hnok3
      obtain ⟨nb,hnb⟩ : ∃ x,x = w2.heap.size:=⟨_,rfl⟩
      rw [← hnb] at hnew
      have HW3:=zh (And.intro hb03 hnok3)
      have HNB:=zh hnb
      have HNEW:=zh hnew
      have HBLK3:=zh hblk3
      have hnbg : nb ≠ g:=by omega
      have HS3:=zh hsz3
      clear hgw hword hown hb2 hb02 hz2 hnok2 hbn hnew hblk3 hb03 hnok3 hnb hsz3
      go_upto_region 9 with fail
      rw [← HNB.out]
      have hw3:=HW3.out
      have hnew:=HNEW.out
      have hblk3:=HBLK3.out
      have hsz3:=HS3.out
      clear HW3 HNEW HBLK3 HS3
      generalize World.alloc w2 _ = w3 at *
      have HW3:=zh hw3
      have HBLK3:=zh hblk3
      have hcs:=HKC.out.1
      have n0 : w3.cell? ⟨nb,0,none⟩ = some (.string ⟨b_calendar.toArray⟩):=zb hnew 0
      have n1 : w3.cell? ⟨nb,1,none⟩ = some (.int .i64 0):=zb hnew 1
      have n2 : w3.cell? ⟨nb,2,none⟩ = some (.slice (some ⟨gw,0,none⟩) 1 1):=zb hnew 2
      have n3 : w3.cell? ⟨nb,3,none⟩ = some (.bool true):=zb hnew 3
      have n4 : w3.cell? ⟨nb,4,none⟩ = some (.slice (some ⟨gk,0,none⟩) kl cap):=zb hnew 4
      have hex : ∀ j,j < 5 → ∃ v,w3.cell? ⟨g,k * 5 + j,none⟩ = some v:=fun j hj => ⟨_,(zb hblk3 (k * 5 + j)).trans (Array.getElem?_eq_getElem (by omega))⟩
      obtain ⟨o0,q0⟩:=hex 0 (by omega)
      obtain ⟨o1,q1⟩:=hex 1 (by omega)
      obtain ⟨o2,q2⟩:=hex 2 (by omega)
      obtain ⟨o3,q3⟩:=hex 3 (by omega)
      obtain ⟨o4,q4⟩:=hex 4 (by omega)
      rw [Nat.add_zero] at q0
      have u0:=zu hblk3 (k * 5)
      have u1:=zu hblk3 (k * 5 + 1)
      have u2:=zu hblk3 (k * 5 + 2)
      have u3:=zu hblk3 (k * 5 + 3)
      have u4:=zu hblk3 (k * 5 + 4)
      clear hw3 hnew hblk3 hcs hex
      go_wp2_with fail
      generalize hW5 : World.setCell _ _ _ = W5
      obtain ⟨⟨cs',b1,b2,b3⟩,b4,b5,b6⟩:=put5W w3 g k l.length cs _ HBLK3.out kcs HKC.out.1 hlt HKC.out.2.1 HKC.out.2.2.1 _ _ _ _ _ W5 hW5.symm
      have htk : (l.take (k + 1)).map nodeC = (l.take k).map nodeC ++ [nodeC ⟨nm,kind,day,month,shift,shape,p0,p1,p2,cycle,extra,first,last,policy⟩] := by
        rw [List.take_add_one,HT0.out.2]
        simp
      refine ⟨⟨k + 1,cs',_,by omega,by go_num,b6 _ _ hwg (HB.out.trans (HW3.out.1.mono hzw)),by rw [b4];omega,b1,b2,?_,b3,?_⟩,by simp [intOf];omega⟩
      · rw [List.length_append,HKC.out.2.1];simp;omega
      · rw [htk]
        refine NodesOk.append ?_ (NodesOk.one ?_)
        · exact NodesOk.keepB (fun b h => ⟨h.1,by rw [b4];omega⟩) (fun b h => (b5 b (by omega)).trans (HW3.out.1.block b h.2)) HKC.out.2.2.2
        · exact NodeOk.keepB (fun b h => ⟨h.1,by rw [b4];exact h.2⟩) (fun b h => b5 b (by omega)) HW3.out.2
    · have lk : ¬ (k : Int) < l.length := by omega
      have hkl' : k = l.length:=by omega
      rw [hkl',List.take_length] at hok
      rw [hkl'] at hkl
      have HB:=zh hbw
      have hrok : ROk wr wr.heap.size (some ⟨g,0,none⟩) (l.map nodeC):=⟨kcs,⟨by rw [hkl,List.length_map],fun _ => ⟨_,rfl,hgl,fun j u hu => by rw [add_blk0,zb hblk j];exact hkc j u hu⟩⟩,NodesOk.keep (fun b h => h.2) (fun _ _ => rfl) _ _ hok⟩
      have hcn : cntL (l.map nodeC) ≤ 100000:=by have:=cnt_nodes l;omega
      have hpr:=layout_Print (l.map nodeC) (some ⟨g,0,none⟩) l.length wr hcn hrok (fit_nodes l HN.out) (HT.out.1.below hbw) (HT.out.2.below hbw) (by omega) (by omega)
      rw [List.length_map] at hpr
      have HPR:=zh hpr
      clear hbw hblk hcs hkl hkc hok hrok hpr
      go_wp2_with fail
      refine HPR.out.mono ?_
      rintro e2 w2 ⟨rfl,hb2⟩
      have HB2:=zh (HB.out.trans (hb2.mono hzw))
      clear hb2
      go_wp2_with fail
      go_ret2
      exact ⟨by rw [HX.out];rfl,HB2.out⟩
end
section
set_option maxRecDepth 100000
open Go.RowKit
theorem r11_days (w : World) : Calls Tryz.prog 48 #[] w (StrsPost days w) := by
  go_enter Tryz.func48,Tryz.ntmps48
  go_wp2_with fail
  go_ret
  exact ⟨rfl,⟨9,heap_alloc_new w _⟩,below_cal w _⟩
theorem r11_months (w : World) : Calls Tryz.prog 49 #[] w (StrsPost mons w) := by
  go_enter Tryz.func49,Tryz.ntmps49
  go_wp2_with fail
  go_ret
  exact ⟨rfl,⟨9,heap_alloc_new w _⟩,below_cal w _⟩
end
end Go.Proofs.YtjbniichcopnlaaGreatDoor
