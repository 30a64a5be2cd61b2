/- Layer 12 (conf), the reference: the walks of Check and Find. Then: Layer 12 (conf), the reference: the walk of Print. Then: Layer 12 (conf), the reference: the walk of Find. -/
import Derived.Test.YtjbniichcopnlaaGreatDoorPkS33
import Derived.Test.YtjbniichcopnlaaGreatDoorPkS38
import Derived.Deep.DeepCutAuto
import Derived.BigRegion
import Derived.Test.YtjbniichcopnlaaGreatDoorPkS45
import Derived.Test.YtjbniichcopnlaaGreatDoorPkS47
import Derived.Test.YtjbniichcopnlaaGreatDoorPkS48
set_option linter.unusedVariables false
set_option linter.unusedSimpArgs false
set_option maxRecDepth 100000
namespace Go.Proofs.YtjbniichcopnlaaGreatDoor
section
open Go.RowKit
open Go.Joins renaming cell_of_block → zb, unfrozen_of_block → zu
open Go.Lib renaming hid → zh
theorem same_restC {X G : Prop} (h : X → G) (x : X) : G:=h x
theorem cals_take {w : World} {M : Nat → Prop} {A : Option Addr} {l : List CalL} (h : ReadsM w M 14 A l.length (l.flatMap CalL.cc)) (q : Nat) (hq : q ≤ l.length) : ReadsM w M 14 A q ((l.take q).flatMap CalL.cc) := by
  have e : l.flatMap CalL.cc = (l.take q).flatMap CalL.cc ++ (l.drop q).flatMap CalL.cc:=by rw [← List.flatMap_append,List.take_append_drop]
  refine ⟨by rw [ccells_length,List.length_take,Nat.min_eq_left hq],fun h0 => ?_⟩
  obtain ⟨ad,hA,hm,hc⟩:=h.2 (by omega)
  exact ⟨ad,hA,hm,fun j u hj => hc j u (by rw [e,List.getElem?_append_left (List.getElem?_eq_some_iff.1 hj).1];exact hj)⟩
theorem has_takeC (l : List CalL) (s : Bytes) (A : Option Addr) (q c : Nat) (w : World) (B : Nat) (hB : B ≤ w.heap.size) (hr : ReadsM w (· < B) 14 A l.length (l.flatMap CalL.cc)) (hl : l.length ≤ 100000) (hq : q ≤ l.length) :
    Calls Tryz.prog 26 #[.slice A q c, .string ⟨s.toArray⟩] w fun e w' => e = .returned (.bool (((l.take q).map CalL.name).contains s)) ∧ Below w.heap.size w w':=by
  have hlen : (l.take q).length = q:=by rw [List.length_take,Nat.min_eq_left hq]
  have h:=ref12_has (l.take q) s A c w B hB (by rw [hlen];exact cals_take hr q hq) (by omega)
  rw [hlen] at h
  exact h
set_option maxHeartbeats 3000000 in
theorem ref12_Check (l : List CalL) (A : Option Addr) (c : Nat) (w : World) (B : Nat) (hB : B ≤ w.heap.size) (hr : ReadsM w (· < B) 14 A l.length (l.flatMap CalL.cc)) (hl : l.length ≤ maxLen) (hn : ∀ t ∈ l,t.name.length ≤ maxLen) (hcap : l.length ≤ c) :
    Calls Tryz.prog 16 #[.slice A l.length c] w fun e w' => e = .returned (.int .i64 (confC l)) ∧ Below w.heap.size w w':=by
  have HR:=zh hr
  have HN:=zh hn
  have HC:=zh (show confC l = if 32 < l.length then 6 else confGo [] l from rfl)
  unfold maxLen at hl
  clear hr hn
  generalize confC l = C at *
  by_cases hbig : 32 < l.length
  · have hbi : (32 : Int) < l.length := by omega
    have HX:=zh (show C = 6 by rw [HC.out,if_pos hbig])
    go_enter Tryz.func16,Tryz.ntmps16
    go_wp2_with fail
    go_ret
    exact ⟨by rw [HX.out];rfl,Below.refl _ _⟩
  have hbi : ¬ (32 : Int) < l.length:=by omega
  have HX:=zh (show C = confGo [] l by rw [HC.out,if_neg hbig])
  have hsm : l.length ≤ 100000:=by omega
  go_enter Tryz.func16,Tryz.ntmps16
  go_wp2_with fail
  go_loopw [11] (fun iv wr => ∃ q : Nat,q ≤ l.length ∧ iv = .int .i64 q ∧ confGo [] l = confGo ((l.take q).map CalL.name) (l.drop q) ∧ Below w.heap.size w wr) (fun iv _ => l.length - (intOf iv).toNat)
  case atStart => exact ⟨0,Nat.zero_le _,rfl,by rw [List.drop_zero];rfl,Below.refl _ _⟩
  case round =>
    obtain ⟨q,hq,rfl,hk,hbw⟩:=hrel
    have hzw:=hbw.size
    by_cases hlt : q < l.length
    · obtain ⟨t,ht⟩ : ∃ n,l[q]? = some n := ⟨_,List.getElem?_eq_getElem hlt⟩
      have htn:=HN.out t (List.mem_of_getElem? ht)
      have hfc:=r11_Check t htn
      unfold maxLen at htn
      have hnx : (l.take (q + 1)).map CalL.name = (l.take q).map CalL.name ++ [t.name]:=by rw [List.take_add_one,ht];simp
      rw [List.drop_eq_getElem_cons hlt,show l[q] = t from Option.some.inj ((List.getElem?_eq_getElem hlt).symm.trans ht),confGo] at hk
      obtain ⟨ad,hA,hM,hc14⟩:=cal_at (ccells_keep HR.out (hbw.mono hB) (Nat.le_refl _)) q t ht
      have hhas:=fun W (hb : Below w.heap.size w W) => has_takeC l t.name A q c W B (Nat.le_trans hB hb.size) (ccells_keep HR.out (hb.mono hB) (Nat.le_refl _)) hsm hq
      subst hA
      generalize hct : ((l.take q).map CalL.name).contains t.name = ct at *
      generalize herr : errC t = E at *
      obtain ⟨nm,kind,day,month,shift,shape,p0,p1,p2,cycle,extra,first,last,policy⟩:=t
      obtain ⟨x0,x1,x2,x3,x4,x5,x6,x7,x8,x9,x10,x11,x12,x13⟩:=hc14
      dsimp only at htn hk hnx hhas x0 x1 x2 x3 x4 x5 x6 x7 x8 x9 x10 x11 x12 x13
      dsimp only [calV] at hfc
      have HF:=zh hfc
      have lk : (q : Int) < l.length:=by omega
      have lk0 : (0 : Int) ≤ q:=by omega
      have lkc : (q : Int) ≤ c:=by omega
      have ck0 : ¬ c = 0:=by omega
      have w1f : IntKind.i64.wrap ((q : Int) + 1) = (q : Int) + 1:=by rw [IntKind.wrap_i64];omega
      have HA:=zh (heap_alloc_new wr (.cells #[.string ⟨nm.toArray⟩, .int .i64 kind, .int .i64 day, .int .i64 month, .int .i64 shift, .int .i64 shape, .int .i64 p0, .int .i64 p1, .int .i64 p2, .int .i64 cycle, .int .i64 extra, .int .i64 first, .int .i64 last, .int .i64 policy] 37))
      have HAB:=zh ((Below.refl wr.heap.size wr).alloc (Nat.le_refl _) (.cells #[.string ⟨nm.toArray⟩, .int .i64 kind, .int .i64 day, .int .i64 month, .int .i64 shift, .int .i64 shape, .int .i64 p0, .int .i64 p1, .int .i64 p2, .int .i64 cycle, .int .i64 extra, .int .i64 first, .int .i64 last, .int .i64 policy] 37))
      have HB:=zh hbw
      have HNX:=zh hnx
      have HHAS:=zh hhas
      have HK:=zh hk
      clear hbw hk ht hfc herr hnx hhas hct
      go_wp2_with fail
      refine (HF.out _).mono ?_
      rintro e1 w1 ⟨rfl,hb1⟩
      have hz1:=hb1.size
      have hzz : wr.heap.size + 1 ≤ w1.heap.size:=by simpa using hz1
      have hcb : w1.heap[wr.heap.size]? = _:=(hb1.block _ (by simp)).trans HA.out
      have hb2 : Below wr.heap.size wr w1:=HAB.out.trans (hb1.mono (by simp))
      have HCB:=zh hcb
      have HB2:=zh (HB.out.trans (hb2.mono hzw))
      clear hb1 hb2 hcb hz1
      by_cases hE : E = 0
      case neg =>
        have hne : (E == 0) = false:=beq_false_of_ne hE
        have HY:=zh (show C = E by rw [HX.out,HK.out,if_pos hE])
        clear hE
        go_wp2_with fail
        go_ret
        exact ⟨by rw [HY.out];rfl,HB2.out⟩
      subst hE
      have g0 : w1.cell? ⟨wr.heap.size,0,none⟩ = some (.string ⟨nm.toArray⟩):=zb HCB.out 0
      go_wp2_with fail
      apply same_restC
      · intro HXR
        go_region_with (go_at_call 26;refine (HHAS.out _ HB2.out.drew).mono ?_;rintro e5 w5 ⟨rfl,hb5⟩)
        all_goals (revert w5;exact HXR)
      intro w5 hb5
      have HB5:=zh (HB2.out.drew.trans (hb5.mono HB2.out.size))
      clear hb5 g0
      cases ct with
      | true =>
        have HY:=zh (show C = 9 by rw [HX.out,HK.out,if_neg (by simp),if_pos rfl])
        go_wp2_with fail
        go_ret
        exact ⟨by rw [HY.out];rfl,HB5.out⟩
      | false =>
        have HY:=zh (show confGo [] l = confGo ((l.take (q + 1)).map CalL.name) (l.drop (q + 1)) by rw [HNX.out,HK.out,if_neg (by simp),if_neg (by decide)])
        go_wp2_with fail
        exact ⟨⟨q + 1,by omega,by go_num,HY.out,HB5.out⟩,by simp [intOf];omega⟩
    · have lk : ¬ (q : Int) < l.length := by omega
      have HB:=zh hbw
      have HK:=zh (show C = 0 by rw [HX.out,hk,show q = l.length by omega,List.drop_length];rfl)
      clear hbw hk
      go_wp2_with fail
      go_ret
      exact ⟨by rw [HK.out];rfl,HB.out⟩
end
section
open Go.RowKit
open Go.Lib renaming hid → zh
/-- One more item,of its own words and items,put behind a row of the call's own. -/
theorem push_listG {wc w3 : World} {ops : Array Oper} {rest : List Oper} {o : Oper} {a : Act} {Q : Exit → Act → World → Prop} (s x : Operand) (hgd : o.guard = none) (ho : o.op = .call { callee := .builtin .append,args := #[s,x],argTypes := #[41,41] })
    {base : Nat} {v5 : Value} {l : List NodeL} {n : NodeL} {cs : List Value} (hk : OwnNodes wc base v5 l) (hl : l.length ≤ 1000) (hbase : base ≤ wc.heap.size) (hb : Below wc.heap.size wc w3) (hn : NodeOk w3 (fun b => wc.heap.size ≤ b ∧ b < w3.heap.size) n cs) (hone : ∀ u ∈ cs,u.oneCell' = true)
    (hs : a.eval s = v5) {g3 : Nat} (hx : a.eval x = .slice (some ⟨g3,0,none⟩) 1 1) (hg3 : g3 = w3.heap.size) (h : ∀ v' w',OwnNodes w' base v' (l ++ [n]) → Below base wc w' → wpList Tryz.prog ops Q rest (a.put o.dst v') w') :
    wpList Tryz.prog ops Q (o :: rest) a (w3.alloc (.cells cs.toArray 44)):=by
  subst hg3
  obtain ⟨j0,hj0,hy0,hy1,hy2⟩:=info_parts info_nodeN
  obtain ⟨kcs,ho',hk'⟩:=hk
  have hsb:=hb.size
  have hba:=hb.alloc hb.size (.cells cs.toArray 44)
  have hlen:=hn.len
  refine wpList_plain hgd fun _ hK => ?_
  refine wp_append_lies _ s x 41 ho base 44 j0 _ 5 80 Tryz.underlying41 hj0 hy0 hy1 hy2 rfl (by decide) v5 l.length kcs hs (own_one (own_below ho' hb) _) ⟨w3.heap.size,0,none⟩ 1 1 cs hx (by omega) (World.news_of_block (heap_alloc_new w3 _)) hone (by decide) (by unfold maxLen;omega) (by omega) (by simp;omega) (w3.heap.size + 1) (by simp) ?_
  intro g cap' w' hown hgrow hat hlt
  refine hK _ _ (h _ _ ?_ ?_)
  · refine OwnNodes.push hba ho' hk' hbase (NodesOk.one (NodeOk.keepB (fun b h => ⟨by omega,by simp; omega⟩) (fun b h => heap_alloc_old w3 _ h.2) hn)) hown hgrow ?_
    rcases hat with h | h
    · exact .inl h
    · right;rw [h];simp
  · exact (hba.mono hbase).grown hgrow (by simp;omega) (fun k hk => (ho'.lt k hk).1)
set_option maxHeartbeats 4000000 in
theorem ref12_Print (l : List CalL) (A : Option Addr) (c : Nat) (w : World) (B : Nat) (hB : B ≤ w.heap.size) (hr : ReadsM w (· < B) 14 A l.length (l.flatMap CalL.cc)) (hl : l.length ≤ maxLen) (hn : ∀ t ∈ l,t.name.length ≤ maxLen) (hcap : l.length ≤ c) :
    Calls Tryz.prog 13 #[.slice A l.length c] w fun e w' => e = .returned (.tuple #[.string ⟨(confP l).1.toArray⟩, .int .i64 (confP l).2]) ∧ Below w.heap.size w w':=by
  have HCK:=zh (ref12_Check l A c w B hB hr hl hn hcap)
  have HR:=zh hr
  have HN:=zh hn
  by_cases hE : confC l = 0
  case neg =>
    have HX:=zh (show confP l = ([],confC l) by unfold confP;rw [if_pos hE])
    generalize confP l = F at *
    generalize confC l = C at *
    have hne : (C == 0) = false:=beq_false_of_ne hE
    clear hE hr hl hn
    go_enter Tryz.func13,Tryz.ntmps13
    go_wp2_with fail
    refine HCK.out.mono ?_
    rintro e1 w1 ⟨rfl,hb1⟩
    have HB1:=zh hb1
    clear hb1
    go_wp2_with fail
    go_ret2
    exact ⟨by rw [HX.out];rfl,HB1.out⟩
  have hlen:=(conf_parts l hE).1
  have HOK:=zh (confGo_ok l [] (conf_parts l hE).2)
  have HX:=zh (show confP l = layL (l.map nodeC) by unfold confP;rw [if_neg (by simp [hE])])
  have hcn : cntL (l.map nodeC) ≤ 100000:=by have:=cnt_nodes l;omega
  have HPR:=zh (fun A' c' W (h : ROk W W.heap.size A' (l.map nodeC)) => ref10_Print (l.map nodeC) A' c' W W.heap.size (Nat.le_refl _) hcn h (fit_nodes l hn))
  rw [← HX.out,List.length_map] at HPR
  generalize confP l = F at *
  rw [hE] at HCK
  clear hE hr hl hn hcn
  go_enter Tryz.func13,Tryz.ntmps13
  go_wp2_with fail
  refine HCK.out.mono ?_
  rintro e1 w1 ⟨rfl,hb1⟩
  have HB1:=zh hb1
  clear hb1
  go_wp2_with fail
  go_loopw [5,17] (fun v iv wr => ∃ q : Nat,q ≤ l.length ∧ iv = .int .i64 q ∧ OwnNodes wr w.heap.size v ((l.take q).map nodeC) ∧ Below w.heap.size w wr) (fun _ iv _ => l.length - (intOf iv).toNat)
  case atStart => exact ⟨0,Nat.zero_le _,rfl,⟨[],World.ownsRow_nil _ _ _ _,(by simp only [List.take_zero,List.map_nil,NodesOk])⟩,HB1.out⟩
  case round =>
    obtain ⟨q,hq,rfl,hown,hbw⟩:=hrel
    have hzw:=hbw.size
    by_cases hlt : q < l.length
    · obtain ⟨t,ht⟩ : ∃ n,l[q]? = some n := ⟨_,List.getElem?_eq_getElem hlt⟩
      have htm:=List.mem_of_getElem? ht
      have hnd:=r11_Node_ok t (HOK.out t htm) (HN.out t htm)
      have HNX:=zh (show (l.take (q + 1)).map nodeC = (l.take q).map nodeC ++ [nodeC t] by rw [List.take_add_one,ht];simp)
      obtain ⟨ad,hA,hM,hc14⟩:=cal_at (ccells_keep HR.out (hbw.mono hB) (Nat.le_refl _)) q t ht
      subst hA
      unfold NodePost at hnd
      have hlm : ∀ (w' : World) (B gw g cap : Nat),B ≤ gw → w'.heap[gw]? = some (.cells #[.bool false, .int .i64 0, .string ⟨t.name.toArray⟩, .int .i64 0] 61 (0,0)) → OwnNodes w' B (.slice (some ⟨g,0,none⟩) (kidsC t).length cap) (kidsC t) → NodeOk w' (fun b => B ≤ b ∧ b < w'.heap.size) (nodeC t) [.string ⟨b_calendar.toArray⟩, .int .i64 0, .slice (some ⟨gw,0,none⟩) 1 1, .bool true, .slice (some ⟨g,0,none⟩) (kidsC t).length cap]:=fun _ _ _ _ _ h1 h2 h3 => node_laidM h1 h2 h3
      generalize kidsC t = kids at *
      generalize nodeC t = nd at *
      obtain ⟨nm,kind,day,month,shift,shape,p0,p1,p2,cycle,extra,first,last,policy⟩:=t
      obtain ⟨x0,x1,x2,x3,x4,x5,x6,x7,x8,x9,x10,x11,x12,x13⟩:=hc14
      dsimp only at hlm x0 x1 x2 x3 x4 x5 x6 x7 x8 x9 x10 x11 x12 x13
      dsimp only [calV] at hnd
      have lk : (q : Int) < l.length:=by omega
      have lk0 : (0 : Int) ≤ q:=by omega
      have w1f : IntKind.i64.wrap ((q : Int) + 1) = (q : Int) + 1:=by rw [IntKind.wrap_i64];omega
      have HND:=zh (hnd (wr.alloc (.cells #[.string ⟨nm.toArray⟩, .int .i64 kind, .int .i64 day, .int .i64 month, .int .i64 shift, .int .i64 shape, .int .i64 p0, .int .i64 p1, .int .i64 p2, .int .i64 cycle, .int .i64 extra, .int .i64 first, .int .i64 last, .int .i64 policy] 37)))
      have HAB:=zh ((Below.refl wr.heap.size wr).alloc (Nat.le_refl _) (.cells #[.string ⟨nm.toArray⟩, .int .i64 kind, .int .i64 day, .int .i64 month, .int .i64 shift, .int .i64 shape, .int .i64 p0, .int .i64 p1, .int .i64 p2, .int .i64 cycle, .int .i64 extra, .int .i64 first, .int .i64 last, .int .i64 policy] 37))
      have HB:=zh hbw
      have HOW:=zh hown
      have HLM:=zh hlm
      clear hbw ht htm hnd hM hown hlm
      go_wp2_with fail
      refine HND.out.mono ?_
      rintro e2 w2 ⟨gw,gk,cap,rfl,hgw,hgne,hword,hown2,hb2⟩
      have hnok2:=HLM.out _ _ _ _ _ hgw hword hown2
      have hz2:=hb2.size
      have hzz : wr.heap.size + 1 ≤ w2.heap.size:=by simpa using hz2
      have hb02 : Below wr.heap.size wr w2:=HAB.out.trans (hb2.mono (by simp))
      have hbn:=hb02.alloc (show wr.heap.size ≤ w2.heap.size by omega) (.cells #[.string ⟨b_calendar.toArray⟩, .int .i64 0, .slice (some ⟨gw,0,none⟩) 1 1, .bool true, .slice (some ⟨gk,0,none⟩) kids.length cap] 44)
      have hnew:=heap_alloc_new w2 (.cells #[.string ⟨b_calendar.toArray⟩, .int .i64 0, .slice (some ⟨gw,0,none⟩) 1 1, .bool true, .slice (some ⟨gk,0,none⟩) kids.length cap] 44)
      have hnok3:=NodeOk.keepB (w':=w2.alloc (.cells #[.string ⟨b_calendar.toArray⟩, .int .i64 0, .slice (some ⟨gw,0,none⟩) 1 1, .bool true, .slice (some ⟨gk,0,none⟩) kids.length cap] 44)) (M':=fun b => wr.heap.size ≤ b ∧ b < (w2.alloc (.cells #[.string ⟨b_calendar.toArray⟩, .int .i64 0, .slice (some ⟨gw,0,none⟩) 1 1, .bool true, .slice (some ⟨gk,0,none⟩) kids.length cap] 44)).heap.size) (fun b h => ⟨by have:=h.1;simp at this;omega,by have:=h.2;simp;omega⟩) (fun b h => heap_alloc_old w2 _ h.2) hnok2
      have HW3:=zh (And.intro hbn (And.intro hnok3 hnew))
      clear hgw hword hown2 hb2 hb02 hz2 hnok2 hbn hnew hnok3
      have hln : ((l.take q).map nodeC).length ≤ 1000:=by rw [List.length_map,List.length_take];omega
      have HB3 : Hid (Below wr.heap.size wr (w2.alloc (.cells #[.string ⟨b_calendar.toArray⟩, .int .i64 0, .slice (some ⟨gw,0,none⟩) 1 1, .bool true, .slice (some ⟨gk,0,none⟩) kids.length cap] 44))):=zh HW3.out.1
      have HN3 : Hid (NodeOk (w2.alloc (.cells #[.string ⟨b_calendar.toArray⟩, .int .i64 0, .slice (some ⟨gw,0,none⟩) 1 1, .bool true, .slice (some ⟨gk,0,none⟩) kids.length cap] 44)) (fun b => wr.heap.size ≤ b ∧ b < (w2.alloc (.cells #[.string ⟨b_calendar.toArray⟩, .int .i64 0, .slice (some ⟨gw,0,none⟩) 1 1, .bool true, .slice (some ⟨gk,0,none⟩) kids.length cap] 44)).heap.size) nd [.string ⟨b_calendar.toArray⟩, .int .i64 0, .slice (some ⟨gw,0,none⟩) 1 1, .bool true, .slice (some ⟨gk,0,none⟩) kids.length cap]):=zh HW3.out.2.1
      have HO3 : Hid (∀ u ∈ ([.string ⟨b_calendar.toArray⟩, .int .i64 0, .slice (some ⟨gw,0,none⟩) 1 1, .bool true, .slice (some ⟨gk,0,none⟩) kids.length cap] : List Value),u.oneCell' = true):=zh (by intro u hu;simp only [List.mem_cons,List.not_mem_nil,or_false] at hu;rcases hu with rfl | rfl | rfl | rfl | rfl <;> rfl)
      have HG3 : Hid (w2.heap.size + 1 = (w2.alloc (.cells #[.string ⟨b_calendar.toArray⟩, .int .i64 0, .slice (some ⟨gw,0,none⟩) 1 1, .bool true, .slice (some ⟨gk,0,none⟩) kids.length cap] 44)).heap.size):=zh (by simp)
      go_wp2_with (first | (at_builtin;go_loud (refine push_listG (w3:=(w2.alloc (.cells #[.string ⟨b_calendar.toArray⟩, .int .i64 0, .slice (some ⟨gw,0,none⟩) 1 1, .bool true, .slice (some ⟨gk,0,none⟩) kids.length cap] 44))) (cs:=[.string ⟨b_calendar.toArray⟩, .int .i64 0, .slice (some ⟨gw,0,none⟩) 1 1, .bool true, .slice (some ⟨gk,0,none⟩) kids.length cap]) _ _ rfl rfl HOW.out hln hzw HB3.out HN3.out HO3.out rfl rfl HG3.out ?_);intro v6 w6 hown6 hb6;have HO6:=zh hown6;have HB6:=zh hb6;clear hown6 hb6) | fail)
      exact ⟨⟨q + 1,by omega,by go_num,by rw [HNX.out];exact HO6.out,HB.out.trans HB6.out⟩,by simp [intOf];omega⟩
    · have hql : q = l.length := by omega
      have lk : ¬ (q : Int) < l.length:=by omega
      rw [hql,List.take_length] at hown
      obtain ⟨kcs,h1,h2⟩:=hown
      rw [List.length_map] at h1
      obtain ⟨A',c',rfl,_,h3⟩:=own_readsM h1
      have hro : ROk wr wr.heap.size A' (l.map nodeC):=⟨kcs,by rw [List.length_map];exact h3.keep (fun b h => h.2) (fun _ _ => rfl),NodesOk.keep (fun b h => h.2.1) (fun _ _ => rfl) _ _ h2⟩
      have HP2:=zh (HPR.out A' c' wr hro)
      have HB:=zh hbw
      clear hbw h1 h2 h3 hro hql
      go_wp2_with fail
      refine HP2.out.mono ?_
      rintro e4 w4 ⟨rfl,hb4⟩
      have HB4:=zh (HB.out.trans (hb4.mono hzw))
      clear hb4
      go_wp2_with fail
      go_ret2
      exact ⟨rfl,HB4.out⟩
end
section
open Go.RowKit
open Go.Lib renaming hid → zh
set_option maxHeartbeats 3000000 in
theorem ref12_Find (l : List CalL) (A : Option Addr) (c : Nat) (s : ByteArray) (w : World) (B : Nat) (hB : B ≤ w.heap.size) (hr : ReadsM w (· < B) 14 A l.length (l.flatMap CalL.cc)) (hl : l.length ≤ maxLen) (hn : ∀ t ∈ l,t.name.length ≤ maxLen) (hcap : l.length ≤ c) :
    Calls Tryz.prog 15 #[.slice A l.length c, .string s] w fun e w' => e = .returned (.tuple #[calV (findC l s.data.toList).1, .int .i64 (findC l s.data.toList).2]) ∧ Below w.heap.size w w':=by
  have HCK:=zh (fun W hB hr => ref12_Check l A c W B hB hr hl hn hcap)
  have HR:=zh hr
  have HN:=zh hn
  have HC:=zh (show findC l s.data.toList = if confC l ≠ 0 then (calZ,confC l) else findGo s.data.toList l from rfl)
  unfold maxLen at hl
  clear hn hr
  generalize findC l s.data.toList = F at *
  generalize confC l = C at *
  obtain ⟨cb,hcb⟩ : ∃ g,g = w.heap.size:=⟨_,rfl⟩
  have HCB:=zh hcb
  have hpre : ∀ o,Below w.heap.size w (w.alloc o):=fun o => (Below.refl _ _).alloc (Nat.le_refl _) o
  have HPRE:=zh hpre
  have HZ:=zh (heap_alloc_new w (.cells #[.string ⟨#[]⟩, .int .i64 0, .int .i64 0, .int .i64 0, .int .i64 0, .int .i64 0, .int .i64 0, .int .i64 0, .int .i64 0, .int .i64 0, .int .i64 0, .int .i64 0, .int .i64 0, .int .i64 0] 37))
  have HCK2:=zh (HCK.out (w.alloc (.cells #[.string ⟨#[]⟩, .int .i64 0, .int .i64 0, .int .i64 0, .int .i64 0, .int .i64 0, .int .i64 0, .int .i64 0, .int .i64 0, .int .i64 0, .int .i64 0, .int .i64 0, .int .i64 0, .int .i64 0] 37)) (by simp;omega) (ccells_keep HR.out ((HPRE.out _).mono hB) (Nat.le_refl _)))
  have hcw : w.heap.size ≤ cb:=by omega
  clear hcb hpre HCK
  by_cases hE : C = 0
  case neg =>
    have hne : (C == 0) = false:=beq_false_of_ne hE
    have HX:=zh (show F = (calZ,C) by rw [HC.out,if_pos hE])
    clear hE
    go_enter Tryz.func15,Tryz.ntmps15
    go_wp2_with fail
    refine HCK2.out.mono ?_
    rintro e1 w1 ⟨rfl,hb1⟩
    have hb2:=(HPRE.out _).trans (hb1.mono (by simp))
    have hcal : CalBlk w1 cb calZ:=(hb1.block cb (by rw [HCB.out];simp)).trans (by rw [HCB.out];exact HZ.out)
    rw [← HCB.out]
    have HB2:=zh hb2
    clear hb1 hb2
    dsimp only [CalBlk,calZ] at hcal
    obtain ⟨c0,c1,c2,c3,c4,c5,c6,c7,c8,c9,c10,c11,c12,c13⟩:=cells14 hcal;obtain ⟨f0,f1,f2,f3,f4,f5,f6,f7,f8,f9,f10,f11,f12,f13⟩:=unf14 hcal
    clear hcal
    go_wp2_with fail
    refine bodyPost_ret (v:=.tuple #[calV calZ, .int .i64 C]) (by simp [results,calV,calZ,Tryz.results15,go_sem, *]) rfl ?_
    rw [HX.out]
    exact ⟨rfl,CalBlk.below HB2.out hcw calZ⟩
  subst hE
  have HX:=zh (show F = findGo s.data.toList l by rw [HC.out,if_neg (by simp)])
  go_enter Tryz.func15,Tryz.ntmps15
  go_wp2_with fail
  refine HCK2.out.mono ?_
  rintro e1 w1 ⟨rfl,hb1⟩
  have hb2:=(HPRE.out _).trans (hb1.mono (by simp))
  have hcal : CalBlk w1 cb calZ:=(hb1.block cb (by rw [HCB.out];simp)).trans (by rw [HCB.out];exact HZ.out)
  rw [← HCB.out]
  have HB2:=zh hb2
  have HCAL:=zh hcal
  clear hb1 hb2 hcal
  go_wp2_with fail
  go_loopw [17] (fun iv wr => ∃ q : Nat,q ≤ l.length ∧ iv = .int .i64 q ∧ Below w.heap.size w wr ∧ CalBlk wr cb calZ ∧ F = findGo s.data.toList (l.drop q)) (fun iv _ => l.length - (intOf iv).toNat)
  case atStart => exact ⟨0,Nat.zero_le _,rfl,HB2.out,HCAL.out,by rw [List.drop_zero];exact HX.out⟩
  case round =>
    obtain ⟨q,hq,rfl,hbw,hcal,hk⟩:=hrel
    have hzw:=hbw.size
    have hcl:=hcal.lt
    by_cases hlt : q < l.length
    · obtain ⟨t,ht⟩ : ∃ n,l[q]? = some n := ⟨_,List.getElem?_eq_getElem hlt⟩
      have htn:=HN.out t (List.mem_of_getElem? ht)
      unfold maxLen at htn
      rw [List.drop_eq_getElem_cons hlt,show l[q] = t from Option.some.inj ((List.getElem?_eq_getElem hlt).symm.trans ht),findGo] at hk
      obtain ⟨ad,hA,hM,hc14⟩:=cal_at (ccells_keep HR.out (hbw.mono hB) (Nat.le_refl _)) q t ht
      subst hA
      have HT:=zh (show t = t from rfl)
      obtain ⟨t0,ht0⟩ : ∃ x,x = t:=⟨_,rfl⟩
      have HT0:=zh ht0
      obtain ⟨nm,kind,day,month,shift,shape,p0,p1,p2,cycle,extra,first,last,policy⟩:=t
      obtain ⟨x0,x1,x2,x3,x4,x5,x6,x7,x8,x9,x10,x11,x12,x13⟩:=hc14
      dsimp only at htn hk x0 x1 x2 x3 x4 x5 x6 x7 x8 x9 x10 x11 x12 x13
      have lk : (q : Int) < l.length:=by omega
      have lk0 : (0 : Int) ≤ q:=by omega
      have w1f : IntKind.i64.wrap ((q : Int) + 1) = (q : Int) + 1:=by rw [IntKind.wrap_i64];omega
      have HB:=zh hbw
      have hcal2 : CalBlk (wr.alloc (.cells #[.string ⟨nm.toArray⟩, .int .i64 kind, .int .i64 day, .int .i64 month, .int .i64 shift, .int .i64 shape, .int .i64 p0, .int .i64 p1, .int .i64 p2, .int .i64 cycle, .int .i64 extra, .int .i64 first, .int .i64 last, .int .i64 policy] 37)) cb calZ:=(heap_alloc_old wr (.cells #[.string ⟨nm.toArray⟩, .int .i64 kind, .int .i64 day, .int .i64 month, .int .i64 shift, .int .i64 shape, .int .i64 p0, .int .i64 p1, .int .i64 p2, .int .i64 cycle, .int .i64 extra, .int .i64 first, .int .i64 last, .int .i64 policy] 37) hcl).trans hcal
      have HCAL2:=zh hcal2
      have hto : (ByteArray.mk nm.toArray).toList = nm:=by rw [ba_toList]
      by_cases hg : nm = s.data.toList
      · rw [if_pos hg] at hk
        have hgs : (nm == s.toList) = true:=by rw [ba_toList,hg];simp
        have HK:=zh hk
        clear hk ht hbw hg ht0 hcal
        have hnew:=heap_alloc_new wr (.cells #[.string ⟨nm.toArray⟩, .int .i64 kind, .int .i64 day, .int .i64 month, .int .i64 shift, .int .i64 shape, .int .i64 p0, .int .i64 p1, .int .i64 p2, .int .i64 cycle, .int .i64 extra, .int .i64 first, .int .i64 last, .int .i64 policy] 37)
        have hbn : Below w.heap.size w (wr.alloc (.cells #[.string ⟨nm.toArray⟩, .int .i64 kind, .int .i64 day, .int .i64 month, .int .i64 shift, .int .i64 shape, .int .i64 p0, .int .i64 p1, .int .i64 p2, .int .i64 cycle, .int .i64 extra, .int .i64 first, .int .i64 last, .int .i64 policy] 37)):=HB.out.alloc hzw _
        have HBN:=zh hbn
        obtain ⟨nb,hnb⟩ : ∃ g,g = wr.heap.size:=⟨_,rfl⟩
        rw [← hnb] at hnew
        have HNEW:=zh hnew
        have HNB:=zh hnb
        have HC2:=zh hcal2
        clear hbn hnew hcal2 hnb
        go_upto_region 7 with fail
        rw [← HNB.out]
        have hnew:=HNEW.out
        have hcal2:=HC2.out
        have hbn:=HBN.out
        clear HNEW HC2 HBN HCAL2
        generalize World.alloc wr _ = W4 at *
        have HBN:=zh hbn
        dsimp only [CalBlk,calZ] at hcal2
        obtain ⟨c0,c1,c2,c3,c4,c5,c6,c7,c8,c9,c10,c11,c12,c13⟩:=cells14 hcal2;obtain ⟨f0,f1,f2,f3,f4,f5,f6,f7,f8,f9,f10,f11,f12,f13⟩:=unf14 hcal2
        obtain ⟨g0,g1,g2,g3,g4,g5,g6,g7,g8,g9,g10,g11,g12,g13⟩:=cells14 hnew
        clear hcal2 hnew hbn
        go_wp2_with fail
        refine bodyPost_ret (v:=.tuple #[calV t0, .int .i64 0]) (by rw [HT0.out];simp [results,calV,calZ,Tryz.results15,go_sem, *]) rfl ?_
        rw [HK.out,← HT0.out]
        exact ⟨rfl,by have:=CalBlk.below HBN.out hcw t0;rw [HT0.out] at this;exact this⟩
      · rw [if_neg hg] at hk
        have hgs : (nm == s.toList) = false:=by rw [ba_toList];simpa using hg
        have HK:=zh hk
        clear hk ht hbw hg ht0 hcal hcal2
        go_wp2_with fail
        exact ⟨⟨q + 1,by omega,by go_num,HB.out.alloc hzw _,HCAL2.out,HK.out⟩,by simp [intOf];omega⟩
    · have lk : ¬ (q : Int) < l.length := by omega
      have HB:=zh hbw
      have HK:=zh (show F = (calZ,13) by rw [hk,show q = l.length by omega,List.drop_length];rfl)
      dsimp only [CalBlk,calZ] at hcal
      obtain ⟨c0,c1,c2,c3,c4,c5,c6,c7,c8,c9,c10,c11,c12,c13⟩:=cells14 hcal;obtain ⟨f0,f1,f2,f3,f4,f5,f6,f7,f8,f9,f10,f11,f12,f13⟩:=unf14 hcal
      clear hbw hk hcal
      go_wp2_with fail
      refine bodyPost_ret (v:=.tuple #[calV calZ, .int .i64 13]) (by simp [results,calV,calZ,Tryz.results15,go_sem, *]) rfl ?_
      rw [HK.out]
      exact ⟨rfl,CalBlk.below HB.out hcw calZ⟩
end
end Go.Proofs.YtjbniichcopnlaaGreatDoor
