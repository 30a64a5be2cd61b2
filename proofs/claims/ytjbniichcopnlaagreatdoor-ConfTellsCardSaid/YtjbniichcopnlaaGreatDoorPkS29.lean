/- Layer 11 (field): the walk of fits. -/
import Derived.Test.YtjbniichcopnlaaGreatDoorPkS25
import Derived.Test.YtjbniichcopnlaaGreatDoorPkS28
set_option linter.unusedVariables false
set_option linter.unusedSimpArgs false
set_option maxRecDepth 100000
namespace Go.Proofs.YtjbniichcopnlaaGreatDoor
open Go.RowKit
open Go.Joins renaming cell_of_block → zb, unfrozen_of_block → zu
open Go.Lib renaming hid → zh
/-- The first item that does not stand with the end,or is the second shape: by the places. -/
def fitsI (kind : Int) (names : List Bytes) : Nat → List NodeL → Option (Int × Int)
  | _,[] => none
  | i,k :: r => if standsC kind k.name = false then some (k.pos,8) else if laterB names i = true then some (k.pos,9) else fitsI kind names (i + 1) r
theorem fitsI_eq (kind : Int) (names : List Bytes) (hn : names.Nodup) : ∀ (l : List NodeL) (i : Nat),names.drop i = l.map NodeL.name → fitsI kind names i l = fitsL kind (names.take i) l
  | [],i,h => rfl
  | k :: r,i,h => by
    have hi : names[i]? = some k.name := by
      have:=congrArg List.head? h
      simpa [List.head?_drop] using this
    have hd : names.drop (i + 1) = r.map NodeL.name := by
      have:=congrArg List.tail h
      simpa [List.tail_drop] using this
    have ht : names.take (i + 1) = names.take i ++ [k.name]:=by rw [List.take_add_one,hi];rfl
    have ih:=fitsI_eq kind names hn r (i + 1) hd
    have hl:=laterB_eq names i k.name hn hi
    unfold fitsI fitsL
    rw [ih,ht]
    by_cases h1 : standsC kind k.name = true
    · rw [h1]
      by_cases h2 : laterB names i = true
      · rw [if_pos h2]
        simp only [Bool.true_eq_false,if_false,Bool.not_true,Bool.false_eq_true,↓reduceIte]
        rw [if_pos (by rcases hl.1 h2 with h | h;exact .inl h;exact .inr h)]
      · rw [if_neg h2]
        simp only [Bool.true_eq_false,if_false,Bool.not_true,Bool.false_eq_true,↓reduceIte]
        rw [if_neg (fun h => h2 (hl.2 h))]
    · simp only [Bool.not_eq_true] at h1
      rw [h1]
      rfl
theorem fits_8 {kind : Int} {names : List Bytes} {i : Nat} {k : NodeL} {r : List NodeL} (h : standsC kind k.name = false) : fitsI kind names i (k :: r) = some (k.pos,8) := by
  rw [fitsI,if_pos h]
theorem fits_9 {kind : Int} {names : List Bytes} {i : Nat} {k : NodeL} {r : List NodeL} (h : standsC kind k.name = true) (h2 : laterB names i = true) : fitsI kind names i (k :: r) = some (k.pos,9) := by
  rw [fitsI,if_neg (by rw [h];simp),if_pos h2]
theorem fits_go {kind : Int} {names : List Bytes} {i : Nat} {k : NodeL} {r : List NodeL} (h : standsC kind k.name = true) (h2 : laterB names i = false) : fitsI kind names i (k :: r) = fitsI kind names (i + 1) r := by
  rw [fitsI,if_neg (by rw [h];simp),if_neg (by rw [h2];simp)]
/-- What fits tells. -/
def FitsPost (n : NodeL) (kind : Int) (w : World) (e : Ending) (w' : World) : Prop :=
  Below w.heap.size w w' ∧
  e = match fitsI kind (n.kids.map NodeL.name) 0 n.kids with
  | some (p,er) => .returned (.tuple #[.int .i64 p, .int .i64 er])
  | none => if missA kind (n.kids.map NodeL.name) then .returned (.tuple #[.int .i64 n.pos, .int .i64 10]) else .returned (.tuple #[.int .i64 0, .int .i64 0])
theorem keyMap_key (e : MapEntry) (h : e ∈ keyMap.toList) : ∃ s,e.key = .string ⟨s.toArray⟩ ∧ s ∈ keysL := by
  simp only [keyMap,List.mem_cons,List.not_mem_nil,or_false] at h
  rcases h with rfl | rfl | rfl | rfl | rfl | rfl | rfl
  · exact ⟨b_end,rfl,by decide⟩
  · exact ⟨b_periods,rfl,by decide⟩
  · exact ⟨b_named,rfl,by decide⟩
  · exact ⟨b_pay,rfl,by decide⟩
  · exact ⟨b_extra,rfl,by decide⟩
  · exact ⟨b_serve,rfl,by decide⟩
  · exact ⟨b_compare,rfl,by decide⟩
theorem keyMap_old : ∀ x ∈ keyMap.toList,x.born < 7 := by
  intro x h
  simp only [keyMap,List.mem_cons,List.not_mem_nil,or_false] at h
  rcases h with rfl | rfl | rfl | rfl | rfl | rfl | rfl <;> decide
theorem keyMap_born : (keyMap.toList.map (·.born)).Nodup:=by decide
theorem keyMap_has (s : Bytes) (h : s ∈ keysL) : ∃ e ∈ keyMap.toList,e.key = .string ⟨s.toArray⟩ := by
  have e : keysL = [b_end,b_periods,b_named,b_pay,b_extra,b_serve,b_compare]:=rfl
  rw [e] at h
  simp only [List.mem_cons,List.not_mem_nil,or_false] at h
  rcases h with rfl | rfl | rfl | rfl | rfl | rfl | rfl <;> simp [keyMap]
/-- Those that were handed out are not missing. -/
def SeenOk (kind : Int) (names : List Bytes) (seen : Array Nat) : Prop:=∀ e ∈ keyMap.toList,seen.contains e.born = true → ∀ s,e.key = .string ⟨s.toArray⟩ → missK kind names s = false
theorem seenOk_push {kind : Int} {names : List Bytes} {seen : Array Nat} {e : MapEntry} {s : Bytes} (h : SeenOk kind names seen) (he : e ∈ keyMap.toList) (hk : e.key = .string ⟨s.toArray⟩) (hm : missK kind names s = false) : SeenOk kind names (seen.push e.born) := by
  intro x hx hc y hy
  rw [contains_push,Bool.or_eq_true] at hc
  rcases hc with hc | hc
  · exact h x hx hc y hy
  · have := born_inj keyMap_born hx he (beq_iff_eq.1 hc)
    subst this
    rw [hk] at hy
    injection hy with hy
    rw [← (ba_injM s y).1 hy]
    exact hm
theorem seenOk_all {kind : Int} {names : List Bytes} {seen : Array Nat} (h : SeenOk kind names seen) (h0 : (leftOf keyMap seen).size = 0) : missA kind names = false := by
  unfold missA
  rw [List.any_eq_false]
  intro s hs
  obtain ⟨e,he,hk⟩:=keyMap_has s hs
  rw [h e he (all_seen keyMap seen h0 e he) s hk]
  simp
theorem missA_of {kind : Int} {names : List Bytes} {s : Bytes} (hs : s ∈ keysL) (h : missK kind names s = true) : missA kind names = true:=List.any_eq_true.2 ⟨s,hs,h⟩
set_option maxHeartbeats 16000000 in
theorem field_fits (n : NodeL) (kind : Int) (cs : List Value) (g : Nat) (w : World) (B : Nat) (hB : B ≤ w.heap.size) (hn : NodeOk w (· < B) n cs) (hkl : n.kids.length ≤ 100000) (hg : w.heap[g]? = some (.map (atMap (n.kids.map NodeL.name)) n.kids.length)) :
    Calls Tryz.prog 45 #[.agg cs.toArray, .int .i64 kind, .map (some g)] w (FitsPost n kind w):=by
  obtain ⟨nm,p,ws,b,ks⟩:=n
  simp only [NodeOk] at hn
  obtain ⟨Aw,cw,Ak,ck,kcs,rfl,_,_,hrw,hrk,hks⟩:=hn
  dsimp only [NodeL.words,NodeL.kids] at hkl hg
  have hFP : FitsPost (.mk nm p ws b ks) kind w = fun e w' => Below w.heap.size w w' ∧
    e = match fitsI kind (ks.map NodeL.name) 0 ks with
    | some (p,er) => .returned (.tuple #[.int .i64 p, .int .i64 er])
    | none => if missA kind (ks.map NodeL.name) then .returned (.tuple #[.int .i64 p, .int .i64 10]) else .returned (.tuple #[.int .i64 0, .int .i64 0]):=rfl
  have HFP:=zh hFP
  have HRK:=zh hrk
  have HKS:=zh hks
  have hgl : g < w.heap.size:=(Array.getElem?_eq_some_iff.1 hg).1
  obtain ⟨W0,hW0⟩ : ∃ W0,W0 = w.alloc (.cells #[.string ⟨nm.toArray⟩, .int .i64 p, .slice Aw ws.length cw, .bool b, .slice Ak ks.length ck] 44):=⟨_,rfl⟩
  have hg0 : W0.heap[g]? = some (.map (atMap (ks.map NodeL.name)) ks.length):=by rw [hW0];exact (Go.heap_alloc_old w _ hgl).trans hg
  have hLP:=run_at_look (P:=Tryz.prog) Tryz.underlying48 Tryz.underlying9 (fun w => zeroE3 w) W0 g _ (ks.map NodeL.name) b_periods hg0
  have hLY:=run_at_look (P:=Tryz.prog) Tryz.underlying48 Tryz.underlying9 (fun w => zeroE3 w) W0 g _ (ks.map NodeL.name) b_pay hg0
  rw [hW0,show (b_periods : Bytes) = [112,101,114,105,111,100,115] from rfl] at hLP
  rw [hW0,show (b_pay : Bytes) = [112,97,121] from rfl] at hLY
  have HG:=zh hg
  have HGL:=zh hgl
  obtain ⟨i1,hi1⟩ : ∃ x,atV (ks.map NodeL.name) [112,101,114,105,111,100,115] = x:=⟨_,rfl⟩
  obtain ⟨i2,hi2⟩ : ∃ x,atV (ks.map NodeL.name) [112,97,121] = x:=⟨_,rfl⟩
  obtain ⟨b1,hb1⟩ : ∃ x,(ks.map NodeL.name).contains [112,101,114,105,111,100,115] = x:=⟨_,rfl⟩
  obtain ⟨b2,hb2⟩ : ∃ x,(ks.map NodeL.name).contains [112,97,121] = x:=⟨_,rfl⟩
  rw [hi1,hb1] at hLP
  rw [hi2,hb2] at hLY
  have HLT : Hid (∀ i : Nat,laterB (ks.map NodeL.name) i = (b1 && b2 && decide ((i : Int) = max i1 i2))):=zh (fun i => by rw [← hi1,← hi2,← hb1,← hb2];rfl)
  have HB12:=zh (And.intro hb1 hb2)
  generalize hFQ : FitsPost (.mk nm p ws b ks) kind w = Q at *
  clear hFP hrw hrk hks hFQ hW0 hg0 hg hi1 hi2 hb1 hb2
  go_enter Tryz.func45,Tryz.ntmps45
  go_wp2_with fail
  go_loopw [31] (fun i wr => ∃ k : Nat,k ≤ ks.length ∧ i = .int .i64 k ∧ Below w.heap.size w wr ∧ wr.cell? ⟨w.heap.size,1,none⟩ = some (.int .i64 p) ∧ w.heap.size < wr.heap.size ∧ fitsI kind (ks.map NodeL.name) 0 ks = fitsI kind (ks.map NodeL.name) k (ks.drop k)) (fun i _ => ks.length - (intOf i).toNat)
  case atStart => exact ⟨0,Nat.zero_le _,rfl,by (repeat (first | exact Below.refl _ _ | assumption | refine Below.setCell ?_ (by first | (simp;done) | (simp;omega) | omega) _ | refine Below.alloc ?_ (by first | (simp;done) | (simp;omega) | omega) _ | refine Below.drew ?_ | refine below_drewN ?_ _ | refine Below.trans ?_ (Below.mono (by assumption) (by first | (simp;done) | (simp;omega) | omega)))),zb (heap_alloc_new w _) 1,by simp,rfl⟩
  case round =>
    obtain ⟨k,hk,rfl,hbl,hpo,hlt0,hfi⟩:=hrel
    have hbs:=hbl.size
    by_cases hlt : k < ks.length
    · obtain ⟨x,hx⟩ : ∃ x,ks[k]? = some x := ⟨_,List.getElem?_eq_getElem hlt⟩
      have hk' : ∀ q : Addr,q.block < B → wr.cell? q = w.cell? q:=fun q hq => hbl.cell (by omega)
      obtain ⟨ad',Aw',cw',Ak',ck',kcs',rfl,hab',d0,d1,d2,d3,d4,_,_,hrw',_,_⟩:=node_cells (HRK.out.keep (fun _ h => h) hk') (NodesOk.keep (fun _ h => h) hk' ks kcs HKS.out) k x hx
      have hxd : ks.drop k = x :: ks.drop (k + 1) := by
        rw [List.drop_eq_getElem_cons hlt];congr 1;exact (List.getElem?_eq_some_iff.1 hx).2
      rw [hxd] at hfi
      have lk : (k : Int) < ks.length:=by omega
      have lk0 : (0 : Int) ≤ k:=by omega
      have w1f : IntKind.i64.wrap ((k : Int) + 1) = (k : Int) + 1:=by rw [IntKind.wrap_i64];omega
      obtain ⟨xn,xp,xw,xb,xk⟩:=x
      dsimp only [NodeL.name,NodeL.pos,NodeL.words,NodeL.block,NodeL.kids] at *
      have hnA:=heap_alloc_new wr (.cells #[.string ⟨xn.toArray⟩, .int .i64 xp, .slice Aw' xw.length cw', .bool xb, .slice Ak' xk.length ck'] 44)
      have hbA : Below w.heap.size w (wr.alloc (.cells #[.string ⟨xn.toArray⟩, .int .i64 xp, .slice Aw' xw.length cw', .bool xb, .slice Ak' xk.length ck'] 44)):=hbl.alloc hbs _
      have HST:=zh (field_stands kind xn (wr.alloc (.cells #[.string ⟨xn.toArray⟩, .int .i64 xp, .slice Aw' xw.length cw', .bool xb, .slice Ak' xk.length ck'] 44)))
      obtain ⟨st,hst⟩ : ∃ x,standsC kind xn = x:=⟨_,rfl⟩
      rw [hst] at HST
      have HSTE:=zh hst
      have HFI:=zh hfi
      have H0:=zh (And.intro hbA (And.intro hnA hpo))
      clear hfi hxd hx hk' hrw' hnA hbA hbl hpo hst
      cases st
      · go_wp2_with fail
        refine HST.out.mono ?_
        rintro e w1 ⟨rfl,hb1⟩
        obtain ⟨hbA,hnA,hpo⟩:=H0.out
        have n1:=(hb1.cell (p:=⟨wr.heap.size,1,none⟩) (by simp)).trans (zb hnA 1)
        have HBE:=zh (hbA.trans (hb1.mono hbA.size))
        clear hbA hnA hpo hb1
        go_wp2_with fail
        change Q (.returned (.tuple #[.int .i64 xp, .int .i64 8])) w1
        rw [HFP.out,HFI.out,fits_8 HSTE.out]
        exact ⟨HBE.out,rfl⟩
      · go_wp2_with fail
        refine HST.out.mono ?_
        rintro e w1 ⟨rfl,hb1⟩
        obtain ⟨hbA,hnA,hpo⟩:=H0.out
        have n1:=(hb1.cell (p:=⟨wr.heap.size,1,none⟩) (by simp)).trans (zb hnA 1)
        have hpo1 : w1.cell? ⟨w.heap.size,1,none⟩ = some (.int .i64 p):=(hb1.cell (p:=⟨w.heap.size,1,none⟩) (by simp;omega)).trans ((World.cell?_alloc_lt wr _ ⟨w.heap.size,1,none⟩ hlt0).trans hpo)
        have hlt1 : w.heap.size < w1.heap.size:=by have:=hb1.size;simp at this;omega
        have HBE:=zh (And.intro (hbA.trans (hb1.mono hbA.size)) (And.intro hpo1 hlt1))
        clear hbA hnA hpo hb1 hpo1 hlt1
        have hlb:=HLT.out k
        cases b1
        · have HN := zh (show fitsI kind (ks.map NodeL.name) 0 ks = fitsI kind (ks.map NodeL.name) (k + 1) (ks.drop (k + 1)) from HFI.out.trans (fits_go HSTE.out (by rw [hlb]; rfl)))
          clear hlb
          go_wp2_with fail
          exact ⟨⟨k + 1,by omega,by go_num,HBE.out.1,HBE.out.2.1,HBE.out.2.2,HN.out⟩,by simp [intOf];omega⟩
        · cases b2
          · have HN := zh (show fitsI kind (ks.map NodeL.name) 0 ks = fitsI kind (ks.map NodeL.name) (k + 1) (ks.drop (k + 1)) from HFI.out.trans (fits_go HSTE.out (by rw [hlb]; rfl)))
            clear hlb
            go_wp2_with fail
            exact ⟨⟨k + 1,by omega,by go_num,HBE.out.1,HBE.out.2.1,HBE.out.2.2,HN.out⟩,by simp [intOf];omega⟩
          · obtain ⟨lt,hlt2⟩ : ∃ x,((k : Int) == max i1 i2) = x := ⟨_,rfl⟩
            have hle : laterB (ks.map NodeL.name) k = lt:=by rw [hlb];exact hlt2
            cases lt
            · have HN := zh (show fitsI kind (ks.map NodeL.name) 0 ks = fitsI kind (ks.map NodeL.name) (k + 1) (ks.drop (k + 1)) from HFI.out.trans (fits_go HSTE.out hle))
              clear hlb hle
              go_wp2_with fail
              exact ⟨⟨k + 1,by omega,by go_num,HBE.out.1,HBE.out.2.1,HBE.out.2.2,HN.out⟩,by simp [intOf];omega⟩
            · have HN := zh (HFI.out.trans (fits_9 HSTE.out hle))
              clear hlb hle
              go_wp2_with fail
              change Q (.returned (.tuple #[.int .i64 xp, .int .i64 9])) w1
              rw [HFP.out,HN.out]
              exact ⟨HBE.out.1,rfl⟩
    · have lk : ¬ (k : Int) < ks.length := by omega
      have hk2 : k = ks.length:=by omega
      rw [hk2,List.drop_length] at hfi
      have HFI:=zh (show fitsI kind (ks.map NodeL.name) 0 ks = none from hfi)
      clear hfi
      have hrg : (Instr.range 92 (.map (some wr.heap.size))).run Tryz.prog (wr.alloc (.map keyMap 7)) = .ok (.pointer (some ⟨wr.heap.size + 1,0,none⟩)) ((wr.alloc (.map keyMap 7)).alloc (.mapIter (some wr.heap.size) 7 #[] 7)) := by
        have h:=run_range_map (P:=Tryz.prog) (wr.alloc (.map keyMap 7)) 92 _ _ wr.heap.size keyMap 7 Tryz.underlying92 (heap_alloc_new wr _)
        rw [h]
        simp
      have HS : Hid (((wr.alloc (.map keyMap 7)).alloc (.mapIter (some wr.heap.size) 7 #[] 7)).heap[wr.heap.size]? = some (.map keyMap 7) ∧ ((wr.alloc (.map keyMap 7)).alloc (.mapIter (some wr.heap.size) 7 #[] 7)).heap[wr.heap.size + 1]? = some (.mapIter (some wr.heap.size) 7 #[] 7) ∧ Below w.heap.size w ((wr.alloc (.map keyMap 7)).alloc (.mapIter (some wr.heap.size) 7 #[] 7)) ∧ ((wr.alloc (.map keyMap 7)).alloc (.mapIter (some wr.heap.size) 7 #[] 7)).cell? ⟨w.heap.size,1,none⟩ = some (.int .i64 p)) := zh (by
        have z1 : (wr.alloc (.map keyMap 7)).heap.size = wr.heap.size + 1:=by simp
        refine ⟨?_,?_,(hbl.alloc hbs _).alloc (by omega) _,?_⟩
        · rw [Go.heap_alloc_old _ _ (by omega)];exact heap_alloc_new wr _
        · rw [← z1];exact heap_alloc_new _ _
        · rw [World.cell?_alloc_lt _ _ _ (by show w.heap.size < _;omega),World.cell?_alloc_lt _ _ _ hlt0];exact hpo)
      obtain ⟨W1,hW1⟩ : ∃ W1,(wr.alloc (.map keyMap 7)).alloc (.mapIter (some wr.heap.size) 7 #[] 7) = W1:=⟨_,rfl⟩
      rw [hW1] at HS hrg
      clear hbl hpo hW1
      go_wp2_with (first | (go_at_call 46;refine (field_keys _).mono ?_;rintro e w1 ⟨rfl,rfl⟩))
      obtain ⟨bm,hbm⟩ : ∃ x,x = wr.heap.size:=⟨_,rfl⟩
      obtain ⟨ri,hri⟩ : ∃ x,x = wr.heap.size + 1:=⟨_,rfl⟩
      rw [← hri,← hbm] at HS
      rw [← hri,← hbm]
      have hbo : w.heap.size < bm ∧ bm < ri:=by omega
      have HBO:=zh hbo
      clear hbm hri hbo hrg hlt0 hbs hk2
      clear wr
      go_loopw [14] (fun _ wx => ∃ seen : Array Nat,wx.heap[bm]? = some (.map keyMap 7) ∧ wx.heap[ri]? = some (.mapIter (some bm) 7 seen 7) ∧ Below w.heap.size w wx ∧ wx.cell? ⟨w.heap.size,1,none⟩ = some (.int .i64 p) ∧ SeenOk kind (ks.map NodeL.name) seen) (fun _ wx => (leftOf keyMap (wx.iterSeen ri)).size)
      case atStart => exact ⟨#[],HS.out.1,HS.out.2.1,HS.out.2.2.1,HS.out.2.2.2,fun e _ h => by simp at h⟩
      case round =>
        obtain ⟨seen,hm,hit,hb,hp,hs⟩:=hrel
        have hnx:=run_next_at (P:=Tryz.prog) wr 0 bm ri 7 7 seen keyMap 7 hm hit keyMap_old (Nat.le_refl _)
        rcases hnx with ⟨h0,hnx⟩ | ⟨e,he,w1,hw1,hnx⟩
        · have HM := zh (seenOk_all hs h0)
          have HB:=zh hb
          clear h0 hs hm hit hp hb
          go_wp2_with fail
          change Q (.returned (.tuple #[.int .i64 0, .int .i64 0])) _
          rw [HFP.out,HFI.out,HM.out]
          exact ⟨HB.out,rfl⟩
        · have hem := mem_left he
          obtain ⟨s,hks,hsk⟩:=keyMap_key e hem.1
          obtain ⟨w2,hw2⟩ : ∃ w2,setB w1 ri (.mapIter (some bm) 7 (seen.push e.born) 7) = w2:=⟨_,rfl⟩
          rw [hw2,hks] at hnx
          obtain ⟨q1,q2⟩:=HBO.out
          have hri : ri < w1.heap.size := by
            have : ri < wr.heap.size:=(Array.getElem?_eq_some_iff.1 hit).1
            rcases hw1 with rfl | rfl <;> exact this
          have hh1 : w1.heap = wr.heap:=by rcases hw1 with rfl | rfl <;> rfl
          have hm2 : w2.heap[bm]? = some (.map keyMap 7):=by rw [← hw2,setB_other _ _ _ _ (by omega),hh1];exact hm
          have hi2 : w2.heap[ri]? = some (.mapIter (some bm) 7 (seen.push e.born) 7):=by rw [← hw2];exact setB_new _ _ _ hri
          have hb2 : Below w.heap.size w w2 := by
            rw [← hw2]
            refine Below.setB ?_ (by omega) _
            rcases hw1 with rfl | rfl
            · exact hb
            · exact hb.drew
          have hp2 : w2.cell? ⟨w.heap.size,1,none⟩ = some (.int .i64 p) := by
            rw [← hw2,setB_cell _ _ _ _ (by show w.heap.size ≠ _;omega)]
            have : w1.cell? ⟨w.heap.size,1,none⟩ = wr.cell? ⟨w.heap.size,1,none⟩:=by unfold World.cell?;rw [hh1]
            exact this.trans hp
          have hent:=run_entry_at (P:=Tryz.prog) w2 bm ri 7 seen keyMap 7 e hm2 hi2 hem.1 keyMap_born
          rw [hks] at hent
          have hlk:=run_at_look (P:=Tryz.prog) Tryz.underlying48 Tryz.underlying9 (fun w => zeroE3 w) w2 g _ (ks.map NodeL.name) s ((hb2.block g HGL.out).trans HG.out)
          have HST:=zh (field_stands kind s w2)
          have hmk : missK kind (ks.map NodeL.name) s = (standsC kind s && !(ks.map NodeL.name).contains s && !(((s == [112,101,114,105,111,100,115]) || (s == [112,97,121])) && (b1 || b2))) := by
            unfold missK
            rw [← HB12.out.1,← HB12.out.2]
            have z1 : decide (s = b_periods) = (s == [112,101,114,105,111,100,115]) := by
              by_cases h : s = b_periods
              · rw [h];rfl
              · rw [decide_eq_false h];exact (beq_false_of_ne h).symm
            have z2 : decide (s = b_pay) = (s == [112,97,121]) := by
              by_cases h : s = b_pay
              · rw [h];rfl
              · rw [decide_eq_false h];exact (beq_false_of_ne h).symm
            rw [z1,z2]
            rfl
          have HMK:=zh hmk
          have HE:=zh (And.intro hem.1 (And.intro hks hsk))
          have HSE:=zh hs
          have hpre : ∀ w3 : World,Below w2.heap.size w2 w3 → w3.heap[bm]? = some (.map keyMap 7) ∧ w3.heap[ri]? = some (.mapIter (some bm) 7 (seen.push e.born) 7) ∧ Below w.heap.size w w3 ∧ w3.cell? ⟨w.heap.size,1,none⟩ = some (.int .i64 p) := fun w3 h3 => by
            have l1:=(Array.getElem?_eq_some_iff.1 hm2).1
            have l2:=(Array.getElem?_eq_some_iff.1 hi2).1
            exact ⟨(h3.block bm l1).trans hm2,(h3.block ri l2).trans hi2,hb2.trans (h3.mono hb2.size),(h3.cell (p:=⟨w.heap.size,1,none⟩) (by show w.heap.size < _;omega)).trans hp2⟩
          have HPRE:=zh hpre
          have HM1 : Hid (∀ w3 : World,w3.heap[ri]? = some (.mapIter (some bm) 7 (seen.push e.born) 7) → w3.iterSeen ri = seen.push e.born):=zh (fun w3 h => by unfold World.iterSeen;rw [h])
          have HM2 : Hid ((leftOf keyMap (seen.push e.born)).size < (leftOf keyMap (wr.iterSeen ri)).size) := zh (by
            have : wr.iterSeen ri = seen:=by unfold World.iterSeen;rw [hit]
            rw [this]
            exact left_shrinks keyMap seen e he)
          obtain ⟨st,hst⟩ : ∃ x,standsC kind s = x:=⟨_,rfl⟩
          obtain ⟨th,hth⟩ : ∃ x,(ks.map NodeL.name).contains s = x:=⟨_,rfl⟩
          obtain ⟨y1,hy1⟩ : ∃ x,(s == [112,101,114,105,111,100,115]) = x:=⟨_,rfl⟩
          obtain ⟨y2,hy2⟩ : ∃ x,(s == [112,97,121]) = x:=⟨_,rfl⟩
          rw [hst] at HST
          rw [hth] at hlk
          rw [hst,hth,hy1,hy2] at HMK
          generalize atV (ks.map NodeL.name) s = av at *
          generalize e.val = ev at *
          clear hem hks hsk hw2 q1 q2 hri hh1 hm2 hi2 hb2 hp2 hmk hs hpre hm hit hb hp hw1 he hst hth
          cases st
          · have HMI : Hid (missK kind (ks.map NodeL.name) s = false) := zh (by rw [HMK.out]; rfl)
            cases y1
            · cases y2
              · skip
                (go_wp2_with fail;refine HST.out.mono ?_;rintro e1 w3 ⟨rfl,hb3⟩)
                have HN3:=zh (HPRE.out w3 hb3);have np:=HN3.out.2.2.2;clear hb3
                (go_wp2_with fail;exact ⟨⟨_,HN3.out.1,HN3.out.2.1,HN3.out.2.2.1,HN3.out.2.2.2,seenOk_push HSE.out HE.out.1 HE.out.2.1 (by first | exact HMI.out | (rw [HMI.out];rfl))⟩,by rw [HM1.out _ HN3.out.2.1];exact HM2.out⟩)
              · cases b1
                · cases b2 <;> (
                    (go_wp2_with fail;refine HST.out.mono ?_;rintro e1 w3 ⟨rfl,hb3⟩)
                    have HN3:=zh (HPRE.out w3 hb3);have np:=HN3.out.2.2.2;clear hb3
                    (go_wp2_with fail;exact ⟨⟨_,HN3.out.1,HN3.out.2.1,HN3.out.2.2.1,HN3.out.2.2.2,seenOk_push HSE.out HE.out.1 HE.out.2.1 (by first | exact HMI.out | (rw [HMI.out];rfl))⟩,by rw [HM1.out _ HN3.out.2.1];exact HM2.out⟩))
                · skip
                  (go_wp2_with fail;refine HST.out.mono ?_;rintro e1 w3 ⟨rfl,hb3⟩)
                  have HN3:=zh (HPRE.out w3 hb3);have np:=HN3.out.2.2.2;clear hb3
                  (go_wp2_with fail;exact ⟨⟨_,HN3.out.1,HN3.out.2.1,HN3.out.2.2.1,HN3.out.2.2.2,seenOk_push HSE.out HE.out.1 HE.out.2.1 (by first | exact HMI.out | (rw [HMI.out];rfl))⟩,by rw [HM1.out _ HN3.out.2.1];exact HM2.out⟩)
            · cases b1
              · cases b2 <;> (
                  (go_wp2_with fail;refine HST.out.mono ?_;rintro e1 w3 ⟨rfl,hb3⟩)
                  have HN3:=zh (HPRE.out w3 hb3);have np:=HN3.out.2.2.2;clear hb3
                  (go_wp2_with fail;exact ⟨⟨_,HN3.out.1,HN3.out.2.1,HN3.out.2.2.1,HN3.out.2.2.2,seenOk_push HSE.out HE.out.1 HE.out.2.1 (by first | exact HMI.out | (rw [HMI.out];rfl))⟩,by rw [HM1.out _ HN3.out.2.1];exact HM2.out⟩))
              · skip
                (go_wp2_with fail;refine HST.out.mono ?_;rintro e1 w3 ⟨rfl,hb3⟩)
                have HN3:=zh (HPRE.out w3 hb3);have np:=HN3.out.2.2.2;clear hb3
                (go_wp2_with fail;exact ⟨⟨_,HN3.out.1,HN3.out.2.1,HN3.out.2.2.1,HN3.out.2.2.2,seenOk_push HSE.out HE.out.1 HE.out.2.1 (by first | exact HMI.out | (rw [HMI.out];rfl))⟩,by rw [HM1.out _ HN3.out.2.1];exact HM2.out⟩)
          · cases th
            · cases y1
              · cases y2
                · have HMI : Hid (missK kind (ks.map NodeL.name) s = true) := zh (by rw [HMK.out]; rfl)
                  (go_wp2_with fail;refine HST.out.mono ?_;rintro e1 w3 ⟨rfl,hb3⟩)
                  have HN3:=zh (HPRE.out w3 hb3);have np:=HN3.out.2.2.2;clear hb3
                  (go_wp2_with fail;change Q (.returned (.tuple #[.int .i64 p, .int .i64 10])) w3;rw [HFP.out,HFI.out,missA_of HE.out.2.2 HMI.out];exact ⟨HN3.out.2.2.1,rfl⟩)
                · cases b1
                  · cases b2
                    · have HMI : Hid (missK kind (ks.map NodeL.name) s = true) := zh (by rw [HMK.out]; rfl)
                      (go_wp2_with fail;refine HST.out.mono ?_;rintro e1 w3 ⟨rfl,hb3⟩)
                      have HN3:=zh (HPRE.out w3 hb3);have np:=HN3.out.2.2.2;clear hb3
                      (go_wp2_with fail;change Q (.returned (.tuple #[.int .i64 p, .int .i64 10])) w3;rw [HFP.out,HFI.out,missA_of HE.out.2.2 HMI.out];exact ⟨HN3.out.2.2.1,rfl⟩)
                    · have HMI : Hid (missK kind (ks.map NodeL.name) s = false) := zh (by rw [HMK.out]; rfl)
                      (go_wp2_with fail;refine HST.out.mono ?_;rintro e1 w3 ⟨rfl,hb3⟩)
                      have HN3:=zh (HPRE.out w3 hb3);have np:=HN3.out.2.2.2;clear hb3
                      (go_wp2_with fail;exact ⟨⟨_,HN3.out.1,HN3.out.2.1,HN3.out.2.2.1,HN3.out.2.2.2,seenOk_push HSE.out HE.out.1 HE.out.2.1 (by first | exact HMI.out | (rw [HMI.out];rfl))⟩,by rw [HM1.out _ HN3.out.2.1];exact HM2.out⟩)
                  · have HMI : Hid (missK kind (ks.map NodeL.name) s = false) := zh (by rw [HMK.out]; rfl)
                    (go_wp2_with fail;refine HST.out.mono ?_;rintro e1 w3 ⟨rfl,hb3⟩)
                    have HN3:=zh (HPRE.out w3 hb3);have np:=HN3.out.2.2.2;clear hb3
                    (go_wp2_with fail;exact ⟨⟨_,HN3.out.1,HN3.out.2.1,HN3.out.2.2.1,HN3.out.2.2.2,seenOk_push HSE.out HE.out.1 HE.out.2.1 (by first | exact HMI.out | (rw [HMI.out];rfl))⟩,by rw [HM1.out _ HN3.out.2.1];exact HM2.out⟩)
              · cases b1
                · cases b2
                  · have HMI : Hid (missK kind (ks.map NodeL.name) s = true) := zh (by rw [HMK.out]; rfl)
                    (go_wp2_with fail;refine HST.out.mono ?_;rintro e1 w3 ⟨rfl,hb3⟩)
                    have HN3:=zh (HPRE.out w3 hb3);have np:=HN3.out.2.2.2;clear hb3
                    (go_wp2_with fail;change Q (.returned (.tuple #[.int .i64 p, .int .i64 10])) w3;rw [HFP.out,HFI.out,missA_of HE.out.2.2 HMI.out];exact ⟨HN3.out.2.2.1,rfl⟩)
                  · have HMI : Hid (missK kind (ks.map NodeL.name) s = false) := zh (by rw [HMK.out]; rfl)
                    (go_wp2_with fail;refine HST.out.mono ?_;rintro e1 w3 ⟨rfl,hb3⟩)
                    have HN3:=zh (HPRE.out w3 hb3);have np:=HN3.out.2.2.2;clear hb3
                    (go_wp2_with fail;exact ⟨⟨_,HN3.out.1,HN3.out.2.1,HN3.out.2.2.1,HN3.out.2.2.2,seenOk_push HSE.out HE.out.1 HE.out.2.1 (by first | exact HMI.out | (rw [HMI.out];rfl))⟩,by rw [HM1.out _ HN3.out.2.1];exact HM2.out⟩)
                · have HMI : Hid (missK kind (ks.map NodeL.name) s = false) := zh (by rw [HMK.out]; rfl)
                  (go_wp2_with fail;refine HST.out.mono ?_;rintro e1 w3 ⟨rfl,hb3⟩)
                  have HN3:=zh (HPRE.out w3 hb3);have np:=HN3.out.2.2.2;clear hb3
                  (go_wp2_with fail;exact ⟨⟨_,HN3.out.1,HN3.out.2.1,HN3.out.2.2.1,HN3.out.2.2.2,seenOk_push HSE.out HE.out.1 HE.out.2.1 (by first | exact HMI.out | (rw [HMI.out];rfl))⟩,by rw [HM1.out _ HN3.out.2.1];exact HM2.out⟩)
            · have HMI : Hid (missK kind (ks.map NodeL.name) s = false) := zh (by rw [HMK.out]; rfl)
              cases y1
              · cases y2
                · skip
                  (go_wp2_with fail;refine HST.out.mono ?_;rintro e1 w3 ⟨rfl,hb3⟩)
                  have HN3:=zh (HPRE.out w3 hb3);have np:=HN3.out.2.2.2;clear hb3
                  (go_wp2_with fail;exact ⟨⟨_,HN3.out.1,HN3.out.2.1,HN3.out.2.2.1,HN3.out.2.2.2,seenOk_push HSE.out HE.out.1 HE.out.2.1 (by first | exact HMI.out | (rw [HMI.out];rfl))⟩,by rw [HM1.out _ HN3.out.2.1];exact HM2.out⟩)
                · cases b1
                  · cases b2 <;> (
                      (go_wp2_with fail;refine HST.out.mono ?_;rintro e1 w3 ⟨rfl,hb3⟩)
                      have HN3:=zh (HPRE.out w3 hb3);have np:=HN3.out.2.2.2;clear hb3
                      (go_wp2_with fail;exact ⟨⟨_,HN3.out.1,HN3.out.2.1,HN3.out.2.2.1,HN3.out.2.2.2,seenOk_push HSE.out HE.out.1 HE.out.2.1 (by first | exact HMI.out | (rw [HMI.out];rfl))⟩,by rw [HM1.out _ HN3.out.2.1];exact HM2.out⟩))
                  · skip
                    (go_wp2_with fail;refine HST.out.mono ?_;rintro e1 w3 ⟨rfl,hb3⟩)
                    have HN3:=zh (HPRE.out w3 hb3);have np:=HN3.out.2.2.2;clear hb3
                    (go_wp2_with fail;exact ⟨⟨_,HN3.out.1,HN3.out.2.1,HN3.out.2.2.1,HN3.out.2.2.2,seenOk_push HSE.out HE.out.1 HE.out.2.1 (by first | exact HMI.out | (rw [HMI.out];rfl))⟩,by rw [HM1.out _ HN3.out.2.1];exact HM2.out⟩)
              · cases b1
                · cases b2 <;> (
                    (go_wp2_with fail;refine HST.out.mono ?_;rintro e1 w3 ⟨rfl,hb3⟩)
                    have HN3:=zh (HPRE.out w3 hb3);have np:=HN3.out.2.2.2;clear hb3
                    (go_wp2_with fail;exact ⟨⟨_,HN3.out.1,HN3.out.2.1,HN3.out.2.2.1,HN3.out.2.2.2,seenOk_push HSE.out HE.out.1 HE.out.2.1 (by first | exact HMI.out | (rw [HMI.out];rfl))⟩,by rw [HM1.out _ HN3.out.2.1];exact HM2.out⟩))
                · skip
                  (go_wp2_with fail;refine HST.out.mono ?_;rintro e1 w3 ⟨rfl,hb3⟩)
                  have HN3:=zh (HPRE.out w3 hb3);have np:=HN3.out.2.2.2;clear hb3
                  (go_wp2_with fail;exact ⟨⟨_,HN3.out.1,HN3.out.2.1,HN3.out.2.2.1,HN3.out.2.2.2,seenOk_push HSE.out HE.out.1 HE.out.2.1 (by first | exact HMI.out | (rw [HMI.out];rfl))⟩,by rw [HM1.out _ HN3.out.2.1];exact HM2.out⟩)
end Go.Proofs.YtjbniichcopnlaaGreatDoor
