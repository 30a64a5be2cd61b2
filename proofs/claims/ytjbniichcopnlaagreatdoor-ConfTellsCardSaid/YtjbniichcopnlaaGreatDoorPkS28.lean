/- Layer 11 (field): the walk of formed: all items may be. Written by wip/gen_formed.py. Then: Layer 11 (field): the walk of formed: all together. Then: Layer 11 (field), in plain Lean: what formed and fits tell, by places. Then: 'next' and 'entry' of an iterator over a map that lies as it lay when the loop began, wherever the iterator's block lies. -/
import Derived.Test.YtjbniichcopnlaaGreatDoorPkS25
import Derived.BigRegion
import Derived.Test.YtjbniichcopnlaaGreatDoorPkS26
import Derived.Test.YtjbniichcopnlaaGreatDoorPkS27
import Derived.Test.YtjbniichcopnlaaGreatDoorPkS18
import Derived.Test.YtjbniichcopnlaaGreatDoorPkS19
import Derived.Laws.IdiomRangeMap
set_option linter.unusedSimpArgs false
namespace Go.Proofs.YtjbniichcopnlaaGreatDoor
section
set_option linter.unusedVariables false
set_option maxRecDepth 100000
open Go.RowKit
open Go.Joins renaming cell_of_block → zb, unfrozen_of_block → zu
open Go.Lib renaming hid → zh
set_option maxHeartbeats 16000000 in
theorem field_formed_0 (n : NodeL) (cs : List Value) (w : World) (B : Nat) (hB : B ≤ w.heap.size) (hn : NodeOk w (· < B) n cs) (hw1 : n.words.length = 1) (hkl : n.kids.length ≤ 100000) (hkw : ∀ k ∈ n.kids,k.words.length ≤ 100) (hcl : clsF (formedL (n.words.headD ⟨false,0,[],0⟩).s [] none n.kids) = 0) :
    Calls Tryz.prog 44 #[.agg cs.toArray] w (FormedPost n w):=by
  obtain ⟨nm,p,ws,b,ks⟩:=n
  simp only [NodeOk] at hn
  obtain ⟨Aw,cw,Ak,ck,kcs,rfl,_,_,hrw,hrk,hks⟩:=hn
  dsimp only [NodeL.words,NodeL.kids] at hw1 hkl hkw
  obtain ⟨t,rfl⟩ : ∃ t,ws = [t] := by
    match ws,hw1 with
    | [t],_ => exact ⟨t,rfl⟩
  obtain ⟨ad,rfl,hadb,e0,e1,e2,e3⟩:=word0 hrw
  have hFP : FormedPost (.mk nm p [t] b ks) w = fun e w' => Below w.heap.size w w' ∧
      match formedL t.s [] none ks with
      | .inl (p,er) => ∃ c,e = .returned (.tuple #[calV c, .map none, .int .i64 p, .int .i64 er])
      | .inr none => ∃ c,e = .returned (.tuple #[calV c, .map none, .int .i64 p, .int .i64 10])
      | .inr (some c) => ∃ g,e = .returned (.tuple #[calV c, .map (some g), .int .i64 0, .int .i64 0]) ∧ w'.heap[g]? = some (.map (atMap (ks.map NodeL.name)) ks.length):=rfl
  have HFP:=zh hFP
  have HCL : Hid (clsF (formedL t.s [] none ks) = 0):=zh hcl
  clear hcl
  have HRK:=zh hrk
  have HKS:=zh hks
  have HKW:=zh hkw
  have hmm:=@run_makeMap Tryz.prog
  have hdl : ad.block < w.heap.size:=by omega
  have hdl1 : ad.block < w.heap.size + 1:=by omega
  clear hFP hrw hrk hks hkw hw1
  generalize hFQ : FormedPost (.mk nm p [t] b ks) w = Q at *
  obtain ⟨tn,tnn,ts,tp⟩:=t
  dsimp only at *
  go_enter Tryz.func44,Tryz.ntmps44
  go_wp2_with (first | (go_at_call 46;refine (field_keys _).mono ?_;rintro e w1 ⟨rfl,rfl⟩))
  have HFS0 : Hid (FS w ((((w.alloc (.cells #[.string ⟨nm.toArray⟩, .int .i64 p, .slice (some ad) 1 cw, .bool b, .slice Ak ks.length ck] 44)).alloc (.cells #[.string ⟨ts.toArray⟩, .int .i64 0, .int .i64 0, .int .i64 0, .int .i64 0, .int .i64 0, .int .i64 0, .int .i64 0, .int .i64 0, .int .i64 0, .int .i64 0, .int .i64 0, .int .i64 0, .int .i64 0] 37)).alloc (.map keyMap 7)).alloc (.map #[] 0)) p (w.heap.size + 1) (w.heap.size + 1 + 1 + 1) (w.heap.size + 1 + 1) [] { calZ with name := ts }) := zh (by
    obtain ⟨a1,a2,a3,a4,a5⟩:=four w (.cells #[.string ⟨nm.toArray⟩, .int .i64 p, .slice (some ad) 1 cw, .bool b, .slice Ak ks.length ck] 44) (.cells #[.string ⟨ts.toArray⟩, .int .i64 0, .int .i64 0, .int .i64 0, .int .i64 0, .int .i64 0, .int .i64 0, .int .i64 0, .int .i64 0, .int .i64 0, .int .i64 0, .int .i64 0, .int .i64 0, .int .i64 0] 37) (.map keyMap 7) (.map #[] 0)
    exact ⟨a1,a3,a5,a4,zb a2 1,(Array.getElem?_eq_some_iff.1 a2).1,rfl,rfl,rfl⟩)
  obtain ⟨bc,hbc⟩ : ∃ x,x = w.heap.size + 1:=⟨_,rfl⟩
  obtain ⟨bk,hbk⟩ : ∃ x,x = w.heap.size + 1 + 1:=⟨_,rfl⟩
  obtain ⟨bm,hbm⟩ : ∃ x,x = w.heap.size + 1 + 1 + 1:=⟨_,rfl⟩
  rw [← hbm,← hbk,← hbc] at HFS0
  rw [← hbm,← hbk,← hbc]
  generalize World.alloc _ _ = W0 at *
  have HBE:=zh (And.intro hbc (And.intro hbk hbm))
  clear hbc hbk hbm e0 e1 e2 e3
  go_loopw [3,27] (fun s3 i wr => s3 = .map (some bm) ∧ ∃ (k : Nat) (c : CalL) (co : Option CalL),k ≤ ks.length ∧ i = .int .i64 k ∧ FS w wr p bc bm bk ((ks.take k).map NodeL.name) c ∧ co.getD { calZ with name:=ts } = c ∧ c.name = ts ∧ co.isSome = ((ks.take k).map NodeL.name).contains b_end ∧ formedL ts [] none ks = formedL ts ((ks.take k).map NodeL.name) co (ks.drop k)) (fun _ i _ => ks.length - (intOf i).toNat)
  case atStart => exact ⟨rfl,0,_,none,Nat.zero_le _,rfl,HFS0.out,rfl,rfl,rfl,rfl⟩
  case round =>
    obtain ⟨rfl,k,c,co,hk,rfl,hfs,hco,hnm,hce,hfl⟩:=hrel
    have HNM:=zh hnm
    clear hnm
    have hbs:=hfs.below.size
    have hbo : w.heap.size < bc ∧ w.heap.size < bk ∧ w.heap.size < bm ∧ bc ≠ bk ∧ bc ≠ bm ∧ bk ≠ bm:=by have:=HBE.out;omega
    have hbc0:=hbo.1
    have HBO:=zh hbo
    clear hbo
    by_cases hlt : k < ks.length
    · obtain ⟨x,hx⟩ : ∃ x,ks[k]? = some x := ⟨_,List.getElem?_eq_getElem hlt⟩
      have hk' : ∀ q : Addr,q.block < B → wr.cell? q = w.cell? q:=fun q hq => hfs.below.cell (by omega)
      obtain ⟨ad',Aw',cw',Ak',ck',kcs',rfl,hab',d0,d1,d2,d3,d4,_,_,hrw',_,_⟩:=node_cells (HRK.out.keep (fun _ h => h) hk') (NodesOk.keep (fun _ h => h) hk' ks kcs HKS.out) k x hx
      have hxd : ks.drop k = x :: ks.drop (k + 1) := by
        rw [List.drop_eq_getElem_cons hlt];congr 1;exact (List.getElem?_eq_some_iff.1 hx).2
      rw [hxd] at hfl
      have hwl:=HKW.out x (List.mem_of_getElem? hx)
      have lk : (k : Int) < ks.length:=by omega
      have lk0 : (0 : Int) ≤ k:=by omega
      have w1f : IntKind.i64.wrap ((k : Int) + 1) = (k : Int) + 1:=by rw [IntKind.wrap_i64];omega
      have hseen : (ks.take (k + 1)).map NodeL.name = (ks.take k).map NodeL.name ++ [x.name] := by
        rw [List.take_add_one,hx];simp
      have hsl : ((ks.take k).map NodeL.name).length = k:=by simp;omega
      generalize (ks.take k).map NodeL.name = seen at *
      obtain ⟨xn,xp,xw,xb,xk⟩:=x
      dsimp only [NodeL.name,NodeL.pos,NodeL.words,NodeL.block,NodeL.kids] at *
      have hcal:=hfs.cal
      have hgl:=hcal.lt
      have hml : bm < wr.heap.size:=(Array.getElem?_eq_some_iff.1 hfs.at_).1
      have hkl' : bk < wr.heap.size:=(Array.getElem?_eq_some_iff.1 hfs.keys).1
      obtain ⟨wA,hwA⟩ : ∃ wA,wA = wr.alloc (.cells #[.string ⟨xn.toArray⟩, .int .i64 xp, .slice Aw' xw.length cw', .bool xb, .slice Ak' xk.length ck'] 44):=⟨_,rfl⟩
      have hLK:=key_look wA bk xn (by rw [hwA];exact (Go.heap_alloc_old wr _ hkl').trans hfs.keys)
      have hLA:=run_at_look (P:=Tryz.prog) Tryz.underlying48 Tryz.underlying9 (fun w => zeroE3 w) wA bm _ seen xn (by rw [hwA];exact (Go.heap_alloc_old wr _ hml).trans hfs.at_)
      have hcA : CalBlk wA bc c:=by rw [hwA];exact hcal.alloc _
      have hbA : Below w.heap.size w wA:=by rw [hwA];exact hfs.below.alloc hbs _
      have hPA : wA.cell? ⟨wr.heap.size,1,none⟩ = some (.int .i64 xp):=by rw [hwA];exact zb (heap_alloc_new wr _) 1
      have HFL:=zh hfl
      have HFS:=zh hfs
      have HCO:=zh hco
      have HCE:=zh hce
      have HSEEN:=zh hseen
      have HX:=zh (And.intro hx hxd)
      have HWA:=zh hwA
      clear hfl hfs hco hce hseen hx hxd hk'
      cases hin : keysL.contains xn
      · rw [hin] at hLK
        have HE:=zh (HFL.out.trans (formed_8 hin))
        rw [hwA] at hLK hLA
        have HBA:=zh hbA
        have HCA:=zh hcA
        obtain ⟨c0,c1,c2,c3,c4,c5,c6,c7,c8,c9,c10,c11,c12,c13⟩:=cells14 hcal;obtain ⟨f0,f1,f2,f3,f4,f5,f6,f7,f8,f9,f10,f11,f12,f13⟩:=unf14 hcal
        clear hin HFL hLA hcA hbA hPA hcal
        generalize keyFn xn = kv at *
        have hcl:=HCL.out
        rw [HE.out] at hcl
        exact absurd hcl (show ¬ ((8 : Int) = 0) by decide)
      · obtain ⟨f,hkf,hEN,hKA⟩ := key_fn xn hin
        rw [hin,hkf] at hLK
        clear hkf
        cases hsn : seen.contains xn
        · rw [hsn] at hLA
          have hput:=run_at_put (P:=Tryz.prog) Tryz.underlying48 Tryz.underlying9 wA bm seen xn (by rw [hwA];exact (Go.heap_alloc_old wr _ hml).trans HFS.out.at_) hsn
          rw [hsl] at hput
          obtain ⟨wB,hwB⟩ : ∃ wB,setB wA bm (.map (atMap (seen ++ [xn])) (seen ++ [xn]).length) = wB:=⟨_,rfl⟩
          rw [hwB] at hput
          have hzA : wA.heap.size = wr.heap.size + 1:=by rw [hwA];simp
          have hzB : wB.heap.size = wr.heap.size + 1:=by rw [← hwB,setB_size,hzA]
          obtain ⟨o1,o2,o3,o4,o5,o6⟩:=HBO.out
          have hnA:=heap_alloc_new wr (.cells #[.string ⟨xn.toArray⟩, .int .i64 xp, .slice Aw' xw.length cw', .bool xb, .slice Ak' xk.length ck'] 44)
          rw [← hwA] at hnA
          have hnB : wB.heap[wr.heap.size]? = some (.cells #[.string ⟨xn.toArray⟩, .int .i64 xp, .slice Aw' xw.length cw', .bool xb, .slice Ak' xk.length ck'] 44 (0,0)):=by rw [← hwB,setB_other _ _ _ _ (by omega)];exact hnA
          have hcB : CalBlk wB bc c := by
            have : wB.heap[bc]? = wA.heap[bc]?:=by rw [← hwB,setB_other _ _ _ _ (by omega)]
            exact this.trans hcA
          have hmB : wB.heap[bm]? = some (.map (atMap (seen ++ [xn])) (seen ++ [xn]).length):=by rw [← hwB];exact setB_new _ _ _ (by omega)
          have hkB : wB.heap[bk]? = some (.map keyMap 7) := by
            rw [← hwB,setB_other _ _ _ _ (by omega),hwA];exact (Go.heap_alloc_old wr _ hkl').trans HFS.out.keys
          have hbB : Below w.heap.size w wB:=by rw [← hwB];exact Below.setB hbA (by omega) _
          have hpB : wB.cell? ⟨w.heap.size,1,none⟩ = some (.int .i64 p) := by
            rw [← hwB,setB_cell _ _ _ _ (by show w.heap.size ≠ _;omega),hwA,World.cell?_alloc_lt _ _ _ (by show w.heap.size < _;have:=HFS.out.lt;omega)];exact HFS.out.pos
          have hrB : ReadsM wB (· < B) 4 Aw' xw.length (xw.flatMap WordL.cells) := hrw'.keep (fun _ h => h) (fun q hq => by
            rw [← hwB,setB_cell _ _ _ _ (by omega),hwA,World.cell?_alloc_lt _ _ _ (by omega)])
          have hnm : c.name = ts:=HNM.out
          rw [hwA] at hLK hLA hput
          have hglB:=hcB.lt
          have hnlB : wr.heap.size < wB.heap.size:=by omega
          have n0:=zb hnB 0
          have n1:=zb hnB 1
          have n2:=zb hnB 2
          have n3:=zb hnB 3
          obtain ⟨wC,hwC⟩ : ∃ wC,wC = wB.alloc (.cells #[.string ⟨c.name.toArray⟩, .int .i64 0, .int .i64 0, .int .i64 0, .int .i64 0, .int .i64 0, .int .i64 0, .int .i64 0, .int .i64 0, .int .i64 0, .int .i64 0, .int .i64 0, .int .i64 0, .int .i64 0] 37):=⟨_,rfl⟩
          have hcC : CalBlk wC wB.heap.size { calZ with name:=c.name }:=by rw [hwC];exact heap_alloc_new wB _
          have hBB:=zh (And.intro hbB (And.intro hcB (And.intro hmB (And.intro hkB (And.intro hpB (And.intro hnB hzB))))))
          have HRB:=zh hrB
          have HFL2:=zh (And.intro hin hsn)
          have c0':=zb hcB 0
          generalize atV seen xn = av at *
          clear hin hsn hcA hbA hPA hcal hwA hwB hzA hnA hnB hcB hmB hkB hbB hpB hrB hrw' hsl HWA
          cases xb
          · by_cases hxw : xw = []
            · subst hxw
              clear hzB hKA hEN HRB
              dsimp only [List.length_nil] at hLK hLA hput d2 n2
              have HE:=zh (HFL.out.trans (formed_5 HFL2.out.1 HFL2.out.2 rfl))
              have hcal:=hBB.out.2.1
              obtain ⟨c0,c1,c2,c3,c4,c5,c6,c7,c8,c9,c10,c11,c12,c13⟩:=cells14 hcal;obtain ⟨f0,f1,f2,f3,f4,f5,f6,f7,f8,f9,f10,f11,f12,f13⟩:=unf14 hcal
              clear hcal hwC hcC hnm c0'
              have hcl:=HCL.out
              rw [HE.out] at hcl
              exact absurd hcl (show ¬ ((5 : Int) = 0) by decide)
            · have hxl : ((xw.length : Int) == 0) = false := beq_false_of_ne (by
                have : 0 < xw.length:=List.length_pos_iff.2 hxw
                omega)
              have hCC:=hKA { calZ with name:=c.name } xw Aw' cw' wC B wB.heap.size (fun _ => rfl) hxw hwl (by omega) hcC (HRB.out.keep (fun _ h => h) (fun q hq => by rw [hwC,World.cell?_alloc_lt _ _ _ (by omega)]))
              obtain ⟨pp,hpp⟩ : ∃ pp,putK xn { calZ with name:=c.name } xw = pp:=⟨_,rfl⟩
              obtain ⟨pc,pb⟩:=pp
              rw [hpp] at hCC
              rw [hwC] at hCC
              have HCC:=zh hCC
              rw [hnm] at hpp
              have HPP:=zh hpp
              have hzl : wr.heap.size < wB.heap.size:=hnlB
              clear hCC hpp hwC hzB hKA hcC HRB hnm
              go_wp2_with fail
              refine HCC.out.mono ?_
              rintro e w3 ⟨rfl,hc3',hs3⟩
              obtain ⟨hbB,hcB,hmB,hkB,hpB,hnB,hzB⟩:=hBB.out
              obtain ⟨o1,o2,o3,o4,o5,o6⟩:=HBO.out
              have hsz3 : wB.heap.size < w3.heap.size:=by have:=hs3.size;simp at this;omega
              have kp : ∀ q,q < wB.heap.size → w3.heap[q]? = wB.heap[q]?:=fun q hq => (hs3.block q (by simp;omega) (by simp) (by intro e;injection e;omega)).trans (Go.heap_alloc_old wB _ hq)
              have hc3 : CalBlk w3 bc c:=(kp bc hglB).trans hcB
              have hm3:=(kp bm (by omega)).trans hmB
              have hk3:=(kp bk (by omega)).trans hkB
              have hn3:=(kp wr.heap.size (by omega)).trans hnB
              have hp3 : w3.cell? ⟨w.heap.size,1,none⟩ = some (.int .i64 p) := by
                have hw0 : w.heap.size < wB.heap.size:=by omega
                have : w3.cell? ⟨w.heap.size,1,none⟩ = wB.cell? ⟨w.heap.size,1,none⟩:=by unfold World.cell?;rw [show w3.heap[(⟨w.heap.size,1,none⟩ : Addr).block]? = wB.heap[(⟨w.heap.size,1,none⟩ : Addr).block]? from kp _ hw0]
                exact this.trans hpB
              have hb3 : Below w.heap.size w w3:=Step.toBelow (hbB.alloc hbB.size _) hs3 (by omega) (by simp;omega)
              have H3:=zh (And.intro hb3 (And.intro hc3 (And.intro hm3 (And.intro hk3 (And.intro hp3 hsz3)))))
              have HC3':=zh hc3'
              replace n0:=zb hn3 0
              replace n1:=zb hn3 1
              have hgl3:=hc3.lt
              clear hbB hcB hmB hkB hpB hnB hzB kp hm3 hk3 hn3 hp3 hb3 hs3 n2 n3 hLK hLA hput
              clear hc3'
              cases pb
              · have HE := zh (HFL.out.trans (formed_5 HFL2.out.1 HFL2.out.2 (by show (false || xw.isEmpty || !(putK xn { calZ with name := ts } xw).2) = true; rw [HPP.out]; simp)))
                obtain ⟨c0,c1,c2,c3,c4,c5,c6,c7,c8,c9,c10,c11,c12,c13⟩:=cells14 hc3;obtain ⟨f0,f1,f2,f3,f4,f5,f6,f7,f8,f9,f10,f11,f12,f13⟩:=unf14 hc3
                clear hc3
                have hcl:=HCL.out
                rw [HE.out] at hcl
                exact absurd hcl (show ¬ ((5 : Int) = 0) by decide)
              · have HG := zh (HFL.out.trans (formed_go HFL2.out.1 HFL2.out.2 (by show (false || xw.isEmpty || !(putK xn { calZ with name := ts } xw).2) = false; rw [HPP.out]; simp [hxw])))
                have HNEW:=zh (show ks.take (k + 1) = ks.take (k + 1) from rfl)
                by_cases hxe : xn = b_end
                · have hxq : (xn == [101,110,100]) = true := by rw [hxe]; rfl
                  have HXE:=zh hxe
                  have hc3':=HC3'.out
                  obtain ⟨c0,c1,c2,c3,c4,c5,c6,c7,c8,c9,c10,c11,c12,c13⟩:=cells14 hc3;obtain ⟨f0,f1,f2,f3,f4,f5,f6,f7,f8,f9,f10,f11,f12,f13⟩:=unf14 hc3
                  obtain ⟨g0,g1,g2,g3,g4,g5,g6,g7,g8,g9,g10,g11,g12,g13⟩:=cells14 hc3'
                  clear hc3 hc3' hxe
                  go_wp2_with fail
                  obtain ⟨x1,x2,x3,x4,x5,x6⟩:=H3.out
                  obtain ⟨y1,y2,y3,y4,y5,y6⟩:=HBO.out
                  have hst:=Step.put14 (Step.refl w3 [] (some bc)) pc
                  have hkk:=HSEEN.out
                  have hxd:=HX.out.2
                  refine ⟨⟨rfl,k + 1,pc,some pc,by omega,by go_num,?_,rfl,?_,?_,?_⟩,by simp [intOf];omega⟩
                  · rw [hkk]
                    exact ⟨CalBlk.below x1 (Nat.le_of_lt y1) pc,x2.put14 pc,(hst.block bm (by omega) (by simp) (by intro e;injection e;omega)).trans x3,(hst.block bk (by omega) (by simp) (by intro e;injection e;omega)).trans x4,(hst.cell w.heap.size (by omega) (by intro e;injection e;omega) 1 (by simp)).trans x5,Nat.lt_of_lt_of_le (by omega) hst.size,HBE.out.1,HBE.out.2.1,HBE.out.2.2⟩
                  · have h1 := HPP.out
                    rw [HXE.out] at h1
                    have h2 : putK b_end { calZ with name:=ts } xw = endK ts xw:=if_pos rfl
                    rw [h2] at h1
                    have h3:=endK_name ts xw
                    rw [h1] at h3
                    exact h3
                  · rw [hkk,HXE.out];simp
                  · rw [hkk]
                    refine HG.out.trans ?_
                    show formedL ts (seen ++ [xn]) (if xn = b_end then some (putK xn { calZ with name:=ts } xw).1 else co) _ = _
                    rw [if_pos HXE.out,HPP.out]
                · have hxq : (xn == [101,110,100]) = false := beq_false_of_ne hxe
                  have HXE:=zh hxe
                  clear hc3 hxe
                  go_wp2_with fail
                  obtain ⟨x1,x2,x3,x4,x5,x6⟩:=H3.out
                  obtain ⟨y1,y2,y3,y4,y5,y6⟩:=HBO.out
                  have hkk:=HSEEN.out
                  refine ⟨⟨rfl,k + 1,c,co,by omega,by go_num,?_,HCO.out,HNM.out,?_,?_⟩,by simp [intOf];omega⟩
                  · rw [hkk]
                    exact ⟨x1,x2,x3,x4,x5,by omega,HBE.out.1,HBE.out.2.1,HBE.out.2.2⟩
                  · rw [hkk,HCE.out,List.contains_append]
                    have : ([xn].contains b_end) = false:=by simp;exact fun e => HXE.out e.symm
                    rw [this,Bool.or_false]
                  · rw [hkk]
                    refine HG.out.trans ?_
                    show formedL ts (seen ++ [xn]) (if xn = b_end then some (putK xn { calZ with name:=ts } xw).1 else co) _ = _
                    rw [if_neg HXE.out]
          · have HE := zh (HFL.out.trans (formed_5 HFL2.out.1 HFL2.out.2 rfl))
            have hcal:=hBB.out.2.1
            clear hzB hKA hEN HRB
            obtain ⟨c0,c1,c2,c3,c4,c5,c6,c7,c8,c9,c10,c11,c12,c13⟩:=cells14 hcal;obtain ⟨f0,f1,f2,f3,f4,f5,f6,f7,f8,f9,f10,f11,f12,f13⟩:=unf14 hcal
            clear hcal hwC hcC hnm c0'
            have hcl:=HCL.out
            rw [HE.out] at hcl
            exact absurd hcl (show ¬ ((5 : Int) = 0) by decide)
        · rw [hsn] at hLA
          have HE:=zh (HFL.out.trans (formed_9 hin hsn))
          rw [hwA] at hLK hLA
          obtain ⟨c0,c1,c2,c3,c4,c5,c6,c7,c8,c9,c10,c11,c12,c13⟩:=cells14 hcal;obtain ⟨f0,f1,f2,f3,f4,f5,f6,f7,f8,f9,f10,f11,f12,f13⟩:=unf14 hcal
          generalize atV seen xn = av at *
          clear hin hsn HFL hcA hbA hPA hcal hKA
          have hcl:=HCL.out
          rw [HE.out] at hcl
          exact absurd hcl (show ¬ ((9 : Int) = 0) by decide)
    · have lk : ¬ (k : Int) < ks.length := by omega
      have hk2 : k = ks.length:=by omega
      subst hk2
      rw [List.drop_length] at hfl
      rw [List.take_length] at hce hfl hfs
      have hLA:=run_at_look (P:=Tryz.prog) Tryz.underlying48 Tryz.underlying9 (fun w => zeroE3 w) wr bm _ (ks.map NodeL.name) b_end hfs.at_
      rw [← hce] at hLA
      rw [show (b_end : Bytes) = [101,110,100] from rfl] at hLA
      generalize atV (ks.map NodeL.name) [101,110,100] = av at *
      have hcal:=hfs.cal
      have hpos:=hfs.pos
      have HFS:=zh hfs
      obtain ⟨c0,c1,c2,c3,c4,c5,c6,c7,c8,c9,c10,c11,c12,c13⟩:=cells14 hcal;obtain ⟨f0,f1,f2,f3,f4,f5,f6,f7,f8,f9,f10,f11,f12,f13⟩:=unf14 hcal
      have hgl:=hcal.lt
      cases co with
      | none =>
        have HE:=zh (show formedL ts [] none ks = .inr none from hfl)
        dsimp only [Option.isSome_none] at hLA
        clear hfl hfs hce hcal hco hbs hk
        go_wp2_with fail
        go_region;all_goals (go_wp2_with fail;refine bodyPost_ret (v:=.tuple #[calV c, .map none, .int .i64 p, .int .i64 10]) (by simp [results,calV,Tryz.results44,go_sem, *]) rfl ?_;rw [HFP.out];exact ⟨(CalBlk.below HFS.out.below (Nat.le_of_lt hbc0) c).drew,by rw [HE.out];exact ⟨c,rfl⟩⟩)
      | some c' =>
        have hcc : c' = c:=hco
        subst hcc
        have HE:=zh (show formedL ts [] none ks = .inr (some c') from hfl)
        dsimp only [Option.isSome_some] at hLA
        clear hfl hfs hce hcal hco hbs hk
        go_wp2_with fail
        have hst:=Step.put14 (Step.refl wr [] (some bc)) c'
        refine bodyPost_ret (v:=.tuple #[calV c', .map (some bm), .int .i64 0, .int .i64 0]) (by simp [results,calV,Tryz.results44,go_sem, *]) rfl ?_
        rw [HFP.out]
        refine ⟨CalBlk.below HFS.out.below (Nat.le_of_lt hbc0) c',?_⟩
        rw [HE.out]
        refine ⟨bm,rfl,(hst.block bm (Array.getElem?_eq_some_iff.1 HFS.out.at_).1 (by simp) (by intro e;injection e;have:=HBE.out;omega)).trans ?_⟩
        have h9:=HFS.out.at_
        rw [List.length_map] at h9
        exact h9
end
section
set_option linter.unusedVariables false
set_option maxRecDepth 100000
open Go.RowKit
theorem formed_errQ (nm : Bytes) : ∀ (l : List NodeL) (seen : List Bytes) (co : Option CalL) (p e : Int),formedL nm seen co l = .inl (p,e) → e = 8 ∨ e = 9 ∨ e = 5
  | [],seen,co,p,e,h => by simp [formedL] at h
  | k :: r,seen,co,p,e,h => by
    unfold formedL at h
    split at h
    · simp only [Sum.inl.injEq,Prod.mk.injEq] at h;exact .inl h.2.symm
    · split at h
      · simp only [Sum.inl.injEq,Prod.mk.injEq] at h;exact .inr (.inl h.2.symm)
      · split at h
        · simp only [Sum.inl.injEq,Prod.mk.injEq] at h;exact .inr (.inr h.2.symm)
        · exact formed_errQ nm r _ _ p e h
theorem field_formed (n : NodeL) (cs : List Value) (w : World) (B : Nat) (hB : B ≤ w.heap.size) (hn : NodeOk w (· < B) n cs) (hw1 : n.words.length = 1) (hkl : n.kids.length ≤ 100000) (hkw : ∀ k ∈ n.kids,k.words.length ≤ 100) :
    Calls Tryz.prog 44 #[.agg cs.toArray] w (FormedPost n w):=by
  match hF : formedL (n.words.headD ⟨false,0,[],0⟩).s [] none n.kids with
  | .inr c => exact field_formed_0 n cs w B hB hn hw1 hkl hkw (by rw [hF];rfl)
  | .inl (p,e) =>
    rcases formed_errQ _ _ _ _ p e hF with rfl | rfl | rfl
    · exact field_formed_8 n cs w B hB hn hw1 hkl hkw (.inl (by rw [hF];rfl))
    · exact field_formed_8 n cs w B hB hn hw1 hkl hkw (.inr (by rw [hF];rfl))
    · exact field_formed_5 n cs w B hB hn hw1 hkl hkw (by rw [hF];rfl)
end
section
/-- Whether an item is the second of the two shapes,by the places. -/
def laterB (names : List Bytes) (i : Nat) : Bool:=names.contains b_periods && names.contains b_pay && decide ((i : Int) = max (atV names b_periods) (atV names b_pay))
theorem idx_nodup (l : List Bytes) (i : Nat) (x : Bytes) (hn : l.Nodup) (h : l[i]? = some x) : l.idxOf x = i := by
  have hi:=(List.getElem?_eq_some_iff.1 h)
  obtain ⟨hlt,hx⟩:=hi
  rw [← hx]
  exact List.Nodup.idxOf_getElem hn i hlt
theorem mem_take_idx (l : List Bytes) (i : Nat) (x : Bytes) : x ∈ l.take i ↔ x ∈ l ∧ l.idxOf x < i := by
  induction l generalizing i with
  | nil => simp
  | cons a r ih =>
    cases i with
    | zero => simp
    | succ i =>
      rw [List.take_succ_cons,List.mem_cons,List.mem_cons,ih,List.idxOf_cons]
      by_cases h : x = a
      · subst h;simp
      · have : (a == x) = false := beq_false_of_ne (Ne.symm h)
        rw [this]
        simp [h]
theorem laterB_eq (names : List Bytes) (i : Nat) (x : Bytes) (hn : names.Nodup) (h : names[i]? = some x) :
    laterB names i = true ↔ (x = b_periods ∧ b_pay ∈ names.take i) ∨ (x = b_pay ∧ b_periods ∈ names.take i):=by
  have hix:=idx_nodup names i x hn h
  have hxm : x ∈ names:=List.mem_of_getElem? h
  have hne : b_periods ≠ b_pay:=by decide
  have hidx : b_periods ∈ names → b_pay ∈ names → names.idxOf b_periods ≠ names.idxOf b_pay := by
    intro h1 h2 e
    have a1:=List.getElem_idxOf (List.idxOf_lt_length_iff.2 h1)
    have a2:=List.getElem_idxOf (List.idxOf_lt_length_iff.2 h2)
    apply hne
    rw [← a1,← a2]
    congr 1
  rw [mem_take_idx,mem_take_idx]
  unfold laterB atV
  simp only [Bool.and_eq_true,List.contains_iff_mem,decide_eq_true_eq]
  constructor
  · rintro ⟨⟨h1,h2⟩,h3⟩
    rw [if_pos h1,if_pos h2] at h3
    have hd:=hidx h1 h2
    have hg : ∀ y,y ∈ names → names.idxOf y = i → x = y := by
      intro y hy e
      have a1:=List.getElem_idxOf (List.idxOf_lt_length_iff.2 hy)
      have a2:=(List.getElem?_eq_some_iff.1 h).2
      rw [← a1,← a2]
      congr 1
      exact e.symm
    rcases Nat.lt_or_ge (names.idxOf b_pay) (names.idxOf b_periods) with hl | hl
    · left
      have : names.idxOf b_periods = i:=by omega
      exact ⟨hg _ h1 this,h2,by omega⟩
    · right
      have : names.idxOf b_pay = i:=by omega
      exact ⟨hg _ h2 this,h1,by omega⟩
  · rintro (⟨rfl,h2,h3⟩ | ⟨rfl,h2,h3⟩)
    · refine ⟨⟨hxm,h2⟩,?_⟩
      rw [if_pos hxm,if_pos h2]
      omega
    · refine ⟨⟨h2,hxm⟩,?_⟩
      rw [if_pos hxm,if_pos h2]
      omega
/-- Whether a key is missing: of all keys. -/
def missK (kind : Int) (names : List Bytes) (k : Bytes) : Bool:=standsC kind k && !names.contains k && !((decide (k = b_periods) || decide (k = b_pay)) && (names.contains b_periods || names.contains b_pay))
def missA (kind : Int) (names : List Bytes) : Bool:=keysL.any (missK kind names)
theorem missA_eq (kind : Int) (names : List Bytes) (h : b_end ∈ names) : missA kind names = missL kind names := by
  have e : keysL = [b_end,b_periods,b_named,b_pay,b_extra,b_serve,b_compare]:=rfl
  have he : names.contains b_end = true:=List.contains_iff_mem.2 h
  have hs : standsC kind b_pay = standsC kind b_periods := by
    unfold standsC
    rw [if_neg (by decide),if_pos (by decide),if_neg (by decide),if_pos (by decide)]
  unfold missA missL missK
  rw [e]
  simp only [List.any_cons,List.any_nil,he,hs,Bool.not_true,Bool.and_false,Bool.false_and,Bool.false_or,Bool.or_false]
  simp only [show decide (b_named = b_periods) = false by decide,show decide (b_named = b_pay) = false by decide,show decide (b_extra = b_periods) = false by decide,show decide (b_extra = b_pay) = false by decide,
    show decide (b_serve = b_periods) = false by decide,show decide (b_serve = b_pay) = false by decide,show decide (b_compare = b_periods) = false by decide,show decide (b_compare = b_pay) = false by decide,
    show decide (b_periods = b_periods) = true by decide,show decide (b_pay = b_pay) = true by decide,show decide (b_periods = b_pay) = false by decide,show decide (b_pay = b_periods) = false by decide]
  generalize standsC kind b_periods = s1
  generalize standsC kind b_named = s2
  generalize standsC kind b_extra = s3
  generalize standsC kind b_serve = s4
  generalize standsC kind b_compare = s5
  generalize names.contains b_periods = n1
  generalize names.contains b_named = n2
  generalize names.contains b_extra = n3
  generalize names.contains b_serve = n4
  generalize names.contains b_compare = n5
  generalize names.contains b_pay = n6
  cases s1 <;> cases s2 <;> cases n1 <;> cases n2 <;> cases n6 <;> simp
/-- What formed lets through. -/
theorem formed_right (nm : Bytes) : ∀ (l : List NodeL) (seen : List Bytes) (co c : Option CalL),formedL nm seen co l = .inr c → seen.Nodup → (∀ s ∈ seen,keysL.contains s = true) →
    (seen ++ l.map NodeL.name).Nodup ∧ (∀ s ∈ seen ++ l.map NodeL.name,keysL.contains s = true) ∧ (∀ k ∈ l,k.block = false ∧ k.words ≠ [] ∧ (putK k.name { calZ with name:=nm } k.words).2 = true)
  | [],seen,co,c,h,hn,hk => ⟨by simpa using hn,fun s hs => hk s (by simpa using hs),by simp⟩
  | k :: r,seen,co,c,h,hn,hk => by
    unfold formedL at h
    split at h
    · cases h
    · next h1 =>
      split at h
      · cases h
      · next h2 =>
        split at h
        · cases h
        · next h3 =>
          simp only [Bool.not_eq_true',Bool.not_eq_false] at h1
          simp only [Bool.not_eq_true] at h2
          simp only [Bool.or_eq_true,Bool.not_eq_true',not_or,Bool.not_eq_true,Bool.not_eq_false] at h3
          have hns : k.name ∉ seen:=fun e => by rw [List.contains_iff_mem.2 e] at h2;cases h2
          obtain ⟨a1,a2,a3⟩ := formed_right nm r (seen ++ [k.name]) _ c h (by
            rw [List.nodup_append]
            refine ⟨hn,by simp,?_⟩
            intro a ha b hb
            simp only [List.mem_singleton] at hb
            subst hb
            exact fun e => hns (e ▸ ha)) (by
            intro s hs
            rcases List.mem_append.1 hs with hs | hs
            · exact hk s hs
            · simp only [List.mem_singleton] at hs;subst hs;exact h1)
          rw [List.map_cons]
          have e : seen ++ [k.name] ++ r.map NodeL.name = seen ++ (k.name :: r.map NodeL.name):=by simp
          rw [e] at a1 a2
          refine ⟨a1,a2,?_⟩
          intro x hx
          rcases List.mem_cons.1 hx with rfl | hx
          · refine ⟨h3.1.1,?_,h3.2⟩
            intro e
            rw [e] at h3
            simp at h3
          · exact a3 x hx
/-- The calendar is there just if the end is. -/
theorem formed_end (nm : Bytes) : ∀ (l : List NodeL) (seen : List Bytes) (co c : Option CalL),formedL nm seen co l = .inr c → co.isSome = seen.contains b_end → c.isSome = (seen ++ l.map NodeL.name).contains b_end
  | [],seen,co,c,h,hc => by
    simp only [formedL,Sum.inr.injEq] at h
    subst h
    simpa using hc
  | k :: r,seen,co,c,h,hc => by
    unfold formedL at h
    split at h
    · cases h
    · split at h
      · cases h
      · split at h
        · cases h
        · have := formed_end nm r (seen ++ [k.name]) _ c h (by
            by_cases hk : k.name = b_end
            · rw [if_pos hk,hk];simp
            · rw [if_neg hk,hc,List.contains_append]
              have : ([k.name].contains b_end) = false:=by simp;exact fun e => hk e.symm
              rw [this,Bool.or_false])
          rw [this]
          simp
end
section
set_option linter.unusedVariables false
open Go.RowKit
section
variable {P : Program}
theorem run_next_at (w : World) (ty : TypeId) (bm r since c0 : Nat) (seen : Array Nat) (es : Array MapEntry) (clock : Nat) (hb : w.heap[bm]? = some (.map es clock)) (hr : w.heap[r]? = some (.mapIter (some bm) since seen c0))
    (hold : ∀ x ∈ es.toList,x.born < since) (hsc : since ≤ c0) :
    ((leftOf es seen).size = 0 ∧ (Instr.next (.pointer (some ⟨r,0,none⟩)) false ty).run P w = .ok (.tuple #[.bool false]) w) ∨
    ∃ e ∈ (leftOf es seen).toList,∃ w1 : World,(w1 = w ∨ w1 = w.drew) ∧ (Instr.next (.pointer (some ⟨r,0,none⟩)) false ty).run P w = .ok (.tuple #[.bool true,e.key,e.val]) (setB w1 r (.mapIter (some bm) since (seen.push e.born) clock)):=by
  simp only [Instr.next,getObj,Sem.run_bind,Sem.run,hr,hb,Result.andThen,next_test_false seen es since c0 hold hsc,Bool.false_eq_true,if_false]
  unfold leftOf
  have hmem : ∀ x ∈ (Array.filter (fun e => !seen.contains e.born) es).toList,x.born < since:=fun x hx => hold x (by simp at hx ⊢;exact hx.1)
  generalize Array.filter (fun e => !seen.contains e.born) es = L at hmem ⊢
  have e1 : L.filter (fun x => decide (x.born < since)) = L:=Array.filter_eq_self.2 (fun x hx => by simpa using hmem x (by simpa using hx))
  have e2 : L.filter (fun x => decide (x.born ≥ since)) = #[] := by
    rw [Array.filter_eq_empty_iff]
    intro x hx
    have:=hmem x (by simpa using hx)
    simp
    omega
  simp only [e1,e2,Array.append_empty]
  by_cases h0 : L.size = 0
  · left
    have : L = #[]:=Array.eq_empty_of_size_eq_zero h0
    subst this
    refine ⟨rfl,?_⟩
    simp [choose,Sem.run,Question.forced]
  · right
    have hne : L.isEmpty = false:=by simp [Array.isEmpty,h0]
    simp only [hne,Bool.false_eq_true,if_false,Array.empty_append,Array.size_map]
    have hch : ∃ (j : Nat) (w1 : World),j < L.size ∧ (w1 = w ∨ w1 = w.drew) ∧ (choose (Question.mapNext L.size)).run P w = .ok j w1 := by
      by_cases hf : L.size ≤ 1
      · exact ⟨0,w,by omega, .inl rfl,by simp [choose,Sem.run,Question.forced,hf]⟩
      · exact ⟨_,w.drew,Nat.mod_lt _ (by omega), .inr rfl,by
          simp only [choose,Sem.run,Question.forced,decide_eq_true_eq,hf,if_false,Question.cut]
          rfl⟩
    obtain ⟨j,w1,hj,hal,hrun⟩:=hch
    refine ⟨L[j],by simp,w1,hal,?_⟩
    have hr1 : w1.heap[r]? = some (.mapIter (some bm) since seen c0):=by rcases hal with rfl | rfl <;> exact hr
    have hset : ∀ (o' : Obj),(setObj r o').run P w1 = .ok () (setB w1 r o') := fun o' => by
      unfold setB
      simp only [setObj,Sem.run,hr1]
    simp only [hrun,Array.getElem?_map,Array.getElem?_eq_getElem hj,Option.map_some,Sem.run_bind,hset,Result.andThen]
    rfl
theorem run_entry_at (w : World) (bm r since : Nat) (seen : Array Nat) (es : Array MapEntry) (clock : Nat) (e : MapEntry) (hb : w.heap[bm]? = some (.map es clock)) (hr : w.heap[r]? = some (.mapIter (some bm) since (seen.push e.born) clock))
    (he : e ∈ es.toList) (hn : (es.toList.map (·.born)).Nodup) :
    (Instr.entry (.pointer (some ⟨r,0,none⟩))).run P w = .ok (.tuple #[e.key,e.val]) w:=by
  have hf : es.find? (·.born == e.born) = some e:=by rw [← Array.find?_toList];exact find_born e es.toList hn he
  simp only [Instr.entry,getObj,Sem.run_bind,Sem.run,hr,hb,Result.andThen,Array.back?_push,bne_self_eq_false,Bool.false_eq_true,if_false,hf]
  rfl
end
end
end Go.Proofs.YtjbniichcopnlaaGreatDoor
