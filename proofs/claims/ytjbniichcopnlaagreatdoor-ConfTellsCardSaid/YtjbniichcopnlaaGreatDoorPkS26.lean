/- Layer 11 (field): the walk of formed: no key; a key twice. Written by wip/gen_formed.py. -/
import Derived.Test.YtjbniichcopnlaaGreatDoorPkS25
import Derived.BigRegion
set_option linter.unusedVariables false
set_option linter.unusedSimpArgs false
set_option maxRecDepth 100000
namespace Go.Proofs.YtjbniichcopnlaaGreatDoor
open Go.RowKit
open Go.Joins renaming cell_of_block → zb, unfrozen_of_block → zu
open Go.Lib renaming hid → zh
set_option maxHeartbeats 16000000 in
theorem field_formed_8 (n : NodeL) (cs : List Value) (w : World) (B : Nat) (hB : B ≤ w.heap.size) (hn : NodeOk w (· < B) n cs) (hw1 : n.words.length = 1) (hkl : n.kids.length ≤ 100000) (hkw : ∀ k ∈ n.kids,k.words.length ≤ 100) (hcl : clsF (formedL (n.words.headD ⟨false,0,[],0⟩).s [] none n.kids) = 8 ∨ clsF (formedL (n.words.headD ⟨false,0,[],0⟩).s [] none n.kids) = 9) :
    Calls Tryz.prog 44 #[.agg cs.toArray] w (FormedPost n w):=by
  obtain ⟨nm,p,ws,b,ks⟩:=n
  simp only [NodeOk] at hn
  obtain ⟨Aw,cw,Ak,ck,kcs,rfl,_,_,hrw,hrk,hks⟩:=hn
  dsimp only [NodeL.words,NodeL.kids] at hw1 hkl hkw
  obtain ⟨t,rfl⟩ : ∃ t,ws = [t] := by
    match ws,hw1 with
    | [t],_ => exact ⟨t,rfl⟩
  obtain ⟨ad,rfl,hadb,e0,e1,e2,e3⟩:=word0 hrw
  have hFP : FormedPost (.mk nm p [t] b ks) w = fun e w' => Below w.heap.size w w' ∧
      match formedL t.s [] none ks with
      | .inl (p,er) => ∃ c,e = .returned (.tuple #[calV c, .map none, .int .i64 p, .int .i64 er])
      | .inr none => ∃ c,e = .returned (.tuple #[calV c, .map none, .int .i64 p, .int .i64 10])
      | .inr (some c) => ∃ g,e = .returned (.tuple #[calV c, .map (some g), .int .i64 0, .int .i64 0]) ∧ w'.heap[g]? = some (.map (atMap (ks.map NodeL.name)) ks.length):=rfl
  have HFP:=zh hFP
  have HCL : Hid (clsF (formedL t.s [] none ks) = 8 ∨ clsF (formedL t.s [] none ks) = 9):=zh hcl
  clear hcl
  have HRK:=zh hrk
  have HKS:=zh hks
  have HKW:=zh hkw
  have hmm:=@run_makeMap Tryz.prog
  have hdl : ad.block < w.heap.size:=by omega
  have hdl1 : ad.block < w.heap.size + 1:=by omega
  clear hFP hrw hrk hks hkw hw1
  generalize hFQ : FormedPost (.mk nm p [t] b ks) w = Q at *
  obtain ⟨tn,tnn,ts,tp⟩:=t
  dsimp only at *
  go_enter Tryz.func44,Tryz.ntmps44
  go_wp2_with (first | (go_at_call 46;refine (field_keys _).mono ?_;rintro e w1 ⟨rfl,rfl⟩))
  have HFS0 : Hid (FS w ((((w.alloc (.cells #[.string ⟨nm.toArray⟩, .int .i64 p, .slice (some ad) 1 cw, .bool b, .slice Ak ks.length ck] 44)).alloc (.cells #[.string ⟨ts.toArray⟩, .int .i64 0, .int .i64 0, .int .i64 0, .int .i64 0, .int .i64 0, .int .i64 0, .int .i64 0, .int .i64 0, .int .i64 0, .int .i64 0, .int .i64 0, .int .i64 0, .int .i64 0] 37)).alloc (.map keyMap 7)).alloc (.map #[] 0)) p (w.heap.size + 1) (w.heap.size + 1 + 1 + 1) (w.heap.size + 1 + 1) [] { calZ with name := ts }) := zh (by
    obtain ⟨a1,a2,a3,a4,a5⟩:=four w (.cells #[.string ⟨nm.toArray⟩, .int .i64 p, .slice (some ad) 1 cw, .bool b, .slice Ak ks.length ck] 44) (.cells #[.string ⟨ts.toArray⟩, .int .i64 0, .int .i64 0, .int .i64 0, .int .i64 0, .int .i64 0, .int .i64 0, .int .i64 0, .int .i64 0, .int .i64 0, .int .i64 0, .int .i64 0, .int .i64 0, .int .i64 0] 37) (.map keyMap 7) (.map #[] 0)
    exact ⟨a1,a3,a5,a4,zb a2 1,(Array.getElem?_eq_some_iff.1 a2).1,rfl,rfl,rfl⟩)
  obtain ⟨bc,hbc⟩ : ∃ x,x = w.heap.size + 1:=⟨_,rfl⟩
  obtain ⟨bk,hbk⟩ : ∃ x,x = w.heap.size + 1 + 1:=⟨_,rfl⟩
  obtain ⟨bm,hbm⟩ : ∃ x,x = w.heap.size + 1 + 1 + 1:=⟨_,rfl⟩
  rw [← hbm,← hbk,← hbc] at HFS0
  rw [← hbm,← hbk,← hbc]
  generalize World.alloc _ _ = W0 at *
  have HBE:=zh (And.intro hbc (And.intro hbk hbm))
  clear hbc hbk hbm e0 e1 e2 e3
  go_loopw [3,27] (fun s3 i wr => s3 = .map (some bm) ∧ ∃ (k : Nat) (c : CalL) (co : Option CalL),k ≤ ks.length ∧ i = .int .i64 k ∧ FS w wr p bc bm bk ((ks.take k).map NodeL.name) c ∧ co.getD { calZ with name:=ts } = c ∧ c.name = ts ∧ co.isSome = ((ks.take k).map NodeL.name).contains b_end ∧ formedL ts [] none ks = formedL ts ((ks.take k).map NodeL.name) co (ks.drop k)) (fun _ i _ => ks.length - (intOf i).toNat)
  case atStart => exact ⟨rfl,0,_,none,Nat.zero_le _,rfl,HFS0.out,rfl,rfl,rfl,rfl⟩
  case round =>
    obtain ⟨rfl,k,c,co,hk,rfl,hfs,hco,hnm,hce,hfl⟩:=hrel
    have HNM:=zh hnm
    clear hnm
    have hbs:=hfs.below.size
    have hbo : w.heap.size < bc ∧ w.heap.size < bk ∧ w.heap.size < bm ∧ bc ≠ bk ∧ bc ≠ bm ∧ bk ≠ bm:=by have:=HBE.out;omega
    have hbc0:=hbo.1
    have HBO:=zh hbo
    clear hbo
    by_cases hlt : k < ks.length
    · obtain ⟨x,hx⟩ : ∃ x,ks[k]? = some x := ⟨_,List.getElem?_eq_getElem hlt⟩
      have hk' : ∀ q : Addr,q.block < B → wr.cell? q = w.cell? q:=fun q hq => hfs.below.cell (by omega)
      obtain ⟨ad',Aw',cw',Ak',ck',kcs',rfl,hab',d0,d1,d2,d3,d4,_,_,hrw',_,_⟩:=node_cells (HRK.out.keep (fun _ h => h) hk') (NodesOk.keep (fun _ h => h) hk' ks kcs HKS.out) k x hx
      have hxd : ks.drop k = x :: ks.drop (k + 1) := by
        rw [List.drop_eq_getElem_cons hlt];congr 1;exact (List.getElem?_eq_some_iff.1 hx).2
      rw [hxd] at hfl
      have hwl:=HKW.out x (List.mem_of_getElem? hx)
      have lk : (k : Int) < ks.length:=by omega
      have lk0 : (0 : Int) ≤ k:=by omega
      have w1f : IntKind.i64.wrap ((k : Int) + 1) = (k : Int) + 1:=by rw [IntKind.wrap_i64];omega
      have hseen : (ks.take (k + 1)).map NodeL.name = (ks.take k).map NodeL.name ++ [x.name] := by
        rw [List.take_add_one,hx];simp
      have hsl : ((ks.take k).map NodeL.name).length = k:=by simp;omega
      generalize (ks.take k).map NodeL.name = seen at *
      obtain ⟨xn,xp,xw,xb,xk⟩:=x
      dsimp only [NodeL.name,NodeL.pos,NodeL.words,NodeL.block,NodeL.kids] at *
      have hcal:=hfs.cal
      have hgl:=hcal.lt
      have hml : bm < wr.heap.size:=(Array.getElem?_eq_some_iff.1 hfs.at_).1
      have hkl' : bk < wr.heap.size:=(Array.getElem?_eq_some_iff.1 hfs.keys).1
      obtain ⟨wA,hwA⟩ : ∃ wA,wA = wr.alloc (.cells #[.string ⟨xn.toArray⟩, .int .i64 xp, .slice Aw' xw.length cw', .bool xb, .slice Ak' xk.length ck'] 44):=⟨_,rfl⟩
      have hLK:=key_look wA bk xn (by rw [hwA];exact (Go.heap_alloc_old wr _ hkl').trans hfs.keys)
      have hLA:=run_at_look (P:=Tryz.prog) Tryz.underlying48 Tryz.underlying9 (fun w => zeroE3 w) wA bm _ seen xn (by rw [hwA];exact (Go.heap_alloc_old wr _ hml).trans hfs.at_)
      have hcA : CalBlk wA bc c:=by rw [hwA];exact hcal.alloc _
      have hbA : Below w.heap.size w wA:=by rw [hwA];exact hfs.below.alloc hbs _
      have hPA : wA.cell? ⟨wr.heap.size,1,none⟩ = some (.int .i64 xp):=by rw [hwA];exact zb (heap_alloc_new wr _) 1
      have HFL:=zh hfl
      have HFS:=zh hfs
      have HCO:=zh hco
      have HCE:=zh hce
      have HSEEN:=zh hseen
      have HX:=zh (And.intro hx hxd)
      have HWA:=zh hwA
      clear hfl hfs hco hce hseen hx hxd hk'
      cases hin : keysL.contains xn
      · rw [hin] at hLK
        have HE:=zh (HFL.out.trans (formed_8 hin))
        rw [hwA] at hLK hLA
        have HBA:=zh hbA
        have HCA:=zh hcA
        obtain ⟨c0,c1,c2,c3,c4,c5,c6,c7,c8,c9,c10,c11,c12,c13⟩:=cells14 hcal;obtain ⟨f0,f1,f2,f3,f4,f5,f6,f7,f8,f9,f10,f11,f12,f13⟩:=unf14 hcal
        clear hin HFL hLA hcA hbA hPA hcal
        generalize keyFn xn = kv at *
        go_wp2_with fail
        go_region;all_goals (go_wp2_with fail;refine bodyPost_ret (v:=.tuple #[calV c, .map none, .int .i64 xp, .int .i64 8]) (by simp [results,calV,Tryz.results44,go_sem, *]) rfl ?_;rw [HFP.out];exact ⟨((CalBlk.below HFS.out.below (Nat.le_of_lt hbc0) c).alloc (by simpa using hbs) _).drew,by rw [HE.out];exact ⟨c,rfl⟩⟩)
      · obtain ⟨f,hkf,hEN,hKA⟩ := key_fn xn hin
        rw [hin,hkf] at hLK
        clear hkf
        cases hsn : seen.contains xn
        · rw [hsn] at hLA
          have hput:=run_at_put (P:=Tryz.prog) Tryz.underlying48 Tryz.underlying9 wA bm seen xn (by rw [hwA];exact (Go.heap_alloc_old wr _ hml).trans HFS.out.at_) hsn
          rw [hsl] at hput
          obtain ⟨wB,hwB⟩ : ∃ wB,setB wA bm (.map (atMap (seen ++ [xn])) (seen ++ [xn]).length) = wB:=⟨_,rfl⟩
          rw [hwB] at hput
          have hzA : wA.heap.size = wr.heap.size + 1:=by rw [hwA];simp
          have hzB : wB.heap.size = wr.heap.size + 1:=by rw [← hwB,setB_size,hzA]
          obtain ⟨o1,o2,o3,o4,o5,o6⟩:=HBO.out
          have hnA:=heap_alloc_new wr (.cells #[.string ⟨xn.toArray⟩, .int .i64 xp, .slice Aw' xw.length cw', .bool xb, .slice Ak' xk.length ck'] 44)
          rw [← hwA] at hnA
          have hnB : wB.heap[wr.heap.size]? = some (.cells #[.string ⟨xn.toArray⟩, .int .i64 xp, .slice Aw' xw.length cw', .bool xb, .slice Ak' xk.length ck'] 44 (0,0)):=by rw [← hwB,setB_other _ _ _ _ (by omega)];exact hnA
          have hcB : CalBlk wB bc c := by
            have : wB.heap[bc]? = wA.heap[bc]?:=by rw [← hwB,setB_other _ _ _ _ (by omega)]
            exact this.trans hcA
          have hmB : wB.heap[bm]? = some (.map (atMap (seen ++ [xn])) (seen ++ [xn]).length):=by rw [← hwB];exact setB_new _ _ _ (by omega)
          have hkB : wB.heap[bk]? = some (.map keyMap 7) := by
            rw [← hwB,setB_other _ _ _ _ (by omega),hwA];exact (Go.heap_alloc_old wr _ hkl').trans HFS.out.keys
          have hbB : Below w.heap.size w wB:=by rw [← hwB];exact Below.setB hbA (by omega) _
          have hpB : wB.cell? ⟨w.heap.size,1,none⟩ = some (.int .i64 p) := by
            rw [← hwB,setB_cell _ _ _ _ (by show w.heap.size ≠ _;omega),hwA,World.cell?_alloc_lt _ _ _ (by show w.heap.size < _;have:=HFS.out.lt;omega)];exact HFS.out.pos
          have hrB : ReadsM wB (· < B) 4 Aw' xw.length (xw.flatMap WordL.cells) := hrw'.keep (fun _ h => h) (fun q hq => by
            rw [← hwB,setB_cell _ _ _ _ (by omega),hwA,World.cell?_alloc_lt _ _ _ (by omega)])
          have hnm : c.name = ts:=HNM.out
          rw [hwA] at hLK hLA hput
          have hglB:=hcB.lt
          have hnlB : wr.heap.size < wB.heap.size:=by omega
          have n0:=zb hnB 0
          have n1:=zb hnB 1
          have n2:=zb hnB 2
          have n3:=zb hnB 3
          obtain ⟨wC,hwC⟩ : ∃ wC,wC = wB.alloc (.cells #[.string ⟨c.name.toArray⟩, .int .i64 0, .int .i64 0, .int .i64 0, .int .i64 0, .int .i64 0, .int .i64 0, .int .i64 0, .int .i64 0, .int .i64 0, .int .i64 0, .int .i64 0, .int .i64 0, .int .i64 0] 37):=⟨_,rfl⟩
          have hcC : CalBlk wC wB.heap.size { calZ with name:=c.name }:=by rw [hwC];exact heap_alloc_new wB _
          have hBB:=zh (And.intro hbB (And.intro hcB (And.intro hmB (And.intro hkB (And.intro hpB (And.intro hnB hzB))))))
          have HRB:=zh hrB
          have HFL2:=zh (And.intro hin hsn)
          have c0':=zb hcB 0
          generalize atV seen xn = av at *
          clear hin hsn hcA hbA hPA hcal hwA hwB hzA hnA hnB hcB hmB hkB hbB hpB hrB hrw' hsl HWA
          cases xb
          · by_cases hxw : xw = []
            · subst hxw
              clear hzB hKA hEN HRB
              dsimp only [List.length_nil] at hLK hLA hput d2 n2
              have HE:=zh (HFL.out.trans (formed_5 HFL2.out.1 HFL2.out.2 rfl))
              have hcal:=hBB.out.2.1
              obtain ⟨c0,c1,c2,c3,c4,c5,c6,c7,c8,c9,c10,c11,c12,c13⟩:=cells14 hcal;obtain ⟨f0,f1,f2,f3,f4,f5,f6,f7,f8,f9,f10,f11,f12,f13⟩:=unf14 hcal
              clear hcal hwC hcC hnm c0'
              have hcl:=HCL.out
              rw [HE.out] at hcl
              exact absurd hcl (show ¬ ((5 : Int) = 8 ∨ (5 : Int) = 9) by decide)
            · have hxl : ((xw.length : Int) == 0) = false := beq_false_of_ne (by
                have : 0 < xw.length:=List.length_pos_iff.2 hxw
                omega)
              have hCC:=hKA { calZ with name:=c.name } xw Aw' cw' wC B wB.heap.size (fun _ => rfl) hxw hwl (by omega) hcC (HRB.out.keep (fun _ h => h) (fun q hq => by rw [hwC,World.cell?_alloc_lt _ _ _ (by omega)]))
              obtain ⟨pp,hpp⟩ : ∃ pp,putK xn { calZ with name:=c.name } xw = pp:=⟨_,rfl⟩
              obtain ⟨pc,pb⟩:=pp
              rw [hpp] at hCC
              rw [hwC] at hCC
              have HCC:=zh hCC
              rw [hnm] at hpp
              have HPP:=zh hpp
              have hzl : wr.heap.size < wB.heap.size:=hnlB
              clear hCC hpp hwC hzB hKA hcC HRB hnm
              go_wp2_with fail
              refine HCC.out.mono ?_
              rintro e w3 ⟨rfl,hc3',hs3⟩
              obtain ⟨hbB,hcB,hmB,hkB,hpB,hnB,hzB⟩:=hBB.out
              obtain ⟨o1,o2,o3,o4,o5,o6⟩:=HBO.out
              have hsz3 : wB.heap.size < w3.heap.size:=by have:=hs3.size;simp at this;omega
              have kp : ∀ q,q < wB.heap.size → w3.heap[q]? = wB.heap[q]?:=fun q hq => (hs3.block q (by simp;omega) (by simp) (by intro e;injection e;omega)).trans (Go.heap_alloc_old wB _ hq)
              have hc3 : CalBlk w3 bc c:=(kp bc hglB).trans hcB
              have hm3:=(kp bm (by omega)).trans hmB
              have hk3:=(kp bk (by omega)).trans hkB
              have hn3:=(kp wr.heap.size (by omega)).trans hnB
              have hp3 : w3.cell? ⟨w.heap.size,1,none⟩ = some (.int .i64 p) := by
                have hw0 : w.heap.size < wB.heap.size:=by omega
                have : w3.cell? ⟨w.heap.size,1,none⟩ = wB.cell? ⟨w.heap.size,1,none⟩:=by unfold World.cell?;rw [show w3.heap[(⟨w.heap.size,1,none⟩ : Addr).block]? = wB.heap[(⟨w.heap.size,1,none⟩ : Addr).block]? from kp _ hw0]
                exact this.trans hpB
              have hb3 : Below w.heap.size w w3:=Step.toBelow (hbB.alloc hbB.size _) hs3 (by omega) (by simp;omega)
              have H3:=zh (And.intro hb3 (And.intro hc3 (And.intro hm3 (And.intro hk3 (And.intro hp3 hsz3)))))
              have HC3':=zh hc3'
              replace n0:=zb hn3 0
              replace n1:=zb hn3 1
              have hgl3:=hc3.lt
              clear hbB hcB hmB hkB hpB hnB hzB kp hm3 hk3 hn3 hp3 hb3 hs3 n2 n3 hLK hLA hput
              clear hc3'
              cases pb
              · have HE := zh (HFL.out.trans (formed_5 HFL2.out.1 HFL2.out.2 (by show (false || xw.isEmpty || !(putK xn { calZ with name := ts } xw).2) = true; rw [HPP.out]; simp)))
                obtain ⟨c0,c1,c2,c3,c4,c5,c6,c7,c8,c9,c10,c11,c12,c13⟩:=cells14 hc3;obtain ⟨f0,f1,f2,f3,f4,f5,f6,f7,f8,f9,f10,f11,f12,f13⟩:=unf14 hc3
                clear hc3
                have hcl:=HCL.out
                rw [HE.out] at hcl
                exact absurd hcl (show ¬ ((5 : Int) = 8 ∨ (5 : Int) = 9) by decide)
              · have HG := zh (HFL.out.trans (formed_go HFL2.out.1 HFL2.out.2 (by show (false || xw.isEmpty || !(putK xn { calZ with name := ts } xw).2) = false; rw [HPP.out]; simp [hxw])))
                have HNEW:=zh (show ks.take (k + 1) = ks.take (k + 1) from rfl)
                by_cases hxe : xn = b_end
                · have hxq : (xn == [101,110,100]) = true := by rw [hxe]; rfl
                  have HXE:=zh hxe
                  have hc3':=HC3'.out
                  obtain ⟨c0,c1,c2,c3,c4,c5,c6,c7,c8,c9,c10,c11,c12,c13⟩:=cells14 hc3;obtain ⟨f0,f1,f2,f3,f4,f5,f6,f7,f8,f9,f10,f11,f12,f13⟩:=unf14 hc3
                  obtain ⟨g0,g1,g2,g3,g4,g5,g6,g7,g8,g9,g10,g11,g12,g13⟩:=cells14 hc3'
                  clear hc3 hc3' hxe
                  go_wp2_with fail
                  obtain ⟨x1,x2,x3,x4,x5,x6⟩:=H3.out
                  obtain ⟨y1,y2,y3,y4,y5,y6⟩:=HBO.out
                  have hst:=Step.put14 (Step.refl w3 [] (some bc)) pc
                  have hkk:=HSEEN.out
                  have hxd:=HX.out.2
                  refine ⟨⟨rfl,k + 1,pc,some pc,by omega,by go_num,?_,rfl,?_,?_,?_⟩,by simp [intOf];omega⟩
                  · rw [hkk]
                    exact ⟨CalBlk.below x1 (Nat.le_of_lt y1) pc,x2.put14 pc,(hst.block bm (by omega) (by simp) (by intro e;injection e;omega)).trans x3,(hst.block bk (by omega) (by simp) (by intro e;injection e;omega)).trans x4,(hst.cell w.heap.size (by omega) (by intro e;injection e;omega) 1 (by simp)).trans x5,Nat.lt_of_lt_of_le (by omega) hst.size,HBE.out.1,HBE.out.2.1,HBE.out.2.2⟩
                  · have h1 := HPP.out
                    rw [HXE.out] at h1
                    have h2 : putK b_end { calZ with name:=ts } xw = endK ts xw:=if_pos rfl
                    rw [h2] at h1
                    have h3:=endK_name ts xw
                    rw [h1] at h3
                    exact h3
                  · rw [hkk,HXE.out];simp
                  · rw [hkk]
                    refine HG.out.trans ?_
                    show formedL ts (seen ++ [xn]) (if xn = b_end then some (putK xn { calZ with name:=ts } xw).1 else co) _ = _
                    rw [if_pos HXE.out,HPP.out]
                · have hxq : (xn == [101,110,100]) = false := beq_false_of_ne hxe
                  have HXE:=zh hxe
                  clear hc3 hxe
                  go_wp2_with fail
                  obtain ⟨x1,x2,x3,x4,x5,x6⟩:=H3.out
                  obtain ⟨y1,y2,y3,y4,y5,y6⟩:=HBO.out
                  have hkk:=HSEEN.out
                  refine ⟨⟨rfl,k + 1,c,co,by omega,by go_num,?_,HCO.out,HNM.out,?_,?_⟩,by simp [intOf];omega⟩
                  · rw [hkk]
                    exact ⟨x1,x2,x3,x4,x5,by omega,HBE.out.1,HBE.out.2.1,HBE.out.2.2⟩
                  · rw [hkk,HCE.out,List.contains_append]
                    have : ([xn].contains b_end) = false:=by simp;exact fun e => HXE.out e.symm
                    rw [this,Bool.or_false]
                  · rw [hkk]
                    refine HG.out.trans ?_
                    show formedL ts (seen ++ [xn]) (if xn = b_end then some (putK xn { calZ with name:=ts } xw).1 else co) _ = _
                    rw [if_neg HXE.out]
          · have HE := zh (HFL.out.trans (formed_5 HFL2.out.1 HFL2.out.2 rfl))
            have hcal:=hBB.out.2.1
            clear hzB hKA hEN HRB
            obtain ⟨c0,c1,c2,c3,c4,c5,c6,c7,c8,c9,c10,c11,c12,c13⟩:=cells14 hcal;obtain ⟨f0,f1,f2,f3,f4,f5,f6,f7,f8,f9,f10,f11,f12,f13⟩:=unf14 hcal
            clear hcal hwC hcC hnm c0'
            have hcl:=HCL.out
            rw [HE.out] at hcl
            exact absurd hcl (show ¬ ((5 : Int) = 8 ∨ (5 : Int) = 9) by decide)
        · rw [hsn] at hLA
          have HE:=zh (HFL.out.trans (formed_9 hin hsn))
          rw [hwA] at hLK hLA
          obtain ⟨c0,c1,c2,c3,c4,c5,c6,c7,c8,c9,c10,c11,c12,c13⟩:=cells14 hcal;obtain ⟨f0,f1,f2,f3,f4,f5,f6,f7,f8,f9,f10,f11,f12,f13⟩:=unf14 hcal
          generalize atV seen xn = av at *
          clear hin hsn HFL hcA hbA hPA hcal hKA
          go_wp2_with fail
          go_region;all_goals (go_wp2_with fail;refine bodyPost_ret (v:=.tuple #[calV c, .map none, .int .i64 xp, .int .i64 9]) (by simp [results,calV,Tryz.results44,go_sem, *]) rfl ?_;rw [HFP.out];exact ⟨((CalBlk.below HFS.out.below (Nat.le_of_lt hbc0) c).alloc (by simpa using hbs) _).drew,by rw [HE.out];exact ⟨c,rfl⟩⟩)
    · have lk : ¬ (k : Int) < ks.length := by omega
      have hk2 : k = ks.length:=by omega
      subst hk2
      rw [List.drop_length] at hfl
      rw [List.take_length] at hce hfl hfs
      have hLA:=run_at_look (P:=Tryz.prog) Tryz.underlying48 Tryz.underlying9 (fun w => zeroE3 w) wr bm _ (ks.map NodeL.name) b_end hfs.at_
      rw [← hce] at hLA
      rw [show (b_end : Bytes) = [101,110,100] from rfl] at hLA
      generalize atV (ks.map NodeL.name) [101,110,100] = av at *
      have hcal:=hfs.cal
      have hpos:=hfs.pos
      have HFS:=zh hfs
      obtain ⟨c0,c1,c2,c3,c4,c5,c6,c7,c8,c9,c10,c11,c12,c13⟩:=cells14 hcal;obtain ⟨f0,f1,f2,f3,f4,f5,f6,f7,f8,f9,f10,f11,f12,f13⟩:=unf14 hcal
      have hgl:=hcal.lt
      cases co with
      | none =>
        have HE:=zh (show formedL ts [] none ks = .inr none from hfl)
        dsimp only [Option.isSome_none] at hLA
        clear hfl hfs hce hcal hco hbs hk
        have hcl:=HCL.out
        rw [HE.out] at hcl
        exact absurd hcl (show ¬ ((0 : Int) = 8 ∨ (0 : Int) = 9) by decide)
      | some c' =>
        have HE:=zh (show formedL ts [] none ks = .inr (some c') from hfl)
        have hcl:=HCL.out
        rw [HE.out] at hcl
        exact absurd hcl (show ¬ ((0 : Int) = 8 ∨ (0 : Int) = 9) by decide)
end Go.Proofs.YtjbniichcopnlaaGreatDoor
