/- Layer 9 (tree): the reference's Deep, and Same. Then: Layer 9, in plain Lean: a tree is the same as itself. Then: Layer 9 (tree): the reference's Exact, of two readings of the same items. -/
import Derived.Test.YtpkhocbohhpmbaaPkR35
import Derived.BigQuiet
import Derived.Deep.QuietTactic
import Derived.Test.YtpkhocbohhpmbaaPkR12
import Derived.StillTailTactics
namespace Go.Proofs.Ytpkhocbohhpmbaa
section
set_option linter.unusedVariables false
set_option linter.unusedSimpArgs false
open Go.RowKit
open Go.Joins renaming cell_of_block → zb, unfrozen_of_block → zu
open Go.Lib renaming hid → zh
theorem word_eq_iff (a b : WordL) : a = b ↔ a.num = b.num ∧ a.n = b.n ∧ a.s = b.s ∧ a.pos = b.pos := by
  cases a;cases b;simp
set_option maxRecDepth 100000 in
theorem run_equalWord (W : World) (a b : WordL) : (Op.equalIn 10000 47 (.agg #[.bool a.num, .int .i64 a.n, .string ⟨a.s.toArray⟩, .int .i64 a.pos]) (.agg #[.bool b.num, .int .i64 b.n, .string ⟨b.s.toArray⟩, .int .i64 b.pos])).run Try.prog W = .ok (decide (a = b)) W := by
  rw [run_equalIn_agg W 9999 47 _ _ (by kernel_rfl) (by kernel_rfl)]
  simp only [word_eq_iff]
  by_cases h1 : a.num = b.num <;> by_cases h2 : a.n = b.n <;> by_cases h3 : a.s = b.s <;> by_cases h4 : a.pos = b.pos <;>
    (simp [go_sem,Op.eqFields,h1,h2,h3,h4];done)
theorem run_neqWord (W : World) (a b : WordL) : (binOp .neq 47 (.agg #[.bool a.num, .int .i64 a.n, .string ⟨a.s.toArray⟩, .int .i64 a.pos]) (.agg #[.bool b.num, .int .i64 b.n, .string ⟨b.s.toArray⟩, .int .i64 b.pos])).run Try.prog W = .ok (.bool (!decide (a = b))) W := by
  rw [run_neq_struct,run_equalWord];rfl
theorem sameW_eq (a b : WordL) : sameW a b = decide (WordL.mk a.num a.n a.s b.pos = b) := by
  unfold sameW
  cases h : decide (WordL.mk a.num a.n a.s b.pos = b)
  · have := of_decide_eq_false h
    rw [word_eq_iff] at this
    simp only [and_true] at this
    cases h1 : (a.num == b.num)
    · simp
    · by_cases h2 : a.n = b.n
      · by_cases h3 : a.s = b.s
        · exact absurd ⟨by simpa using h1,h2,h3⟩ this
        · simp [h3]
      · simp [h2]
  · have := of_decide_eq_true h
    rw [word_eq_iff] at this
    simp only at this
    simp [this.1,this.2.1,this.2.2.1]
def RSameTo (N : Nat) : Prop := ∀ (l m : List NodeL) (A A' : Option Addr) (c c' : Nat) (w : World) (B : Nat),cntL l < N → cntL l ≤ 100000 → B ≤ w.heap.size → ROk w B A l → ROk w B A' m →
    Calls Try.prog 38 #[.slice A l.length c, .slice A' m.length c'] w fun e w' => e = .returned (.bool (sameNs l m)) ∧ Below w.heap.size w w'
set_option maxRecDepth 100000 in
set_option maxHeartbeats 4000000 in
theorem ref9_same_step (N : Nat) (ih : RSameTo N) : RSameTo (N + 1) := by
  intro l m A A' c c' w B hN hsm hB h1 h2
  have hl:=cntL_len l
  by_cases hlen : l.length = m.length
  · have hne : ((l.length : Int) != (m.length : Int)) = false := by rw [bne_eq_false_iff_eq]; omega
    have H1:=zh h1
    have H2:=zh h2
    have HL:=zh hlen
    have HIH:=zh ih
    clear h1 h2 hlen ih
    go_enter Try.func38,Try.ntmps38
    go_wp2_with fail
    go_loopw [17] (fun i wr => ∃ k : Nat,k ≤ l.length ∧ i = .int .i64 k ∧ Below w.heap.size w wr ∧ sameNs l m = sameNs (l.drop k) (m.drop k)) (fun i _ => l.length - (intOf i).toNat)
    case atStart => exact ⟨0,Nat.zero_le _,rfl,Below.refl _ _,by simp⟩
    case round =>
      obtain ⟨k,hk,rfl,hb,hs⟩:=hrel
      have hbs:=hb.size
      by_cases hlt : k < l.length
      · have hlt' : k < m.length := by have := HL.out; omega
        obtain ⟨x,hx⟩ : ∃ x,l[k]? = some x:=⟨_,List.getElem?_eq_getElem hlt⟩
        obtain ⟨y,hy⟩ : ∃ y,m[k]? = some y:=⟨_,List.getElem?_eq_getElem hlt'⟩
        obtain ⟨ad,Aw,cw,Ak,ck,rfl,had,d0,d1,d2,d3,d4,hw,hkk⟩:=(H1.out.below (hb.mono hB)).at k x hx
        obtain ⟨ae,Aw',cw',Ak',ck',rfl,hae,e0,e1,e2,e3,e4,hw',hkk'⟩:=(H2.out.below (hb.mono hB)).at k y hy
        rw [sameNs_step l m k x y hx hy,sameN_eq] at hs
        have hc1:=cntL_take_mem l k x hx
        have hc2:=cntN_eq x
        have HKK:=zh hkk
        have HKK':=zh hkk'
        have HRW:=zh hw
        have HRW':=zh hw'
        have HBo:=zh (fun (o o' : Obj) => hb.trans ((((Below.refl wr.heap.size wr).alloc (Nat.le_refl _) o).alloc (by simp) o').mono hbs))
        have lk : (k : Int) < l.length:=by omega
        have lk2 : (k : Int) < m.length:=by omega
        have lk0 : (0 : Int) ≤ k:=by omega
        have w1f : IntKind.i64.wrap ((k : Int) + 1) = (k : Int) + 1:=by rw [IntKind.wrap_i64];omega
        have hlae : ae.block < wr.heap.size:=by omega
        have hlad : ad.block < wr.heap.size:=by omega
        have hne1 : ad.block ≠ wr.heap.size:=by omega
        have hne2 : ae.block ≠ wr.heap.size:=by omega
        clear hb hw hw' hkk hkk'
        obtain ⟨o,ho⟩ : ∃ o : Obj,o = (.cells #[.string ⟨x.name.toArray⟩, .int .i64 x.pos, .slice Aw x.words.length cw, .bool x.block, .slice Ak x.kids.length ck] 25):=⟨_,rfl⟩
        by_cases hnm : x.name = y.name
        case neg =>
          have HR:=zh (show sameNs l m = false by rw [hs];simp [hnm])
          have hnm' : (x.name == y.name) = false:=by simpa using hnm
          have HB':=zh (HBo.out o (.cells #[.string ⟨y.name.toArray⟩, .int .i64 y.pos, .slice Aw' y.words.length cw', .bool y.block, .slice Ak' y.kids.length ck'] 25))
          have g0:=(World.cell?_alloc_lt wr o (ae.add (k * 5)) (by rw [block_of_add];exact hlae)).trans e0
          have g1:=(World.cell?_alloc_lt wr o ⟨(ae.add (k * 5)).block,(ae.add (k * 5)).off + 1,none⟩ (by show (ae.add (k * 5)).block < _;rw [block_of_add];exact hlae)).trans e1
          have g2:=(World.cell?_alloc_lt wr o ⟨(ae.add (k * 5)).block,(ae.add (k * 5)).off + 2,none⟩ (by show (ae.add (k * 5)).block < _;rw [block_of_add];exact hlae)).trans e2
          have g3:=(World.cell?_alloc_lt wr o ⟨(ae.add (k * 5)).block,(ae.add (k * 5)).off + 3,none⟩ (by show (ae.add (k * 5)).block < _;rw [block_of_add];exact hlae)).trans e3
          have g4:=(World.cell?_alloc_lt wr o ⟨(ae.add (k * 5)).block,(ae.add (k * 5)).off + 4,none⟩ (by show (ae.add (k * 5)).block < _;rw [block_of_add];exact hlae)).trans e4
          subst ho
          clear hnm hs
          go_wp2_with fail
          go_ret
          exact ⟨by rw [HR.out];rfl,HB'.out⟩
        by_cases hbl : x.block = y.block
        case neg =>
          have HR:=zh (show sameNs l m = false by rw [hs];simp [hbl])
          have hbl' : (x.block == y.block) = false:=by simpa using hbl
          rw [← hnm] at e0
          clear hnm
          have HB':=zh (HBo.out o (.cells #[.string ⟨x.name.toArray⟩, .int .i64 y.pos, .slice Aw' y.words.length cw', .bool y.block, .slice Ak' y.kids.length ck'] 25))
          have g0:=(World.cell?_alloc_lt wr o (ae.add (k * 5)) (by rw [block_of_add];exact hlae)).trans e0
          have g1:=(World.cell?_alloc_lt wr o ⟨(ae.add (k * 5)).block,(ae.add (k * 5)).off + 1,none⟩ (by show (ae.add (k * 5)).block < _;rw [block_of_add];exact hlae)).trans e1
          have g2:=(World.cell?_alloc_lt wr o ⟨(ae.add (k * 5)).block,(ae.add (k * 5)).off + 2,none⟩ (by show (ae.add (k * 5)).block < _;rw [block_of_add];exact hlae)).trans e2
          have g3:=(World.cell?_alloc_lt wr o ⟨(ae.add (k * 5)).block,(ae.add (k * 5)).off + 3,none⟩ (by show (ae.add (k * 5)).block < _;rw [block_of_add];exact hlae)).trans e3
          have g4:=(World.cell?_alloc_lt wr o ⟨(ae.add (k * 5)).block,(ae.add (k * 5)).off + 4,none⟩ (by show (ae.add (k * 5)).block < _;rw [block_of_add];exact hlae)).trans e4
          subst ho
          clear hbl hs
          go_wp2_with fail
          go_ret
          exact ⟨by rw [HR.out];rfl,HB'.out⟩
        by_cases hwl : x.words.length = y.words.length
        case neg =>
          have HR:=zh (show sameNs l m = false by rw [hs,sameWs_len _ _ hwl];simp)
          have hwl' : ((x.words.length : Int) != y.words.length) = true:=by rw [bne_iff_ne];omega
          rw [← hnm] at e0
          rw [← hbl] at e3
          clear hnm hbl
          have HB':=zh (HBo.out o (.cells #[.string ⟨x.name.toArray⟩, .int .i64 y.pos, .slice Aw' y.words.length cw', .bool x.block, .slice Ak' y.kids.length ck'] 25))
          have g0:=(World.cell?_alloc_lt wr o (ae.add (k * 5)) (by rw [block_of_add];exact hlae)).trans e0
          have g1:=(World.cell?_alloc_lt wr o ⟨(ae.add (k * 5)).block,(ae.add (k * 5)).off + 1,none⟩ (by show (ae.add (k * 5)).block < _;rw [block_of_add];exact hlae)).trans e1
          have g2:=(World.cell?_alloc_lt wr o ⟨(ae.add (k * 5)).block,(ae.add (k * 5)).off + 2,none⟩ (by show (ae.add (k * 5)).block < _;rw [block_of_add];exact hlae)).trans e2
          have g3:=(World.cell?_alloc_lt wr o ⟨(ae.add (k * 5)).block,(ae.add (k * 5)).off + 3,none⟩ (by show (ae.add (k * 5)).block < _;rw [block_of_add];exact hlae)).trans e3
          have g4:=(World.cell?_alloc_lt wr o ⟨(ae.add (k * 5)).block,(ae.add (k * 5)).off + 4,none⟩ (by show (ae.add (k * 5)).block < _;rw [block_of_add];exact hlae)).trans e4
          subst ho
          clear hwl hs
          go_wp2_with fail
          go_ret
          exact ⟨by rw [HR.out];rfl,HB'.out⟩
        have hnm2 : decide (x.name = y.name) = true:=decide_eq_true hnm
        have hbl2 : (x.block == y.block) = true:=by simpa using hbl
        rw [hnm2,hbl2,Bool.and_true,Bool.and_true] at hs
        rw [← hnm] at e0
        rw [← hbl] at e3
        rw [← hwl] at e2
        rw [← hwl] at HRW'
        have HWL:=zh hwl
        clear hnm hbl hnm2 hbl2 hwl
        obtain ⟨o',ho'⟩ : ∃ o' : Obj,o' = (.cells #[.string ⟨x.name.toArray⟩, .int .i64 y.pos, .slice Aw' x.words.length cw', .bool x.block, .slice Ak' y.kids.length ck'] 25):=⟨_,rfl⟩
        obtain ⟨wa,hwa⟩ : ∃ wa,wa = (wr.alloc o).alloc o':=⟨_,rfl⟩
        have hBW : Below wr.heap.size wr wa:=by rw [hwa];exact ((Below.refl _ _).alloc (Nat.le_refl _) _).alloc (by simp) _
        have hb2 : wa.heap[wr.heap.size + 1]? = some o' := by
          have:=heap_alloc_new (wr.alloc o) o'
          rw [hwa]
          simpa using this
        have hb1 : wa.heap[wr.heap.size]? = some o := by
          rw [hwa,show ((wr.alloc o).alloc o').heap[wr.heap.size]? = (wr.alloc o).heap[wr.heap.size]? from Go.heap_alloc_old (wr.alloc o) o' (by simp)]
          exact heap_alloc_new wr o
        have hsz : wa.heap.size = wr.heap.size + 2:=by rw [hwa];simp
        have HKA:=zh (HKK.out.below (hBW.mono (by omega)))
        have HKA':=zh (HKK'.out.below (hBW.mono (by omega)))
        have HI:=zh (HIH.out x.kids y.kids Ak Ak' ck ck' wa B (by omega) (by omega) (by omega) HKA.out HKA'.out)
        have HRA:=zh (HRW.out.keep (w':=wa) (fun _ h => h) (fun p hp => hBW.cell (by omega)))
        have HRA':=zh (HRW'.out.keep (w':=wa) (fun _ h => h) (fun p hp => hBW.cell (by omega)))
        have HB:=zh (show Below w.heap.size w wa by rw [hwa];exact HBo.out o o')
        have HB1:=zh hb1
        have HB2:=zh hb2
        have HWA:=zh hwa
        rw [hwa] at HI
        have g0:=(World.cell?_alloc_lt wr o (ae.add (k * 5)) (by rw [block_of_add];exact hlae)).trans e0
        have g1:=(World.cell?_alloc_lt wr o ⟨(ae.add (k * 5)).block,(ae.add (k * 5)).off + 1,none⟩ (by show (ae.add (k * 5)).block < _;rw [block_of_add];exact hlae)).trans e1
        have g2:=(World.cell?_alloc_lt wr o ⟨(ae.add (k * 5)).block,(ae.add (k * 5)).off + 2,none⟩ (by show (ae.add (k * 5)).block < _;rw [block_of_add];exact hlae)).trans e2
        have g3:=(World.cell?_alloc_lt wr o ⟨(ae.add (k * 5)).block,(ae.add (k * 5)).off + 3,none⟩ (by show (ae.add (k * 5)).block < _;rw [block_of_add];exact hlae)).trans e3
        have g4:=(World.cell?_alloc_lt wr o ⟨(ae.add (k * 5)).block,(ae.add (k * 5)).off + 4,none⟩ (by show (ae.add (k * 5)).block < _;rw [block_of_add];exact hlae)).trans e4
        subst ho
        subst ho'
        clear HIH hBW hb1 hb2 HKK HKK' HKA HKA' HRW HRW' HBo hwa
        cases hks : sameNs x.kids y.kids
        case false =>
          have HR:=zh (show sameNs l m = false by rw [hs,hks];simp)
          rw [hks] at HI
          clear hs hks
          go_wp2_with fail
          refine HI.out.mono ?_
          rintro e w2 ⟨rfl,hb3⟩
          rw [← HWA.out] at hb3
          have HB3:=zh (HB.out.trans (hb3.mono HB.out.size))
          clear hb3
          go_wp2_with fail
          go_ret
          exact ⟨by rw [HR.out];rfl,HB3.out⟩
        rw [hks] at HI
        have HR:=zh (show sameNs l m = (sameWs x.words y.words && sameNs (l.drop (k + 1)) (m.drop (k + 1))) by rw [hs,hks,Bool.and_true])
        clear hs hks
        obtain ⟨wo,hwo⟩ : ∃ wo,wo = wr:=⟨_,rfl⟩
        subst hwo
        go_wp2_with fail
        refine HI.out.mono ?_
        rintro e w2 ⟨rfl,hb3⟩
        rw [← HWA.out] at hb3
        have hz2:=hb3.size
        have hx : w2.heap[wo.heap.size]? = _:=(hb3.block _ (by omega)).trans HB1.out
        have hy : w2.heap[wo.heap.size + 1]? = _:=(hb3.block _ (by omega)).trans HB2.out
        have x2:=zb hx 2
        have HX:=zh hx
        have HY:=zh hy
        have HB3:=zh (HB.out.trans (hb3.mono HB.out.size))
        have HRA2:=zh (HRA.out.keep (w':=w2) (fun _ h => h) (fun p hp => hb3.cell (by omega)))
        have HRA2':=zh (HRA'.out.keep (w':=w2) (fun _ h => h) (fun p hp => hb3.cell (by omega)))
        have hwl20 : (x.words.length : Int) ≤ 100000:=by omega
        have hww2 : w.heap.size ≤ w2.heap.size:=by omega
        clear hb3 hx hy d0 d1 d2 d3 d4 e0 e1 e2 e3 e4 g0 g1 g2 g3 g4 HWA HI HB HB1 HB2 HRA HRA'
        go_wp2_with fail
        go_loopw [58] (fun i wr => ∃ j : Nat,j ≤ x.words.length ∧ i = .int .i64 j ∧ Below w2.heap.size w2 wr ∧ sameWs x.words y.words = sameWs (x.words.drop j) (y.words.drop j)) (fun i _ => x.words.length - (intOf i).toNat)
        case atStart => exact ⟨0,Nat.zero_le _,rfl,Below.refl _ _,by simp⟩
        case round =>
          obtain ⟨j,hj,rfl,hb4,ha⟩:=hrel
          have hbs4:=hb4.size
          by_cases hjt : j < x.words.length
          · obtain ⟨u,hu⟩ : ∃ u,x.words[j]? = some u := ⟨_,List.getElem?_eq_getElem hjt⟩
            obtain ⟨v,hv⟩ : ∃ v,y.words[j]? = some v:=⟨_,List.getElem?_eq_getElem (by have:=HWL.out;omega)⟩
            have hk' : ∀ p : Addr,p.block < B → wr.cell? p = w2.cell? p:=fun p hp => hb4.cell (by omega)
            obtain ⟨bd,rfl,hbd,p0,p1,p2,p3⟩:=word_cells (HRA2.out.keep (fun _ h => h) hk') j u hu
            obtain ⟨be,rfl,hbe,q0,q1,q2,q3⟩:=word_cells (by rw [← HWL.out];exact HRA2'.out.keep (fun _ h => h) hk') j v hv
            rw [sameWs_step x.words y.words j u v hu hv,sameW_eq] at ha
            have hneq:=fun W => run_neqWord W ⟨u.num,u.n,u.s,v.pos⟩ v
            have hx:=(hb4.block wo.heap.size (by omega)).trans HX.out
            have hy:=(hb4.block (wo.heap.size + 1) (by omega)).trans HY.out
            have y2:=zb hy 2
            have HB4:=zh hb4
            have lj : (j : Int) < x.words.length:=by omega
            have lj0 : (0 : Int) ≤ j:=by omega
            have w3f : IntKind.i64.wrap ((j : Int) + 1) = (j : Int) + 1:=by rw [IntKind.wrap_i64];omega
            have hbel : (be.add (j * 4)).block < wr.heap.size:=by rw [block_of_add];omega
            have hwoz : wo.heap.size + 1 < wr.heap.size:=by omega
            have hwoz0 : wo.heap.size < wr.heap.size:=by omega
            have hnb : be.block ≠ wr.heap.size:=by omega
            clear hk' hb4 hx hy
            cases hab : decide (WordL.mk u.num u.n u.s v.pos = v)
            · simp only [hab] at hneq
              rw [hab,Bool.false_and] at ha
              have HRR:=zh (show sameNs l m = false by rw [HR.out,ha,Bool.false_and])
              clear hab ha
              go_wp2_with fail
              go_quiet (fail)
              go_wp2
              go_ret
              exact ⟨by rw [HRR.out];rfl,HB3.out.trans ((below_drewN ((HB4.out).alloc hbs4 _) _).mono hww2)⟩
            · simp only [hab] at hneq
              rw [hab,Bool.true_and] at ha
              have HA:=zh ha
              clear hab ha
              go_wp2_with fail
              go_quiet (fail)
              go_wp2_with fail
              exact ⟨⟨j + 1,by omega,by go_num,below_drewN ((HB4.out).alloc hbs4 _) _,HA.out⟩,by simp [intOf];omega⟩
          · have lj : ¬ (j : Int) < x.words.length := by omega
            have hsw : sameWs x.words y.words = true := by
              rw [ha,List.drop_eq_nil_of_le (by omega),List.drop_eq_nil_of_le (by have:=HWL.out;omega)];rfl
            have HRR:=zh (show sameNs l m = sameNs (l.drop (k + 1)) (m.drop (k + 1)) by rw [HR.out,hsw,Bool.true_and])
            have HB4:=zh (HB3.out.trans (hb4.mono hww2))
            clear hb4 ha hsw
            go_wp2_with fail
            exact ⟨⟨k + 1,by omega,by go_num,HB4.out,HRR.out⟩,by simp [intOf];omega⟩
      · have hkl : k = l.length := by omega
        have hs2 : sameNs l m = true := by
          rw [hs,List.drop_eq_nil_of_le (by omega),List.drop_eq_nil_of_le (by have:=HL.out;omega)];rfl
        have HS2:=zh hs2
        have lk : ¬ (k : Int) < l.length:=by omega
        clear hs hs2
        go_wp2_with fail
        go_ret
        exact ⟨by rw [HS2.out];rfl,hb⟩
  · have hne : ((l.length : Int) != (m.length : Int)) = true := by rw [bne_iff_ne]; omega
    have HS2:=zh (sameNs_len l m hlen)
    clear hlen ih h1 h2
    go_enter Try.func38,Try.ntmps38
    go_wp2_with fail
    go_ret
    exact ⟨by rw [HS2.out];rfl,Below.refl _ _⟩
theorem ref9_sameTo : ∀ N,RSameTo N
  | 0 => fun l m A A' c c' w B h => by omega
  | N + 1 => ref9_same_step N (ref9_sameTo N)
theorem ref9_Same (l m : List NodeL) (A A' : Option Addr) (c c' : Nat) (w : World) (B : Nat) (hsm : cntL l ≤ 100000) (hB : B ≤ w.heap.size) (h1 : ROk w B A l) (h2 : ROk w B A' m) :
    Calls Try.prog 38 #[.slice A l.length c, .slice A' m.length c'] w fun e w' => e = .returned (.bool (sameNs l m)) ∧ Below w.heap.size w w' :=
  ref9_sameTo (cntL l + 1) l m A A' c c' w B (by omega) hsm hB h1 h2
end
section
theorem sameW_refl (w : WordL) : sameW w w = true:=by simp [sameW]
theorem sameWs_refl : ∀ l : List WordL,sameWs l l = true
  | [] => rfl
  | w :: l => by rw [sameWs,sameW_refl,sameWs_refl l];rfl
theorem sameNs_refl : ∀ l : List NodeL,sameNs l l = true
  | [] => rfl
  | .mk nm p ws b ks :: r => by
    simp only [sameNs,sameN,sameWs_refl,sameNs_refl ks,sameNs_refl r]
    simp
end
section
set_option linter.unusedVariables false
set_option linter.unusedSimpArgs false
open Go.RowKit
open Go.Joins renaming cell_of_block → zb, unfrozen_of_block → zu
open Go.Lib renaming hid → zh
attribute [local go_sem ↓] Go.wp_at_zero Go.wp_at_succ
def ExactTo (N : Nat) : Prop := ∀ (l : List NodeL) (A A' : Option Addr) (c c' : Nat) (w : World) (B : Nat),cntL l < N → cntL l ≤ 100000 → B ≤ w.heap.size → ROk w B A l → ROk w B A' l →
    Calls Try.prog 13 #[.slice A l.length c, .slice A' l.length c'] w fun e w' => e = .returned (.bool true) ∧ Below w.heap.size w w'
set_option maxRecDepth 100000 in
set_option maxHeartbeats 8000000 in
theorem ref9_exact_step (N : Nat) (ih : ExactTo N) : ExactTo (N + 1) := by
  intro l A A' c c' w B hN hsm hB h1 h2
  have hl:=cntL_len l
  have HS:=zh (ref9_Same l l A A' c c' w B hsm hB h1 h2)
  rw [sameNs_refl] at HS
  have H1:=zh h1
  have H2:=zh h2
  have HIH:=zh ih
  clear h1 h2 ih
  go_enter Try.func13,Try.ntmps13
  go_wp2_with fail
  refine HS.out.mono ?_
  rintro e w0 ⟨rfl,hb0⟩
  have HB0:=zh hb0
  have hz0:=hb0.size
  clear hb0
  go_wp2_with fail
  go_loopw [15] (fun i wr => ∃ k : Nat,k ≤ l.length ∧ i = .int .i64 k ∧ Below w.heap.size w wr) (fun i _ => l.length - (intOf i).toNat)
  case atStart => exact ⟨0,Nat.zero_le _,rfl,HB0.out⟩
  case round =>
    obtain ⟨k,hk,rfl,hb⟩:=hrel
    have hbs:=hb.size
    by_cases hlt : k < l.length
    · obtain ⟨x,hx⟩ : ∃ x,l[k]? = some x := ⟨_,List.getElem?_eq_getElem hlt⟩
      obtain ⟨ad,Aw,cw,Ak,ck,rfl,had,d0,d1,d2,d3,d4,hw,hkk⟩:=(H1.out.below (hb.mono hB)).at k x hx
      obtain ⟨ae,Aw',cw',Ak',ck',rfl,hae,e0,e1,e2,e3,e4,hw',hkk'⟩:=(H2.out.below (hb.mono hB)).at k x hx
      have hc1:=cntL_take_mem l k x hx
      have hc2:=cntN_eq x
      obtain ⟨o,ho⟩ : ∃ o : Obj,o = (.cells #[.string ⟨x.name.toArray⟩, .int .i64 x.pos, .slice Aw x.words.length cw, .bool x.block, .slice Ak x.kids.length ck] 25):=⟨_,rfl⟩
      have hab : Below wr.heap.size wr (wr.alloc o):=(Below.refl _ _).alloc (Nat.le_refl _) _
      have HKK:=zh (hkk.below (hab.mono (by omega)))
      have HKK':=zh (hkk'.below (hab.mono (by omega)))
      have HRW:=zh (hw.keep (w':=wr.alloc o) (fun _ h => h) (fun p hp => hab.cell (by omega)))
      have HRW':=zh (hw'.keep (w':=wr.alloc o) (fun _ h => h) (fun p hp => hab.cell (by omega)))
      have HX:=zh hx
      have HB:=zh (hb.trans (hab.mono hbs))
      have lk : (k : Int) < l.length:=by omega
      have lk0 : (0 : Int) ≤ k:=by omega
      have w1f : IntKind.i64.wrap ((k : Int) + 1) = (k : Int) + 1:=by rw [IntKind.wrap_i64];omega
      have hlad : ad.block < wr.heap.size:=by omega
      have hlae : ae.block < wr.heap.size:=by omega
      have hne1 : ad.block ≠ wr.heap.size:=by omega
      have hne2 : ae.block ≠ wr.heap.size:=by omega
      have g1:=(World.cell?_alloc_lt wr o ⟨(ae.add (k * 5)).block,(ae.add (k * 5)).off + 1,none⟩ (by show (ae.add (k * 5)).block < _;rw [block_of_add];exact hlae)).trans e1
      have g2:=(World.cell?_alloc_lt wr o ⟨(ae.add (k * 5)).block,(ae.add (k * 5)).off + 2,none⟩ (by show (ae.add (k * 5)).block < _;rw [block_of_add];exact hlae)).trans e2
      have g4:=(World.cell?_alloc_lt wr o ⟨(ae.add (k * 5)).block,(ae.add (k * 5)).off + 4,none⟩ (by show (ae.add (k * 5)).block < _;rw [block_of_add];exact hlae)).trans e4
      have hbo : (wr.alloc o).heap[wr.heap.size]? = some o:=heap_alloc_new wr o
      have hsz : (wr.alloc o).heap.size = wr.heap.size + 1:=by simp
      subst ho
      have HBO:=zh hbo
      clear hb hw hw' hkk hkk' hab hbo hx e0 e1 e2 e3 e4
      go_wp2_with fail
      generalize wr.alloc _ = wa at *
      have x1:=zb HBO.out 1
      have x2:=zb HBO.out 2
      have x4:=zb HBO.out 4
      have hc:=HIH.out x.kids Ak Ak' ck ck' wa.drew B (by omega) (by omega) (by show B ≤ wa.heap.size;omega) (HKK.out.below (Below.refl B wa).drew) (HKK'.out.below (Below.refl B wa).drew)
      have HC:=zh hc
      clear hc
      go_still_tail 16,(by kernel_rfl)
      change wpList _ _ _ _ _ wa.drew
      go_wp2_with fail
      refine HC.out.mono ?_
      rintro e w3 ⟨rfl,hb3⟩
      have hz3 : wa.heap.size ≤ w3.heap.size:=hb3.size
      have hbo3 : w3.heap[wr.heap.size]? = _:=(hb3.block _ (by show wr.heap.size < wa.heap.size;omega)).trans HBO.out
      have y2:=zb hbo3 2
      have HBO3:=zh hbo3
      have HB3:=zh (show Below w.heap.size w w3 from (HB.out.drew).trans (hb3.mono (by show w.heap.size ≤ wa.heap.size;omega)))
      have HRA:=zh (HRW.out.keep (w':=w3) (fun _ h => h) (fun p hp => hb3.cell (by show p.block < wa.heap.size;omega)))
      have HRA':=zh (HRW'.out.keep (w':=w3) (fun _ h => h) (fun p hp => hb3.cell (by show p.block < wa.heap.size;omega)))
      have hwl20 : (x.words.length : Int) ≤ 100000:=by omega
      have e2 : w3.cell? ⟨(ae.add (k * 5)).block,(ae.add (k * 5)).off + 2,none⟩ = _:=(hb3.cell (by show (ae.add (k * 5)).block < wa.heap.size;rw [block_of_add];omega)).trans g2
      have HE2:=zh e2
      have hww3 : w.heap.size ≤ w3.heap.size:=by omega
      clear hb3 hbo3 e2 d0 d1 d2 d3 d4 g1 g2 g4 x1 x2 x4 HB HRW HRW' HKK HKK' HC
      obtain ⟨wo,hwo⟩ : ∃ wo,wo = wr:=⟨_,rfl⟩
      subst hwo
      go_wp2_with fail
      go_loopw [42] (fun i wr => ∃ j : Nat,j ≤ x.words.length ∧ i = .int .i64 j ∧ Below w3.heap.size w3 wr) (fun i _ => x.words.length - (intOf i).toNat)
      case atStart => exact ⟨0,Nat.zero_le _,rfl,Below.refl _ _⟩
      case round =>
        obtain ⟨j,hj,rfl,hb4⟩:=hrel
        have hbs4:=hb4.size
        by_cases hjt : j < x.words.length
        · obtain ⟨u,hu⟩ : ∃ u,x.words[j]? = some u := ⟨_,List.getElem?_eq_getElem hjt⟩
          have hk' : ∀ p : Addr,p.block < B → wr.cell? p = w3.cell? p:=fun p hp => hb4.cell (by omega)
          obtain ⟨bd,rfl,hbd,p0,p1,p2,p3⟩:=word_cells (HRA.out.keep (fun _ h => h) hk') j u hu
          obtain ⟨be,rfl,hbe,q0,q1,q2,q3⟩:=word_cells (HRA'.out.keep (fun _ h => h) hk') j u hu
          obtain ⟨o,ho⟩ : ∃ o : Obj,o = (.cells #[.bool u.num, .int .i64 u.n, .string ⟨u.s.toArray⟩, .int .i64 u.pos] 47):=⟨_,rfl⟩
          have hael : (ae.add (k * 5)).block < w3.heap.size:=by rw [block_of_add];omega
          have g2:=(World.cell?_alloc_lt wr o ⟨(ae.add (k * 5)).block,(ae.add (k * 5)).off + 2,none⟩ (by show (ae.add (k * 5)).block < _;omega)).trans ((hb4.cell (p:=⟨(ae.add (k * 5)).block,(ae.add (k * 5)).off + 2,none⟩) hael).trans HE2.out)
          have g3:=(World.cell?_alloc_lt wr o ⟨(be.add (j * 4)).block,(be.add (j * 4)).off + 3,none⟩ (by show (be.add (j * 4)).block < _;rw [block_of_add];omega)).trans q3
          have hob : (wr.alloc o).heap[wr.heap.size]? = some o:=heap_alloc_new wr o
          subst ho
          have x3:=zb hob 3
          have HB4:=zh (HB3.out.trans (Below.mono (hb4.alloc hbs4 (.cells #[.bool u.num, .int .i64 u.n, .string ⟨u.s.toArray⟩, .int .i64 u.pos] 47)) hww3))
          have HB5:=zh (hb4.alloc hbs4 (.cells #[.bool u.num, .int .i64 u.n, .string ⟨u.s.toArray⟩, .int .i64 u.pos] 47))
          have lj : (j : Int) < x.words.length:=by omega
          have lj0 : (0 : Int) ≤ j:=by omega
          have lk9 : (k : Int) < l.length:=by omega
          have w3f : IntKind.i64.wrap ((j : Int) + 1) = (j : Int) + 1:=by rw [IntKind.wrap_i64];omega
          clear hk' hb4 hob q0 q1 q2 q3
          go_wp2_with fail
          go_quiet (fail)
          go_wp2_with fail
          exact ⟨⟨j + 1,by omega,by go_num,below_drewN HB5.out _⟩,by simp [intOf];omega⟩
        · have lj : ¬ (j : Int) < x.words.length := by omega
          have HB4:=zh (HB3.out.trans (hb4.mono hww3))
          clear hb4
          go_wp2_with fail
          exact ⟨⟨k + 1,by omega,by go_num,HB4.out⟩,by simp [intOf];omega⟩
    · have lk : ¬ (k : Int) < l.length := by omega
      go_wp2_with fail
      go_ret
      exact ⟨rfl,hb⟩
theorem ref9_exactTo : ∀ N,ExactTo N
  | 0 => fun l A A' c c' w B h => by omega
  | N + 1 => ref9_exact_step N (ref9_exactTo N)
end
end Go.Proofs.Ytpkhocbohhpmbaa
