/- Layer 11, the laws: live. Then: Layer 11 (field): items laid in a block of their own. Then: Layer 11 (field), the reference: the walks of place, with. Then: Layer 11 (field), the reference: the walk of many. Then: Layer 11 (field), the reference: the walk of shaped. -/
import Derived.Test.YtpkhocbohhpmbaaPkR28
import Derived.Test.YtpkhocbohhpmbaaPkR11
import Derived.Test.YtpkhocbohhpmbaaPkR14
import Derived.Test.YtpkhocbohhpmbaaPkR12
import Derived.Test.YtpkhocbohhpmbaaPkR19
set_option linter.unusedVariables false
namespace Go.Proofs.Ytpkhocbohhpmbaa
section
set_option linter.unusedSimpArgs false
open Go.RowKit
open Go.Lib renaming hid → zh
def exK : List NodeL:=[.mk b_end 13 [⟨false,0,[110,114,102],17⟩] false [], .mk b_serve 22 [⟨true,2000,[],28⟩,⟨true,2030,[],33⟩] false [], .mk b_compare 39 [⟨false,0,[115,104,105,102,116],47⟩] false []]
def exN : NodeL:=.mk b_calendar 0 [⟨false,0,[120],9⟩] true exK
def exT : Bytes:=[99,97,108,101,110,100,97,114,32,120,32,123,32,101,110,100,32,110,114,102,59,32,115,101,114,118,101,32,50,48,48,48,32,50,48,51,48,59,32,99,111,109,112,97,114,101,32,115,104,105,102,116,59,32,125]
theorem ex_tree : treeL exT = ⟨[exN],0,0⟩:=by kernel_rfl
theorem ex_read : readC exN = ⟨⟨[120],3,6,1,1,1,4,5,4,0,12,2000,2030,2⟩,0,0⟩:=by kernel_rfl
theorem ex_fit : fitNs [exN] := by
  unfold exN exK
  simp only [fitNs,fitN,and_true]
  decide
theorem ex_cnt : cntL [exN] = 9:=by kernel_rfl
set_option maxRecDepth 100000 in
set_option maxHeartbeats 4000000 in
theorem law11_live (w : World) :
    Calls Try.prog 5 #[] w fun e w' => e = .returned (.bool true) ∧ Below w.heap.size w w':=by
  have hP:=tree_Parse ⟨exT.toArray⟩ w (by decide)
  rw [show (ByteArray.mk exT.toArray).data.toList = exT from rfl,ex_tree] at hP
  have HP:=zh hP
  have HR:=zh (fun cs W B h1 h2 => field_Read exN cs W B h1 h2 (by rw [ex_cnt];omega) ex_fit)
  unfold ReadPost at HR
  rw [ex_read] at HR
  unfold exT at HP
  dsimp only [calV] at HR
  clear hP
  go_enter Try.func5,Try.ntmps5
  go_wp2_with fail
  refine HP.out.mono ?_
  rintro e w1 ⟨A,c,kcs,rfl,hnil,hr,hn,hb⟩
  have hr':=ROk.of_parse hr hn
  obtain ⟨ad,Aw,cw,Ak,ck,kcs',rfl,hM,c0,c1,c2,c3,c4,h5,h6,hw,hk,hkn⟩:=node_cells hr hn 0 _ rfl
  have HN := zh (show NodeOk w1 (· < w1.heap.size) exN [.string ⟨b_calendar.toArray⟩, .int .i64 0, .slice Aw 1 cw, .bool true, .slice Ak 3 ck] from by
    unfold exN
    simp only [NodeOk]
    exact ⟨Aw,cw,Ak,ck,kcs',rfl,h5,h6,hw.keep (fun _ h => h.2) (fun _ _ => rfl),hk.keep (fun _ h => h.2) (fun _ _ => rfl),NodesOk.keep (fun _ h => h.2) (fun _ _ => rfl) _ _ hkn⟩)
  have HB:=zh hb
  clear hnil hr hn hb hw hk hkn h5 h6 hr'
  have hadl : ad.block < w1.heap.size:=hM.2
  clear hM
  unfold exN exK at c0 c1 c2 c3 c4
  simp only [NodeL.name,NodeL.pos,NodeL.words,NodeL.block,NodeL.kids,List.length_cons,List.length_nil] at c0 c1 c2 c3 c4
  simp only [Nat.zero_mul,Nat.one_mul,add_zero,Nat.zero_add,Nat.reduceAdd] at c0 c1 c2 c3 c4
  dsimp only [List.length_cons,List.length_nil,Nat.zero_add]
  go_wp2_with fail
  refine (HR.out _ _ _ (Nat.le_refl _) HN.out).mono ?_
  rintro e w2 ⟨rfl,hb2⟩
  have HB2:=zh (HB.out.trans (hb2.mono HB.out.size))
  clear hb2
  go_wp2_with fail
  go_ret
  refine ⟨rfl,?_⟩
  first | exact HB2.out | exact HB2.out.alloc HB2.out.size _
end
section
open Go.RowKit
open Go.Joins renaming cell_of_block → zb, unfrozen_of_block → zu
theorem add_blk0 (g j : Nat) : (⟨g,0,none⟩ : Addr).add j = ⟨g,j,none⟩ := by
  unfold Addr.add
  split
  · next h => subst h;rfl
  · simp
theorem rok_block {W : World} {g : Nat} {l : List NodeL} {kcs pad : List Value} {T : TypeId} (hg : W.heap[g]? = some (.cells (kcs ++ pad).toArray T (0,0))) (hn : NodesOk W (· < W.heap.size) l kcs) : ROk W W.heap.size (some ⟨g,0,none⟩) l := by
  refine ⟨kcs,⟨hn.len,fun _ => ⟨_,rfl,(Array.getElem?_eq_some_iff.1 hg).1,fun j u hu => ?_⟩⟩,hn⟩
  rw [add_blk0,zb hg j]
  have hj:=(List.getElem?_eq_some_iff.1 hu).1
  simp [List.getElem?_append_left hj,hu]
theorem rok_new (w : World) (n : NodeL) (cs : List Value) (T : TypeId) (h : NodeOk w (· < w.heap.size) n cs) : ROk (w.alloc (.cells cs.toArray T)) (w.alloc (.cells cs.toArray T)).heap.size (some ⟨w.heap.size,0,none⟩) [n] := by
  have hb:=(Below.refl w.heap.size w).alloc (Nat.le_refl _) (.cells cs.toArray T)
  have hs:=hb.size
  refine rok_block (kcs:=cs) (pad:=[]) (T:=T) (by rw [List.append_nil];exact heap_alloc_new w _) (NodesOk.one (NodeOk.keep (fun b hb => by show b < _;omega) (fun q hq => hb.cell hq) _ _ h))
theorem NodeOk.below {w w' : World} {B : Nat} {n : NodeL} {cs : List Value} (h : NodeOk w (· < B) n cs) (hb : Below B w w') : NodeOk w' (· < B) n cs:=NodeOk.keep (fun _ h => h) (fun q hq => hb.cell hq) _ _ h
theorem NodeOk.up {w : World} {B B' : Nat} {n : NodeL} {cs : List Value} (h : NodeOk w (· < B) n cs) (hb : B ≤ B') : NodeOk w (· < B') n cs:=NodeOk.keep (fun _ h => Nat.lt_of_lt_of_le h hb) (fun _ _ => rfl) _ _ h
end
section
set_option linter.unusedSimpArgs false
set_option maxRecDepth 100000
open Go.RowKit
open Go.Joins renaming cell_of_block → zb, unfrozen_of_block → zu
open Go.Lib renaming hid → zh
theorem posL_drop (l : List Bytes) (s a : Bytes) (k : Nat) (h : l[k]? = some a) : posL (l.drop k) s = if a = s then 1 else if posL (l.drop (k + 1)) s = 0 then 0 else posL (l.drop (k + 1)) s + 1 := by
  have hk : k < l.length:=(List.getElem?_eq_some_iff.1 h).1
  rw [List.drop_eq_getElem_cons hk,(List.getElem?_eq_some_iff.1 h).2]
  rfl
/-- What is told from the k-th on. -/
def posFrom (l : List Bytes) (s : Bytes) (k : Nat) : Int:=if posL (l.drop k) s = 0 then 0 else posL (l.drop k) s + k
theorem posFrom_step (l : List Bytes) (s a : Bytes) (k : Nat) (h : l[k]? = some a) : posFrom l s k = if a = s then (k : Int) + 1 else posFrom l s (k + 1) := by
  have hp:=posL_nonneg (l.drop (k + 1)) s
  unfold posFrom
  rw [posL_drop l s a k h]
  by_cases e : a = s
  · rw [if_pos e,if_pos e,if_neg (by decide)];omega
  · rw [if_neg e,if_neg e]
    by_cases z : posL (l.drop (k + 1)) s = 0
    · rw [if_pos z,if_pos rfl,if_pos z]
    · rw [if_neg z,if_neg z,if_neg (by omega)];push_cast;omega
theorem posFrom_end (l : List Bytes) (s : Bytes) : posFrom l s l.length = 0:=by unfold posFrom;rw [List.drop_length];rfl
theorem posFrom_zero (l : List Bytes) (s : Bytes) : posFrom l s 0 = posL l s := by
  unfold posFrom
  rw [List.drop_zero]
  split
  · next h => exact h.symm
  · simp
set_option maxHeartbeats 2000000 in
theorem r11_place (l : List Bytes) (t : WordL) (g c : Nat) (w : World) (hl : l.length ≤ 1000) (hg : StrBlk w g l) :
    Calls Try.prog 23 #[.slice (some ⟨g,0,none⟩) l.length c, .agg #[.bool t.num, .int .i64 t.n, .string ⟨t.s.toArray⟩, .int .i64 t.pos]] w fun e w' => e = .returned (.int .i64 (placeW l t)) ∧ Below w.heap.size w w':=by
  have HB:=zh (below_cal w (.cells #[.bool t.num, .int .i64 t.n, .string ⟨t.s.toArray⟩, .int .i64 t.pos] 47))
  have hx:=heap_alloc_new w (.cells #[.bool t.num, .int .i64 t.n, .string ⟨t.s.toArray⟩, .int .i64 t.pos] 47)
  have hg1:=hg.keep HB.out
  have x0:=zb hx 0
  have x2:=zb hx 2
  have HG:=zh hg1
  obtain ⟨num,n,s,pos⟩:=t
  have hpl : placeW l ⟨num,n,s,pos⟩ = if num then 0 else posFrom l s 0:=by rw [posFrom_zero];rfl
  rw [hpl]
  dsimp only at *
  generalize hW : w.alloc _ = W at *
  clear hg hg1 hx hpl
  go_enter Try.func23,Try.ntmps23
  go_wp2_with fail
  go_loop [9] (fun i => ∃ k : Nat,k ≤ l.length ∧ i = .int .i64 k ∧ (num = false → posFrom l s 0 = posFrom l s k)) (fun i => l.length - (intOf i).toNat)
  case atStart => exact ⟨0,Nat.zero_le _,rfl,fun _ => rfl⟩
  case round =>
    obtain ⟨k,hk,rfl,hs⟩:=hrel
    by_cases hlt : k < l.length
    · obtain ⟨a,ha⟩ : ∃ a,l[k]? = some a := ⟨_,List.getElem?_eq_getElem hlt⟩
      have hc : W.cell? ⟨g,k,none⟩ = some (.string ⟨a.toArray⟩) := by
        obtain ⟨T,h⟩:=HG.out
        rw [zb h k]
        simp [ha]
      have hst:=posFrom_step l s a k ha
      have lk : (k : Int) < l.length:=by omega
      have lk0 : (0 : Int) ≤ k:=by omega
      have w1f : IntKind.i64.wrap ((k : Int) + 1) = (k : Int) + 1:=by rw [IntKind.wrap_i64];omega
      clear ha
      cases num
      · replace hs := (hs rfl).trans hst
        by_cases e : a = s
        · rw [if_pos e] at hs
          have he : (s == a) = true:=by rw [e];simp
          have HS:=zh hs
          clear hs e hst
          go_wp2_with fail
          go_ret
          exact ⟨by rw [HS.out];rfl,HB.out⟩
        · rw [if_neg e] at hs
          have he : (s == a) = false:=beq_false_of_ne (Ne.symm e)
          have HS:=zh hs
          clear hs e hst
          go_wp2_with fail
          exact ⟨⟨k + 1,by omega,by go_num,fun _ => HS.out⟩,by simp [intOf];omega⟩
      · clear hs hst
        go_wp2_with fail
        exact ⟨⟨k + 1,by omega,by go_num,fun h => by cases h⟩,by simp [intOf];omega⟩
    · have lk : ¬ (k : Int) < l.length := by omega
      have hk2 : k = l.length:=by omega
      cases num
      · have HZ := zh (show posFrom l s 0 = 0 from (hs rfl).trans (by rw [hk2]; exact posFrom_end l s))
        clear hs hk2
        go_wp2_with fail
        go_ret
        exact ⟨by simp only [Bool.false_eq_true,if_false];rw [HZ.out];rfl,HB.out⟩
      · clear hs hk2
        go_wp2_with fail
        go_ret
        exact ⟨rfl,HB.out⟩
set_option maxHeartbeats 4000000 in
theorem r11_with (k : Int) (s : Bytes) (w : World) (h1 : 1 ≤ k) (h6 : k ≤ 6) : Calls Try.prog 26 #[.int .i64 k, .string ⟨s.toArray⟩] w fun e w' => e = .returned (.bool (standsC k s)) ∧ w = w' := by
  obtain ⟨q0,hq0⟩ : ∃ q,(s == [110,97,109,101,100]) = q:=⟨_,rfl⟩
  obtain ⟨q1,hq1⟩ : ∃ q,(s == [112,101,114,105,111,100,115]) = q:=⟨_,rfl⟩
  obtain ⟨q2,hq2⟩ : ∃ q,(s == [112,97,121]) = q:=⟨_,rfl⟩
  obtain ⟨q3,hq3⟩ : ∃ q,(s == [101,120,116,114,97]) = q:=⟨_,rfl⟩
  have hst : standsC k s = if q0 then (decide (k ≠ 3) && decide (k ≠ 4) && decide (k ≠ 5)) else if q1 || q2 || q3 then (decide (k ≠ 3) && decide (k ≠ 4) && decide (k ≠ 6)) else true := by
    rw [← hq0,← hq1,← hq2,← hq3]
    unfold standsC
    simp only [beq_iff_eq,Bool.or_eq_true]
    rw [show b_named = [110,97,109,101,100] from rfl,show b_periods = [112,101,114,105,111,100,115] from rfl,show b_pay = [112,97,121] from rfl,show b_extra = [101,120,116,114,97] from rfl]
    simp only [or_assoc]
  rw [hst]
  clear hst
  obtain rfl | rfl | rfl | rfl | rfl | rfl : k = 1 ∨ k = 2 ∨ k = 3 ∨ k = 4 ∨ k = 5 ∨ k = 6:=by omega
  all_goals
    clear h1 h6
    cases q0
    · cases q1
      · cases q2
        · cases q3 <;> (
            go_enter Try.func26,Try.ntmps26
            go_wp2_with fail
            go_ret
            exact ⟨rfl,rfl⟩)
        · skip
          go_enter Try.func26,Try.ntmps26
          go_wp2_with fail
          go_ret
          exact ⟨rfl,rfl⟩
      · skip
        go_enter Try.func26,Try.ntmps26
        go_wp2_with fail
        go_ret
        exact ⟨rfl,rfl⟩
    · skip
      go_enter Try.func26,Try.ntmps26
      go_wp2_with fail
      go_ret
      exact ⟨rfl,rfl⟩
end
section
set_option linter.unusedSimpArgs false
set_option maxRecDepth 100000
open Go.RowKit
open Go.Lib renaming hid → zh
/-- How many periods,as the reference says: of a cycle that is none nought. -/
def manyR (s c : Int) : Int:=if s = 2 then 13 else if s = 3 then (if 0 < c then 52 / c else 0) else if s = 1 ∨ s = 4 ∨ s = 5 then 12 else 0
set_option maxHeartbeats 2000000 in
theorem r11_many (d : CalL) (w : World) : Calls Try.prog 37 #[calV d] w fun e w' => e = .returned (.int .i64 (manyR d.shape d.cycle)) ∧ Below w.heap.size w w' := by
  obtain ⟨nm,kind,day,month,shift,s,p0,p1,p2,c,extra,first,last,policy⟩:=d
  dsimp only [calV]
  have HB:=zh (below_cal w (.cells #[.string ⟨nm.toArray⟩, .int .i64 kind, .int .i64 day, .int .i64 month, .int .i64 shift, .int .i64 s, .int .i64 p0, .int .i64 p1, .int .i64 p2, .int .i64 c, .int .i64 extra, .int .i64 first, .int .i64 last, .int .i64 policy] 30))
  unfold manyR
  by_cases h2 : s = 2
  · subst h2
    rw [if_pos rfl]
    go_enter Try.func37,Try.ntmps37
    go_wp2_with fail
    go_ret
    exact ⟨rfl,HB.out⟩
  rw [if_neg h2]
  by_cases h3 : s = 3
  · subst h3
    by_cases hc : 0 < c
    · rw [if_pos rfl,if_pos hc]
      have q:=quo52 c hc
      have c0 : (c == 0) = false:=beq_false_of_ne (by omega)
      have c1 : c ≠ 0:=by omega
      go_enter Try.func37,Try.ntmps37
      go_wp2_with fail
      go_ret
      exact ⟨rfl,HB.out⟩
    · rw [if_pos rfl,if_neg hc]
      have hd : decide (0 < c) = false:=decide_eq_false hc
      go_enter Try.func37,Try.ntmps37
      go_wp2_with fail
      go_ret
      exact ⟨rfl,HB.out⟩
  · rw [if_neg h3]
    have k2 : (s == 2) = false:=beq_false_of_ne h2
    have k3 : (s == 3) = false:=beq_false_of_ne h3
    by_cases h145 : s = 1 ∨ s = 4 ∨ s = 5
    · rw [if_pos h145]
      rcases h145 with rfl | rfl | rfl <;> (
        go_enter Try.func37,Try.ntmps37
        go_wp2_with fail
        go_ret
        exact ⟨rfl,HB.out⟩)
    · rw [if_neg h145]
      have k1 : (s == 1) = false:=beq_false_of_ne (by omega)
      have k4 : (s == 4) = false:=beq_false_of_ne (by omega)
      have k5 : (s == 5) = false:=beq_false_of_ne (by omega)
      go_enter Try.func37,Try.ntmps37
      go_wp2_with fail
      go_ret
      exact ⟨rfl,HB.out⟩
end
section
set_option linter.unusedSimpArgs false
set_option maxRecDepth 100000
open Go.RowKit
open Go.Lib renaming hid → zh
/-- Whether a shape of weeks may be,but for the week that is added. -/
def shapedR (d : CalL) : Bool :=
  if (!decide (d.shape = 1) && !patZ d) || (!decide (d.shape = 3) && !decide (d.cycle = 0)) then false
  else if d.shape = 1 then patOk d.p0 d.p1 d.p2 else if d.shape = 2 then true else if d.shape = 3 then cycOk d.cycle else false
theorem weeksR (d : CalL) : weeksC d = (shapedR d && tween d.extra 1 (manyR d.shape d.cycle)) := by
  unfold weeksC shapedR
  by_cases h1 : d.shape = 1
  · have hm : manyC d.shape d.cycle = manyR d.shape d.cycle := by rw [h1]; rfl
    rw [if_pos h1,if_pos h1,hm]
    have h3 : ¬ d.shape = 3:=by omega
    simp only [h1,h3,decide_true,decide_false,Bool.not_true,Bool.not_false,Bool.false_and,Bool.true_and,Bool.false_or]
    by_cases hc : d.cycle = 0 <;> simp [hc]
  · by_cases h2 : d.shape = 2
    · have hm : manyC d.shape d.cycle = manyR d.shape d.cycle := by rw [h2]; rfl
      rw [if_neg h1,if_pos h2,if_neg h1,if_pos h2,hm]
      have h3 : ¬ d.shape = 3:=by omega
      simp only [h1,h3,decide_true,decide_false,Bool.not_true,Bool.not_false,Bool.false_and,Bool.true_and,Bool.false_or]
      by_cases hc : d.cycle = 0 <;> cases hp : patZ d <;> simp [hc]
    · by_cases h3 : d.shape = 3
      · rw [if_neg h1,if_neg h2,if_pos h3,if_neg h1,if_neg h2,if_pos h3]
        simp only [h1,h3,decide_true,decide_false,Bool.not_true,Bool.not_false,Bool.false_and,Bool.true_and,Bool.false_or,Bool.or_false]
        cases hp : patZ d
        · simp
        · cases hc : cycOk d.cycle
          · simp [hc]
          · have hpos : 0 < d.cycle := by
              unfold cycOk at hc
              simp at hc
              omega
            have hm : manyC 3 d.cycle = manyR 3 d.cycle:=by unfold manyC manyR;rw [if_neg (by decide),if_pos ⟨rfl,hpos⟩,if_neg (by decide),if_pos rfl,if_pos hpos]
            simp [hm]
      · rw [if_neg h1,if_neg h2,if_neg h3,if_neg h1,if_neg h2,if_neg h3]
        simp
theorem run_nePat (W : World) (a b c d e f : Int) : (binOp .neq 28 (.agg #[.int .i64 a, .int .i64 b, .int .i64 c]) (.agg #[.int .i64 d, .int .i64 e, .int .i64 f])).run Try.prog W = .ok (.bool (!(decide (a = d) && decide (b = e) && decide (c = f)))) W := by
  obtain ⟨i,hi⟩:=info_int
  rw [run_neq_struct,run_equalIn_array W 9999 _ _ und_pat hi,cells_int]
  have h3 : List.range 3 = [0,1,2]:=rfl
  rw [h3]
  by_cases h1 : a = d <;> by_cases h2 : b = e <;> by_cases h3 : c = f <;> simp [go_sem,h1,h2,h3,Op.eqItems]
set_option maxHeartbeats 4000000 in
theorem shaped_1 (nm : Bytes) (kind day month shift p0 p1 p2 cycle extra first last policy : Int) (w : World) : Calls Try.prog 43 #[.agg #[.string ⟨nm.toArray⟩, .int .i64 kind, .int .i64 day, .int .i64 month, .int .i64 shift, .int .i64 1, .int .i64 p0, .int .i64 p1, .int .i64 p2, .int .i64 cycle, .int .i64 extra, .int .i64 first, .int .i64 last, .int .i64 policy]] w fun e w' => e = .returned (.bool (decide (cycle = 0) && patOk p0 p1 p2)) ∧ Below w.heap.size w w' := by
  have HB:=zh (below_cal w (.cells #[.string ⟨nm.toArray⟩, .int .i64 kind, .int .i64 day, .int .i64 month, .int .i64 shift, .int .i64 1, .int .i64 p0, .int .i64 p1, .int .i64 p2, .int .i64 cycle, .int .i64 extra, .int .i64 first, .int .i64 last, .int .i64 policy] 30))
  have hz:=fun W => run_nePat W p0 p1 p2 0 0 0
  have hq1:=fun W => run_eqPat W p0 p1 p2 4 4 5
  have hq2:=fun W => run_eqPat W p0 p1 p2 4 5 4
  have hq3:=fun W => run_eqPat W p0 p1 p2 5 4 4
  unfold patOk
  generalize hcy : decide (cycle = 0) = cz at *
  have hcz : (cycle == 0) = cz:=hcy
  clear hcy
  obtain ⟨pz,hpz⟩ : ∃ b,(decide (p0 = 0) && decide (p1 = 0) && decide (p2 = 0)) = b:=⟨_,rfl⟩
  simp only [hpz] at hz
  clear hpz
  generalize (decide (p0 = 4) && decide (p1 = 4) && decide (p2 = 5)) = q1 at *
  generalize (decide (p0 = 4) && decide (p1 = 5) && decide (p2 = 4)) = q2 at *
  generalize (decide (p0 = 5) && decide (p1 = 4) && decide (p2 = 4)) = q3 at *
  cases cz
  · skip
    go_enter Try.func43,Try.ntmps43
    go_wp2_with fail
    go_ret
    exact ⟨rfl,HB.out⟩
  · cases q1
    · cases q2
      · cases q3 <;> (
          go_enter Try.func43,Try.ntmps43
          go_wp2_with fail
          go_ret
          exact ⟨rfl,HB.out⟩)
      · skip
        go_enter Try.func43,Try.ntmps43
        go_wp2_with fail
        go_ret
        exact ⟨rfl,HB.out⟩
    · skip
      go_enter Try.func43,Try.ntmps43
      go_wp2_with fail
      go_ret
      exact ⟨rfl,HB.out⟩
set_option maxHeartbeats 4000000 in
theorem shaped_2 (nm : Bytes) (kind day month shift p0 p1 p2 cycle extra first last policy : Int) (w : World) : Calls Try.prog 43 #[.agg #[.string ⟨nm.toArray⟩, .int .i64 kind, .int .i64 day, .int .i64 month, .int .i64 shift, .int .i64 2, .int .i64 p0, .int .i64 p1, .int .i64 p2, .int .i64 cycle, .int .i64 extra, .int .i64 first, .int .i64 last, .int .i64 policy]] w fun e w' => e = .returned (.bool (decide (cycle = 0) && (decide (p0 = 0) && decide (p1 = 0) && decide (p2 = 0)))) ∧ Below w.heap.size w w' := by
  have HB:=zh (below_cal w (.cells #[.string ⟨nm.toArray⟩, .int .i64 kind, .int .i64 day, .int .i64 month, .int .i64 shift, .int .i64 2, .int .i64 p0, .int .i64 p1, .int .i64 p2, .int .i64 cycle, .int .i64 extra, .int .i64 first, .int .i64 last, .int .i64 policy] 30))
  have hz:=fun W => run_nePat W p0 p1 p2 0 0 0
  generalize hcy : decide (cycle = 0) = cz at *
  have hcz : (cycle == 0) = cz:=hcy
  clear hcy
  generalize (decide (p0 = 0) && decide (p1 = 0) && decide (p2 = 0)) = pz at *
  cases cz <;> cases pz <;> (
    go_enter Try.func43,Try.ntmps43
    go_wp2_with fail
    go_ret
    exact ⟨rfl,HB.out⟩)
set_option maxHeartbeats 4000000 in
theorem shaped_3 (nm : Bytes) (kind day month shift p0 p1 p2 cycle extra first last policy : Int) (w : World) : Calls Try.prog 43 #[.agg #[.string ⟨nm.toArray⟩, .int .i64 kind, .int .i64 day, .int .i64 month, .int .i64 shift, .int .i64 3, .int .i64 p0, .int .i64 p1, .int .i64 p2, .int .i64 cycle, .int .i64 extra, .int .i64 first, .int .i64 last, .int .i64 policy]] w fun e w' => e = .returned (.bool ((decide (p0 = 0) && decide (p1 = 0) && decide (p2 = 0)) && cycOk cycle)) ∧ Below w.heap.size w w' := by
  have HB:=zh (below_cal w (.cells #[.string ⟨nm.toArray⟩, .int .i64 kind, .int .i64 day, .int .i64 month, .int .i64 shift, .int .i64 3, .int .i64 p0, .int .i64 p1, .int .i64 p2, .int .i64 cycle, .int .i64 extra, .int .i64 first, .int .i64 last, .int .i64 policy] 30))
  have hz:=fun W => run_nePat W p0 p1 p2 0 0 0
  generalize (decide (p0 = 0) && decide (p1 = 0) && decide (p2 = 0)) = pz at *
  have hcyc : cycOk cycle = ((cycle == 1) || (cycle == 2) || (cycle == 4)):=rfl
  rw [hcyc]
  obtain ⟨c1,hc1⟩ : ∃ b,(cycle == 1) = b:=⟨_,rfl⟩
  obtain ⟨c2,hc2⟩ : ∃ b,(cycle == 2) = b:=⟨_,rfl⟩
  obtain ⟨c4,hc4⟩ : ∃ b,(cycle == 4) = b:=⟨_,rfl⟩
  rw [hc1,hc2,hc4]
  clear hcyc
  cases pz
  · skip
    go_enter Try.func43,Try.ntmps43
    go_wp2_with fail
    go_ret
    exact ⟨rfl,HB.out⟩
  · cases c1
    · cases c2
      · cases c4 <;> (
          go_enter Try.func43,Try.ntmps43
          go_wp2_with fail
          go_ret
          exact ⟨rfl,HB.out⟩)
      · skip
        go_enter Try.func43,Try.ntmps43
        go_wp2_with fail
        go_ret
        exact ⟨rfl,HB.out⟩
    · skip
      go_enter Try.func43,Try.ntmps43
      go_wp2_with fail
      go_ret
      exact ⟨rfl,HB.out⟩
set_option maxHeartbeats 4000000 in
theorem shaped_0 (nm : Bytes) (kind day month shift s p0 p1 p2 cycle extra first last policy : Int) (k1 : (s == 1) = false) (k2 : (s == 2) = false) (k3 : (s == 3) = false) (w : World) : Calls Try.prog 43 #[.agg #[.string ⟨nm.toArray⟩, .int .i64 kind, .int .i64 day, .int .i64 month, .int .i64 shift, .int .i64 s, .int .i64 p0, .int .i64 p1, .int .i64 p2, .int .i64 cycle, .int .i64 extra, .int .i64 first, .int .i64 last, .int .i64 policy]] w fun e w' => e = .returned (.bool false) ∧ Below w.heap.size w w' := by
  have HB:=zh (below_cal w (.cells #[.string ⟨nm.toArray⟩, .int .i64 kind, .int .i64 day, .int .i64 month, .int .i64 shift, .int .i64 s, .int .i64 p0, .int .i64 p1, .int .i64 p2, .int .i64 cycle, .int .i64 extra, .int .i64 first, .int .i64 last, .int .i64 policy] 30))
  have hz:=fun W => run_nePat W p0 p1 p2 0 0 0
  generalize hcy : decide (cycle = 0) = cz at *
  have hcz : (cycle == 0) = cz:=hcy
  clear hcy
  generalize (decide (p0 = 0) && decide (p1 = 0) && decide (p2 = 0)) = pz at *
  have hn1 : (s != 1) = true:=by rw [bne,k1];rfl
  have hn3 : (s != 3) = true:=by rw [bne,k3];rfl
  cases cz <;> cases pz <;> (
    go_enter Try.func43,Try.ntmps43
    go_wp2_with fail
    all_goals first | (go_ret;exact ⟨rfl,HB.out⟩) | (exfalso;simp_all;done))
theorem r11_shaped (d : CalL) (w : World) : Calls Try.prog 43 #[calV d] w fun e w' => e = .returned (.bool (shapedR d)) ∧ Below w.heap.size w w' := by
  obtain ⟨nm,kind,day,month,shift,s,p0,p1,p2,c,extra,first,last,policy⟩:=d
  by_cases h1 : s = 1
  · subst h1
    have e : shapedR ⟨nm,kind,day,month,shift,1,p0,p1,p2,c,extra,first,last,policy⟩ = (decide (c = 0) && patOk p0 p1 p2) := by
      unfold shapedR
      by_cases hc : c = 0 <;> simp [hc]
    rw [e]
    exact shaped_1 nm kind day month shift p0 p1 p2 c extra first last policy w
  by_cases h2 : s = 2
  · subst h2
    have e : shapedR ⟨nm,kind,day,month,shift,2,p0,p1,p2,c,extra,first,last,policy⟩ = (decide (c = 0) && (decide (p0 = 0) && decide (p1 = 0) && decide (p2 = 0))) := by
      unfold shapedR patZ
      by_cases hc : c = 0 <;> by_cases h0 : p0 = 0 <;> by_cases h1 : p1 = 0 <;> by_cases h2 : p2 = 0 <;> simp [hc,h0,h1,h2]
    rw [e]
    exact shaped_2 nm kind day month shift p0 p1 p2 c extra first last policy w
  by_cases h3 : s = 3
  · subst h3
    have e : shapedR ⟨nm,kind,day,month,shift,3,p0,p1,p2,c,extra,first,last,policy⟩ = ((decide (p0 = 0) && decide (p1 = 0) && decide (p2 = 0)) && cycOk c) := by
      unfold shapedR patZ
      by_cases h0 : p0 = 0 <;> by_cases h1 : p1 = 0 <;> by_cases h2 : p2 = 0 <;> simp [h0,h1,h2]
    rw [e]
    exact shaped_3 nm kind day month shift p0 p1 p2 c extra first last policy w
  · have e : shapedR ⟨nm,kind,day,month,shift,s,p0,p1,p2,c,extra,first,last,policy⟩ = false := by
      unfold shapedR
      simp [h1,h2,h3]
    rw [e]
    exact shaped_0 nm kind day month shift s p0 p1 p2 c extra first last policy (beq_false_of_ne h1) (beq_false_of_ne h2) (beq_false_of_ne h3) w
end
end Go.Proofs.Ytpkhocbohhpmbaa
