/- Layer 12 (conf), the laws: what their walks share; live. Then: append onto a row of the call's own, from a slice that reads as a list. Then: Layer 12 (conf): the walk of the reference's Same. Then: Layer 11 (field), the reference: the walks of place, with. Then: Layer 11 (field), the reference: the walk of many. -/
import Derived.Test.YtjbniichcopnlaaPkR26
import Derived.Test.YtjbniichcopnlaaPkR14
import Derived.Test.YtjbniichcopnlaaPkR3
import Derived.Deep.QuietTactic
import Derived.Test.YtjbniichcopnlaaPkR16
namespace Go.Proofs.Ytjbniichcopnlaa
section
set_option linter.unusedVariables false
set_option linter.unusedSimpArgs false
set_option maxRecDepth 100000
open Go.RowKit
open Go.Joins renaming cell_of_block → zb, unfrozen_of_block → zu
open Go.Lib renaming hid → zh
theorem run_neqCal (W : World) (a b : CalL) : (binOp .neq 31 (.agg a.cc.toArray) (.agg b.cc.toArray)).run Try.prog W = .ok (.bool (!decide (a = b))) W := by
  unfold CalL.cc
  rw [run_neq_struct,run_equalCal];rfl
/-! ### What a text gives -/
theorem tree_right (s : Bytes) (hs : s.length ≤ 65536) (he : (treeL s).err = 0) : checkL 0 (treeL s).nodes = 0 ∧ cntL (treeL s).nodes ≤ s.length := by
  obtain ⟨h1,h2⟩:=treeL_err0 s he
  obtain ⟨_,_,hfl⟩:=tokens_law s he
  have hck : checkL 0 (treeL s).nodes = 0 := by
    rw [h2] at he ⊢
    exact parse_inv s.length _ _ _ (cutL_tokOk s) ⟨rfl,fun h => absurd rfl h,trivial⟩ trivial (by simp) he
  have a:=cnt_flat (treeL s).nodes 0 hck
  rw [hfl,List.length_map] at a
  have b:=cutL_len s
  exact ⟨hck,by omega⟩
theorem okfit_head (d : Nat) (nm : Bytes) (p : Int) (ws : List WordL) (b : Bool) (ks : List NodeL) (h : checkN d (.mk nm p ws b ks) = 0) : ws.all wordOk = true ∧ nameL nm = true := by
  simp only [checkN] at h
  by_cases h1 : (!ws.all wordOk || !nameL nm || decide (8 < ws.length) || (!b && decide (0 < ks.length))) = true
  · rw [if_pos h1] at h;simp at h
  · simp only [Bool.not_eq_true,Bool.or_eq_false_iff,Bool.not_eq_false'] at h1
    exact ⟨by simpa using h1.1.1.1,by simpa using h1.1.1.2⟩
theorem okfit_words : ∀ ws : List WordL,ws.all wordOk = true → ∀ t ∈ ws,t.s.length ≤ maxLen
  | ws,h,t,ht => by
    have:=List.all_eq_true.1 h t ht
    obtain ⟨nu,n,s,p⟩:=t
    unfold wordOk at this
    unfold maxLen
    cases nu
    · simp only [Bool.false_eq_true,if_false,Bool.and_eq_true,decide_eq_true_eq] at this
      have:=name16 s this.2
      simp only;omega
    · simp only [if_true,Bool.and_eq_true,decide_eq_true_eq] at this
      obtain ⟨⟨rfl,_⟩,_⟩:=this
      simp
mutual
theorem okfit_n : ∀ (n : NodeL) (d : Nat),checkN d n = 0 → cntN n ≤ 100000 → fitN n
  | .mk nm p ws b ks,d,h,hc => by
    obtain ⟨h1,h2⟩:=okfit_head d nm p ws b ks h
    obtain ⟨h3,h4,_,h6⟩:=check_parts d nm p ws b ks h
    simp only [cntN] at hc
    have h7:=okfit_l ks (d + 1) h6 (by omega)
    have h8:=name16 nm h2
    have h9:=cntL_len ks
    refine ⟨by unfold maxLen;omega,by unfold maxLen;omega,okfit_words ws h1,by unfold maxLen;omega,h7⟩
theorem okfit_l : ∀ (l : List NodeL) (d : Nat),checkL d l = 0 → cntL l ≤ 100000 → fitNs l
  | [],_,_,_ => trivial
  | n :: r,d,h,hc => by
    obtain ⟨h1,h2⟩:=checkL_cons d n r h
    simp only [cntL] at hc
    exact ⟨okfit_n n d h1 (by omega),okfit_l r d h2 (by omega)⟩
end
theorem text_in (s : Bytes) (hs : s.length ≤ 65536) : cntL (treeL s).nodes ≤ 100000 ∧ fitNs (treeL s).nodes := by
  by_cases he : (treeL s).err = 0
  · obtain ⟨h1,h2⟩ := tree_right s hs he
    exact ⟨by omega,okfit_l _ 0 h1 (by omega)⟩
  · obtain ⟨h1,_⟩ := tree_err s hs he
    rw [h1]
    exact ⟨by simp [cntL],trivial⟩
/-! ### What Read tells -/
theorem readGo_facts : ∀ (nodes : List NodeL) (out : List CalL),((readGo out nodes).err ≠ 0 → (readGo out nodes).cals = []) ∧
    ((readGo out nodes).err = 0 → (readGo out nodes).pos = 0 ∧ (readGo out nodes).cals = out ++ nodes.map (fun n => (readC n).cal) ∧ (∀ n ∈ nodes,(readC n).err = 0) ∧ (out.length ≤ 32 → out.length + nodes.length ≤ 32))
  | [],out => ⟨fun h => absurd rfl h,fun _ => ⟨rfl,by simp [readGo],by simp,fun h => by simpa using h⟩⟩
  | n :: r,out => by
    by_cases h1 : out.length = 32
    · rw [readGo_long out n r h1]
      exact ⟨fun _ => rfl,fun h => by simp at h⟩
    by_cases h2 : (readC n).err = 0
    case neg =>
      rw [readGo_bad out n r h1 h2]
      exact ⟨fun _ => rfl,fun h => absurd h h2⟩
    cases h3 : (out.map CalL.name).contains (readC n).cal.name with
    | true =>
      rw [readGo_twice out n r h1 h2 h3]
      exact ⟨fun _ => rfl,fun h => by simp at h⟩
    | false =>
      rw [readGo_on out n r h1 h2 h3]
      obtain ⟨a,b⟩:=readGo_facts r (out ++ [(readC n).cal])
      refine ⟨a,fun h => ?_⟩
      obtain ⟨b1,b2,b3,b4⟩:=b h
      refine ⟨b1,by rw [b2];simp,fun m hm => ?_,fun hl => ?_⟩
      · rcases List.mem_cons.1 hm with rfl | hm
        · exact h2
        · exact b3 m hm
      · have := b4 (by rw [List.length_append]; simp only [List.length_cons,List.length_nil]; omega)
        rw [List.length_append] at this
        simp only [List.length_cons,List.length_nil] at this ⊢
        omega
theorem conf_facts (s : Bytes) : ((confRead s).err ≠ 0 → (confRead s).cals = []) ∧
    ((confRead s).err = 0 → (confRead s).pos = 0 ∧ (treeL s).err = 0 ∧ (confRead s).cals = (treeL s).nodes.map (fun n => (readC n).cal) ∧ (∀ n ∈ (treeL s).nodes,(readC n).err = 0) ∧ (treeL s).nodes.length ≤ 32):=by
  unfold confRead
  by_cases he : (treeL s).err = 0
  · rw [if_neg (by simp [he])]
    obtain ⟨a,b⟩:=readGo_facts (treeL s).nodes []
    refine ⟨a,fun h => ?_⟩
    obtain ⟨b1,b2,b3,b4⟩:=b h
    exact ⟨b1,he,by simpa using b2,b3,by simpa using b4 (by simp)⟩
  · rw [if_pos he]
    exact ⟨fun _ => rfl,fun h => absurd h he⟩
/-! ### Calendars in memory -/
theorem ccells_length (l : List CalL) : (l.flatMap CalL.cc).length = l.length * 14 := by
  induction l with
  | nil => rfl
  | cons t l ih => simp only [List.flatMap_cons,List.length_append,ih,List.length_cons,CalL.cc,List.length_nil];omega
theorem cflat_get (l : List CalL) (i : Nat) (t : CalL) (h : l[i]? = some t) : ∀ j,j < 14 → (l.flatMap CalL.cc)[i * 14 + j]? = t.cc[j]? := by
  induction l generalizing i with
  | nil => simp at h
  | cons a l ih =>
    intro j hj
    rw [List.flatMap_cons]
    cases i with
    | zero =>
      simp only [List.getElem?_cons_zero,Option.some.injEq] at h
      subst h
      rw [List.getElem?_append_left (by simp [CalL.cc];omega)]
      simp
    | succ i =>
      rw [List.getElem?_append_right (by simp [CalL.cc];omega)]
      have : (i + 1) * 14 + j - a.cc.length = i * 14 + j:=by simp [CalL.cc];omega
      rw [this]
      exact ih i (by simpa using h) j hj
/-- The fourteen cells of a calendar. -/
def Cal14 (w : World) (p : Addr) (c : CalL) : Prop :=
  w.cell? p = some (.string ⟨c.name.toArray⟩) ∧ w.cell? ⟨p.block,p.off + 1,none⟩ = some (.int .i64 c.kind) ∧ w.cell? ⟨p.block,p.off + 2,none⟩ = some (.int .i64 c.day) ∧ w.cell? ⟨p.block,p.off + 3,none⟩ = some (.int .i64 c.month) ∧
  w.cell? ⟨p.block,p.off + 4,none⟩ = some (.int .i64 c.shift) ∧ w.cell? ⟨p.block,p.off + 5,none⟩ = some (.int .i64 c.shape) ∧ w.cell? ⟨p.block,p.off + 6,none⟩ = some (.int .i64 c.p0) ∧ w.cell? ⟨p.block,p.off + 7,none⟩ = some (.int .i64 c.p1) ∧
  w.cell? ⟨p.block,p.off + 8,none⟩ = some (.int .i64 c.p2) ∧ w.cell? ⟨p.block,p.off + 9,none⟩ = some (.int .i64 c.cycle) ∧ w.cell? ⟨p.block,p.off + 10,none⟩ = some (.int .i64 c.extra) ∧ w.cell? ⟨p.block,p.off + 11,none⟩ = some (.int .i64 c.first) ∧
  w.cell? ⟨p.block,p.off + 12,none⟩ = some (.int .i64 c.last) ∧ w.cell? ⟨p.block,p.off + 13,none⟩ = some (.int .i64 c.policy)
theorem cal_at {w : World} {M : Nat → Prop} {A : Option Addr} {l : List CalL} (h : ReadsM w M 14 A l.length (l.flatMap CalL.cc)) (i : Nat) (t : CalL) (hi : l[i]? = some t) :
    ∃ ad,A = some ad ∧ M ad.block ∧ Cal14 w (ad.add (i * 14)) t:=by
  have hlt : i < l.length:=(List.getElem?_eq_some_iff.1 hi).1
  obtain ⟨ad,rfl,hb,hc⟩:=h.2 (by omega)
  have hg:=cflat_get l i t hi
  have hs : ∀ j,j ≠ 0 → ad.add (i * 14 + j) = ⟨(ad.add (i * 14)).block,(ad.add (i * 14)).off + j,none⟩ := fun j hj => by
    rw [← add_of_add];unfold Addr.add;rw [if_neg hj]
  exact ⟨ad,rfl,hb,hc _ _ (hg 0 (by omega)),hs 1 (by omega) ▸ hc _ _ (hg 1 (by omega)),hs 2 (by omega) ▸ hc _ _ (hg 2 (by omega)),hs 3 (by omega) ▸ hc _ _ (hg 3 (by omega)),hs 4 (by omega) ▸ hc _ _ (hg 4 (by omega)),hs 5 (by omega) ▸ hc _ _ (hg 5 (by omega)),
    hs 6 (by omega) ▸ hc _ _ (hg 6 (by omega)),hs 7 (by omega) ▸ hc _ _ (hg 7 (by omega)),hs 8 (by omega) ▸ hc _ _ (hg 8 (by omega)),hs 9 (by omega) ▸ hc _ _ (hg 9 (by omega)),hs 10 (by omega) ▸ hc _ _ (hg 10 (by omega)),hs 11 (by omega) ▸ hc _ _ (hg 11 (by omega)),
    hs 12 (by omega) ▸ hc _ _ (hg 12 (by omega)),hs 13 (by omega) ▸ hc _ _ (hg 13 (by omega))⟩
theorem own_readsC {w : World} {base : Nat} {v : Value} {l : List CalL} (h : OwnCals w base v l) : ∃ A cap,v = .slice A l.length cap ∧ ReadsM w (· < w.heap.size) 14 A l.length (l.flatMap CalL.cc) := by
  unfold OwnCals at h
  rcases h.2 with ⟨rfl,hn⟩ | ⟨g,cap,cur,rfl,hb,hg,h1,h2,h3,h4⟩
  · exact ⟨none,0,by rw [hn],by rw [hn];have : l = []:=List.eq_nil_of_length_eq_zero hn;rw [this];exact ReadsM.nil _ _ _ _⟩
  · refine ⟨some ⟨g,0,none⟩,cap,rfl,⟨h.1,fun _ => ⟨_,rfl,(Array.getElem?_eq_some_iff.1 hg).1,fun j u hu => ?_⟩⟩⟩
    have hz : (⟨g,0,none⟩ : Addr).add j = ⟨g,j,none⟩:=by unfold Addr.add;split <;> simp_all
    rw [hz,zb hg j]
    have hj:=(List.getElem?_eq_some_iff.1 hu).1
    rw [← h4] at hu hj
    rw [List.getElem?_take_of_lt (by rw [List.length_take] at hj;omega)] at hu
    simpa using hu
def exR : ConfR:=⟨[⟨[120],3,6,1,1,1,4,5,4,0,12,2000,2030,2⟩],0,0⟩
theorem ex_conf : confRead exT = exR := by
  unfold confRead
  rw [ex_tree]
  simp only [ne_eq,not_true_eq_false,if_false]
  rw [readGo_on [] exN [] (by decide) (by rw [ex_read]) (by simp),ex_read]
  rfl
theorem none_tree : treeL [35,32,110,111,110,101,10] = ⟨[],0,0⟩:=by kernel_rfl
theorem none_conf : confRead [35,32,110,111,110,101,10] = ⟨[],0,0⟩ := by
  unfold confRead
  rw [none_tree]
  simp [readGo]
set_option maxHeartbeats 4000000 in
theorem law12_live (w : World) :
    Calls Try.prog 7 #[] w fun e w' => e = .returned (.bool true) ∧ Below w.heap.size w w':=by
  have hP:=fun W => conf_Read ⟨#[35,32,110,111,110,101,10]⟩ W (by decide) (text_in _ (by decide)).1 (text_in _ (by decide)).2
  rw [show (ByteArray.mk #[35,32,110,111,110,101,10]).data.toList = [35,32,110,111,110,101,10] from rfl,none_conf] at hP
  have hQ:=fun W => conf_Read ⟨exT.toArray⟩ W (by decide) (text_in _ (by decide)).1 (text_in _ (by decide)).2
  rw [show (ByteArray.mk exT.toArray).data.toList = exT from rfl,ex_conf] at hQ
  unfold exT exR at hQ
  have HP:=zh hP
  have HQ:=zh hQ
  clear hP hQ
  go_enter Try.func7,Try.ntmps7
  go_wp2_with fail
  refine (HP.out w).mono ?_
  rintro e w1 ⟨v1,rfl,hown1,hb1⟩
  obtain ⟨A1,c1,rfl,_⟩:=own_form hown1
  have HB1:=zh hb1
  clear hown1 hb1
  dsimp only [List.length_nil]
  go_wp2_with fail
  refine (HQ.out w1).mono ?_
  rintro e w2 ⟨v2,rfl,hown2,hb2⟩
  obtain ⟨A2,c2,rfl,hr2⟩:=own_readsC hown2
  obtain ⟨ad,rfl,_,hc14⟩:=cal_at hr2 0 _ rfl
  have x0:=hc14.1
  rw [Nat.zero_mul,add_zero] at x0
  have HB2:=zh (HB1.out.trans (hb2.mono HB1.out.size))
  clear hown2 hb2 hr2 hc14
  dsimp only [List.length_nil,List.length_cons] at x0 ⊢
  go_wp2_with fail
  go_ret
  exact ⟨rfl,HB2.out⟩
end
section
open Go.RowKit
theorem run_append_reads {P : Program} {w : World} (base : Nat) (t ty e : TypeId) (i : TypeInfo) (z : Value) (size bytes : Nat) (ht : P.underlying t = some (.slice e)) (hi : P.info? e = some i) (hz : i.zero = some z)
    (hsize : i.size = size) (hby : i.bytes = bytes) (hzs : z.cells.size = size) (hsz : 0 < size)
    (v : Value) (n : Nat) (xs : List Value) (hown : w.ownsRow base e size v n xs)
    (A : Option Addr) (m c B : Nat) (news : List Value) (hr : Reads w B size A m news) (hnil : A = none → c = 0) (h1 : ∀ u ∈ news,u.oneCell' = true)
    (h63 : n + m ≤ maxLen) (hbytes : (n + m) * bytes ≤ 140737488355328) (hbase : base ≤ w.heap.size) :
    ∃ v' w',(Builtin.append_ #[t,t] ty #[v, .slice A m c]).run P w = .ok v' w' ∧ w'.ownsRow base e size v' (n + m) (xs ++ news) ∧ w.grownBy w' v.ownBlock:=by
  cases A with
  | some ad =>
    have hnews : ∀ j u,news[j]? = some u → w.cell? (ad.add j) = some u := by
      intro j u hu
      by_cases hm : 0 < m
      · obtain ⟨ad',h,_,hc⟩ := hr.2 hm
        cases h
        exact hc j u hu
      · have : news = [] := List.eq_nil_of_length_eq_zero (by rw [hr.1,Nat.eq_zero_of_not_pos hm,Nat.zero_mul])
        subst this;simp at hu
    obtain ⟨v',w',h,ho,hg,_⟩:=run_append_own (P:=P) w base t ty e i z size bytes ht hi hz hsize hby hzs hsz v n xs hown ad m c news hr.1 hnews h1 h63 hbytes hbase
    exact ⟨v',w',h,ho,hg⟩
  | none =>
    have hm : m = 0 := by
      rcases Nat.eq_zero_or_pos m with h | h
      · exact h
      · obtain ⟨_,h',_⟩:=hr.2 h;cases h'
    subst hm
    have : news = []:=List.eq_nil_of_length_eq_zero (by rw [hr.1];simp)
    subst this
    obtain rfl:=hnil rfl
    refine ⟨v,w,run_append_owned_none w base t ty e i size ht hi v n xs hown,by simpa using hown,rfl,rfl,rfl,Nat.le_refl _,fun _ _ _ => rfl⟩
/-- An append whose run is known,guarded or not. -/
theorem wpList_append_run {P : Program} {w : World} {ops : Array Oper} {rest : List Oper} {o : Oper} {a : Act} {Q : Exit → Act → World → Prop} (s x : Operand) (t : TypeId)
    (ho : o.op = .call { callee:=.builtin .append,args:=#[s,x],argTypes:=#[t,t] }) (hg : Region.wanted o (yielded ops a.tmps) = true) (v1 v2 : Value) (hs : a.eval s = v1) (hx : a.eval x = v2)
    (ty : TypeId) (hty : o.type = ty) (v' : Value) (w' : World) (hrun : (Builtin.append_ #[t,t] ty #[v1,v2]).run P w = .ok v' w') (h : wpList P ops Q rest (a.put o.dst v') w') : wpList P ops Q (o :: rest) a w:=by
  refine wpList_step fun K hK => ?_
  simp only [hg,if_true]
  unfold Oper.wp execOp
  simp only [ho,resolve,invoke,builtin,Sem.run_bind,Sem.run_pure,Result.andThen_ok,List.map_toArray,List.map_cons,List.map_nil,hs,hx,hty,hrun]
  exact hK _ _ h
end
section
set_option linter.unusedVariables false
set_option linter.unusedSimpArgs false
open Go.RowKit
open Go.Lib renaming hid → zh
theorem info_calL : (Try.prog.info? 31).map (fun i => (i.zero,i.size,i.bytes)) = some (some (.agg #[.string ⟨#[]⟩, .int .i64 0, .int .i64 0, .int .i64 0, .int .i64 0, .int .i64 0, .int .i64 0, .int .i64 0, .int .i64 0, .int .i64 0, .int .i64 0, .int .i64 0, .int .i64 0, .int .i64 0]),14,120):=by kernel_rfl
theorem own_cals_reads {w : World} {base : Nat} {v : Value} {l : List CalL} (h : OwnCals w base v l) : ∃ A cap,v = .slice A l.length cap ∧ NilOk A cap ∧ ReadsM w (· < w.heap.size) 14 A l.length (l.flatMap CalL.cc) := by
  have h0:=h
  unfold OwnCals at h
  obtain ⟨A,cap,rfl,hr⟩:=own_readsC h0
  refine ⟨A,cap,rfl,?_,hr⟩
  rcases h.2 with ⟨he,hn⟩ | ⟨g,cap',cur,he,_⟩
  · simp only [Value.slice.injEq] at he;exact fun _ => he.2.2
  · simp only [Value.slice.injEq] at he;intro h;rw [he.1] at h;cases h
theorem cc_one (l : List CalL) : ∀ u ∈ l.flatMap CalL.cc,u.oneCell' = true := by
  intro u hu
  obtain ⟨c,_,hc⟩:=List.mem_flatMap.1 hu
  exact cells_one c u hc
/-- Calendars put behind a row of the call's own. -/
theorem wpList_behindC {w : World} {ops : Array Oper} {rest : List Oper} {o : Oper} {a : Act} {Q : Exit → Act → World → Prop} (s x : Operand)
    (ho : o.op = .call { callee:=.builtin .append,args:=#[s,x],argTypes:=#[23,23] }) (base : Nat) (v : Value) (l m : List CalL) (hs : a.eval s = v) (hown : OwnCals w base v l)
    (A : Option Addr) (c : Nat) (hx : a.eval x = .slice A m.length c) (hm : ReadsM w (· < base) 14 A m.length (m.flatMap CalL.cc)) (hnil : NilOk A c) (hnm : l.length + m.length ≤ 100000) (hbase : base ≤ w.heap.size) (hwn : Region.wanted o (yielded ops a.tmps) = true)
    (h : ∀ v' w',OwnCals w' base v' (l ++ m) → Below base w w' → wpList Try.prog ops Q rest (a.put o.dst v') w') : wpList Try.prog ops Q (o :: rest) a w:=by
  obtain ⟨j0,hj0,hy0,hy1,hy2⟩:=info_parts info_calL
  obtain ⟨v',w',hrun,h5,h6⟩:=run_append_reads (P:=Try.prog) (w:=w) base 23 o.type 31 j0 _ 14 120 Try.underlying23 hj0 hy0 hy1 hy2 rfl (by decide) v l.length _ hown A m.length c base _ hm.reads hnil (cc_one m) (by unfold maxLen;omega) (by omega) hbase
  have hb : Below base w w':=(Below.refl base w).grown h6 hbase (fun k hk => (hown.lt k hk).1)
  refine wpList_append_run s x 23 ho hwn v _ hs hx o.type rfl v' w' hrun (h v' w' ?_ hb)
  unfold OwnCals
  rw [List.length_append,List.flatMap_append]
  exact h5
theorem same_step (l m : List CalL) (k : Nat) (a b : CalL) (ha : l[k]? = some a) (hb : m[k]? = some b) : decide (l.drop k = m.drop k) = (decide (a = b) && decide (l.drop (k + 1) = m.drop (k + 1))) := by
  obtain ⟨h1,rfl⟩:=List.getElem?_eq_some_iff.1 ha
  obtain ⟨h2,rfl⟩:=List.getElem?_eq_some_iff.1 hb
  rw [Bool.eq_iff_iff,decide_eq_true_eq,Bool.and_eq_true,decide_eq_true_eq,decide_eq_true_eq,List.drop_eq_getElem_cons h1,List.drop_eq_getElem_cons h2,List.cons.injEq]
set_option maxRecDepth 100000 in
set_option maxHeartbeats 2000000 in
theorem ref12_Same (A1 A2 : Option Addr) (c1 c2 : Nat) (l m : List CalL) (w : World) (h1 : ReadsM w (· < w.heap.size) 14 A1 l.length (l.flatMap CalL.cc)) (h2 : ReadsM w (· < w.heap.size) 14 A2 m.length (m.flatMap CalL.cc)) (hl : l.length ≤ maxLen) :
    Calls Try.prog 10 #[.slice A1 l.length c1, .slice A2 m.length c2] w fun e w' => e = .returned (.bool (decide (l = m))) ∧ Below w.heap.size w w':=by
  unfold maxLen at hl
  by_cases hlen : l.length = m.length
  · have hne : ((l.length : Int) != (m.length : Int)) = false := by rw [bne_eq_false_iff_eq]; omega
    have HL:=zh hlen
    have H1:=zh h1
    have H2:=zh h2
    clear hlen h1 h2
    go_enter Try.func10,Try.ntmps10
    go_wp2_with fail
    go_loopw [13] (fun i wr => ∃ k : Nat,k ≤ l.length ∧ i = .int .i64 k ∧ Below w.heap.size w wr ∧ decide (l = m) = decide (l.drop k = m.drop k)) (fun i _ => l.length - (intOf i).toNat)
    case atStart => exact ⟨0,Nat.zero_le _,rfl,Below.refl _ _,rfl⟩
    case round =>
      obtain ⟨k,hk,rfl,hB,htk⟩:=hrel
      have hbs:=hB.size
      by_cases hlt : k < l.length
      · obtain ⟨a,ha⟩ : ∃ a,l[k]? = some a := ⟨_,List.getElem?_eq_getElem hlt⟩
        obtain ⟨b,hb⟩ : ∃ b,m[k]? = some b:=⟨_,List.getElem?_eq_getElem (by rw [← HL.out];exact hlt)⟩
        have hlt2 : k < m.length:=by rw [← HL.out];exact hlt
        obtain ⟨ad,hA1,hb1,p⟩:=cal_at (H1.out.keep (w':=wr) (M':=(· < w.heap.size)) (fun _ h => h) fun p hp => hB.cell hp) k a ha
        obtain ⟨bd,hA2,hb2,q⟩:=cal_at (H2.out.keep (w':=wr) (M':=(· < w.heap.size)) (fun _ h => h) fun p hp => hB.cell hp) k b hb
        subst hA1
        subst hA2
        rw [same_step l m k a b ha hb] at htk
        have hneq:=fun W => run_neqCal W a b
        have HT:=zh htk
        obtain ⟨p0,p1,p2,p3,p4,p5,p6,p7,p8,p9,p10,p11,p12,p13⟩:=p
        obtain ⟨q0,q1,q2,q3,q4,q5,q6,q7,q8,q9,q10,q11,q12,q13⟩:=q
        unfold CalL.cc at hneq
        have HBL:=zh hB
        clear htk ha hb hB hb1 hb2
        cases hab : decide (a = b)
        · simp only [hab] at hneq
          rw [hab,Bool.false_and] at HT
          go_wp2_with fail
          go_quiet (fail)
          go_wp2_with fail
          go_ret
          exact ⟨ret_bool (by rw [HT.out]),below_drewN HBL.out _⟩
        · simp only [hab] at hneq
          rw [hab,Bool.true_and] at HT
          clear hab
          go_wp2_with fail
          go_quiet (fail)
          go_wp2_with fail
          exact ⟨⟨k + 1,by omega,by go_num,below_drewN HBL.out _,HT.out⟩,by simp [intOf];omega⟩
      · have hkl : k = l.length := by omega
        have hlm : decide (l = m) = true := by
          rw [htk,List.drop_eq_nil_of_le (by omega),List.drop_eq_nil_of_le (by rw [← HL.out];omega)];rfl
        have HLM:=zh hlm
        clear hlm hkl htk
        go_wp2_with fail
        go_ret
        exact ⟨ret_bool (by rw [HLM.out]),hB⟩
  · have hne : ((l.length : Int) != (m.length : Int)) = true := by rw [bne_iff_ne]; omega
    have HX:=zh (show decide (l = m) = false from decide_eq_false fun e => hlen (by rw [e]))
    go_enter Try.func10,Try.ntmps10
    go_wp2_with fail
    go_ret
    exact ⟨ret_bool (by rw [HX.out]),Below.refl _ _⟩
end
section
set_option linter.unusedVariables false
set_option linter.unusedSimpArgs false
set_option maxRecDepth 100000
open Go.RowKit
open Go.Joins renaming cell_of_block → zb, unfrozen_of_block → zu
open Go.Lib renaming hid → zh
theorem posL_drop (l : List Bytes) (s a : Bytes) (k : Nat) (h : l[k]? = some a) : posL (l.drop k) s = if a = s then 1 else if posL (l.drop (k + 1)) s = 0 then 0 else posL (l.drop (k + 1)) s + 1 := by
  have hk : k < l.length:=(List.getElem?_eq_some_iff.1 h).1
  rw [List.drop_eq_getElem_cons hk,(List.getElem?_eq_some_iff.1 h).2]
  rfl
/-- What is told from the k-th on. -/
def posFrom (l : List Bytes) (s : Bytes) (k : Nat) : Int:=if posL (l.drop k) s = 0 then 0 else posL (l.drop k) s + k
theorem posFrom_step (l : List Bytes) (s a : Bytes) (k : Nat) (h : l[k]? = some a) : posFrom l s k = if a = s then (k : Int) + 1 else posFrom l s (k + 1) := by
  have hp:=posL_nonneg (l.drop (k + 1)) s
  unfold posFrom
  rw [posL_drop l s a k h]
  by_cases e : a = s
  · rw [if_pos e,if_pos e,if_neg (by decide)];omega
  · rw [if_neg e,if_neg e]
    by_cases z : posL (l.drop (k + 1)) s = 0
    · rw [if_pos z,if_pos rfl,if_pos z]
    · rw [if_neg z,if_neg z,if_neg (by omega)];push_cast;omega
theorem posFrom_end (l : List Bytes) (s : Bytes) : posFrom l s l.length = 0:=by unfold posFrom;rw [List.drop_length];rfl
theorem posFrom_zero (l : List Bytes) (s : Bytes) : posFrom l s 0 = posL l s := by
  unfold posFrom
  rw [List.drop_zero]
  split
  · next h => exact h.symm
  · simp
set_option maxHeartbeats 2000000 in
theorem r11_place (l : List Bytes) (t : WordL) (g c : Nat) (w : World) (hl : l.length ≤ 1000) (hg : StrBlk w g l) :
    Calls Try.prog 31 #[.slice (some ⟨g,0,none⟩) l.length c, .agg #[.bool t.num, .int .i64 t.n, .string ⟨t.s.toArray⟩, .int .i64 t.pos]] w fun e w' => e = .returned (.int .i64 (placeW l t)) ∧ Below w.heap.size w w':=by
  have HB:=zh (below_cal w (.cells #[.bool t.num, .int .i64 t.n, .string ⟨t.s.toArray⟩, .int .i64 t.pos] 62))
  have hx:=heap_alloc_new w (.cells #[.bool t.num, .int .i64 t.n, .string ⟨t.s.toArray⟩, .int .i64 t.pos] 62)
  have hg1:=hg.keep HB.out
  have x0:=zb hx 0
  have x2:=zb hx 2
  have HG:=zh hg1
  obtain ⟨num,n,s,pos⟩:=t
  have hpl : placeW l ⟨num,n,s,pos⟩ = if num then 0 else posFrom l s 0:=by rw [posFrom_zero];rfl
  rw [hpl]
  dsimp only at *
  generalize hW : w.alloc _ = W at *
  clear hg hg1 hx hpl
  go_enter Try.func31,Try.ntmps31
  go_wp2_with fail
  go_loop [9] (fun i => ∃ k : Nat,k ≤ l.length ∧ i = .int .i64 k ∧ (num = false → posFrom l s 0 = posFrom l s k)) (fun i => l.length - (intOf i).toNat)
  case atStart => exact ⟨0,Nat.zero_le _,rfl,fun _ => rfl⟩
  case round =>
    obtain ⟨k,hk,rfl,hs⟩:=hrel
    by_cases hlt : k < l.length
    · obtain ⟨a,ha⟩ : ∃ a,l[k]? = some a := ⟨_,List.getElem?_eq_getElem hlt⟩
      have hc : W.cell? ⟨g,k,none⟩ = some (.string ⟨a.toArray⟩) := by
        obtain ⟨T,h⟩:=HG.out
        rw [zb h k]
        simp [ha]
      have hst:=posFrom_step l s a k ha
      have lk : (k : Int) < l.length:=by omega
      have lk0 : (0 : Int) ≤ k:=by omega
      have w1f : IntKind.i64.wrap ((k : Int) + 1) = (k : Int) + 1:=by rw [IntKind.wrap_i64];omega
      clear ha
      cases num
      · replace hs := (hs rfl).trans hst
        by_cases e : a = s
        · rw [if_pos e] at hs
          have he : (s == a) = true:=by rw [e];simp
          have HS:=zh hs
          clear hs e hst
          go_wp2_with fail
          go_ret
          exact ⟨by rw [HS.out];rfl,HB.out⟩
        · rw [if_neg e] at hs
          have he : (s == a) = false:=beq_false_of_ne (Ne.symm e)
          have HS:=zh hs
          clear hs e hst
          go_wp2_with fail
          exact ⟨⟨k + 1,by omega,by go_num,fun _ => HS.out⟩,by simp [intOf];omega⟩
      · clear hs hst
        go_wp2_with fail
        exact ⟨⟨k + 1,by omega,by go_num,fun h => by cases h⟩,by simp [intOf];omega⟩
    · have lk : ¬ (k : Int) < l.length := by omega
      have hk2 : k = l.length:=by omega
      cases num
      · have HZ := zh (show posFrom l s 0 = 0 from (hs rfl).trans (by rw [hk2]; exact posFrom_end l s))
        clear hs hk2
        go_wp2_with fail
        go_ret
        exact ⟨by simp only [Bool.false_eq_true,if_false];rw [HZ.out];rfl,HB.out⟩
      · clear hs hk2
        go_wp2_with fail
        go_ret
        exact ⟨rfl,HB.out⟩
set_option maxHeartbeats 4000000 in
theorem r11_with (k : Int) (s : Bytes) (w : World) (h1 : 1 ≤ k) (h6 : k ≤ 6) : Calls Try.prog 34 #[.int .i64 k, .string ⟨s.toArray⟩] w fun e w' => e = .returned (.bool (standsC k s)) ∧ w = w' := by
  obtain ⟨q0,hq0⟩ : ∃ q,(s == [110,97,109,101,100]) = q:=⟨_,rfl⟩
  obtain ⟨q1,hq1⟩ : ∃ q,(s == [112,101,114,105,111,100,115]) = q:=⟨_,rfl⟩
  obtain ⟨q2,hq2⟩ : ∃ q,(s == [112,97,121]) = q:=⟨_,rfl⟩
  obtain ⟨q3,hq3⟩ : ∃ q,(s == [101,120,116,114,97]) = q:=⟨_,rfl⟩
  have hst : standsC k s = if q0 then (decide (k ≠ 3) && decide (k ≠ 4) && decide (k ≠ 5)) else if q1 || q2 || q3 then (decide (k ≠ 3) && decide (k ≠ 4) && decide (k ≠ 6)) else true := by
    rw [← hq0,← hq1,← hq2,← hq3]
    unfold standsC
    simp only [beq_iff_eq,Bool.or_eq_true]
    rw [show b_named = [110,97,109,101,100] from rfl,show b_periods = [112,101,114,105,111,100,115] from rfl,show b_pay = [112,97,121] from rfl,show b_extra = [101,120,116,114,97] from rfl]
    simp only [or_assoc]
  rw [hst]
  clear hst
  obtain rfl | rfl | rfl | rfl | rfl | rfl : k = 1 ∨ k = 2 ∨ k = 3 ∨ k = 4 ∨ k = 5 ∨ k = 6:=by omega
  all_goals
    clear h1 h6
    cases q0
    · cases q1
      · cases q2
        · cases q3 <;> (
            go_enter Try.func34,Try.ntmps34
            go_wp2_with fail
            go_ret
            exact ⟨rfl,rfl⟩)
        · skip
          go_enter Try.func34,Try.ntmps34
          go_wp2_with fail
          go_ret
          exact ⟨rfl,rfl⟩
      · skip
        go_enter Try.func34,Try.ntmps34
        go_wp2_with fail
        go_ret
        exact ⟨rfl,rfl⟩
    · skip
      go_enter Try.func34,Try.ntmps34
      go_wp2_with fail
      go_ret
      exact ⟨rfl,rfl⟩
end
section
set_option linter.unusedVariables false
set_option linter.unusedSimpArgs false
set_option maxRecDepth 100000
open Go.RowKit
open Go.Lib renaming hid → zh
/-- How many periods,as the reference says: of a cycle that is none nought. -/
def manyR (s c : Int) : Int:=if s = 2 then 13 else if s = 3 then (if 0 < c then 52 / c else 0) else if s = 1 ∨ s = 4 ∨ s = 5 then 12 else 0
set_option maxHeartbeats 2000000 in
theorem r11_many (d : CalL) (w : World) : Calls Try.prog 65 #[calV d] w fun e w' => e = .returned (.int .i64 (manyR d.shape d.cycle)) ∧ Below w.heap.size w w' := by
  obtain ⟨nm,kind,day,month,shift,s,p0,p1,p2,c,extra,first,last,policy⟩:=d
  dsimp only [calV]
  have HB:=zh (below_cal w (.cells #[.string ⟨nm.toArray⟩, .int .i64 kind, .int .i64 day, .int .i64 month, .int .i64 shift, .int .i64 s, .int .i64 p0, .int .i64 p1, .int .i64 p2, .int .i64 c, .int .i64 extra, .int .i64 first, .int .i64 last, .int .i64 policy] 31))
  unfold manyR
  by_cases h2 : s = 2
  · subst h2
    rw [if_pos rfl]
    go_enter Try.func65,Try.ntmps65
    go_wp2_with fail
    go_ret
    exact ⟨rfl,HB.out⟩
  rw [if_neg h2]
  by_cases h3 : s = 3
  · subst h3
    by_cases hc : 0 < c
    · rw [if_pos rfl,if_pos hc]
      have q:=quo52 c hc
      have c0 : (c == 0) = false:=beq_false_of_ne (by omega)
      have c1 : c ≠ 0:=by omega
      go_enter Try.func65,Try.ntmps65
      go_wp2_with fail
      go_ret
      exact ⟨rfl,HB.out⟩
    · rw [if_pos rfl,if_neg hc]
      have hd : decide (0 < c) = false:=decide_eq_false hc
      go_enter Try.func65,Try.ntmps65
      go_wp2_with fail
      go_ret
      exact ⟨rfl,HB.out⟩
  · rw [if_neg h3]
    have k2 : (s == 2) = false:=beq_false_of_ne h2
    have k3 : (s == 3) = false:=beq_false_of_ne h3
    by_cases h145 : s = 1 ∨ s = 4 ∨ s = 5
    · rw [if_pos h145]
      rcases h145 with rfl | rfl | rfl <;> (
        go_enter Try.func65,Try.ntmps65
        go_wp2_with fail
        go_ret
        exact ⟨rfl,HB.out⟩)
    · rw [if_neg h145]
      have k1 : (s == 1) = false:=beq_false_of_ne (by omega)
      have k4 : (s == 4) = false:=beq_false_of_ne (by omega)
      have k5 : (s == 5) = false:=beq_false_of_ne (by omega)
      go_enter Try.func65,Try.ntmps65
      go_wp2_with fail
      go_ret
      exact ⟨rfl,HB.out⟩
end
end Go.Proofs.Ytjbniichcopnlaa
