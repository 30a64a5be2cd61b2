/- Layer 12 (conf), the laws: what their walks share; live. Then: An argument that is a slice of calendars, opened. Then: An argument that is a slice of calendars: it has room. -/
import Derived.Test.YtjbniichcopnlaaGreatDoorPkS31
import Derived.Test.YtjbniichcopnlaaGreatDoorPkS13
import Derived.Test.YtjbniichcopnlaaGreatDoorPkS19
set_option maxRecDepth 100000
namespace Go.Proofs.YtjbniichcopnlaaGreatDoor
section
set_option linter.unusedVariables false
set_option linter.unusedSimpArgs false
open Go.RowKit
open Go.Joins renaming cell_of_block → zb, unfrozen_of_block → zu
open Go.Lib renaming hid → zh
theorem run_neqCal (W : World) (a b : CalL) : (binOp .neq 37 (.agg a.cc.toArray) (.agg b.cc.toArray)).run Tryz.prog W = .ok (.bool (!decide (a = b))) W := by
  unfold CalL.cc
  rw [run_neq_struct,run_equalCal];rfl
/-! ### What a text gives -/
theorem tree_right (s : Bytes) (hs : s.length ≤ 65536) (he : (treeL s).err = 0) : checkL 0 (treeL s).nodes = 0 ∧ cntL (treeL s).nodes ≤ s.length := by
  obtain ⟨h1,h2⟩:=treeL_err0 s he
  obtain ⟨_,_,hfl⟩:=tokens_law s he
  have hck : checkL 0 (treeL s).nodes = 0 := by
    rw [h2] at he ⊢
    exact parse_inv s.length _ _ _ (cutL_tokOk s) ⟨rfl,fun h => absurd rfl h,trivial⟩ trivial (by simp) he
  have a:=cnt_flat (treeL s).nodes 0 hck
  rw [hfl,List.length_map] at a
  have b:=cutL_len s
  exact ⟨hck,by omega⟩
theorem okfit_head (d : Nat) (nm : Bytes) (p : Int) (ws : List WordL) (b : Bool) (ks : List NodeL) (h : checkN d (.mk nm p ws b ks) = 0) : ws.all wordOk = true ∧ nameL nm = true := by
  simp only [checkN] at h
  by_cases h1 : (!ws.all wordOk || !nameL nm || decide (8 < ws.length) || (!b && decide (0 < ks.length))) = true
  · rw [if_pos h1] at h;simp at h
  · simp only [Bool.not_eq_true,Bool.or_eq_false_iff,Bool.not_eq_false'] at h1
    exact ⟨by simpa using h1.1.1.1,by simpa using h1.1.1.2⟩
theorem okfit_words : ∀ ws : List WordL,ws.all wordOk = true → ∀ t ∈ ws,t.s.length ≤ maxLen
  | ws,h,t,ht => by
    have:=List.all_eq_true.1 h t ht
    obtain ⟨nu,n,s,p⟩:=t
    unfold wordOk at this
    unfold maxLen
    cases nu
    · simp only [Bool.false_eq_true,if_false,Bool.and_eq_true,decide_eq_true_eq] at this
      have:=name16 s this.2
      simp only;omega
    · simp only [if_true,Bool.and_eq_true,decide_eq_true_eq] at this
      obtain ⟨⟨rfl,_⟩,_⟩:=this
      simp
mutual
theorem okfit_n : ∀ (n : NodeL) (d : Nat),checkN d n = 0 → cntN n ≤ 100000 → fitN n
  | .mk nm p ws b ks,d,h,hc => by
    obtain ⟨h1,h2⟩:=okfit_head d nm p ws b ks h
    obtain ⟨h3,h4,_,h6⟩:=check_parts d nm p ws b ks h
    simp only [cntN] at hc
    have h7:=okfit_l ks (d + 1) h6 (by omega)
    have h8:=name16 nm h2
    have h9:=cntL_len ks
    refine ⟨by unfold maxLen;omega,by unfold maxLen;omega,okfit_words ws h1,by unfold maxLen;omega,h7⟩
theorem okfit_l : ∀ (l : List NodeL) (d : Nat),checkL d l = 0 → cntL l ≤ 100000 → fitNs l
  | [],_,_,_ => trivial
  | n :: r,d,h,hc => by
    obtain ⟨h1,h2⟩:=checkL_cons d n r h
    simp only [cntL] at hc
    exact ⟨okfit_n n d h1 (by omega),okfit_l r d h2 (by omega)⟩
end
theorem text_in (s : Bytes) (hs : s.length ≤ 65536) : cntL (treeL s).nodes ≤ 100000 ∧ fitNs (treeL s).nodes := by
  by_cases he : (treeL s).err = 0
  · obtain ⟨h1,h2⟩ := tree_right s hs he
    exact ⟨by omega,okfit_l _ 0 h1 (by omega)⟩
  · obtain ⟨h1,_⟩ := tree_err s hs he
    rw [h1]
    exact ⟨by simp [cntL],trivial⟩
/-! ### What Read tells -/
theorem readGo_facts : ∀ (nodes : List NodeL) (out : List CalL),((readGo out nodes).err ≠ 0 → (readGo out nodes).cals = []) ∧
    ((readGo out nodes).err = 0 → (readGo out nodes).pos = 0 ∧ (readGo out nodes).cals = out ++ nodes.map (fun n => (readC n).cal) ∧ (∀ n ∈ nodes,(readC n).err = 0) ∧ (out.length ≤ 32 → out.length + nodes.length ≤ 32))
  | [],out => ⟨fun h => absurd rfl h,fun _ => ⟨rfl,by simp [readGo],by simp,fun h => by simpa using h⟩⟩
  | n :: r,out => by
    by_cases h1 : out.length = 32
    · rw [readGo_long out n r h1]
      exact ⟨fun _ => rfl,fun h => by simp at h⟩
    by_cases h2 : (readC n).err = 0
    case neg =>
      rw [readGo_bad out n r h1 h2]
      exact ⟨fun _ => rfl,fun h => absurd h h2⟩
    cases h3 : (out.map CalL.name).contains (readC n).cal.name with
    | true =>
      rw [readGo_twice out n r h1 h2 h3]
      exact ⟨fun _ => rfl,fun h => by simp at h⟩
    | false =>
      rw [readGo_on out n r h1 h2 h3]
      obtain ⟨a,b⟩:=readGo_facts r (out ++ [(readC n).cal])
      refine ⟨a,fun h => ?_⟩
      obtain ⟨b1,b2,b3,b4⟩:=b h
      refine ⟨b1,by rw [b2];simp,fun m hm => ?_,fun hl => ?_⟩
      · rcases List.mem_cons.1 hm with rfl | hm
        · exact h2
        · exact b3 m hm
      · have := b4 (by rw [List.length_append]; simp only [List.length_cons,List.length_nil]; omega)
        rw [List.length_append] at this
        simp only [List.length_cons,List.length_nil] at this ⊢
        omega
theorem conf_facts (s : Bytes) : ((confRead s).err ≠ 0 → (confRead s).cals = []) ∧
    ((confRead s).err = 0 → (confRead s).pos = 0 ∧ (treeL s).err = 0 ∧ (confRead s).cals = (treeL s).nodes.map (fun n => (readC n).cal) ∧ (∀ n ∈ (treeL s).nodes,(readC n).err = 0) ∧ (treeL s).nodes.length ≤ 32):=by
  unfold confRead
  by_cases he : (treeL s).err = 0
  · rw [if_neg (by simp [he])]
    obtain ⟨a,b⟩:=readGo_facts (treeL s).nodes []
    refine ⟨a,fun h => ?_⟩
    obtain ⟨b1,b2,b3,b4⟩:=b h
    exact ⟨b1,he,by simpa using b2,b3,by simpa using b4 (by simp)⟩
  · rw [if_pos he]
    exact ⟨fun _ => rfl,fun h => absurd h he⟩
/-! ### Calendars in memory -/
theorem ccells_length (l : List CalL) : (l.flatMap CalL.cc).length = l.length * 14 := by
  induction l with
  | nil => rfl
  | cons t l ih => simp only [List.flatMap_cons,List.length_append,ih,List.length_cons,CalL.cc,List.length_nil];omega
theorem cflat_get (l : List CalL) (i : Nat) (t : CalL) (h : l[i]? = some t) : ∀ j,j < 14 → (l.flatMap CalL.cc)[i * 14 + j]? = t.cc[j]? := by
  induction l generalizing i with
  | nil => simp at h
  | cons a l ih =>
    intro j hj
    rw [List.flatMap_cons]
    cases i with
    | zero =>
      simp only [List.getElem?_cons_zero,Option.some.injEq] at h
      subst h
      rw [List.getElem?_append_left (by simp [CalL.cc];omega)]
      simp
    | succ i =>
      rw [List.getElem?_append_right (by simp [CalL.cc];omega)]
      have : (i + 1) * 14 + j - a.cc.length = i * 14 + j:=by simp [CalL.cc];omega
      rw [this]
      exact ih i (by simpa using h) j hj
/-- The fourteen cells of a calendar. -/
def Cal14 (w : World) (p : Addr) (c : CalL) : Prop :=
  w.cell? p = some (.string ⟨c.name.toArray⟩) ∧ w.cell? ⟨p.block,p.off + 1,none⟩ = some (.int .i64 c.kind) ∧ w.cell? ⟨p.block,p.off + 2,none⟩ = some (.int .i64 c.day) ∧ w.cell? ⟨p.block,p.off + 3,none⟩ = some (.int .i64 c.month) ∧
  w.cell? ⟨p.block,p.off + 4,none⟩ = some (.int .i64 c.shift) ∧ w.cell? ⟨p.block,p.off + 5,none⟩ = some (.int .i64 c.shape) ∧ w.cell? ⟨p.block,p.off + 6,none⟩ = some (.int .i64 c.p0) ∧ w.cell? ⟨p.block,p.off + 7,none⟩ = some (.int .i64 c.p1) ∧
  w.cell? ⟨p.block,p.off + 8,none⟩ = some (.int .i64 c.p2) ∧ w.cell? ⟨p.block,p.off + 9,none⟩ = some (.int .i64 c.cycle) ∧ w.cell? ⟨p.block,p.off + 10,none⟩ = some (.int .i64 c.extra) ∧ w.cell? ⟨p.block,p.off + 11,none⟩ = some (.int .i64 c.first) ∧
  w.cell? ⟨p.block,p.off + 12,none⟩ = some (.int .i64 c.last) ∧ w.cell? ⟨p.block,p.off + 13,none⟩ = some (.int .i64 c.policy)
theorem cal_at {w : World} {M : Nat → Prop} {A : Option Addr} {l : List CalL} (h : ReadsM w M 14 A l.length (l.flatMap CalL.cc)) (i : Nat) (t : CalL) (hi : l[i]? = some t) :
    ∃ ad,A = some ad ∧ M ad.block ∧ Cal14 w (ad.add (i * 14)) t:=by
  have hlt : i < l.length:=(List.getElem?_eq_some_iff.1 hi).1
  obtain ⟨ad,rfl,hb,hc⟩:=h.2 (by omega)
  have hg:=cflat_get l i t hi
  have hs : ∀ j,j ≠ 0 → ad.add (i * 14 + j) = ⟨(ad.add (i * 14)).block,(ad.add (i * 14)).off + j,none⟩ := fun j hj => by
    rw [← add_of_add];unfold Addr.add;rw [if_neg hj]
  exact ⟨ad,rfl,hb,hc _ _ (hg 0 (by omega)),hs 1 (by omega) ▸ hc _ _ (hg 1 (by omega)),hs 2 (by omega) ▸ hc _ _ (hg 2 (by omega)),hs 3 (by omega) ▸ hc _ _ (hg 3 (by omega)),hs 4 (by omega) ▸ hc _ _ (hg 4 (by omega)),hs 5 (by omega) ▸ hc _ _ (hg 5 (by omega)),
    hs 6 (by omega) ▸ hc _ _ (hg 6 (by omega)),hs 7 (by omega) ▸ hc _ _ (hg 7 (by omega)),hs 8 (by omega) ▸ hc _ _ (hg 8 (by omega)),hs 9 (by omega) ▸ hc _ _ (hg 9 (by omega)),hs 10 (by omega) ▸ hc _ _ (hg 10 (by omega)),hs 11 (by omega) ▸ hc _ _ (hg 11 (by omega)),
    hs 12 (by omega) ▸ hc _ _ (hg 12 (by omega)),hs 13 (by omega) ▸ hc _ _ (hg 13 (by omega))⟩
theorem own_readsC {w : World} {base : Nat} {v : Value} {l : List CalL} (h : OwnCals w base v l) : ∃ A cap,v = .slice A l.length cap ∧ ReadsM w (· < w.heap.size) 14 A l.length (l.flatMap CalL.cc) := by
  unfold OwnCals at h
  rcases h.2 with ⟨rfl,hn⟩ | ⟨g,cap,cur,rfl,hb,hg,h1,h2,h3,h4⟩
  · exact ⟨none,0,by rw [hn],by rw [hn];have : l = []:=List.eq_nil_of_length_eq_zero hn;rw [this];exact ReadsM.nil _ _ _ _⟩
  · refine ⟨some ⟨g,0,none⟩,cap,rfl,⟨h.1,fun _ => ⟨_,rfl,(Array.getElem?_eq_some_iff.1 hg).1,fun j u hu => ?_⟩⟩⟩
    have hz : (⟨g,0,none⟩ : Addr).add j = ⟨g,j,none⟩:=by unfold Addr.add;split <;> simp_all
    rw [hz,zb hg j]
    have hj:=(List.getElem?_eq_some_iff.1 hu).1
    rw [← h4] at hu hj
    rw [List.getElem?_take_of_lt (by rw [List.length_take] at hj;omega)] at hu
    simpa using hu
def exR : ConfR:=⟨[⟨[120],3,6,1,1,1,4,5,4,0,12,2000,2030,2⟩],0,0⟩
theorem ex_conf : confRead exT = exR := by
  unfold confRead
  rw [ex_tree]
  simp only [ne_eq,not_true_eq_false,if_false]
  rw [readGo_on [] exN [] (by decide) (by rw [ex_read]) (by simp),ex_read]
  rfl
theorem none_tree : treeL [35,32,110,111,110,101,10] = ⟨[],0,0⟩:=by kernel_rfl
theorem none_conf : confRead [35,32,110,111,110,101,10] = ⟨[],0,0⟩ := by
  unfold confRead
  rw [none_tree]
  simp [readGo]
set_option maxHeartbeats 4000000 in
theorem law12_live (w : World) :
    Calls Tryz.prog 6 #[] w fun e w' => e = .returned (.bool true) ∧ Below w.heap.size w w':=by
  have hP:=fun W => conf_Read ⟨#[35,32,110,111,110,101,10]⟩ W (by decide) (text_in _ (by decide)).1 (text_in _ (by decide)).2
  rw [show (ByteArray.mk #[35,32,110,111,110,101,10]).data.toList = [35,32,110,111,110,101,10] from rfl,none_conf] at hP
  have hQ:=fun W => conf_Read ⟨exT.toArray⟩ W (by decide) (text_in _ (by decide)).1 (text_in _ (by decide)).2
  rw [show (ByteArray.mk exT.toArray).data.toList = exT from rfl,ex_conf] at hQ
  unfold exT exR at hQ
  have HP:=zh hP
  have HQ:=zh hQ
  clear hP hQ
  go_enter Tryz.func6,Tryz.ntmps6
  go_wp2_with fail
  refine (HP.out w).mono ?_
  rintro e w1 ⟨v1,rfl,hown1,hb1⟩
  obtain ⟨A1,c1,rfl,_⟩:=own_form hown1
  have HB1:=zh hb1
  clear hown1 hb1
  dsimp only [List.length_nil]
  go_wp2_with fail
  refine (HQ.out w1).mono ?_
  rintro e w2 ⟨v2,rfl,hown2,hb2⟩
  obtain ⟨A2,c2,rfl,hr2⟩:=own_readsC hown2
  obtain ⟨ad,rfl,_,hc14⟩:=cal_at hr2 0 _ rfl
  have x0:=hc14.1
  rw [Nat.zero_mul,add_zero] at x0
  have HB2:=zh (HB1.out.trans (hb2.mono HB1.out.size))
  clear hown2 hb2 hr2 hc14
  dsimp only [List.length_nil,List.length_cons] at x0 ⊢
  go_wp2_with fail
  go_ret
  exact ⟨rfl,HB2.out⟩
end
section
open Go.RowKit Go.WideShapes Go.ChangeShapes Go.WideElems Go.Deep
theorem arr14l {α : Type} (cs : List α) (h : cs.length = 14) : ∃ a b c d e f g i j k l m n o,cs = [a,b,c,d,e,f,g,i,j,k,l,m,n,o] := by
  match cs,h with
  | [a,b,c,d,e,f,g,i,j,k,l,m,n,o],_ => exact ⟨a,b,c,d,e,f,g,i,j,k,l,m,n,o,rfl⟩
theorem trod_cal {H : Type} {enc : TypeId × Value → H} {w : World} {base : Nat} {spare : Nat → Bool} {held : Bool} {fuel : Nat} {cs : List Value} {x : DataW H × List MemPlace}
    (hl : cs.length = 14) (h : DataW.trod enc Tryz.prog w base spare held fuel 37 cs = some x) : ∃ c : CalL,cs = c.cc ∧ c.name.length ≤ maxLen:=by
  obtain ⟨c0,c1,c2,c3,c4,c5,c6,c7,c8,c9,c10,c11,c12,c13,rfl⟩:=arr14l cs hl
  obtain ⟨xs,n,_,_,_,hlen,hfs⟩:=DataW.trod_struct Tryz.underlying37 h
  have hlen' : xs.length = 12:=hlen
  have t0:=hfs 0 _ rfl
  have t1:=hfs 1 _ rfl
  have t2:=hfs 2 _ rfl
  have t3:=hfs 3 _ rfl
  have t4:=hfs 4 _ rfl
  have t5:=hfs 5 _ rfl
  have t6:=hfs 6 _ rfl
  have t7:=hfs 7 _ rfl
  have t8:=hfs 8 _ rfl
  have t9:=hfs 9 _ rfl
  have t10:=hfs 10 _ rfl
  have t11:=hfs 11 _ rfl
  rw [List.getElem?_eq_getElem (by omega)] at t0 t1 t2 t3 t4 t5 t6 t7 t8 t9 t10 t11
  simp only [List.getElem_toArray,List.getElem_cons_zero,List.getElem_cons_succ] at t0 t1 t2 t3 t4 t5 t6 t7 t8 t9 t10 t11
  rw [cells_string] at t0
  rw [cells_int] at t1 t2 t3 t4 t5 t7 t8 t9 t10 t11
  rw [cells_pat] at t6
  simp only [List.drop_succ_cons,List.drop_zero,List.take_succ_cons,List.take_zero] at t0 t1 t2 t3 t4 t5 t6 t7 t8 t9 t10 t11
  obtain ⟨y0,y1,y2,m,_,p0,p1,p2⟩:=trod_array3 und_pat cells_int t6
  obtain ⟨k0,h0,_,w0⟩:=DataW.trod_string Tryz.underlying9 t0
  obtain ⟨k1,h1,_,_⟩:=DataW.trod_int (k:=.i64) Tryz.underlying3 t1
  obtain ⟨k2,h2,_,_⟩:=DataW.trod_int (k:=.i64) Tryz.underlying3 t2
  obtain ⟨k3,h3,_,_⟩:=DataW.trod_int (k:=.i64) Tryz.underlying3 t3
  obtain ⟨k4,h4,_,_⟩:=DataW.trod_int (k:=.i64) Tryz.underlying3 t4
  obtain ⟨k5,h5,_,_⟩:=DataW.trod_int (k:=.i64) Tryz.underlying3 t5
  obtain ⟨q0,e0,_,_⟩:=DataW.trod_int (k:=.i64) Tryz.underlying3 p0
  obtain ⟨q1,e1,_,_⟩:=DataW.trod_int (k:=.i64) Tryz.underlying3 p1
  obtain ⟨q2,e2,_,_⟩:=DataW.trod_int (k:=.i64) Tryz.underlying3 p2
  obtain ⟨k7,h7,_,_⟩:=DataW.trod_int (k:=.i64) Tryz.underlying3 t7
  obtain ⟨k8,h8,_,_⟩:=DataW.trod_int (k:=.i64) Tryz.underlying3 t8
  obtain ⟨k9,h9,_,_⟩:=DataW.trod_int (k:=.i64) Tryz.underlying3 t9
  obtain ⟨k10,h10,_,_⟩:=DataW.trod_int (k:=.i64) Tryz.underlying3 t10
  obtain ⟨k11,h11,_,_⟩:=DataW.trod_int (k:=.i64) Tryz.underlying3 t11
  simp only [List.cons.injEq,and_true] at h0 h1 h2 h3 h4 h5 h7 h8 h9 h10 h11 e0 e1 e2
  subst h0 h1 h2 h3 h4 h5 h7 h8 h9 h10 h11 e0 e1 e2
  exact ⟨⟨k0.data.toList,k1,k2,k3,k4,k5,q0,q1,q2,k7,k8,k9,k10,k11⟩,by simp [CalL.cc],by rw [ba_len];exact w0⟩
theorem cellsof_cal : Tryz.prog.cellsOf 37 = 14:=by kernel_rfl
theorem open_cals_fuel {H : Type} {enc : TypeId × Value → H} {w : World} {base : Nat} {spare : Nat → Bool} {held : Bool} {fuel : Nat} {cs : List Value} {x : DataW H × List MemPlace}
    (h : DataW.trod enc Tryz.prog w base spare held fuel 22 cs = some x) :
    ∃ (A : Option Addr) (c : Nat) (l : List CalL),cs = [.slice A l.length c] ∧ NilOk A c ∧ ReadsM w (· < w.heap.size) 14 A l.length (l.flatMap CalL.cc) ∧ l.length ≤ maxLen ∧ ∀ t ∈ l,t.name.length ≤ maxLen:=by
  rcases DataW.trod_slice Tryz.underlying22 h with h0 | ⟨a,len,cap,elems,rest,n,hfu,hcs,hx,hb,hl,hm,hlen,hel,_,_⟩
  · exact ⟨none,0,[],h0.1,fun _ => rfl,ReadsM.nil _ _ _ _,by simp,by simp⟩
  · subst hcs
    obtain ⟨l,hll,hp⟩ := exists_list len (fun (i : Nat) (t : CalL) => t.name.length ≤ maxLen ∧ ∀ j u,t.cc[j]? = some u → w.cell? (a.add (i * 14 + j)) = some u) (fun i him => by
      have hi:=hel i him
      rw [List.getElem?_eq_getElem (by omega)] at hi
      obtain ⟨cs',hc,ht'⟩:=Option.bind_eq_some_iff.1 hi
      rw [cellsof_cal] at hc
      obtain ⟨_,hcl,hat⟩:=World.cells?_some hc
      obtain ⟨c,rfl,hn⟩:=trod_cal hcl ht'
      refine ⟨c,hn,fun j u hj => ?_⟩
      have hjl : j < 14:=by rw [← hcl];exact (List.getElem?_eq_some_iff.1 hj).1
      have:=hat j hjl
      rw [Go.Deep.add_add] at this
      rw [this,hj])
    subst hll
    refine ⟨some a,cap,l,rfl,fun h => by simp at h,⟨ccells_length l,fun h0 => ⟨a,rfl,?_,fun j u hj => ?_⟩⟩,by omega,fun t ht => ?_⟩
    · have h1 := (hp 0 _ (List.getElem?_eq_getElem h0)).2 0 _ rfl
      have:=cell_lt h1
      rwa [block_of_add] at this
    · have hj4 : j < l.length * 14 := by
        have:=(List.getElem?_eq_some_iff.1 hj).1
        rwa [ccells_length] at this
      have hi4 : j / 14 < l.length:=by omega
      have hg:=cflat_get l (j / 14) _ (List.getElem?_eq_getElem hi4) (j % 14) (by omega)
      rw [show j / 14 * 14 + j % 14 = j by omega,hj] at hg
      have:=(hp (j / 14) _ (List.getElem?_eq_getElem hi4)).2 (j % 14) u hg.symm
      rwa [show j / 14 * 14 + j % 14 = j by omega] at this
    · obtain ⟨i,hi,rfl⟩ := List.mem_iff_getElem.1 ht
      exact (hp i _ (List.getElem?_eq_getElem hi)).1
theorem open_cals {H : Type} {enc : TypeId × Value → H} {w : World} {base : Nat} {spare : Nat → Bool} {held : Bool} {v : Value} {d : DataW H} {ps : List MemPlace} {r : Reach} {b0 : Nat}
    (hval : Value.okWide Tryz.prog w r b0 22 v) (hd : DataW.Trod enc Tryz.prog w base spare held 22 v d ps) :
    ∃ (A : Option Addr) (c : Nat) (l : List CalL),v = .slice A l.length c ∧ NilOk A c ∧ ReadsM w (· < w.heap.size) 14 A l.length (l.flatMap CalL.cc) ∧ l.length ≤ maxLen ∧ ∀ t ∈ l,t.name.length ≤ maxLen:=by
  obtain ⟨A,n,c,rfl⟩:=okWide_slice Tryz.underlying22 hval
  obtain ⟨fuel,hf⟩:=hd
  obtain ⟨A',c',l,h1,h2⟩:=open_cals_fuel hf
  simp only [Value.cells] at h1
  refine ⟨A',c',l,?_,h2⟩
  simpa using h1
end
section
open Go.RowKit Go.WideShapes Go.ChangeShapes Go.WideElems Go.Deep
theorem open_calsC {H : Type} {enc : TypeId × Value → H} {w : World} {base : Nat} {spare : Nat → Bool} {held : Bool} {v : Value} {d : DataW H} {ps : List MemPlace} {r : Reach} {b0 : Nat}
    (hval : Value.okWide Tryz.prog w r b0 22 v) (hd : DataW.Trod enc Tryz.prog w base spare held 22 v d ps) :
    ∃ (A : Option Addr) (c : Nat) (l : List CalL),v = .slice A l.length c ∧ (NilOk A c ∧ l.length ≤ c) ∧ ReadsM w (· < w.heap.size) 14 A l.length (l.flatMap CalL.cc) ∧ l.length ≤ maxLen ∧ ∀ t ∈ l,t.name.length ≤ maxLen:=by
  obtain ⟨A,c,l,rfl,h1,h2,h3,h4⟩:=open_cals hval hd
  refine ⟨A,c,l,rfl,⟨h1,?_⟩,h2,h3,h4⟩
  obtain ⟨fuel,hf⟩:=hd
  rcases DataW.trod_slice Tryz.underlying22 hf with h0 | ⟨a,len,cap,elems,rest,n,hfu,hcs,hx,hb,hl,hm,hlen,hel,_,_⟩
  · have h5 := h0.1
    simp only [Value.cells,List.cons.injEq,Value.slice.injEq] at h5
    omega
  · simp only [Value.cells,List.cons.injEq,Value.slice.injEq] at hcs
    omega
end
end Go.Proofs.YtjbniichcopnlaaGreatDoor
