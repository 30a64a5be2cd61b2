/- Layer 10 (layout): the walk of walk. Then: Layer 9, in plain Lean: a tree is the same as itself. -/
import Derived.Test.YtjbniichcopnlaaGreatDoorPkS7
import Derived.Test.YtjbniichcopnlaaGreatDoorPkS13
import Derived.Test.YtjbniichcopnlaaGreatDoorPkS6
namespace Go.Proofs.YtjbniichcopnlaaGreatDoor
section
set_option linter.unusedVariables false
set_option linter.unusedSimpArgs false
open Go.RowKit
open Go.Joins renaming cell_of_block → zb, unfrozen_of_block → zu
open Go.Lib renaming hid → zh
theorem info_str : (Tryz.prog.info? 9).map (fun i => (i.zero,i.size,i.bytes)) = some (some (.string ⟨#[]⟩),1,16):=by kernel_rfl
theorem OwnStrs.row {w : World} {base : Nat} {A : Option Addr} {n c : Nat} {l : List Bytes} (h : OwnStrs w base (.slice A n c) l) : n = l.length ∧ n ≤ c ∧ StrRow w A l := by
  unfold OwnStrs at h
  rcases h.2 with ⟨hv,hn⟩ | ⟨g,cap,cur,hv,hb,hg,h1,h2,h3,h4⟩
  · cases hv
    exact ⟨hn.symm,Nat.le_refl _,Or.inl (List.eq_nil_of_length_eq_zero hn)⟩
  · cases hv
    refine ⟨rfl,h1,Or.inr ⟨g,cur,rfl,hg,fun j x hj => ?_⟩⟩
    have hl:=(List.getElem?_eq_some_iff.1 hj).1
    have h5 : (cur.toList.take (l.length * 1))[j]? = some (.string ⟨x.toArray⟩):=by rw [h4,List.getElem?_map,hj];rfl
    rw [List.getElem?_take_of_lt (by omega)] at h5
    simpa using h5
theorem OwnStrs.push {w : World} {base : Nat} {v : Value} {l : List Bytes} {x : Bytes} (h : w.ownsRow base 9 1 v (l.length + 1) (l.map (fun s => Value.string ⟨s.toArray⟩) ++ [.string ⟨x.toArray⟩])) : OwnStrs w base v (l ++ [x]) := by
  unfold OwnStrs
  rw [List.length_append,List.map_append]
  exact h
theorem flat_take (l : List NodeL) (i : Nat) (n : NodeL) (h : l[i]? = some n) : (flatL (l.take (i + 1))).length = (flatL (l.take i)).length + (flatN n).length := by
  rw [List.take_add_one,h]
  simp [flatL_append,flatL]
theorem print_take (d : Nat) (l : List NodeL) (i : Nat) (n : NodeL) (h : l[i]? = some n) : printL d (l.take (i + 1)) = printL d (l.take i) ++ printN d n := by
  rw [List.take_add_one,h]
  simp [printL_append,printL]
theorem print_le (d : Nat) (l : List NodeL) (q : Nat) : (printL d (l.take q)).length ≤ (printL d l).length := by
  have : printL d l = printL d (l.take q) ++ printL d (l.drop q):=by rw [← printL_append,List.take_append_drop]
  rw [this,List.length_append];omega
theorem flat_le (l : List NodeL) (q : Nat) : (flatL (l.take q)).length ≤ (flatL l).length := by
  have : flatL l = flatL (l.take q) ++ flatL (l.drop q):=by rw [← flatL_append,List.take_append_drop]
  rw [this,List.length_append];omega
theorem printN_eq (d : Nat) (n : NodeL) : printN d n = if n.block then lineB d (n.name :: n.words.map wordB) [32,123] ++ (printL (d + 1) n.kids ++ lineB d [] [125]) else lineB d (n.name :: n.words.map wordB) [59] := by
  obtain ⟨nm,p,ws,b,ks⟩:=n
  rfl
theorem flatN_len (n : NodeL) : (flatN n).length = n.words.length + 2 + (if n.block then (flatL n.kids).length + 1 else 0) := by
  obtain ⟨nm,p,ws,b,ks⟩:=n
  cases b <;> simp [flatN,NodeL.words,NodeL.block,NodeL.kids] <;> omega
/-- What is known of the sheet within walk. -/
structure WalkI (B b : Nat) (bs : Bytes) (k : Int) (w wr : World) : Prop where
  sheet : IsSheet B b (Lib.byteCells bs) k wr
  below : Below B w wr
  kept : Lib.OthersKept 5 (some b) w wr
theorem WalkI.line {B b : Nat} {bs bs' : Bytes} {k k' : Int} {w wr w' : World} {e : Ending} (h : WalkI B b bs k w wr) (hl : LinePost B b bs' k' wr e w') : WalkI B b bs' k' w w' :=
  ⟨hl.2.1,h.below.trans hl.2.2.1,h.kept.trans hl.2.2.2⟩
theorem WalkI.next {B b : Nat} {bs : Bytes} {k : Int} {w wr w' : World} (h : WalkI B b bs k w wr) (hb : Below wr.heap.size wr w') (hB : B ≤ wr.heap.size) : WalkI B b bs k w w' :=
  ⟨h.sheet.keep hb,h.below.trans (hb.mono hB),others_sheet h.kept hb⟩
theorem WalkI.size {B b : Nat} {bs : Bytes} {k : Int} {w wr : World} (h : WalkI B b bs k w wr) (hB : B ≤ w.heap.size) : B ≤ wr.heap.size:=Nat.le_trans hB h.below.size
theorem strs_push {W1 wx wy w3 : World} {base : Nat} {v v' : Value} {L : List Bytes} {x : Bytes} {o : Obj} (hown : OwnStrs wx base v L) (hB1 : Below base W1 wx) (hbx : base < wx.heap.size) (hb : Below wx.heap.size wx wy)
    (h3 : w3.ownsRow base 9 1 v' (L.length + 1) (L.map (fun s => Value.string ⟨s.toArray⟩) ++ [.string ⟨x.toArray⟩])) (hg : (wy.alloc o).grownBy w3 v.ownBlock) :
    OwnStrs w3 base v' (L ++ [x]) ∧ Below base W1 w3 ∧ base < w3.heap.size:=by
  have hs:=hb.size
  have hb1 : Below base W1 (wy.alloc o):=(hB1.trans (hb.mono (Nat.le_of_lt hbx))).alloc (by omega) o
  have ho : (wy.alloc o).ownsRow base 9 1 v L.length (L.map fun s => .string ⟨s.toArray⟩):=(own_below hown hb).alloc o
  have hz : (wy.alloc o).heap.size = wy.heap.size + 1:=by simp
  exact ⟨OwnStrs.push h3,below_own hb1 hg (by omega) ho (Nat.le_refl _),by have:=hg.size;omega⟩
theorem word_row (w : World) (x : Bytes) : (∀ j u,[Value.string ⟨x.toArray⟩][j]? = some u → (w.alloc (.cells #[.string ⟨x.toArray⟩] 9)).cell? ((⟨w.heap.size,0,none⟩ : Addr).add j) = some u) ∧ ∀ u ∈ [Value.string ⟨x.toArray⟩],u.oneCell' = true :=
  ⟨cells_new w [.string ⟨x.toArray⟩] 9 w.heap.size rfl,fun u hu => by simp only [List.mem_singleton] at hu;subst hu;rfl⟩
set_option maxRecDepth 100000 in
set_option maxHeartbeats 4000000 in
theorem layout_walk (b B : Nat) : ∀ (N : Nat) (l : List NodeL) (d : Nat) (bs : Bytes) (k : Int) (A : Option Addr) (c : Nat) (w : World),cntL l < N → cntL l ≤ 100000 → d ≤ 6 → checkL d l = 0 → B ≤ w.heap.size → ROk w B A l →
    IsSheet B b (Lib.byteCells bs) k w → 0 < B → 2 < B → Tab w → SpaceTab w → (bs ++ printL d l).length ≤ 1000000000 → 0 ≤ k → k + (flatL l).length ≤ 100000000 →
    Calls Tryz.prog 34 #[.slice A l.length c, .int .i64 d, .func (.func 35) #[.pointer (some ⟨b,0,none⟩)] #[]] w (LinePost B b (bs ++ printL d l) (k + (flatL l).length) w):=by
  intro N
  induction N with
  | zero => intro l d bs k A c w h;omega
  | succ N ih =>
    intro l d bs k A c w hN hsm hd hchk hB hok hsh hg1 hg2 htab hspc hlen hk0 hk9
    obtain ⟨i0,hi,hz0,hz1',hz2'⟩:=info_parts info_str
    have hlenl:=cntL_len l
    have HOK:=zh hok
    have HIH:=zh ih
    have HCK:=zh hchk
    have HTB:=zh htab
    have HSP:=zh hspc
    have HLN:=zh hlen
    have HK9:=zh hk9
    have HSH:=zh hsh
    clear ih hok hchk htab hspc hlen hk9 hsh
    go_enter Tryz.func34,Tryz.ntmps34
    go_wp2_with fail
    go_loopw [13] (fun i wr => ∃ q : Nat,q ≤ l.length ∧ i = .int .i64 q ∧ WalkI B b (bs ++ printL d (l.take q)) (k + ((flatL (l.take q)).length : Nat)) w wr) (fun i _ => l.length - (intOf i).toNat)
    case atStart => exact ⟨0,Nat.zero_le _,rfl,by simpa [printL,flatL] using HSH.out,Below.refl _ _,Lib.OthersKept.refl _ _ _⟩
    case round =>
      obtain ⟨q,hq,rfl,hwi⟩:=hrel
      by_cases hlt : q < l.length
      · obtain ⟨n,hn⟩ : ∃ n,l[q]? = some n := ⟨_,List.getElem?_eq_getElem hlt⟩
        have hbs:=hwi.size hB
        obtain ⟨ad,Aw,cw,Ak,ck,hA,hadB,c0,c1,c2,c3,c4,hw,hkk⟩:=(HOK.out.below hwi.below).at q n hn
        subst hA
        obtain ⟨p1,p2,p3,p4,p5,p6⟩:=check_at l d q n HCK.out hn
        have hc1:=cntL_take_mem l q n hn
        have hc2:=cntN_eq n
        obtain ⟨wo,hwo⟩ : ∃ wo,wo = wr:=⟨_,rfl⟩
        subst hwo
        have HWI:=zh hwi
        have HWD:=zh hw
        have HKK:=zh hkk
        have HP:=zh (And.intro p2 (And.intro p3 (And.intro p4 (And.intro p5 p6))))
        have lk : (q : Int) < l.length:=by omega
        have lk0 : (0 : Int) ≤ q:=by omega
        have w1f : IntKind.i64.wrap ((q : Int) + 1) = (q : Int) + 1:=by rw [IntKind.wrap_i64];omega
        clear hwi hw hkk p2 p3 p4 p5 p6
        go_wp2_with fail
        obtain ⟨nb,hnb⟩ : ∃ g,g = wo.heap.size:=⟨_,rfl⟩
        obtain ⟨sb,hsb⟩ : ∃ g,g = wo.heap.size + 1:=⟨_,rfl⟩
        generalize hW1 : World.alloc (World.alloc _ _) _ = W1
        have hb1 : Below wo.heap.size wo W1:=by rw [← hW1];exact ((Below.refl _ _).alloc (Nat.le_refl _) _).alloc (by simp) _
        have hn1 : W1.heap[nb]? = some (.cells #[.string ⟨n.name.toArray⟩, .int .i64 n.pos, .slice Aw n.words.length cw, .bool n.block, .slice Ak n.kids.length ck] 44 (0,0)) := by
          rw [← hW1,hnb]
          exact (Below.block ((Below.refl (wo.alloc _).heap.size (wo.alloc _)).alloc (Nat.le_refl _) _) wo.heap.size (by simp)).trans (heap_alloc_new wo _)
        have hs1 : OwnStrs W1 sb (.slice (some ⟨sb,0,none⟩) 1 1) [n.name] := by
          have:=OwnStrs.new (wo.alloc (.cells #[.string ⟨n.name.toArray⟩, .int .i64 n.pos, .slice Aw n.words.length cw, .bool n.block, .slice Ak n.kids.length ck] 44)) sb n.name (by simp;omega)
          rw [← hW1]
          simpa [hsb] using this
        have hz1 : sb < W1.heap.size:=by rw [← hW1];simp;omega
        rw [← hsb,← hnb]
        have HG:=zh (And.intro hnb hsb)
        have hnsb : nb < sb:=by omega
        have hBnb : B ≤ nb:=by omega
        have hb1n : Below nb wo W1:=by rw [hnb];exact hb1
        have HB1:=zh hb1n
        have HN1:=zh hn1
        have HS1:=zh hs1
        clear hW1 hb1 hb1n hn1 hs1 hnb hsb
        go_loopw [8,23] (fun v j wx => ∃ t : Nat,t ≤ n.words.length ∧ j = .int .i64 t ∧ OwnStrs wx sb v (n.name :: (n.words.take t).map wordB) ∧ Below sb W1 wx ∧ sb < wx.heap.size) (fun _ j _ => n.words.length - (intOf j).toNat)
        case atStart => exact ⟨0,Nat.zero_le _,rfl,HS1.out,Below.refl _ _,hz1⟩
        case round =>
          obtain ⟨t,ht,rfl,hown,hbx,hzx⟩:=hrel
          have hbB : Below B wo wr:=(HB1.out.mono hBnb).trans (hbx.mono (by omega))
          have hlent : (n.name :: (n.words.take t).map wordB).length = t + 1:=by simp;omega
          obtain ⟨A8,c8,hv,hnc⟩:=own_form hown
          rw [hlent] at hv hnc
          subst hv
          by_cases hlt2 : t < n.words.length
          · obtain ⟨u,hu⟩ : ∃ u,n.words[t]? = some u := ⟨_,List.getElem?_eq_getElem hlt2⟩
            obtain ⟨aw,hAw,hawB,d0,d1,d2,d3⟩:=word_cells (HWD.out.keep (w':=wr) (fun _ h => h) (fun p hp => hbB.cell hp)) t u hu
            subst hAw
            have hok : wordOk u = true:=List.all_eq_true.1 HP.out.1 u (List.mem_of_getElem? hu)
            have htk : (n.words.take (t + 1)).map wordB = (n.words.take t).map wordB ++ [wordB u]:=by rw [List.take_add_one,hu];simp
            have HTK:=zh htk
            have hlk : (t : Int) < n.words.length:=by omega
            have hlk0 : (0 : Int) ≤ t:=by omega
            have w2f : IntKind.i64.wrap ((t : Int) + 1) = (t : Int) + 1:=by rw [IntKind.wrap_i64];omega
            have HOW:=zh hown
            have HBX:=zh hbx
            have HBB:=zh hbB
            have HLT:=zh hlent
            clear htk hown hbx hbB hlent hu
            have t3 : (n.name :: (n.words.take t).map wordB).length + 1 ≤ maxLen:=by rw [HLT.out];unfold maxLen;omega
            have t4 : ((n.name :: (n.words.take t).map wordB).length + 1) * 16 ≤ 140737488355328:=by rw [HLT.out];omega
            obtain ⟨nu,un,us,up⟩:=u
            cases nu
            · have hwb : wordB ⟨false,un,us,up⟩ = us := rfl
              rw [hwb] at HTK
              have t5 : sb ≤ ((wr.alloc (.cells #[.bool false, .int .i64 un, .string ⟨us.toArray⟩, .int .i64 up] 61)).alloc (.cells #[.string ⟨us.toArray⟩] 9)).heap.size:=by simp;omega
              have t6 : ((wr.alloc (.cells #[.bool false, .int .i64 un, .string ⟨us.toArray⟩, .int .i64 up] 61)).alloc (.cells #[.string ⟨us.toArray⟩] 9)).ownsRow sb 9 1 (.slice A8 (t + 1) c8) (n.name :: (n.words.take t).map wordB).length ((n.name :: (n.words.take t).map wordB).map (fun s => Value.string ⟨s.toArray⟩)) := by
                have:=(HOW.out.alloc (.cells #[.bool false, .int .i64 un, .string ⟨us.toArray⟩, .int .i64 up] 61)).alloc (.cells #[.string ⟨us.toArray⟩] 9)
                exact this
              have hb2:=(Below.refl wr.heap.size wr).alloc (Nat.le_refl _) (.cells #[.bool false, .int .i64 un, .string ⟨us.toArray⟩, .int .i64 up] 61)
              have t1:=(word_row (wr.alloc (.cells #[.bool false, .int .i64 un, .string ⟨us.toArray⟩, .int .i64 up] 61)) us).1
              have t2:=(word_row wr us).2
              have hz2 : (wr.alloc (.cells #[.bool false, .int .i64 un, .string ⟨us.toArray⟩, .int .i64 up] 61)).heap.size = wr.heap.size + 1:=by simp
              rw [hz2] at t1
              have HB2:=zh hb2
              clear hb2 hz2
              go_wp2_with (first | (at_builtin;go_loud (refine wpList_append_own _ rfl _ _ 55 rfl sb 9 i0 _ 1 16 Tryz.underlying55 hi hz0 hz1' hz2' rfl (by decide) (.slice A8 (t + 1) c8) (n.name :: (n.words.take t).map wordB).length _ rfl t6 ⟨wr.heap.size + 1,0,none⟩ 1 1 [.string ⟨us.toArray⟩] rfl rfl t1 t2 t3 t4 t5 ?_);intro v' w3 hown3 hgrow3 _;go_loud (have H3:=strs_push HOW.out HBX.out hzx HB2.out hown3 hgrow3);have H3':=zh H3;clear H3 hown3 hgrow3) | fail)
              exact ⟨⟨t + 1,by omega,by go_num,by rw [HTK.out];exact H3'.out.1,H3'.out.2.1,H3'.out.2.2⟩,by simp [intOf];omega⟩
            · have hwb : wordB ⟨true,un,us,up⟩ = Lib.itoa un := rfl
              rw [hwb] at HTK
              have hrng : 0 ≤ un ∧ un ≤ 999999999 := by
                unfold wordOk at hok
                simp only [if_true,Bool.and_eq_true,decide_eq_true_eq] at hok
                exact ⟨hok.1.2,hok.2⟩
              have htb : Tab (wr.alloc (.cells #[.bool true, .int .i64 un, .string ⟨us.toArray⟩, .int .i64 up] 61)):=HTB.out.belowB (((HWI.out.below).trans HBB.out).alloc (by omega) _) hg2
              have HIT:=zh (itoa_any un (by omega) (by omega) _ htb)
              have hb2:=(Below.refl wr.heap.size wr).alloc (Nat.le_refl _) (.cells #[.bool true, .int .i64 un, .string ⟨us.toArray⟩, .int .i64 up] 61)
              have HB2:=zh hb2
              generalize hX : Lib.itoa un = X at HIT HTK
              clear hb2 htb hrng hok hX
              go_wp2_with fail
              refine HIT.out.mono ?_
              rintro e1 w2 ⟨rfl,hb3⟩
              have hz3:=hb3.size
              have hzz : (wr.alloc (.cells #[.bool true, .int .i64 un, .string ⟨us.toArray⟩, .int .i64 up] 61)).heap.size = wr.heap.size + 1:=by simp
              rw [hzz] at hz3
              have hb23 : Below wr.heap.size wr w2:=HB2.out.trans (hb3.mono (by rw [hzz];omega))
              have HB23:=zh hb23
              have t5 : sb ≤ (w2.alloc (.cells #[.string ⟨X.toArray⟩] 9)).heap.size:=by simp;omega
              have t6 : (w2.alloc (.cells #[.string ⟨X.toArray⟩] 9)).ownsRow sb 9 1 (.slice A8 (t + 1) c8) (n.name :: (n.words.take t).map wordB).length ((n.name :: (n.words.take t).map wordB).map (fun s => Value.string ⟨s.toArray⟩)) := by
                have:=(own_below HOW.out hb23).alloc (.cells #[.string ⟨X.toArray⟩] 9)
                exact this
              have t1:=(word_row w2 X).1
              have t2:=(word_row w2 X).2
              clear hb3 hzz hb23
              go_wp2_with (first | (at_builtin;go_loud (refine wpList_append_own _ rfl _ _ 55 rfl sb 9 i0 _ 1 16 Tryz.underlying55 hi hz0 hz1' hz2' rfl (by decide) (.slice A8 (t + 1) c8) (n.name :: (n.words.take t).map wordB).length _ rfl t6 ⟨w2.heap.size,0,none⟩ 1 1 [.string ⟨X.toArray⟩] rfl rfl t1 t2 t3 t4 t5 ?_);intro v' w3 hown3 hgrow3 _;go_loud (have H3:=strs_push HOW.out HBX.out hzx HB23.out hown3 hgrow3);have H3':=zh H3;clear H3 hown3 hgrow3) | fail)
              exact ⟨⟨t + 1,by omega,by go_num,by rw [HTK.out];exact H3'.out.1,H3'.out.2.1,H3'.out.2.2⟩,by simp [intOf];omega⟩
          · have htl : t = n.words.length := by omega
            have hlk : ¬ (t : Int) < n.words.length:=by omega
            have htt : n.words.take t = n.words:=by rw [htl,List.take_length]
            rw [htt] at hown
            obtain ⟨hr1,hr2,hr3⟩:=hown.row
            have hblk : wr.heap[nb]? = _:=(hbx.block nb hnsb).trans HN1.out
            have e3:=zb hblk 3
            have e4:=zb hblk 4
            have HBLK:=zh hblk
            have hwx:=HWI.out.next (HB1.out.trans (hbx.mono (Nat.le_of_lt hnsb)) |>.mono (by have:=HG.out.1;omega)) hbs
            have hBr : B ≤ wr.heap.size:=by omega
            obtain ⟨ws,hws⟩ : ∃ ws,ws = n.name :: n.words.map wordB:=⟨_,rfl⟩
            rw [← hws] at hr1 hr3
            have hwl : ws.length = n.words.length + 1:=by rw [hws];simp
            have hpt:=print_take d l q n hn
            have hft:=flat_take l q n hn
            have hpl:=print_le d l (q + 1)
            have hfl:=flat_le l (q + 1)
            rw [hpt,List.length_append] at hpl
            rw [hft] at hfl
            have hlen1:=HLN.out
            rw [List.length_append] at hlen1
            have hk91:=HK9.out
            have hfn:=flatN_len n
            have hpn:=printN_eq d n
            rw [← hws] at hpn
            obtain ⟨bs1,hbs1⟩ : ∃ x,x = bs ++ printL d (l.take q):=⟨_,rfl⟩
            obtain ⟨k1,hk1⟩ : ∃ x : Int,x = k + ((flatL (l.take q)).length : Nat):=⟨_,rfl⟩
            rw [← hbs1,← hk1] at hwx
            have hb1l : bs1.length = bs.length + (printL d (l.take q)).length:=by rw [hbs1,List.length_append]
            have hnbb : nb ≠ b := fun e => by
              obtain ⟨p,hp⟩:=hwx.sheet.any
              obtain ⟨_,v,hb,_⟩:=hp
              rw [e,hb] at hblk
              simp only [Option.some.injEq,Obj.cells.injEq] at hblk
              exact absurd hblk.2.1 (by decide)
            have hbBr : Below B wo wr:=(HB1.out.mono hBnb).trans (hbx.mono (by omega))
            have HBW:=zh hbBr
            have HWX:=zh hwx
            have hnext : ∀ wy,WalkI B b (bs1 ++ printN d n) (k1 + ((flatN n).length : Nat)) w wy → WalkI B b (bs ++ printL d (l.take (q + 1))) (k + ((flatL (l.take (q + 1))).length : Nat)) w wy := by
              intro wy h
              rw [hpt,hft]
              rw [hbs1,hk1,List.append_assoc] at h
              rwa [show (k + (((flatL (l.take q)).length + (flatN n).length : Nat) : Int)) = k + ((flatL (l.take q)).length : Nat) + ((flatN n).length : Nat) by omega]
            have HNX:=zh hnext
            have hsp:=HSP.out.belowB hwx.below hg1
            have HTL:=zh htl
            clear hown hbx hblk hwx hnext hbBr hpt hft hlent htt htl
            cases hbk : n.block with
            | false =>
              rw [hbk] at e3 hfn
              rw [hbk,if_neg (by decide)] at hpn
              have hL:=sheet_line B b bs1 k1 d [59] A8 c8 ws wr HWX.out.sheet hBr hg1 hsp (Or.inl rfl) hr3 (by omega) (by omega) (by omega) (by rw [List.length_append,← hpn];omega) (by omega) (by omega)
              rw [← hr1] at hL
              have HL:=zh hL
              have HPN:=zh hpn
              have HFN:=zh (show k1 + (((t + 1 : Nat) : Int) + 1) = k1 + ((flatN n).length : Nat) by rw [hfn];simp;omega)
              clear hL hpn hsp hr3 hfn hbk hpl hfl hlen1 hk91 hb1l hbs1 hk1 hws hwl hr1 hnc hr2
              go_wp2_with fail
              refine HL.out.mono ?_
              rintro e1 w2 hl
              have hn2:=HNX.out w2 (by rw [HPN.out,← HFN.out];exact HWX.out.line hl)
              obtain ⟨rfl,_⟩:=hl
              have HN2:=zh hn2
              clear hn2
              go_wp2_with fail
              exact ⟨⟨q + 1,by omega,by go_num,HN2.out⟩,by simp [intOf];omega⟩
            | true =>
              rw [hbk] at e3 hfn
              rw [hbk,if_pos rfl] at hpn
              rw [if_pos rfl] at hfn
              have hd6 : d ≠ 6:=HP.out.2.2.2.1 hbk
              have hpnl : (printN d n).length = (lineB d ws [32,123]).length + ((printL (d + 1) n.kids).length + (lineB d [] [125]).length):=by rw [hpn,List.length_append,List.length_append]
              have hL:=sheet_line B b bs1 k1 d [32,123] A8 c8 ws wr HWX.out.sheet hBr hg1 hsp (Or.inr (Or.inl rfl)) hr3 (by omega) (by omega) (by omega) (by rw [List.length_append];omega) (by omega) (by omega)
              have hasm : bs1 ++ printN d n = bs1 ++ lineB d ws [32,123] ++ printL (d + 1) n.kids ++ lineB d [] [125]:=by rw [hpn];simp
              have hasn : k1 + (((t + 1 : Nat) : Int) + 1) + ((flatL n.kids).length : Nat) + (([] : List Bytes).length + 1) = k1 + ((flatN n).length : Nat):=by rw [hfn];simp;omega
              have hlen2 : (bs1 ++ lineB d ws [32,123]).length = bs1.length + (lineB d ws [32,123]).length:=List.length_append ..
              obtain ⟨bs2,hbs2⟩ : ∃ x,x = bs1 ++ lineB d ws [32,123]:=⟨_,rfl⟩
              obtain ⟨k2,hk2⟩ : ∃ x : Int,x = k1 + (((t + 1 : Nat) : Int) + 1):=⟨_,rfl⟩
              rw [← hr1,← hbs2,← hk2] at hL
              rw [← hbs2] at hlen2 hasm
              rw [← hk2] at hasn
              have HL:=zh hL
              have HASM:=zh hasm
              have HASN:=zh hasn
              have hq1 : (bs2 ++ printL (d + 1) n.kids).length + (lineB d [] [125]).length ≤ 1000000000:=by rw [List.length_append];omega
              have hq2 : k2 + ((flatL n.kids).length : Nat) + 1 ≤ 100000000:=by omega
              have hq3 : 0 ≤ k2:=by omega
              have HQ:=zh (And.intro hq1 (And.intro hq2 hq3))
              have w3f : IntKind.i64.wrap ((d : Int) + 1) = (d : Int) + 1:=by rw [IntKind.wrap_i64];omega
              clear hL hpn hsp hr3 hfn hbk hpl hfl hlen1 hk91 hb1l hbs1 hk1 hws hwl hr1 hnc hr2 hasm hasn hlen2 hbs2 hk2 hq1 hq2 hq3 hpnl
              go_wp2_with fail
              refine HL.out.mono ?_
              rintro e1 w2 hl
              have hw2:=HWX.out.line hl
              have hb2:=hl.2.2.1
              have hblk2 : w2.heap[nb]? = _:=hl.2.2.2 nb _ HBLK.out (fun e => hnbb (Option.some.inj e)) (fun c fz e => by simp only [Obj.cells.injEq] at e;exact absurd e.2.1 (by decide))
              obtain ⟨rfl,_⟩:=hl
              have e4':=zb hblk2 4
              have hB2 : B ≤ w2.heap.size:=Nat.le_trans hBr hb2.size
              have hwk:=HIH.out n.kids (d + 1) bs2 k2 Ak ck w2 (by omega) (by omega) (by omega) HP.out.2.2.2.2 hB2 (HKK.out.below (HBW.out.trans hb2)) hw2.sheet hg1 hg2 (HTB.out.belowB hw2.below hg2) (HSP.out.belowB hw2.below hg1) (by have:=HQ.out.1;omega) HQ.out.2.2 (by have:=HQ.out.2.1;omega)
              have HWK:=zh (show Calls Tryz.prog 34 #[.slice Ak n.kids.length ck, .int .i64 ((d : Int) + 1), .func (.func 35) #[.pointer (some ⟨b,0,none⟩)] #[]] w2 (LinePost B b (bs2 ++ printL (d + 1) n.kids) (k2 + (flatL n.kids).length) w2) from hwk)
              have HW2:=zh hw2
              clear hwk hw2 hb2 hblk2 e4
              go_wp2_with fail
              refine HWK.out.mono ?_
              rintro e2 w3 hl
              have hw3:=HW2.out.line hl
              have hB3 : B ≤ w3.heap.size:=Nat.le_trans hB2 hl.2.2.1.size
              obtain ⟨rfl,_⟩:=hl
              have hL3:=sheet_line B b (bs2 ++ printL (d + 1) n.kids) (k2 + ((flatL n.kids).length : Nat)) d [125] none 0 [] w3 hw3.sheet hB3 hg1 (HSP.out.belowB hw3.below hg1) (Or.inr (Or.inr rfl)) (Or.inl rfl) (by simp) (by simp) (by omega) (by have:=HQ.out.1;rw [List.length_append];omega) (by have:=HQ.out.2.2;omega) (by have:=HQ.out.2.1;omega)
              have HL3:=zh (show Calls Tryz.prog 35 #[.pointer (some ⟨b,0,none⟩), .int .i64 d, .string ⟨#[125]⟩, .slice none 0 0] w3 (LinePost B b (bs2 ++ printL (d + 1) n.kids ++ lineB d [] [125]) (k2 + ((flatL n.kids).length : Nat) + (([] : List Bytes).length + 1)) w3) from hL3)
              have HW3:=zh hw3
              clear hL3 hw3 e4'
              go_wp2_with fail
              refine HL3.out.mono ?_
              rintro e3' w4 hl
              have hn4:=HNX.out w4 (by rw [HASM.out,← HASN.out];exact HW3.out.line hl)
              obtain ⟨rfl,_⟩:=hl
              have HN4:=zh hn4
              clear hn4
              go_wp2_with fail
              exact ⟨⟨q + 1,by omega,by go_num,HN4.out⟩,by simp [intOf];omega⟩
      · have hql : q = l.length := by omega
        have HQ:=zh hql
        have lk : ¬ (q : Int) < l.length:=by omega
        have HWI:=zh hwi
        clear hwi hql
        go_wp2_with fail
        go_end0
        have hf:=HWI.out
        rw [HQ.out,List.take_length] at hf
        exact ⟨rfl,hf.sheet,hf.below,hf.kept⟩
end
section
theorem sameW_refl (w : WordL) : sameW w w = true:=by simp [sameW]
theorem sameWs_refl : ∀ l : List WordL,sameWs l l = true
  | [] => rfl
  | w :: l => by rw [sameWs,sameW_refl,sameWs_refl l];rfl
theorem sameNs_refl : ∀ l : List NodeL,sameNs l l = true
  | [] => rfl
  | .mk nm p ws b ks :: r => by
    simp only [sameNs,sameN,sameWs_refl,sameNs_refl ks,sameNs_refl r]
    simp
end
end Go.Proofs.YtjbniichcopnlaaGreatDoor
