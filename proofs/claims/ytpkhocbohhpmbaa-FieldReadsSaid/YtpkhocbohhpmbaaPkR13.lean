/- Layer 9 (tree): whether any items are few: the walk of left. Then: An argument that is a slice of items, opened. -/
import Derived.Test.YtpkhocbohhpmbaaPkR12
import Derived.Test.YtpkhocbohhpmbaaPkR0
import Derived.Deep.Slices
import Derived.Deep.Fields
import Derived.ChangeSame
import Derived.DataShut
namespace Go.Proofs.Ytpkhocbohhpmbaa
section
set_option linter.unusedVariables false
set_option linter.unusedSimpArgs false
open Go.RowKit
open Go.Lib renaming hid → zh
mutual
/-- Names,texts,and lists are no longer than may be. -/
def fitN : NodeL → Prop
  | .mk nm _ ws _ ks => nm.length ≤ maxLen ∧ ws.length ≤ maxLen ∧ (∀ w ∈ ws,w.s.length ≤ maxLen) ∧ ks.length ≤ maxLen ∧ fitNs ks
def fitNs : List NodeL → Prop
  | [] => True
  | n :: r => fitN n ∧ fitNs r
end
theorem fit_at : ∀ (l : List NodeL) (k : Nat) (n : NodeL),fitNs l → l[k]? = some n → fitN n
  | [],k,n,_,h => by simp at h
  | x :: r,0,n,h,hk => by
    simp only [List.getElem?_cons_zero,Option.some.injEq] at hk
    subst hk
    exact h.1
  | x :: r,k + 1,n,h,hk => fit_at r k n h.2 (by simpa using hk)
theorem fit_parts (n : NodeL) (h : fitN n) : n.name.length ≤ maxLen ∧ n.words.length ≤ maxLen ∧ (∀ w ∈ n.words,w.s.length ≤ maxLen) ∧ n.kids.length ≤ maxLen ∧ fitNs n.kids := by
  obtain ⟨a,b,c,d,e⟩:=n
  exact ⟨h.1,h.2.1,h.2.2.1,h.2.2.2.1,h.2.2.2.2⟩
theorem leftN_eq (most deep : Int) (n : NodeL) : leftN most deep n = if most < 0 ∨ 20 < n.words.length then -1 else leftL (most - 1) (deep - 1) n.kids := by
  obtain ⟨a,b,c,d,e⟩:=n
  simp only [leftN,NodeL.words,NodeL.kids]
  congr 1
theorem leftL_go (most deep : Int) (l : List NodeL) (h : deep ≠ 0) : leftL most deep l = leftGo most deep l := by
  cases l with
  | nil => simp only [leftL,leftGo]
  | cons n r => rw [leftL,if_neg h]
theorem leftGo_step : ∀ (l : List NodeL) (k : Nat) (n : NodeL) (most deep : Int),l[k]? = some n → leftGo most deep (l.drop k) = leftGo (leftN most deep n) deep (l.drop (k + 1))
  | [],k,n,_,_,h => by simp at h
  | x :: r,0,n,most,deep,h => by
    simp only [List.getElem?_cons_zero,Option.some.injEq] at h
    subst h
    simp only [List.drop_zero,leftGo,Nat.zero_add,List.drop_succ_cons]
  | x :: r,k + 1,n,most,deep,h => by simpa using leftGo_step r k n most deep (by simpa using h)
mutual
theorem left_geN : ∀ (n : NodeL) (most deep : Int),-1 ≤ most → -1 ≤ leftN most deep n ∧ leftN most deep n ≤ most ∧ (0 ≤ leftN most deep n → fewN n = true ∧ (cntN n : Int) ≤ 21 * (most - leftN most deep n))
  | .mk nm p ws b ks,most,deep,h => by
    simp only [leftN]
    split
    · exact ⟨by omega,by omega,fun h => by omega⟩
    · rename_i h1
      obtain ⟨a1,a2,a3⟩:=left_geL ks (most - 1) (deep - 1) (by omega)
      refine ⟨a1,by omega,fun h0 => ?_⟩
      obtain ⟨b1,b2⟩:=a3 h0
      simp only [fewN,b1,Bool.and_true,decide_eq_true_eq,cntN]
      refine ⟨by omega,by omega⟩
theorem left_geL : ∀ (l : List NodeL) (most deep : Int),-1 ≤ most → -1 ≤ leftL most deep l ∧ leftL most deep l ≤ most ∧ (0 ≤ leftL most deep l → fewNs l = true ∧ (cntL l : Int) ≤ 21 * (most - leftL most deep l))
  | [],most,deep,h => by simp only [leftL,cntL];exact ⟨h,Int.le_refl _,fun _ => ⟨rfl,by omega⟩⟩
  | n :: r,most,deep,h => by
    simp only [leftL]
    split
    · exact ⟨by omega,by omega,fun h => by omega⟩
    · simp only [leftGo]
      obtain ⟨a1,a2,a3⟩:=left_geN n most deep h
      obtain ⟨b1,b2,b3⟩:=left_geG r (leftN most deep n) deep a1
      refine ⟨b1,by omega,fun h0 => ?_⟩
      obtain ⟨c1,c2⟩:=b3 h0
      obtain ⟨d1,d2⟩:=a3 (by omega)
      simp only [fewNs,c1,d1,Bool.and_self,cntL]
      refine ⟨trivial,by omega⟩
theorem left_geG : ∀ (l : List NodeL) (most deep : Int),-1 ≤ most → -1 ≤ leftGo most deep l ∧ leftGo most deep l ≤ most ∧ (0 ≤ leftGo most deep l → fewNs l = true ∧ (cntL l : Int) ≤ 21 * (most - leftGo most deep l))
  | [],most,deep,h => by simp only [leftGo,cntL];exact ⟨h,Int.le_refl _,fun _ => ⟨rfl,by omega⟩⟩
  | n :: r,most,deep,h => by
    simp only [leftGo]
    obtain ⟨a1,a2,a3⟩:=left_geN n most deep h
    obtain ⟨b1,b2,b3⟩:=left_geG r (leftN most deep n) deep a1
    refine ⟨b1,by omega,fun h0 => ?_⟩
    obtain ⟨c1,c2⟩:=b3 h0
    obtain ⟨d1,d2⟩:=a3 (by omega)
    simp only [fewNs,c1,d1,Bool.and_self,cntL]
    refine ⟨trivial,by omega⟩
end
set_option maxRecDepth 100000 in
set_option maxHeartbeats 2000000 in
theorem ref9_leftG : ∀ (D : Nat) (l : List NodeL) (A : Option Addr) (c : Nat) (w : World) (B : Nat) (most : Int),D ≤ 100 → -1 ≤ most → most ≤ 100000 → l.length ≤ maxLen → fitNs l → B ≤ w.heap.size → ROk w B A l →
    Calls Try.prog 17 #[.slice A l.length c, .int .i64 most, .int .i64 D] w fun e w' => e = .returned (.int .i64 (leftL most D l)) ∧ Below w.heap.size w w':=by
  intro D
  induction D with
  | zero =>
    intro l A c w B most _ _ _ hlen hfit hB hok
    by_cases h0 : 0 < l.length
    · have hd : ((0 : Nat) : Int) = 0 := rfl
      have h0' : (0 : Int) < l.length:=by omega
      have hr : leftL most ((0 : Nat) : Int) l = -1 := by
        cases l with
        | nil => simp at h0
        | cons n r => simp only [leftL];rw [if_pos hd]
      rw [hr]
      clear hok hfit
      go_enter Try.func17,Try.ntmps17
      go_wp2_with fail
      go_ret
      exact ⟨rfl,Below.refl _ _⟩
    · have hl0 : l = [] := List.eq_nil_of_length_eq_zero (by omega)
      subst hl0
      have hr : leftL most ((0 : Nat) : Int) [] = most:=by simp only [leftL]
      rw [hr]
      clear hok hfit h0
      go_enter Try.func17,Try.ntmps17
      go_wp2_with fail
      go_loopw [1,18] (fun m i wr => m = .int .i64 most ∧ i = .int .i64 0 ∧ wr = w) (fun _ _ _ => 0)
      case atStart => exact ⟨rfl,rfl,rfl⟩
      case round =>
        obtain ⟨rfl,rfl,rfl⟩:=hrel
        go_wp2_with fail
        go_ret
        exact ⟨rfl,Below.refl _ _⟩
  | succ D ih =>
    intro l A c w B most hD hm0 hm1 hlen hfit hB hok
    have hlen':=hlen
    unfold maxLen at hlen'
    have hd0 : (((D + 1 : Nat) : Int) == 0) = false:=beq_false_of_ne (by omega)
    have hr : leftL most ((D + 1 : Nat) : Int) l = leftGo most ((D + 1 : Nat) : Int) l:=leftL_go _ _ _ (by omega)
    rw [hr]
    have w2f : IntKind.i64.wrap (((D + 1 : Nat) : Int) - 1) = (D : Int):=by rw [IntKind.wrap_i64];omega
    have hdd : ((D + 1 : Nat) : Int) - 1 = (D : Int):=by omega
    have HDD:=zh hdd
    generalize hde : ((D + 1 : Nat) : Int) = dp at *
    have HOK:=zh hok
    have HFIT:=zh hfit
    have HIH:=zh ih
    clear ih hok hfit hr hde hdd
    go_enter Try.func17,Try.ntmps17
    go_wp2_with fail
    go_loopw [1,18] (fun m i wr => ∃ (k : Nat) (x : Int),k ≤ l.length ∧ -1 ≤ x ∧ x ≤ 100000 ∧ m = .int .i64 x ∧ i = .int .i64 k ∧ Below w.heap.size w wr ∧ leftGo most dp l = leftGo x dp (l.drop k)) (fun _ i _ => l.length - (intOf i).toNat)
    case atStart => exact ⟨0,most,Nat.zero_le _,hm0,hm1,rfl,rfl,Below.refl _ _,by simp⟩
    case round =>
      obtain ⟨k,x,hk,hx0,hx1,rfl,rfl,hb,hs⟩:=hrel
      have hbs:=hb.size
      by_cases hlt : k < l.length
      · obtain ⟨n,hn⟩ : ∃ n,l[k]? = some n := ⟨_,List.getElem?_eq_getElem hlt⟩
        obtain ⟨ad,Aw,cw,Ak,ck,hA,hadB,c0,c1,c2,c3,c4,hw,hkk⟩:=(HOK.out.below (hb.mono hB)).at k n hn
        subst hA
        obtain ⟨_,f2,_,f4,f5⟩:=fit_parts n (fit_at l k n HFIT.out hn)
        rw [leftGo_step l k n x dp hn,leftN_eq] at hs
        have lk : (k : Int) < l.length:=by omega
        have lk0 : (0 : Int) ≤ k:=by omega
        have w1f : IntKind.i64.wrap ((k : Int) + 1) = (k : Int) + 1:=by rw [IntKind.wrap_i64];omega
        have hneg : ∀ (r : List NodeL),leftGo (-1) dp r = -1 := fun r => by
          cases r with
          | nil => simp only [leftGo]
          | cons y r =>
            have:=left_geG (y :: r) (-1) dp (by omega)
            omega
        by_cases hneg0 : x < 0
        · have hres : leftGo most dp l = -1 := by rw [hs,if_pos (Or.inl hneg0)]; exact hneg _
          have HRES:=zh hres
          have HB:=zh (hb.alloc (by omega) (.cells #[.string ⟨n.name.toArray⟩, .int .i64 n.pos, .slice Aw n.words.length cw, .bool n.block, .slice Ak n.kids.length ck] 25))
          clear hs hres hneg hb hw hkk f2 f4 f5
          go_wp2_with fail
          go_ret
          exact ⟨by rw [HRES.out];rfl,HB.out⟩
        · by_cases hw20 : 20 < n.words.length
          · have hres : leftGo most dp l = -1 := by rw [hs,if_pos (Or.inr hw20)]; exact hneg _
            have hw20' : (20 : Int) < n.words.length:=by omega
            have HRES:=zh hres
            have HB:=zh (hb.alloc (by omega) (.cells #[.string ⟨n.name.toArray⟩, .int .i64 n.pos, .slice Aw n.words.length cw, .bool n.block, .slice Ak n.kids.length ck] 25))
            clear hs hres hneg hb hw hkk f2 f4 f5 hw20
            go_wp2_with fail
            go_ret
            exact ⟨by rw [HRES.out];rfl,HB.out⟩
          · rw [if_neg (by omega),HDD.out] at hs
            have hle:=left_geL n.kids (x - 1) D (by omega)
            have hw20' : ¬ ((20 : Int) < n.words.length):=by omega
            have w3f : IntKind.i64.wrap (x - 1) = x - 1:=by rw [IntKind.wrap_i64];omega
            have HI:=zh (fun W (h1 : B ≤ W.heap.size) (h2 : ROk W B Ak n.kids) => HIH.out n.kids Ak ck W B (x - 1) (by omega) (by omega) (by omega) f4 f5 h1 h2)
            have HS:=zh hs
            have HB:=zh hb
            have HKK:=zh hkk
            generalize leftL (x - 1) (D : Int) n.kids = y at *
            clear hs hneg hb hw hkk f2 f4 f5 hw20
            go_wp2_with fail
            refine (HI.out _ (by simp;omega) (HKK.out.below ((Below.refl _ _).alloc (by omega) _))).mono ?_
            rintro e w2 ⟨rfl,hb2⟩
            have hb3 : Below w.heap.size w w2:=HB.out.trans (((Below.refl wr.heap.size wr).alloc (Nat.le_refl _) _ |>.trans (hb2.mono (by simp))).mono hbs)
            have HB3:=zh hb3
            clear hb2 hb3
            go_wp2_with fail
            exact ⟨⟨k + 1,y,by omega,hle.1,by omega,rfl,by go_num,HB3.out,HS.out⟩,by simp [intOf];omega⟩
      · have hkl : k = l.length := by omega
        have hs2 : leftGo most dp l = x:=by rw [hs,List.drop_eq_nil_of_le (by omega)];simp only [leftGo]
        have HS2:=zh hs2
        have lk : ¬ (k : Int) < l.length:=by omega
        clear hs hs2
        go_wp2_with fail
        go_ret
        exact ⟨by rw [HS2.out];rfl,hb⟩
theorem ref9_FewG (l : List NodeL) (A : Option Addr) (c : Nat) (w : World) (B : Nat) (most : Int) (hm0 : 0 ≤ most) (hm1 : most ≤ 100000) (hlen : l.length ≤ maxLen) (hfit : fitNs l) (hB : B ≤ w.heap.size) (hok : ROk w B A l) :
    Calls Try.prog 6 #[.slice A l.length c, .int .i64 most] w fun e w' => e = .returned (.bool (decide (0 ≤ leftL most 12 l))) ∧ Below w.heap.size w w':=by
  have H:=zh (ref9_leftG 12 l A c w B most (by omega) (by omega) hm1 hlen hfit hB hok)
  clear hok hfit
  have e12 : ((12 : Nat) : Int) = 12:=rfl
  rw [e12] at H
  generalize leftL most 12 l = r at *
  go_enter Try.func6,Try.ntmps6
  go_wp2_with fail
  refine H.out.mono ?_
  rintro e w1 ⟨rfl,hb1⟩
  go_wp2
  go_ret
  exact ⟨by first | rfl | exact ret_bool (by simp),hb1⟩
end
section
set_option maxRecDepth 100000
open Go.RowKit Go.WideShapes Go.ChangeShapes Go.WideElems Go.Deep
section
variable {H : Type} {enc : TypeId × Value → H} {P : Program} {w : World} {base : Nat} {spare : Nat → Bool} {held : Bool}
/-- A slice of structs whose fields are one cell each,opened;each field is read with less fuel. -/
theorem open_slice_less {t e : TypeId} {fs : Array Field} {fuel : Nat} {cs : List Value} {x : DataW H × List MemPlace} (ht : P.underlying t = some (.slice e)) (he : P.underlying e = some (.struct fs))
    (hone : oneCellFields P fs = true) (hC : P.cellsOf e = fs.size) (h : DataW.trod enc P w base spare held fuel t cs = some x) :
    cs = [.slice none 0 0] ∨
    ∃ (a : Addr) (len cap : Nat),cs = [.slice (some a) len cap] ∧ len ≤ cap ∧ cap ≤ maxLen ∧
      ∀ i,i < len → ∀ (j : Nat) (f : Field),fs[j]? = some f → ∃ (v : Value) (y : DataW H × List MemPlace) (n : Nat),n < fuel ∧ w.cell? (a.add (i * fs.size + j)) = some v ∧ DataW.trod enc P w base spare held n f.type [v] = some y:=by
  rcases DataW.trod_slice ht h with h0 | ⟨a,len,cap,elems,rest,n,hfu,hcs,hx,hb,hl,hm,hlen,hel,_,_⟩
  · exact .inl h0.1
  · refine .inr ⟨a,len,cap,hcs,hl,hm,fun i him j f hj => ?_⟩
    have hi:=hel i him
    rw [List.getElem?_eq_getElem (by omega)] at hi
    obtain ⟨cs',hc,ht'⟩:=Option.bind_eq_some_iff.1 hi
    rw [hC] at hc
    obtain ⟨ys,n',hn',hy,hlen',hyl,hf⟩:=DataW.trod_struct he ht'
    obtain ⟨_,hcl,hat⟩:=World.cells?_some hc
    obtain ⟨ho,hk⟩:=hone_of hone j f hj
    have hjl : j < fs.size:=(Array.getElem?_eq_some_iff.1 hj).1
    have hcell:=hat j hjl
    have hv : cs'[j]? = some (cs'[j]'(by omega)):=List.getElem?_eq_getElem (by omega)
    have h1:=hf j f hj
    rw [ho,hk] at h1
    have hone' : (cs'.drop j).take 1 = [cs'[j]'(by omega)] := by
      rw [List.drop_eq_getElem_cons (by omega)]
      rfl
    rw [hone'] at h1
    have hys : ys[j]? = some (ys[j]'(by omega)):=List.getElem?_eq_getElem (by omega)
    refine ⟨_,_,n',by omega,?_,h1.trans hys⟩
    rw [← Go.Deep.add_add,hcell,hv]
end
theorem exists_list {α : Type} (n : Nat) (p : Nat → α → Prop) (h : ∀ i,i < n → ∃ a,p i a) : ∃ l : List α,l.length = n ∧ ∀ i a,l[i]? = some a → p i a := by
  induction n with
  | zero => exact ⟨[],rfl,fun i a h => by simp at h⟩
  | succ n ih =>
    obtain ⟨l,hl,hp⟩:=ih fun i hi => h i (by omega)
    obtain ⟨a,ha⟩:=h n (by omega)
    refine ⟨l ++ [a],by simp [hl],fun i b hb => ?_⟩
    by_cases hi : i < l.length
    · rw [List.getElem?_append_left hi] at hb
      exact hp i b hb
    · rw [List.getElem?_append_right (by omega)] at hb
      have h0 : i - l.length = 0 := by
        have:=(List.getElem?_eq_some_iff.1 hb).1
        simp at this
        omega
      rw [h0] at hb
      simp at hb
      subst hb
      rw [show i = n by omega]
      exact ha
theorem cell_lt {w : World} {p : Addr} {v : Value} (h : w.cell? p = some v) : p.block < w.heap.size := by
  rcases Nat.lt_or_ge p.block w.heap.size with hlt | hge
  · exact hlt
  · exfalso
    unfold World.cell? at h
    rw [Array.getElem?_eq_none hge] at h
    simp at h
theorem open_words {H : Type} {enc : TypeId × Value → H} {w : World} {base : Nat} {spare : Nat → Bool} {held : Bool} {fuel : Nat} {cs : List Value} {x : DataW H × List MemPlace}
    (h : DataW.trod enc Try.prog w base spare held fuel 22 cs = some x) :
    ∃ (A : Option Addr) (c : Nat) (l : List WordL),cs = [.slice A l.length c] ∧ NilOk A c ∧ ReadsM w (· < w.heap.size) 4 A l.length (l.flatMap WordL.cells) ∧ l.length ≤ maxLen ∧ ∀ t ∈ l,t.s.length ≤ maxLen:=by
  rcases open_slice_less Try.underlying22 Try.underlying47 (by kernel_rfl) (by kernel_rfl) h with rfl | ⟨a,len,cap,rfl,hl,hm,hi⟩
  · exact ⟨none,0,[],rfl,fun _ => rfl,ReadsM.nil _ _ _ _,by simp,by simp⟩
  · obtain ⟨l,hlen,hp⟩ := exists_list len (fun (i : Nat) (t : WordL) => t.s.length ≤ maxLen ∧ w.cell? (a.add (i * 4)) = some (.bool t.num) ∧ w.cell? (a.add (i * 4 + 1)) = some (.int .i64 t.n) ∧ w.cell? (a.add (i * 4 + 2)) = some (.string ⟨t.s.toArray⟩) ∧ w.cell? (a.add (i * 4 + 3)) = some (.int .i64 t.pos)) (fun i him => by
      obtain ⟨v0,y0,n0,_,c0,t0⟩:=hi i him 0 _ rfl
      obtain ⟨v1,y1,n1,_,c1,t1⟩:=hi i him 1 _ rfl
      obtain ⟨v2,y2,n2,_,c2,t2⟩:=hi i him 2 _ rfl
      obtain ⟨v3,y3,n3,_,c3,t3⟩:=hi i him 3 _ rfl
      obtain ⟨k0,h0,_⟩:=DataW.trod_bool Try.underlying4 t0
      obtain ⟨k1,h1,_,w1⟩:=DataW.trod_int (k:=.i64) Try.underlying3 t1
      obtain ⟨k2,h2,_,w2⟩:=DataW.trod_string Try.underlying9 t2
      obtain ⟨k3,h3,_,w3⟩:=DataW.trod_int (k:=.i64) Try.underlying3 t3
      simp only [List.cons.injEq,and_true] at h0 h1 h2 h3
      subst h0 h1 h2 h3
      exact ⟨⟨k0,k1,k2.data.toList,k3⟩,by rw [ba_len];exact w2,c0,c1,by simpa using c2,c3⟩)
    subst hlen
    refine ⟨some a,cap,l,rfl,fun h => by simp at h,⟨wcells_length l,fun h0 => ⟨a,rfl,?_,fun j u hj => ?_⟩⟩,by omega,fun t ht => ?_⟩
    · have h1 := (hp 0 _ (List.getElem?_eq_getElem h0)).2.1
      have:=cell_lt h1
      rwa [block_of_add] at this
    · have hj4 : j < l.length * 4 := by
        have:=(List.getElem?_eq_some_iff.1 hj).1
        rwa [wcells_length] at this
      have hi4 : j / 4 < l.length:=by omega
      have hg:=wflat_get l (j / 4) _ (List.getElem?_eq_getElem hi4) (j % 4) (by omega)
      rw [show j / 4 * 4 + j % 4 = j by omega,hj] at hg
      obtain ⟨_,q0,q1,q2,q3⟩:=hp (j / 4) _ (List.getElem?_eq_getElem hi4)
      have hm4 : j % 4 = 0 ∨ j % 4 = 1 ∨ j % 4 = 2 ∨ j % 4 = 3:=by omega
      rcases hm4 with h4 | h4 | h4 | h4
      · rw [h4] at hg;simp [WordL.cells] at hg;rw [show j = j / 4 * 4 by omega,hg];exact q0
      · rw [h4] at hg;simp [WordL.cells] at hg;rw [show j = j / 4 * 4 + 1 by omega,hg];exact q1
      · rw [h4] at hg;simp [WordL.cells] at hg;rw [show j = j / 4 * 4 + 2 by omega,hg];exact q2
      · rw [h4] at hg;simp [WordL.cells] at hg;rw [show j = j / 4 * 4 + 3 by omega,hg];exact q3
    · obtain ⟨i,hi,rfl⟩ := List.mem_iff_getElem.1 ht
      exact (hp i _ (List.getElem?_eq_getElem hi)).1
/-- Five cells from an address on. -/
def At5 (w : World) (a : Addr) (i : Nat) (cs : List Value) : Prop:=cs.length = 5 ∧ ∀ j u,cs[j]? = some u → w.cell? (a.add (i * 5 + j)) = some u
theorem nodes_ok {w : World} {M : Nat → Prop} {a : Addr} : ∀ (l : List NodeL) (i : Nat),(∀ (j : Nat) (n : NodeL),l[j]? = some n → ∃ cs,At5 w a (i + j) cs ∧ NodeOk w M n cs) →
    ∃ kcs,kcs.length = l.length * 5 ∧ (∀ j u,kcs[j]? = some u → w.cell? (a.add (i * 5 + j)) = some u) ∧ NodesOk w M l kcs
  | [],i,_ => ⟨[],rfl,fun j u h => by simp at h,by simp only [NodesOk]⟩
  | n :: r,i,h => by
    obtain ⟨cs,⟨h1,h2⟩,h3⟩:=h 0 n rfl
    obtain ⟨kcs,k1,k2,k3⟩ := nodes_ok r (i + 1) (fun j m hj => by
      have:=h (j + 1) m (by simpa using hj)
      rwa [show i + (j + 1) = i + 1 + j by omega] at this)
    refine ⟨cs ++ kcs,by rw [List.length_append,h1,k1,List.length_cons];omega,fun j u hj => ?_,by simp only [NodesOk];exact ⟨cs,kcs,rfl,h3,k3⟩⟩
    by_cases hj5 : j < 5
    · rw [List.getElem?_append_left (by omega)] at hj
      simpa using h2 j u hj
    · rw [List.getElem?_append_right (by omega),h1] at hj
      have:=k2 (j - 5) u hj
      rwa [show (i + 1) * 5 + (j - 5) = i * 5 + j by omega] at this
theorem fitNs_of : ∀ (l : List NodeL),(∀ (j : Nat) (n : NodeL),l[j]? = some n → fitN n) → fitNs l
  | [],_ => trivial
  | n :: r,h => ⟨h 0 n rfl,fitNs_of r fun j m hj => h (j + 1) m (by simpa using hj)⟩
theorem open_nodes_fuel {H : Type} {enc : TypeId × Value → H} {w : World} {base : Nat} {spare : Nat → Bool} {held : Bool} : ∀ (N fuel : Nat),fuel < N → ∀ {cs : List Value} {x : DataW H × List MemPlace},
    DataW.trod enc Try.prog w base spare held fuel 23 cs = some x →
    ∃ (A : Option Addr) (c : Nat) (l : List NodeL),cs = [.slice A l.length c] ∧ NilOk A c ∧ ROk w w.heap.size A l ∧ l.length ≤ maxLen ∧ fitNs l
  | 0,fuel,hf,_,_,_ => by omega
  | N + 1,fuel,hf,cs,x,h => by
    rcases open_slice_less Try.underlying23 Try.underlying25 (by kernel_rfl) (by kernel_rfl) h with rfl | ⟨a,len,cap,rfl,hl,hm,hi⟩
    · exact ⟨none,0,[],rfl,fun _ => rfl,⟨[],ReadsM.nil _ _ _ _,by simp only [NodesOk]⟩,by simp,trivial⟩
    · obtain ⟨l,hlen,hp⟩ := exists_list len (fun (i : Nat) (n : NodeL) => fitN n ∧ ∃ cs,At5 w a i cs ∧ NodeOk w (· < w.heap.size) n cs) (fun i him => by
        obtain ⟨v0,y0,n0,_,c0,t0⟩:=hi i him 0 _ rfl
        obtain ⟨v1,y1,n1,_,c1,t1⟩:=hi i him 1 _ rfl
        obtain ⟨v2,y2,n2,_,c2,t2⟩:=hi i him 2 _ rfl
        obtain ⟨v3,y3,n3,_,c3,t3⟩:=hi i him 3 _ rfl
        obtain ⟨v4,y4,n4,l4,c4,t4⟩:=hi i him 4 _ rfl
        obtain ⟨k0,h0,_,w0⟩:=DataW.trod_string Try.underlying9 t0
        obtain ⟨k1,h1,_,w1⟩:=DataW.trod_int (k:=.i64) Try.underlying3 t1
        obtain ⟨Aw,cw,ws,h2,g1,g2,g3,g4⟩:=open_words t2
        obtain ⟨k3,h3,_⟩:=DataW.trod_bool Try.underlying4 t3
        obtain ⟨Ak,ck,ks,h4,g5,⟨kcs,g6,g7⟩,g8,g9⟩:=open_nodes_fuel N n4 (by omega) t4
        simp only [List.cons.injEq,and_true] at h0 h1 h2 h3 h4
        subst h0 h1 h2 h3 h4
        refine ⟨.mk k0.data.toList k1 ws k3 ks,⟨by rw [ba_len];exact w0,g3,g4,g8,g9⟩,[.string k0, .int .i64 k1, .slice Aw ws.length cw, .bool k3, .slice Ak ks.length ck],⟨rfl,fun j u hj => ?_⟩,?_⟩
        · have hj5 : j < 5 := (List.getElem?_eq_some_iff.1 hj).1
          have hm5 : j = 0 ∨ j = 1 ∨ j = 2 ∨ j = 3 ∨ j = 4:=by omega
          rcases hm5 with rfl | rfl | rfl | rfl | rfl <;> (simp only [List.getElem?_cons_zero,List.getElem?_cons_succ,Option.some.injEq] at hj;subst hj;assumption)
        · simp only [NodeOk]
          exact ⟨Aw,cw,Ak,ck,kcs,by simp,g1,g5,g2,g6,g7⟩)
      subst hlen
      obtain ⟨kcs,k1,k2,k3⟩ := nodes_ok l 0 (fun j n hj => by
        have:=(hp j n hj).2
        rwa [Nat.zero_add])
      refine ⟨some a,cap,l,rfl,fun h => by simp at h,⟨kcs,⟨k1,fun h0 => ⟨a,rfl,?_,fun j u hj => by simpa using k2 j u hj⟩⟩,k3⟩,by omega,fitNs_of l fun j n hj => (hp j n hj).1⟩
      have hk0 : 0 < kcs.length:=by omega
      have:=cell_lt (k2 0 _ (List.getElem?_eq_getElem hk0))
      rwa [block_of_add] at this
theorem open_nodes {H : Type} {enc : TypeId × Value → H} {w : World} {base : Nat} {spare : Nat → Bool} {held : Bool} {v : Value} {d : DataW H} {ps : List MemPlace} {r : Reach} {b0 : Nat}
    (hval : Value.okWide Try.prog w r b0 23 v) (hd : DataW.Trod enc Try.prog w base spare held 23 v d ps) :
    ∃ (A : Option Addr) (c : Nat) (l : List NodeL),v = .slice A l.length c ∧ NilOk A c ∧ ROk w w.heap.size A l ∧ l.length ≤ maxLen ∧ fitNs l:=by
  obtain ⟨A,n,c,rfl⟩:=okWide_slice Try.underlying23 hval
  obtain ⟨fuel,hf⟩:=hd
  obtain ⟨A',c',l,h1,h2⟩:=open_nodes_fuel (fuel + 1) fuel (by omega) hf
  simp only [Value.cells] at h1
  refine ⟨A',c',l,?_,h2⟩
  simpa using h1
end
end Go.Proofs.Ytpkhocbohhpmbaa
