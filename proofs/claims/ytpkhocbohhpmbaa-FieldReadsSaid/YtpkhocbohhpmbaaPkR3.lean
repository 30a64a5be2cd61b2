/- Words for memory: a slice that reads as a list of cells; a row of the call's own that is kept. Over any program. Then: Layer 8 (lex): the walk of the program's Cut. Then: Layer 8 (lex), in plain Lean: where a text that is wrong is wrong. Then: Layer 9 (tree), in plain Lean: items, and how tokens are read as items. -/
import Derived.Test.YtpkhocbohhpmbaaPkR1
import Derived.Deep.Draws
import Derived.Test.YtpkhocbohhpmbaaPkR2
namespace Go.Proofs.Ytpkhocbohhpmbaa
section
open Go.RowKit
theorem block_of_add (a : Addr) (n : Nat) : (a.add n).block = a.block:=by unfold Addr.add;split <;> rfl
theorem add_of_add (a : Addr) (i j : Nat) : (a.add i).add j = a.add (i + j) := by
  unfold Addr.add
  by_cases hi : i = 0 <;> by_cases hj : j = 0 <;> simp [hi,hj,Nat.add_assoc]
/-- The slice with the address A,of n elements of so many cells each,reads as the cells xs,below block B. -/
def Reads (w : World) (B size : Nat) (A : Option Addr) (n : Nat) (xs : List Value) : Prop :=
  xs.length = n * size ∧ (0 < n → ∃ ad,A = some ad ∧ ad.block < B ∧ ∀ j u,xs[j]? = some u → w.cell? (ad.add j) = some u)
section
variable {w w' : World} {B B' size n : Nat} {A : Option Addr} {xs : List Value}
theorem Reads.none_ : Reads w B size A 0 []:=⟨by simp,fun h => absurd h (by omega)⟩
theorem Reads.keep (h : Reads w B size A n xs) (hk : ∀ p : Addr,p.block < B → w'.cell? p = w.cell? p) : Reads w' B size A n xs :=
  ⟨h.1,fun hn => by
    obtain ⟨ad,e,hb,hc⟩:=h.2 hn
    exact ⟨ad,e,hb,fun j u hu => (hk _ (by rw [block_of_add];exact hb)).trans (hc j u hu)⟩⟩
theorem Reads.more (h : Reads w B size A n xs) (hB : B ≤ B') : Reads w B' size A n xs :=
  ⟨h.1,fun hn => by
    obtain ⟨ad,e,hb,hc⟩:=h.2 hn
    exact ⟨ad,e,by omega,hc⟩⟩
theorem Reads.below (h : Reads w B size A n xs) (hb : Below B w w') : Reads w' B size A n xs:=h.keep fun _ hp => hb.cell hp
theorem Reads.drew (h : Reads w B size A n xs) : Reads w.drew B size A n xs:=h
theorem Reads.drewN (h : Reads w B size A n xs) (k : Nat) : Reads (w.drewN k) B size A n xs:=h
theorem Reads.alloc (h : Reads w B size A n xs) (hB : B ≤ w.heap.size) (o : Obj) : Reads (w.alloc o) B size A n xs:=h.keep fun p hp => World.cell?_alloc_lt w o p (by omega)
theorem Reads.setCell (h : Reads w B size A n xs) {p : Addr} (hB : B ≤ p.block) (u : Value) : Reads (w.setCell p u) B size A n xs :=
  h.keep fun q hq => World.cell?_setCell_other w p q u (fun e => by subst e;omega)
theorem Reads.grown (h : Reads w B size A n xs) {row : Option Nat} (hg : w.grownBy w' row) (hB : B ≤ w.heap.size) (hr : ∀ g,row = some g → B ≤ g) : Reads w' B size A n xs :=
  h.keep fun p hp => World.cell?_of_block (hg.block p.block (by omega) (fun e => by have:=hr _ e.symm;omega))
theorem Reads.cut (h : Reads w B size A n xs) {k cap : Nat} (hk : k ≤ n) (hc : n ≤ cap) :
    Reads w B size (if cap = k then A else A.map (·.add (k * size))) (n - k) (xs.drop (k * size)):=by
  refine ⟨by rw [List.length_drop,h.1,Nat.sub_mul],fun hn => ?_⟩
  obtain ⟨ad,rfl,hb,hcell⟩:=h.2 (by omega)
  rw [if_neg (by omega)]
  refine ⟨ad.add (k * size),rfl,by rw [block_of_add];exact hb,fun j u hu => ?_⟩
  rw [add_of_add]
  exact hcell _ u (by rw [← hu,List.getElem?_drop])
theorem Reads.of_own {base : Nat} {e : TypeId} {c : Nat} (h : w.ownsRow base e size (.slice A n c) n xs) : Reads w w.heap.size size A n xs := by
  refine ⟨h.1,fun hn => ?_⟩
  rcases h.2 with ⟨_,h0⟩ | ⟨g,cap,cur,hv,_,hh,_⟩
  · omega
  have hA : A = some ⟨g,0,none⟩:=by injection hv
  subst hA
  refine ⟨_,rfl,?_,h.cells (g:=g) rfl⟩
  rcases Nat.lt_or_ge g w.heap.size with hlt | hge
  · exact hlt
  · rw [Array.getElem?_eq_none hge] at hh;cases hh
end
section
variable {w w' : World} {base : Nat} {e : TypeId} {size n : Nat} {v : Value} {xs : List Value}
theorem own_form (h : w.ownsRow base e size v n xs) : ∃ A c,v = .slice A n c ∧ n ≤ c := by
  rcases h.2 with ⟨rfl,rfl⟩ | ⟨g,cap,cur,rfl,_,_,hn,_⟩
  · exact ⟨none,0,rfl,Nat.le_refl _⟩
  · exact ⟨_,cap,rfl,hn⟩
theorem own_head (h : w.ownsRow base e size v n xs) (hn : 0 < n) : ∃ g c,v = .slice (some ⟨g,0,none⟩) n c ∧ base ≤ g ∧ g < w.heap.size := by
  rcases h.2 with ⟨_,h0⟩ | ⟨g,cap,cur,hv,hg,hh,_⟩
  · omega
  · refine ⟨g,cap,hv,hg,?_⟩
    rcases Nat.lt_or_ge g w.heap.size with hlt | hge
    · exact hlt
    · rw [Array.getElem?_eq_none hge] at hh;cases hh
theorem own_below (h : w.ownsRow base e size v n xs) (hb : Below w.heap.size w w') : w'.ownsRow base e size v n xs := by
  refine ⟨h.1,?_⟩
  rcases h.2 with h2 | ⟨g,cap,cur,hv,hg,hh,r⟩
  · exact Or.inl h2
  · refine Or.inr ⟨g,cap,cur,hv,hg,?_,r⟩
    have hlt : g < w.heap.size := by
      rcases Nat.lt_or_ge g w.heap.size with hlt | hge
      · exact hlt
      · rw [Array.getElem?_eq_none hge] at hh;cases hh
    rw [hb.block g hlt];exact hh
theorem own_set (h : w.ownsRow base e size v n xs) {p : Addr} (hp : v.ownBlock ≠ some p.block) (u : Value) : (w.setCell p u).ownsRow base e size v n xs := by
  refine ⟨h.1,?_⟩
  rcases h.2 with h2 | ⟨g,cap,cur,hv,hg,hh,r⟩
  · exact Or.inl h2
  · subst hv
    refine Or.inr ⟨g,cap,cur,rfl,hg,?_,r⟩
    rw [Below.heap_setCell _ _ _ _ (by intro h;exact hp (by simp [Value.ownBlock,h]))];exact hh
theorem own_drew (h : w.ownsRow base e size v n xs) : w.drew.ownsRow base e size v n xs:=h
theorem own_drewN (h : w.ownsRow base e size v n xs) (k : Nat) : (w.drewN k).ownsRow base e size v n xs:=h
theorem own_new (h : w.ownsRow base e size v n xs) {p : Addr} (hp : w.heap.size ≤ p.block) (u : Value) (w2 : World) (hw : w2.ownsRow base e size v n xs) : (w2.setCell p u).ownsRow base e size v n xs :=
  own_set hw (fun he => by have:=h.lt _ he;omega) u
end
/-- The cells of a new block. -/
theorem cells_new (w : World) (cs : List Value) (e : TypeId) (g : Nat) (hg : g = w.heap.size) : ∀ j u,cs[j]? = some u → (w.alloc (.cells cs.toArray e)).cell? ((⟨g,0,none⟩ : Addr).add j) = some u := by
  intro j u h
  subst hg
  have : (⟨w.heap.size,0,none⟩ : Addr).add j = ⟨w.heap.size,j,none⟩ := by
    unfold Addr.add;split
    · rename_i h0;subst h0;rfl
    · simp
  rw [this,World.cell?_alloc_new]
  simpa using h
theorem below_drewN {B : Nat} {a w : World} (h : Below B a w) (n : Nat) : Below B a (w.drewN n):=⟨h.os,h.tape,h.output,h.size,h.block⟩
/-- Behind a law that ends in 'grownBy' over a row of the call's own. -/
theorem below_own {B : Nat} {a w w' : World} {base : Nat} {e : TypeId} {size n : Nat} {v : Value} {xs : List Value} (h : Below B a w) (hg : w.grownBy w' v.ownBlock) (hB : B ≤ w.heap.size) (hown : w.ownsRow base e size v n xs) (hbase : B ≤ base) : Below B a w' :=
  h.grown hg hB fun k hk => by have:=hown.lt k hk;omega
end
section
open Go.RowKit
open Go.Lib renaming hid → zh
/-- A token's cells. -/
def Tok.cells (t : Tok) : List Value:=[.int .i64 t.kind, .int .i64 t.pos, .int .i64 t.n, .string ⟨t.s.toArray⟩]
theorem info_tok : (Try.prog.info? 79).map (fun i => (i.zero,i.size,i.bytes)) = some (some (.agg #[.int .i64 0, .int .i64 0, .int .i64 0, .string ⟨#[]⟩]),4,40):=by kernel_rfl
theorem cells_length (l : List Tok) : (l.flatMap Tok.cells).length = l.length * 4 := by
  induction l with
  | nil => rfl
  | cons t l ih => simp only [List.flatMap_cons,List.length_append,ih,List.length_cons,Tok.cells,List.length_nil];omega
/-- The slice value v reads,in a row from 'base' on,as the tokens l. -/
def OwnToks (w : World) (base : Nat) (v : Value) (l : List Tok) : Prop:=w.ownsRow base 79 4 v l.length (l.flatMap Tok.cells)
/-- What Cut leaves. -/
def CutPost (w : World) (r : CutRes) (e : Ending) (w' : World) : Prop :=
  ∃ v,e = .returned (.tuple #[v, .int .i64 r.pos, .int .i64 r.err]) ∧ OwnToks w' w.heap.size v r.toks ∧ Below w.heap.size w w'
/-- What holds ahead of each round: what is known of what was cut so far. -/
def CutI (s : ByteArray) (w : World) (k : Nat) (v : Value) (acc : List Tok) (wr : World) : Prop :=
  k ≤ s.size ∧ acc.length ≤ k ∧ OwnToks wr w.heap.size v acc ∧ Below w.heap.size w wr ∧ freeM false (s.data.toList.drop k) = 0 ∧
    cutM false 0 0 0 s.data.toList = (cutM false 0 k acc.length (s.data.toList.drop k)).pre acc
theorem lex_token' (s : ByteArray) (cnt : Nat) (w : World) (h0 : 0 < s.size) (hs : s.size ≤ maxLen) (K N E : Int) (L : Nat) (S : Bytes) (ht : tokenL s.data.toList cnt = (⟨K,0,N,S⟩,L,E)) :
    Calls Try.prog 68 #[.string s, .int .i64 cnt] w fun e w' => e = .returned (.tuple #[.agg #[.int .i64 K, .int .i64 0, .int .i64 N, .string ⟨S.toArray⟩], .int .i64 L, .int .i64 E]) ∧ Below w.heap.size w w':=by
  have:=lex_token s cnt w h0 hs
  rw [ht] at this
  exact this
set_option maxRecDepth 100000 in
set_option maxHeartbeats 2000000 in
theorem lex_Cut (s : ByteArray) (w : World) (hs : s.size ≤ maxLen) :
    Calls Try.prog 44 #[.string s] w (CutPost w (cutL s.data.toList)):=by
  have hs':=hs
  unfold maxLen at hs'
  have hcut : cutL s.data.toList = if s.size > 65536 then ⟨[],0,6⟩ else cutM false 0 0 0 s.data.toList:=by unfold cutL;rw [ba_len]
  have HC:=zh hcut
  clear hcut
  by_cases hbig : s.size > 65536
  · go_enter Try.func44,Try.ntmps44
    go_wp2
    go_ret3
    refine ⟨.slice none 0 0,?_,?_,?_⟩
    · rw [HC.out,if_pos hbig];rfl
    · rw [HC.out,if_pos hbig];exact World.ownsRow_nil _ _ _ _
    · exact Below.refl _ _
  · obtain ⟨i0,hi,hz0,hz1,hz2⟩ := info_parts info_tok
    have hfl:=freeM_le false s.data.toList
    rw [ba_len] at hfl
    have hff:=freeM_free false s.data.toList
    have hfc:=cutM_free false 0 0 s.data.toList
    rw [Nat.zero_add] at hfc
    have hfree:=lex_free s w hs
    generalize freeM false s.data.toList = f0 at *
    have HF:=zh hff
    have HF2:=zh hfc
    have HF3:=zh hfree
    clear hff hfc hfree
    go_enter Try.func44,Try.ntmps44
    go_wp2_with fail
    refine HF3.out.mono ?_
    rintro e w' ⟨rfl,rfl⟩
    go_wp2_with fail
    go_loopw [5,6] (fun v i wr => ∃ (k : Nat) (acc : List Tok),i = .int .i64 k ∧ CutI s w k v acc wr) (fun _ i _ => s.size - (intOf i).toNat)
    case atStart => exact ⟨f0,[],rfl,hfl,Nat.zero_le _,World.ownsRow_nil _ _ _ _,Below.refl _ _,HF.out,by rw [HF2.out,cutM_pre_nil];rfl⟩
    case round =>
      obtain ⟨k,acc,rfl,hk,hak,hown,hB,hfr,hcm⟩:=hrel
      obtain ⟨A,c,rfl,hnc⟩:=own_form hown
      have hbs:=hB.size
      by_cases hlt : k < s.size
      · have hne : s.data.toList.drop k ≠ [] := by rw [ba_drop_cons s k hlt]; simp
        have hst:=cutM_tok k acc.length _ hne hfr
        obtain ⟨hlen,hL1,hP⟩:=tokenL_len _ acc.length hne
        rw [List.length_drop,ba_len] at hlen
        have htok:=fun K N E L S => lex_token' (s.extract k s.size) acc.length wr (by simp;omega) (by simp;omega) K N E L S
        rw [ba_from] at htok
        obtain ⟨⟨⟨K,p,N,S⟩,L,E⟩,hT⟩ : ∃ T,T = tokenL (s.data.toList.drop k) acc.length:=⟨_,rfl⟩
        rw [← hT] at hst hlen hL1 hP
        simp only at hP hst hlen hL1
        subst hP
        have htok':=htok K N E L S hT.symm
        have HTOK:=zh htok'
        clear htok htok' hT hne hfr
        by_cases hE : E = 0
        · rw [if_neg (by simp [hE])] at hst
          have hL:=hL1 hE
          subst hE
          rw [hst,CutRes.pre_cons] at hcm
          have HM:=zh hcm
          have hfr2:=fun w => lex_free (s.extract (k + L) s.size) w (by simp;omega)
          rw [ba_from] at hfr2
          have hfl2:=freeM_le false (s.data.toList.drop (k + L))
          rw [List.length_drop,ba_len] at hfl2
          have hf0:=freeM_free false (s.data.toList.drop (k + L))
          have hfc2:=cutM_free false (k + L) (acc.length + 1) (s.data.toList.drop (k + L))
          rw [List.drop_drop] at hf0 hfc2
          generalize freeM false (s.data.toList.drop (k + L)) = f1 at *
          have HFR:=zh hfr2
          have HF0:=zh hf0
          have HFC:=zh hfc2
          clear hcm hst hL1 hfr2 hf0 hfc2
          go_wp2_with fail
          refine HTOK.out.mono ?_
          rintro e w2 ⟨rfl,hb2⟩
          have hown2:=own_below (show wr.ownsRow _ _ _ _ _ _ from hown) hb2
          have hsz2:=hb2.size
          go_wp2_with (first | (at_builtin;refine wpList_append_own _ rfl _ _ 69 rfl w.heap.size 79 i0 _ 4 40 Try.underlying69 hi hz0 hz1 hz2 rfl (by decide) _ _ _ rfl ((hown2.alloc _).alloc _) ⟨w2.heap.size + 1,0,none⟩ 1 1 [.int .i64 K, .int .i64 k, .int .i64 N, .string ⟨S.toArray⟩] rfl rfl (cells_new _ [.int .i64 K, .int .i64 k, .int .i64 N, .string ⟨S.toArray⟩] _ _ (by simp)) (fun x hx => by simp at hx;rcases hx with rfl | rfl | rfl | rfl <;> rfl) (by unfold maxLen;omega) (by omega) (by simp;omega) ?_;intro v' w3 hown3 hgrow3 _))
          refine (HFR.out _).mono ?_
          rintro e w4 ⟨rfl,rfl⟩
          have hB3 : Below w.heap.size w w3 := by
            refine below_own ?_ hgrow3 (by simp;omega) ((hown2.alloc _).alloc _) (Nat.le_refl _)
            exact ((hB.trans (hb2.mono hbs)).alloc (by omega) _).alloc (by simp;omega) _
          have hown4 : OwnToks w3 w.heap.size v' (acc ++ [⟨K,k,N,S⟩]) := by
            unfold OwnToks
            rw [List.length_append,List.flatMap_append]
            exact hown3
          clear hgrow3 hown3 hown2 hown
          go_wp2
          go_roundw
          case rel =>
            refine ⟨k + L + f1,acc ++ [⟨K,k,N,S⟩],by go_num,by omega,by rw [List.length_append];simp;omega,hown4,hB3,HF0.out,?_⟩
            rw [HM.out,List.drop_drop,HFC.out,List.length_append]
            rfl
          case measure => simp [intOf];omega
        · rw [if_pos (by simpa using hE)] at hst
          rw [hst] at hcm
          have hE0 : (E == 0) = false:=by simpa using hE
          have HM:=zh hcm
          clear hcm hst hL1
          go_wp2_with fail
          refine HTOK.out.mono ?_
          rintro e w2 ⟨rfl,hb2⟩
          go_wp2_with fail
          go_ret3
          refine ⟨.slice none 0 0,?_,?_,?_⟩
          · rw [HC.out,if_neg hbig,HM.out];simp [CutRes.pre,hE]
          · rw [HC.out,if_neg hbig,HM.out];simp [CutRes.pre,hE];exact World.ownsRow_nil _ _ _ _
          · have hsz2 := hb2.size
            exact (hB.trans (hb2.mono hbs)).alloc (by omega) _
      · have hkk : k = s.size := by omega
        rw [ba_drop_nil s k (by omega),cutM_nil] at hcm
        have HM:=zh hcm
        clear hcm hfr hkk
        go_wp2_with fail
        go_ret3
        refine ⟨.slice A acc.length c,?_,?_,hB⟩
        · rw [HC.out,if_neg hbig,HM.out];rfl
        · rw [HC.out,if_neg hbig,HM.out];simpa [CutRes.pre] using hown
end
section
theorem runL_take (p : UInt8 → Bool) : ∀ (l : Bytes) (q : Nat),runL p l ≤ q → runL p (l.take q) = runL p l
  | [],q,_ => by simp
  | c :: l,q,h => by
    rw [runL_cons] at h ⊢
    cases hc : p c
    · cases q with
      | zero => simp [runL]
      | succ q => rw [List.take_succ_cons,runL_cons,hc];rfl
    · rw [hc,if_pos rfl] at h
      cases q with
      | zero => omega
      | succ q => rw [List.take_succ_cons,runL_cons,hc,if_pos rfl,if_pos rfl,runL_take p l q (by omega)]
theorem getElem?_take (l : Bytes) (q m : Nat) : (l.take q)[m]? = if m < q then l[m]? else none := by
  rw [List.getElem?_take]
theorem numberL_take (l : Bytes) (q : Nat) (hq : runL isDigit l ≤ q) (h0 : 0 < q) (h : (numberL l).2.2 = 0) : numberL (l.take q) = numberL l := by
  have h1:=runL_take isDigit l q hq
  have h2 : (l.take q).head? = l.head? := by
    cases l with
    | nil => simp
    | cons c l => cases q with
      | zero => omega
      | succ q => simp
  unfold numberL at h ⊢
  rw [h1,h2]
  dsimp only at h ⊢
  split at h
  · simp at h
  split at h
  · simp at h
  split at h
  · simp at h
  rename_i a1 a2 a3
  rw [if_neg a1,if_neg a2,if_neg a1,if_neg a2,if_neg a3,if_neg ?_,List.take_take,Nat.min_eq_left hq]
  rw [getElem?_take]
  split
  · exact a3
  · simp
theorem tokenL_take (l : Bytes) (cnt q : Nat) (hl : l ≠ []) (he : (tokenL l cnt).2.2 = 0) (hq : (tokenL l cnt).2.1 ≤ q) : tokenL (l.take q) cnt = tokenL l cnt := by
  have hlen:=tokenL_len l cnt hl
  have h1:=hlen.2.1 he
  cases l with
  | nil => exact absurd rfl hl
  | cons c l =>
    cases q with
    | zero => omega
    | succ q =>
      rw [List.take_succ_cons,tokenL_def,tokenL_def,← List.take_succ_cons]
      rw [tokenL_def] at he hq
      split
      · rfl
      rename_i a1
      rw [if_neg a1] at he hq
      split
      · rfl
      rename_i a2
      rw [if_neg a2] at he hq
      split
      · rfl
      rename_i a3
      rw [if_neg a3] at he hq
      split
      · rename_i a4
        rw [if_pos a4] at he hq
        have hr : runL isDigit (c :: l) ≤ q + 1 := by
          have : (numberL (c :: l)).2.1 = runL isDigit (c :: l) := by
            unfold numberL at he ⊢
            dsimp only at he ⊢
            split at he
            · simp at he
            split at he
            · simp at he
            split at he
            · simp at he
            rename_i b1 b2 b3
            rw [if_neg b1,if_neg b2,if_neg b3]
          rw [← this];exact hq
        rw [numberL_take (c :: l) (q + 1) hr (by omega) he]
      · rename_i a4
        rw [if_neg a4] at he hq
        split at he
        · simp at he
        rename_i a5
        rw [if_neg a5] at hq
        have h2:=runL_take isInner (c :: l) (q + 1) hq
        rw [h2,if_neg a5,if_neg a5,List.take_take,Nat.min_eq_left hq]
theorem cutM_all : ∀ (b : Bool) (j pos cnt : Nat) (l : Bytes),l.length ≤ j → cutM b j pos cnt l = ⟨[],0,0⟩
  | b,j,pos,cnt,[],_ => cutM_nil b j pos cnt
  | b,0,pos,cnt,c :: r,h => by simp at h
  | b,j + 1,pos,cnt,c :: r,h => by
    have:=cutM_all b j (pos + 1) cnt r (by simpa using h)
    cases b <;> exact this
/-! ### What stands ahead of an error -/
theorem cutM_before : ∀ (b : Bool) (j pos cnt : Nat) (l : Bytes),(cutM b j pos cnt l).err ≠ 0 →
    ∃ q,(cutM b j pos cnt l).pos = pos + q ∧ j ≤ q ∧ q < l.length ∧ (cutM b j pos cnt (l.take q)).err = 0
  | b,j,pos,cnt,[],h => by rw [cutM_nil] at h;exact absurd rfl h
  | b,j + 1,pos,cnt,c :: r,h => by
    have e1 : ∀ l,cutM b (j + 1) pos cnt (c :: l) = cutM b j (pos + 1) cnt l:=fun l => by cases b <;> rfl
    rw [e1] at h
    obtain ⟨q,h1,h2,h3,h4⟩:=cutM_before b j (pos + 1) cnt r h
    exact ⟨q + 1,by rw [e1,h1];omega,by omega,by simpa using h3,by rw [List.take_succ_cons,e1];exact h4⟩
  | true,0,pos,cnt,c :: r,h => by
    obtain ⟨q,h1,h2,h3,h4⟩:=cutM_before (notEol c) 0 (pos + 1) cnt r h
    exact ⟨q + 1,by show (cutM (notEol c) 0 (pos + 1) cnt r).pos = _;rw [h1];omega,by omega,by simpa using h3,by rw [List.take_succ_cons];exact h4⟩
  | false,0,pos,cnt,c :: r,h => by
    by_cases hb : isBlank c = true
    · have e1 : ∀ l,cutM false 0 pos cnt (c :: l) = cutM false 0 (pos + 1) cnt l := fun l => by rw [cutM,if_pos hb]
      rw [e1] at h
      obtain ⟨q,h1,h2,h3,h4⟩:=cutM_before false 0 (pos + 1) cnt r h
      exact ⟨q + 1,by rw [e1,h1];omega,by omega,by simpa using h3,by rw [List.take_succ_cons,e1];exact h4⟩
    by_cases h35 : c = 35
    · have e1 : ∀ l,cutM false 0 pos cnt (c :: l) = cutM true 0 (pos + 1) cnt l := fun l => by rw [cutM,if_neg hb,if_pos h35]
      rw [e1] at h
      obtain ⟨q,h1,h2,h3,h4⟩:=cutM_before true 0 (pos + 1) cnt r h
      exact ⟨q + 1,by rw [e1,h1];omega,by omega,by simpa using h3,by rw [List.take_succ_cons,e1];exact h4⟩
    have e1 : ∀ l,cutM false 0 pos cnt (c :: l) = if (tokenL (c :: l) cnt).2.2 ≠ 0 then ⟨[],pos + (tokenL (c :: l) cnt).2.1,(tokenL (c :: l) cnt).2.2⟩
        else .cons { (tokenL (c :: l) cnt).1 with pos:=pos } (cutM false ((tokenL (c :: l) cnt).2.1 - 1) (pos + 1) (cnt + 1) l):=fun l => by rw [cutM,if_neg hb,if_neg h35]
    by_cases he : (tokenL (c :: r) cnt).2.2 ≠ 0
    · rw [e1,if_pos he]
      by_cases h0 : (tokenL (c :: r) cnt).2.1 = 0
      · exact ⟨0,by rw [h0],Nat.le_refl _,by simp,by rw [List.take_zero,cutM_nil]⟩
      · -- a number with a letter behind it
        rw [tokenL_def] at he h0
        have hx : ¬(signK c = 0 ∧ isLetter c = false ∧ isDigit c = false) ∧ cnt ≠ 8192 ∧ signK c = 0 ∧ isDigit c = true := by
          split at he
          · rename_i a;rw [if_pos a] at h0;exact absurd rfl h0
          rename_i a1
          rw [if_neg a1] at h0
          split at he
          · rename_i a;rw [if_pos a] at h0;exact absurd rfl h0
          rename_i a2
          rw [if_neg a2] at h0
          split at he
          · rename_i a;exact absurd rfl he
          rename_i a3
          rw [if_neg a3] at h0
          split at he
          · rename_i a4;exact ⟨a1,a2,by simpa using a3,a4⟩
          rename_i a4
          rw [if_neg a4] at h0
          split at he
          · rename_i a;rw [if_pos a] at h0;exact absurd rfl h0
          · exact absurd rfl he
        obtain ⟨a1,a2,a3,a4⟩:=hx
        have htd : ∀ l,tokenL (c :: l) cnt = (⟨2,0,(numberL (c :: l)).1,[]⟩,(numberL (c :: l)).2.1,(numberL (c :: l)).2.2) := fun l => by
          rw [tokenL_def,if_neg a1,if_neg a2,if_neg (by simp [a3]),if_pos a4]
        rw [← tokenL_def,htd] at he h0
        dsimp only at he h0
        obtain ⟨m,hm⟩ : ∃ m,m = runL isDigit (c :: r):=⟨_,rfl⟩
        have hnum : m ≤ 9 ∧ ¬((c :: r).head? = some 48 ∧ m > 1) ∧ ((c :: r)[m]?).any isInner = true ∧ (numberL (c :: r)).2.1 = m := by
          unfold numberL at h0 he ⊢
          rw [← hm] at h0 he ⊢
          dsimp only at h0 he ⊢
          split at h0
          · exact absurd rfl h0
          rename_i b1
          rw [if_neg b1] at he
          split at h0
          · exact absurd rfl h0
          rename_i b2
          rw [if_neg b2] at he
          split at he
          · rename_i b3
            exact ⟨by omega,b2,b3,by rw [if_neg b1,if_neg b2,if_pos b3]⟩
          · exact absurd rfl he
        obtain ⟨b1,b2,b3,b4⟩:=hnum
        have hml : m < (c :: r).length := by
          rcases Nat.lt_or_ge m (c :: r).length with h | h
          · exact h
          · rw [List.getElem?_eq_none h] at b3;cases b3
        have hm0 : 0 < m:=by rw [hm];exact runL_head _ _ _ a4
        have hrt : runL isDigit ((c :: r).take m) = m:=by rw [runL_take _ _ _ (by omega),← hm]
        obtain ⟨m',rfl⟩ : ∃ m',m = m' + 1:=⟨m - 1,by omega⟩
        have hnt : (numberL ((c :: r).take (m' + 1))).2 = (m' + 1,0) := by
          unfold numberL
          rw [hrt]
          dsimp only
          rw [if_neg (by omega),if_neg ?_,if_neg ?_]
          · rw [List.getElem?_eq_none (by rw [List.length_take];omega)];simp
          · rw [List.take_succ_cons];exact b2
        refine ⟨m' + 1,by rw [htd];dsimp only;rw [b4],by omega,hml,?_⟩
        rw [List.take_succ_cons,e1,htd,← List.take_succ_cons]
        dsimp only
        rw [hnt]
        dsimp only
        rw [if_neg (by simp),cutM_all false _ _ _ _ (by rw [List.length_take];omega)]
        rfl
    · have hl := tokenL_len (c :: r) cnt (by simp)
      rw [e1,if_neg he] at h ⊢
      have he0 : (tokenL (c :: r) cnt).2.2 = 0:=by simpa using he
      have hw:=hl.2.1 he0
      have hr : (cutM false ((tokenL (c :: r) cnt).2.1 - 1) (pos + 1) (cnt + 1) r).err ≠ 0 := by
        unfold CutRes.cons at h
        split at h
        · exact absurd rfl h
        · exact h
      obtain ⟨q,h1,h2,h3,h4⟩:=cutM_before false ((tokenL (c :: r) cnt).2.1 - 1) (pos + 1) (cnt + 1) r hr
      have htk:=tokenL_take (c :: r) cnt (q + 1) (by simp) he0 (by omega)
      rw [List.take_succ_cons] at htk
      refine ⟨q + 1,?_,by omega,by simpa using h3,?_⟩
      · unfold CutRes.cons;rw [if_neg hr,h1];omega
      · rw [List.take_succ_cons,e1,htk,if_neg he]
        unfold CutRes.cons
        rw [h4];rfl
end
section
structure WordL where
  num : Bool
  n : Int
  s : Bytes
  pos : Int
  deriving DecidableEq,Repr
inductive NodeL where
  | mk (name : Bytes) (pos : Int) (words : List WordL) (block : Bool) (kids : List NodeL)
def NodeL.name : NodeL → Bytes | .mk n _ _ _ _ => n
def NodeL.pos : NodeL → Int | .mk _ p _ _ _ => p
def NodeL.words : NodeL → List WordL | .mk _ _ w _ _ => w
def NodeL.block : NodeL → Bool | .mk _ _ _ b _ => b
def NodeL.kids : NodeL → List NodeL | .mk _ _ _ _ k => k
/-- A block that is open: its name,place,words,and what stands in it so far. -/
structure FrameL where
  name : Bytes
  pos : Int
  words : List WordL
  kids : List NodeL
/-- An item that is read. -/
structure ItemL where
  name : Bytes
  pos : Int
  words : List WordL
def FrameL.add (f : FrameL) (n : NodeL) : FrameL:={ f with kids:=f.kids ++ [n] }
def FrameL.node (f : FrameL) : NodeL:=.mk f.name f.pos f.words true f.kids
def ItemL.node (i : ItemL) : NodeL:=.mk i.name i.pos i.words false []
inductive StepR where
  | bad (e : Int)
  | fine (fs : List FrameL) (it : Option ItemL)
/-- A token where an item begins,or a block ends. -/
def beginT (fs : List FrameL) (t : Tok) : StepR :=
  if t.kind = 1 then .fine fs (some ⟨t.s,t.pos,[]⟩)
  else if t.kind = 4 then (match fs with | f :: g :: r => .fine (g.add f.node :: r) none | _ => .bad 5)
  else .bad 5
/-- A token within an item. -/
def goT (fs : List FrameL) (i : ItemL) (t : Tok) : StepR :=
  if t.kind = 1 ∨ t.kind = 2 then (if i.words.length = 8 then .bad 6 else .fine fs (some { i with words:=i.words ++ [⟨decide (t.kind = 2),t.n,t.s,t.pos⟩] }))
  else if t.kind = 5 then (match fs with | f :: r => .fine (f.add i.node :: r) none | [] => .bad 5)
  else if t.kind = 3 then (if fs.length = 7 then .bad 7 else .fine (⟨i.name,i.pos,i.words,[]⟩ :: fs) none)
  else .bad 5
def stepT (fs : List FrameL) (it : Option ItemL) (t : Tok) : StepR :=
  match it with
  | none => beginT fs t
  | some i => goT fs i t
structure ParseRes where
  nodes : List NodeL
  pos : Int
  err : Int
def endT (E : Int) : List FrameL → Option ItemL → ParseRes
  | [f],none => ⟨f.kids,0,0⟩
  | _,_ => ⟨[],E,5⟩
def parseT (E : Int) : List FrameL → Option ItemL → List Tok → ParseRes
  | fs,it,[] => endT E fs it
  | fs,it,t :: ts =>
    match stepT fs it t with
    | .bad e => ⟨[],t.pos,e⟩
    | .fine fs' it' => parseT E fs' it' ts
def rootF : FrameL:=⟨[],0,[],[]⟩
def treeL (s : Bytes) : ParseRes :=
  if (cutL s).err ≠ 0 then ⟨[],(cutL s).pos,(cutL s).err⟩ else parseT s.length [rootF] none (cutL s).toks
/-! ### What may be;how deep;the same;few -/
def wordOk (w : WordL) : Bool:=if w.num then decide (w.s = []) && decide (0 ≤ w.n) && decide (w.n ≤ 999999999) else decide (w.n = 0) && nameL w.s
mutual
def checkN (d : Nat) : NodeL → Int
  | .mk nm _ ws b ks => if (!ws.all wordOk || !nameL nm || decide (8 < ws.length) || (!b && decide (0 < ks.length))) = true then 1 else if b = true ∧ d = 6 then 7 else checkL (d + 1) ks
def checkL (d : Nat) : List NodeL → Int
  | [] => 0
  | n :: r => if checkN d n ≠ 0 then checkN d n else checkL d r
end
mutual
def deepN : NodeL → Nat
  | .mk _ _ _ b ks => deepL ks + (if b then 1 else 0)
def deepL : List NodeL → Nat
  | [] => 0
  | n :: r => max (deepN n) (deepL r)
end
def sameW (v w : WordL) : Bool:=(v.num == w.num) && decide (v.n = w.n) && decide (v.s = w.s)
def sameWs : List WordL → List WordL → Bool
  | [],[] => true
  | v :: l,w :: m => sameW v w && sameWs l m
  | _,_ => false
mutual
def sameN : NodeL → NodeL → Bool
  | .mk n1 _ w1 b1 k1, .mk n2 _ w2 b2 k2 => sameWs w1 w2 && decide (n1 = n2) && (b1 == b2) && sameNs k1 k2
def sameNs : List NodeL → List NodeL → Bool
  | [],[] => true
  | x :: l,y :: m => sameN x y && sameNs l m
  | _,_ => false
end
mutual
def leftN (most : Int) (deep : Int) : NodeL → Int
  | .mk _ _ ws _ ks => if most < 0 ∨ 20 < ws.length then -1 else leftL (most - 1) (deep - 1) ks
def leftL (most : Int) (deep : Int) : List NodeL → Int
  | [] => most
  | n :: r => if deep = 0 then -1 else leftGo most deep (n :: r)
def leftGo (most : Int) (deep : Int) : List NodeL → Int
  | [] => most
  | n :: r => leftGo (leftN most deep n) deep r
end
end
end Go.Proofs.Ytpkhocbohhpmbaa
