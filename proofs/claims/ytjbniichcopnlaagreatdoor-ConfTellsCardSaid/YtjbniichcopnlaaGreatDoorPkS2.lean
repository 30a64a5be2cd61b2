/- Layer 8 (lex): the walks of the program's free, Name. Then: Words for memory: a slice that reads as a list of cells; a row of the call's own that is kept. Then: Layer 8 (lex): the walk of the program's Cut. Then: Two tokens compared as structs. Then: Layer 8 (lex): the walk of the program's text. -/
import Derived.Test.YtjbniichcopnlaaGreatDoorPkS1
import Derived.Test.YtjbniichcopnlaaGreatDoorShelf
import Derived.Deep.Draws
import Derived.BigQuiet
import Derived.Deep.QuietTactic
import Derived.Deep.RegionWith
import Derived.RegionTactic
import Derived.Lib.SmallJoins
namespace Go.Proofs.YtjbniichcopnlaaGreatDoor
section
open Go.RowKit
open Go.Lib renaming hid → zh
theorem blank4 (c : UInt8) : (0 ≤ Lib.indexByte [32,9,10,35] c) ↔ (isBlank c || c == 35) = true := by
  simp only [Lib.indexByte,isBlank]
  by_cases h1 : c = 32
  · subst h1;simp
  by_cases h2 : c = 9
  · subst h2;simp
  by_cases h3 : c = 10
  · subst h3;simp
  by_cases h4 : c = 35
  · subst h4;simp
  have e1 : ((32 : UInt8) == c) = false:=by simpa using fun h => h1 h.symm
  have e2 : ((9 : UInt8) == c) = false:=by simpa using fun h => h2 h.symm
  have e3 : ((10 : UInt8) == c) = false:=by simpa using fun h => h3 h.symm
  have e4 : ((35 : UInt8) == c) = false:=by simpa using fun h => h4 h.symm
  simp [e1,e2,e3,e4,h1,h2,h3,h4]
theorem idx_free (c : UInt8) (w : World) (b : Bool) (h : (isBlank c || c == 35) = b) :
    Calls Tryz.prog 100 #[.string ⟨#[32,9,10,35]⟩, .int .u8 c.toNat] w fun e w' => ∃ n : Int,(if b then 0 ≤ n else n < 0) ∧ e = .returned (.int .i64 n) ∧ w = w':=by
  refine (Tryz.strings_IndexByte _ _ w).mono ?_
  rintro e w' ⟨rfl,rfl⟩
  refine ⟨_,?_,rfl,rfl⟩
  have e1 : ((c.toNat : Int).toNat.toUInt8) = c:=by simp
  rw [e1]
  have h2:=blank4 c
  rw [h] at h2
  show if b then 0 ≤ Lib.indexByte [32,9,10,35] c else Lib.indexByte [32,9,10,35] c < 0
  cases b
  · simp only [Bool.false_eq_true,iff_false] at h2
    simp;omega
  · simpa using h2
theorem freeM_step (s : ByteArray) (k : Nat) (h : k < s.size) : freeM false (s.data.toList.drop k) = if isBlank s[k] then 1 + freeM false (s.data.toList.drop (k + 1)) else if s[k] = 35 then runL notEol (s.data.toList.drop k) + freeM false (s.data.toList.drop (k + runL notEol (s.data.toList.drop k))) else 0 := by
  have e:=ba_drop_cons s k h
  by_cases h35 : s[k] = 35
  · have e' := e
    rw [h35] at e'
    rw [if_neg (by rw [h35];decide),if_pos h35,← List.drop_drop,e']
    exact freeM_hash _
  · rw [if_neg h35,e]
    show (if isBlank s[k] then _ else if s[k] = 35 then _ else 0) = _
    rw [if_neg h35]
theorem run_pos (s : ByteArray) (k : Nat) (h : k < s.size) (h35 : s[k] = 35) : 0 < runL notEol (s.data.toList.drop k) := by
  rw [ba_drop_cons s k h,h35]
  exact runL_head _ _ _ rfl
set_option maxRecDepth 100000 in
set_option maxHeartbeats 1000000 in
theorem lex_free (s : ByteArray) (w : World) (hs : s.size ≤ maxLen) :
    Calls Tryz.prog 68 #[.string s] w fun e w' => e = .returned (.int .i64 (freeM false s.data.toList)) ∧ w = w':=by
  have hs':=hs
  unfold maxLen at hs'
  go_enter Tryz.func68,Tryz.ntmps68
  go_wp2
  go_loop [3] (fun i => ∃ k : Nat,k ≤ s.size ∧ i = .int .i64 k ∧ freeM false s.data.toList = k + freeM false (s.data.toList.drop k)) (fun i => s.size - (intOf i).toNat)
  case atStart => exact ⟨0,Nat.zero_le _,rfl,by simp⟩
  case round =>
    obtain ⟨k,hk,rfl,hkr⟩:=hrel
    by_cases hlt : k < s.size
    · have hst := freeM_step s k hlt
      by_cases hb : isBlank s[k] = true
      · rw [if_pos hb] at hst
        have hn : ¬ (s[k].toNat : Int) = 35 := fun h => by
          have h2 : s[k] = 35:=by rw [← UInt8.toNat_inj];have : (35 : UInt8).toNat = 35:=rfl;omega
          rw [h2] at hb;cases hb
        rw [hst] at hkr
        have HK:=zh hkr
        have hi:=fun w => idx_free s[k] w true (by rw [hb];rfl)
        have HI:=zh hi
        clear hkr hst hb hi
        go_wp2_with fail
        refine (HI.out _).mono ?_
        rintro e w' ⟨n,hn0,rfl,rfl⟩
        simp at hn0
        go_wp2
        go_round
        case rel => exact ⟨k + 1,by omega,by go_num,by rw [HK.out];omega⟩
        case measure => simp [intOf];omega
      · rw [if_neg hb] at hst
        by_cases h35 : s[k] = 35
        · rw [if_pos h35] at hst
          rw [hst] at hkr
          have hrp:=run_pos s k hlt h35
          have hrl:=runL_le notEol (s.data.toList.drop k)
          rw [List.length_drop,ba_len] at hrl
          have hi : ∀ w,Calls Tryz.prog 100 #[.string ⟨#[32,9,10,35]⟩, .int .u8 35] w fun e w' => ∃ n : Int,(if true then 0 ≤ n else n < 0) ∧ e = .returned (.int .i64 n) ∧ w = w':=fun w => idx_free 35 w true rfl
          have hn : (s[k].toNat : Int) = 35:=by rw [h35];rfl
          have hrun:=fun w => lex_run_eol (s.extract k s.size) w (by simp;omega)
          rw [ba_from] at hrun
          generalize runL notEol (s.data.toList.drop k) = r at *
          have HK:=zh hkr
          have HI:=zh hi
          have HR:=zh hrun
          clear hkr hst hb hi hrun h35
          go_wp2_with fail
          refine (HI.out _).mono ?_
          rintro e w' ⟨n,hn0,rfl,rfl⟩
          simp at hn0
          go_wp2_with fail
          refine (HR.out _).mono ?_
          rintro e w' ⟨rfl,rfl⟩
          go_wp2
          go_round
          case rel => exact ⟨k + r,by omega,by go_num,by rw [HK.out];omega⟩
          case measure => simp [intOf];omega
        · rw [if_neg h35] at hst
          rw [hst] at hkr
          have hi:=fun w => idx_free s[k] w false (by simp [h35];simpa using hb)
          have HK:=zh hkr
          have HI:=zh hi
          clear hkr hst hb hi
          go_wp2_with fail
          refine (HI.out _).mono ?_
          rintro e w' ⟨n,hn0,rfl,rfl⟩
          simp at hn0
          go_wp2
          go_ret
          exact ⟨by rw [HK.out];rfl,rfl⟩
    · have hd := ba_drop_nil s k (by omega)
      rw [hd] at hkr
      have HK:=zh hkr
      clear hkr hd
      go_wp2_with fail
      go_ret
      exact ⟨by rw [HK.out];rfl,rfl⟩
theorem runL_full (p : UInt8 → Bool) : ∀ l : Bytes,l.all p = true → runL p l = l.length
  | [],_ => rfl
  | c :: r,h => by
    simp only [List.all_cons,Bool.and_eq_true] at h
    rw [runL_cons,if_pos h.1,runL_full p r h.2];rfl
/-- A name. -/
theorem nameL_eq (s : ByteArray) : nameL s.data.toList = if h : 0 < s.size then decide (s.size ≤ 16) && isLetter s[0] && decide (runL isInner s.data.toList = s.size) else false := by
  by_cases h : 0 < s.size
  · have e := ba_drop_cons s 0 h
    rw [List.drop_zero] at e
    rw [dif_pos h]
    have hl:=ba_len s
    have hr:=runL_le isInner s.data.toList
    have hiff : s.data.toList.all isInner = decide (runL isInner s.data.toList = s.size) := by
      rw [Bool.eq_iff_iff,decide_eq_true_eq]
      constructor
      · intro ha
        rw [runL_full _ _ ha,hl]
      · intro hr
        have:=runL_all isInner s.data.toList
        rwa [hr,← hl,List.take_length] at this
    rw [← hiff,← hl]
    rw [e]
    rfl
  · rw [dif_neg h]
    have : s.data.toList = [] := by
      apply List.eq_nil_of_length_eq_zero;rw [ba_len];omega
    rw [this];rfl
theorem toList_nil (s : ByteArray) : s.toList = [] ↔ s.size = 0 := by
  rw [ba_toList,← ba_len,List.length_eq_zero_iff]
set_option maxRecDepth 100000 in
set_option maxHeartbeats 1000000 in
theorem lex_Name (s : ByteArray) (w : World) (hs : s.size ≤ maxLen) :
    Calls Tryz.prog 39 #[.string s] w fun e w' => e = .returned (.bool (nameL s.data.toList)) ∧ w = w':=by
  have hs':=hs
  unfold maxLen at hs'
  have hn:=nameL_eq s
  have HN:=zh hn
  clear hn
  by_cases h0 : 0 < s.size
  · have hne : ¬ s.toList = [] := fun h => by have := (toList_nil s).1 h; omega
    have hem : s.toList.isEmpty = false:=by rw [List.isEmpty_eq_false_iff];exact hne
    go_enter Tryz.func39,Tryz.ntmps39
    go_wp2_with (first | (go_at_call 64;refine (lex_letter _ _).mono ?_;rintro e w' ⟨rfl,rfl⟩) | (go_at_call 65;refine (lex_run_inner _ _ hs).mono ?_;rintro e w' ⟨rfl,rfl⟩))
    all_goals (go_ret;exact ⟨ret_bool (by rw [HN.out,dif_pos h0];simp [*];try first | omega | (rw [Bool.eq_iff_iff];simp;omega)),rfl⟩)
  · have hne : s.toList = [] := (toList_nil s).2 (by omega)
    have hem : s.toList.isEmpty = true:=by rw [List.isEmpty_iff];exact hne
    go_enter Tryz.func39,Tryz.ntmps39
    go_wp2_with (first | (go_at_call 64;refine (lex_letter _ _).mono ?_;rintro e w' ⟨rfl,rfl⟩) | (go_at_call 65;refine (lex_run_inner _ _ hs).mono ?_;rintro e w' ⟨rfl,rfl⟩))
    all_goals (go_ret;exact ⟨ret_bool (by rw [HN.out,dif_neg h0]),rfl⟩)
end
section
open Go.RowKit
theorem block_of_add (a : Addr) (n : Nat) : (a.add n).block = a.block:=by unfold Addr.add;split <;> rfl
theorem add_of_add (a : Addr) (i j : Nat) : (a.add i).add j = a.add (i + j) := by
  unfold Addr.add
  by_cases hi : i = 0 <;> by_cases hj : j = 0 <;> simp [hi,hj,Nat.add_assoc]
/-- The slice with the address A,of n elements of so many cells each,reads as the cells xs,below block B. -/
def Reads (w : World) (B size : Nat) (A : Option Addr) (n : Nat) (xs : List Value) : Prop :=
  xs.length = n * size ∧ (0 < n → ∃ ad,A = some ad ∧ ad.block < B ∧ ∀ j u,xs[j]? = some u → w.cell? (ad.add j) = some u)
section
variable {w w' : World} {B B' size n : Nat} {A : Option Addr} {xs : List Value}
theorem Reads.none_ : Reads w B size A 0 []:=⟨by simp,fun h => absurd h (by omega)⟩
theorem Reads.keep (h : Reads w B size A n xs) (hk : ∀ p : Addr,p.block < B → w'.cell? p = w.cell? p) : Reads w' B size A n xs :=
  ⟨h.1,fun hn => by
    obtain ⟨ad,e,hb,hc⟩:=h.2 hn
    exact ⟨ad,e,hb,fun j u hu => (hk _ (by rw [block_of_add];exact hb)).trans (hc j u hu)⟩⟩
theorem Reads.more (h : Reads w B size A n xs) (hB : B ≤ B') : Reads w B' size A n xs :=
  ⟨h.1,fun hn => by
    obtain ⟨ad,e,hb,hc⟩:=h.2 hn
    exact ⟨ad,e,by omega,hc⟩⟩
theorem Reads.below (h : Reads w B size A n xs) (hb : Below B w w') : Reads w' B size A n xs:=h.keep fun _ hp => hb.cell hp
theorem Reads.drew (h : Reads w B size A n xs) : Reads w.drew B size A n xs:=h
theorem Reads.drewN (h : Reads w B size A n xs) (k : Nat) : Reads (w.drewN k) B size A n xs:=h
theorem Reads.alloc (h : Reads w B size A n xs) (hB : B ≤ w.heap.size) (o : Obj) : Reads (w.alloc o) B size A n xs:=h.keep fun p hp => World.cell?_alloc_lt w o p (by omega)
theorem Reads.setCell (h : Reads w B size A n xs) {p : Addr} (hB : B ≤ p.block) (u : Value) : Reads (w.setCell p u) B size A n xs :=
  h.keep fun q hq => World.cell?_setCell_other w p q u (fun e => by subst e;omega)
theorem Reads.grown (h : Reads w B size A n xs) {row : Option Nat} (hg : w.grownBy w' row) (hB : B ≤ w.heap.size) (hr : ∀ g,row = some g → B ≤ g) : Reads w' B size A n xs :=
  h.keep fun p hp => World.cell?_of_block (hg.block p.block (by omega) (fun e => by have:=hr _ e.symm;omega))
theorem Reads.cut (h : Reads w B size A n xs) {k cap : Nat} (hk : k ≤ n) (hc : n ≤ cap) :
    Reads w B size (if cap = k then A else A.map (·.add (k * size))) (n - k) (xs.drop (k * size)):=by
  refine ⟨by rw [List.length_drop,h.1,Nat.sub_mul],fun hn => ?_⟩
  obtain ⟨ad,rfl,hb,hcell⟩:=h.2 (by omega)
  rw [if_neg (by omega)]
  refine ⟨ad.add (k * size),rfl,by rw [block_of_add];exact hb,fun j u hu => ?_⟩
  rw [add_of_add]
  exact hcell _ u (by rw [← hu,List.getElem?_drop])
theorem Reads.of_own {base : Nat} {e : TypeId} {c : Nat} (h : w.ownsRow base e size (.slice A n c) n xs) : Reads w w.heap.size size A n xs := by
  refine ⟨h.1,fun hn => ?_⟩
  rcases h.2 with ⟨_,h0⟩ | ⟨g,cap,cur,hv,_,hh,_⟩
  · omega
  have hA : A = some ⟨g,0,none⟩:=by injection hv
  subst hA
  refine ⟨_,rfl,?_,h.cells (g:=g) rfl⟩
  rcases Nat.lt_or_ge g w.heap.size with hlt | hge
  · exact hlt
  · rw [Array.getElem?_eq_none hge] at hh;cases hh
end
section
variable {w w' : World} {base : Nat} {e : TypeId} {size n : Nat} {v : Value} {xs : List Value}
theorem own_form (h : w.ownsRow base e size v n xs) : ∃ A c,v = .slice A n c ∧ n ≤ c := by
  rcases h.2 with ⟨rfl,rfl⟩ | ⟨g,cap,cur,rfl,_,_,hn,_⟩
  · exact ⟨none,0,rfl,Nat.le_refl _⟩
  · exact ⟨_,cap,rfl,hn⟩
theorem own_head (h : w.ownsRow base e size v n xs) (hn : 0 < n) : ∃ g c,v = .slice (some ⟨g,0,none⟩) n c ∧ base ≤ g ∧ g < w.heap.size := by
  rcases h.2 with ⟨_,h0⟩ | ⟨g,cap,cur,hv,hg,hh,_⟩
  · omega
  · refine ⟨g,cap,hv,hg,?_⟩
    rcases Nat.lt_or_ge g w.heap.size with hlt | hge
    · exact hlt
    · rw [Array.getElem?_eq_none hge] at hh;cases hh
theorem own_below (h : w.ownsRow base e size v n xs) (hb : Below w.heap.size w w') : w'.ownsRow base e size v n xs := by
  refine ⟨h.1,?_⟩
  rcases h.2 with h2 | ⟨g,cap,cur,hv,hg,hh,r⟩
  · exact Or.inl h2
  · refine Or.inr ⟨g,cap,cur,hv,hg,?_,r⟩
    have hlt : g < w.heap.size := by
      rcases Nat.lt_or_ge g w.heap.size with hlt | hge
      · exact hlt
      · rw [Array.getElem?_eq_none hge] at hh;cases hh
    rw [hb.block g hlt];exact hh
theorem own_set (h : w.ownsRow base e size v n xs) {p : Addr} (hp : v.ownBlock ≠ some p.block) (u : Value) : (w.setCell p u).ownsRow base e size v n xs := by
  refine ⟨h.1,?_⟩
  rcases h.2 with h2 | ⟨g,cap,cur,hv,hg,hh,r⟩
  · exact Or.inl h2
  · subst hv
    refine Or.inr ⟨g,cap,cur,rfl,hg,?_,r⟩
    rw [Below.heap_setCell _ _ _ _ (by intro h;exact hp (by simp [Value.ownBlock,h]))];exact hh
theorem own_drew (h : w.ownsRow base e size v n xs) : w.drew.ownsRow base e size v n xs:=h
theorem own_drewN (h : w.ownsRow base e size v n xs) (k : Nat) : (w.drewN k).ownsRow base e size v n xs:=h
theorem own_new (h : w.ownsRow base e size v n xs) {p : Addr} (hp : w.heap.size ≤ p.block) (u : Value) (w2 : World) (hw : w2.ownsRow base e size v n xs) : (w2.setCell p u).ownsRow base e size v n xs :=
  own_set hw (fun he => by have:=h.lt _ he;omega) u
end
/-- The cells of a new block. -/
theorem cells_new (w : World) (cs : List Value) (e : TypeId) (g : Nat) (hg : g = w.heap.size) : ∀ j u,cs[j]? = some u → (w.alloc (.cells cs.toArray e)).cell? ((⟨g,0,none⟩ : Addr).add j) = some u := by
  intro j u h
  subst hg
  have : (⟨w.heap.size,0,none⟩ : Addr).add j = ⟨w.heap.size,j,none⟩ := by
    unfold Addr.add;split
    · rename_i h0;subst h0;rfl
    · simp
  rw [this,World.cell?_alloc_new]
  simpa using h
theorem below_drewN {B : Nat} {a w : World} (h : Below B a w) (n : Nat) : Below B a (w.drewN n):=⟨h.os,h.tape,h.output,h.size,h.block⟩
/-- Behind a law that ends in 'grownBy' over a row of the call's own. -/
theorem below_own {B : Nat} {a w w' : World} {base : Nat} {e : TypeId} {size n : Nat} {v : Value} {xs : List Value} (h : Below B a w) (hg : w.grownBy w' v.ownBlock) (hB : B ≤ w.heap.size) (hown : w.ownsRow base e size v n xs) (hbase : B ≤ base) : Below B a w' :=
  h.grown hg hB fun k hk => by have:=hown.lt k hk;omega
end
section
open Go.RowKit
open Go.Lib renaming hid → zh
/-- A token's cells. -/
def Tok.cells (t : Tok) : List Value:=[.int .i64 t.kind, .int .i64 t.pos, .int .i64 t.n, .string ⟨t.s.toArray⟩]
theorem info_tok : (Tryz.prog.info? 86).map (fun i => (i.zero,i.size,i.bytes)) = some (some (.agg #[.int .i64 0, .int .i64 0, .int .i64 0, .string ⟨#[]⟩]),4,40):=by kernel_rfl
theorem cells_length (l : List Tok) : (l.flatMap Tok.cells).length = l.length * 4 := by
  induction l with
  | nil => rfl
  | cons t l ih => simp only [List.flatMap_cons,List.length_append,ih,List.length_cons,Tok.cells,List.length_nil];omega
/-- The slice value v reads,in a row from 'base' on,as the tokens l. -/
def OwnToks (w : World) (base : Nat) (v : Value) (l : List Tok) : Prop:=w.ownsRow base 86 4 v l.length (l.flatMap Tok.cells)
/-- What Cut leaves. -/
def CutPost (w : World) (r : CutRes) (e : Ending) (w' : World) : Prop :=
  ∃ v,e = .returned (.tuple #[v, .int .i64 r.pos, .int .i64 r.err]) ∧ OwnToks w' w.heap.size v r.toks ∧ Below w.heap.size w w'
/-- What holds ahead of each round: what is known of what was cut so far. -/
def CutI (s : ByteArray) (w : World) (k : Nat) (v : Value) (acc : List Tok) (wr : World) : Prop :=
  k ≤ s.size ∧ acc.length ≤ k ∧ OwnToks wr w.heap.size v acc ∧ Below w.heap.size w wr ∧ freeM false (s.data.toList.drop k) = 0 ∧
    cutM false 0 0 0 s.data.toList = (cutM false 0 k acc.length (s.data.toList.drop k)).pre acc
theorem lex_token' (s : ByteArray) (cnt : Nat) (w : World) (h0 : 0 < s.size) (hs : s.size ≤ maxLen) (K N E : Int) (L : Nat) (S : Bytes) (ht : tokenL s.data.toList cnt = (⟨K,0,N,S⟩,L,E)) :
    Calls Tryz.prog 69 #[.string s, .int .i64 cnt] w fun e w' => e = .returned (.tuple #[.agg #[.int .i64 K, .int .i64 0, .int .i64 N, .string ⟨S.toArray⟩], .int .i64 L, .int .i64 E]) ∧ Below w.heap.size w w':=by
  have:=lex_token s cnt w h0 hs
  rw [ht] at this
  exact this
set_option maxRecDepth 100000 in
set_option maxHeartbeats 2000000 in
theorem lex_Cut (s : ByteArray) (w : World) (hs : s.size ≤ maxLen) :
    Calls Tryz.prog 41 #[.string s] w (CutPost w (cutL s.data.toList)):=by
  have hs':=hs
  unfold maxLen at hs'
  have hcut : cutL s.data.toList = if s.size > 65536 then ⟨[],0,6⟩ else cutM false 0 0 0 s.data.toList:=by unfold cutL;rw [ba_len]
  have HC:=zh hcut
  clear hcut
  by_cases hbig : s.size > 65536
  · go_enter Tryz.func41,Tryz.ntmps41
    go_wp2
    go_ret3
    refine ⟨.slice none 0 0,?_,?_,?_⟩
    · rw [HC.out,if_pos hbig];rfl
    · rw [HC.out,if_pos hbig];exact World.ownsRow_nil _ _ _ _
    · exact Below.refl _ _
  · obtain ⟨i0,hi,hz0,hz1,hz2⟩ := info_parts info_tok
    have hfl:=freeM_le false s.data.toList
    rw [ba_len] at hfl
    have hff:=freeM_free false s.data.toList
    have hfc:=cutM_free false 0 0 s.data.toList
    rw [Nat.zero_add] at hfc
    have hfree:=lex_free s w hs
    generalize freeM false s.data.toList = f0 at *
    have HF:=zh hff
    have HF2:=zh hfc
    have HF3:=zh hfree
    clear hff hfc hfree
    go_enter Tryz.func41,Tryz.ntmps41
    go_wp2_with fail
    refine HF3.out.mono ?_
    rintro e w' ⟨rfl,rfl⟩
    go_wp2_with fail
    go_loopw [5,6] (fun v i wr => ∃ (k : Nat) (acc : List Tok),i = .int .i64 k ∧ CutI s w k v acc wr) (fun _ i _ => s.size - (intOf i).toNat)
    case atStart => exact ⟨f0,[],rfl,hfl,Nat.zero_le _,World.ownsRow_nil _ _ _ _,Below.refl _ _,HF.out,by rw [HF2.out,cutM_pre_nil];rfl⟩
    case round =>
      obtain ⟨k,acc,rfl,hk,hak,hown,hB,hfr,hcm⟩:=hrel
      obtain ⟨A,c,rfl,hnc⟩:=own_form hown
      have hbs:=hB.size
      by_cases hlt : k < s.size
      · have hne : s.data.toList.drop k ≠ [] := by rw [ba_drop_cons s k hlt]; simp
        have hst:=cutM_tok k acc.length _ hne hfr
        obtain ⟨hlen,hL1,hP⟩:=tokenL_len _ acc.length hne
        rw [List.length_drop,ba_len] at hlen
        have htok:=fun K N E L S => lex_token' (s.extract k s.size) acc.length wr (by simp;omega) (by simp;omega) K N E L S
        rw [ba_from] at htok
        obtain ⟨⟨⟨K,p,N,S⟩,L,E⟩,hT⟩ : ∃ T,T = tokenL (s.data.toList.drop k) acc.length:=⟨_,rfl⟩
        rw [← hT] at hst hlen hL1 hP
        simp only at hP hst hlen hL1
        subst hP
        have htok':=htok K N E L S hT.symm
        have HTOK:=zh htok'
        clear htok htok' hT hne hfr
        by_cases hE : E = 0
        · rw [if_neg (by simp [hE])] at hst
          have hL:=hL1 hE
          subst hE
          rw [hst,CutRes.pre_cons] at hcm
          have HM:=zh hcm
          have hfr2:=fun w => lex_free (s.extract (k + L) s.size) w (by simp;omega)
          rw [ba_from] at hfr2
          have hfl2:=freeM_le false (s.data.toList.drop (k + L))
          rw [List.length_drop,ba_len] at hfl2
          have hf0:=freeM_free false (s.data.toList.drop (k + L))
          have hfc2:=cutM_free false (k + L) (acc.length + 1) (s.data.toList.drop (k + L))
          rw [List.drop_drop] at hf0 hfc2
          generalize freeM false (s.data.toList.drop (k + L)) = f1 at *
          have HFR:=zh hfr2
          have HF0:=zh hf0
          have HFC:=zh hfc2
          clear hcm hst hL1 hfr2 hf0 hfc2
          go_wp2_with fail
          refine HTOK.out.mono ?_
          rintro e w2 ⟨rfl,hb2⟩
          have hown2:=own_below (show wr.ownsRow _ _ _ _ _ _ from hown) hb2
          have hsz2:=hb2.size
          go_wp2_with (first | (at_builtin;refine wpList_append_own _ rfl _ _ 76 rfl w.heap.size 86 i0 _ 4 40 Tryz.underlying76 hi hz0 hz1 hz2 rfl (by decide) _ _ _ rfl ((hown2.alloc _).alloc _) ⟨w2.heap.size + 1,0,none⟩ 1 1 [.int .i64 K, .int .i64 k, .int .i64 N, .string ⟨S.toArray⟩] rfl rfl (cells_new _ [.int .i64 K, .int .i64 k, .int .i64 N, .string ⟨S.toArray⟩] _ _ (by simp)) (fun x hx => by simp at hx;rcases hx with rfl | rfl | rfl | rfl <;> rfl) (by unfold maxLen;omega) (by omega) (by simp;omega) ?_;intro v' w3 hown3 hgrow3 _))
          refine (HFR.out _).mono ?_
          rintro e w4 ⟨rfl,rfl⟩
          have hB3 : Below w.heap.size w w3 := by
            refine below_own ?_ hgrow3 (by simp;omega) ((hown2.alloc _).alloc _) (Nat.le_refl _)
            exact ((hB.trans (hb2.mono hbs)).alloc (by omega) _).alloc (by simp;omega) _
          have hown4 : OwnToks w3 w.heap.size v' (acc ++ [⟨K,k,N,S⟩]) := by
            unfold OwnToks
            rw [List.length_append,List.flatMap_append]
            exact hown3
          clear hgrow3 hown3 hown2 hown
          go_wp2
          go_roundw
          case rel =>
            refine ⟨k + L + f1,acc ++ [⟨K,k,N,S⟩],by go_num,by omega,by rw [List.length_append];simp;omega,hown4,hB3,HF0.out,?_⟩
            rw [HM.out,List.drop_drop,HFC.out,List.length_append]
            rfl
          case measure => simp [intOf];omega
        · rw [if_pos (by simpa using hE)] at hst
          rw [hst] at hcm
          have hE0 : (E == 0) = false:=by simpa using hE
          have HM:=zh hcm
          clear hcm hst hL1
          go_wp2_with fail
          refine HTOK.out.mono ?_
          rintro e w2 ⟨rfl,hb2⟩
          go_wp2_with fail
          go_ret3
          refine ⟨.slice none 0 0,?_,?_,?_⟩
          · rw [HC.out,if_neg hbig,HM.out];simp [CutRes.pre,hE]
          · rw [HC.out,if_neg hbig,HM.out];simp [CutRes.pre,hE];exact World.ownsRow_nil _ _ _ _
          · have hsz2 := hb2.size
            exact (hB.trans (hb2.mono hbs)).alloc (by omega) _
      · have hkk : k = s.size := by omega
        rw [ba_drop_nil s k (by omega),cutM_nil] at hcm
        have HM:=zh hcm
        clear hcm hfr hkk
        go_wp2_with fail
        go_ret3
        refine ⟨.slice A acc.length c,?_,?_,hB⟩
        · rw [HC.out,if_neg hbig,HM.out];rfl
        · rw [HC.out,if_neg hbig,HM.out];simpa [CutRes.pre] using hown
end
section
open Go.RowKit
theorem tok_eq_iff (a b : Tok) : a = b ↔ a.kind = b.kind ∧ a.pos = b.pos ∧ a.n = b.n ∧ a.s = b.s := by
  cases a;cases b;simp
set_option maxRecDepth 100000 in
theorem run_equalTok (W : World) (a b : Tok) : (Op.equalIn 10000 86 (.agg #[.int .i64 a.kind, .int .i64 a.pos, .int .i64 a.n, .string ⟨a.s.toArray⟩]) (.agg #[.int .i64 b.kind, .int .i64 b.pos, .int .i64 b.n, .string ⟨b.s.toArray⟩])).run Tryz.prog W = .ok (decide (a = b)) W := by
  rw [run_equalIn_agg W 9999 86 _ _ (by kernel_rfl) (by kernel_rfl)]
  simp only [tok_eq_iff]
  by_cases h1 : a.kind = b.kind <;> by_cases h2 : a.pos = b.pos <;> by_cases h3 : a.n = b.n <;> by_cases h4 : a.s = b.s <;>
    (simp [go_sem,Op.eqFields,h1,h2,h3,h4];done)
theorem run_neqTok (W : World) (a b : Tok) : (binOp .neq 86 (.agg #[.int .i64 a.kind, .int .i64 a.pos, .int .i64 a.n, .string ⟨a.s.toArray⟩]) (.agg #[.int .i64 b.kind, .int .i64 b.pos, .int .i64 b.n, .string ⟨b.s.toArray⟩])).run Tryz.prog W = .ok (.bool (!decide (a = b))) W := by
  rw [run_neq_struct,run_equalTok];rfl
theorem run_eqlTok (W : World) (a b : Tok) : (binOp .eql 86 (.agg #[.int .i64 a.kind, .int .i64 a.pos, .int .i64 a.n, .string ⟨a.s.toArray⟩]) (.agg #[.int .i64 b.kind, .int .i64 b.pos, .int .i64 b.n, .string ⟨b.s.toArray⟩])).run Tryz.prog W = .ok (.bool (decide (a = b))) W := by
  rw [run_eql_struct,run_equalTok];rfl
end
section
open Go.RowKit
/-- A token's text,and whether it may be. -/
def textL (t : Tok) : Bytes × Bool :=
  if t.kind = 1 then (t.s,nameL t.s && decide (t.n = 0))
  else if t.kind = 2 then (Lib.itoa t.n,decide (0 ≤ t.n ∧ t.n ≤ 999999999 ∧ t.s = []))
  else if t.kind = 3 then ([123],decide (t.n = 0 ∧ t.s = []))
  else if t.kind = 4 then ([125],decide (t.n = 0 ∧ t.s = []))
  else if t.kind = 5 then ([59],decide (t.n = 0 ∧ t.s = []))
  else ([],false)
/-- The table of powers of ten,as strconv has it. -/
def Tab (w : World) : Prop:=Lib.TabIs Tryz.prog w "internal/strconv.uint64pow10" .u64 Lib.pow10Tab
theorem Tab.below {w w' : World} (h : Tab w) (hb : Below w.heap.size w w') : Tab w' :=
  Joins.tab_stays (g:=2) (by kernel_rfl) h hb (Nat.le_refl _)
theorem quiet_leftX {P : Program} {f : FuncId} {args : Array Value} {w : World} {n : Nat} {v : Value}
    (h : Calls P f args (w.drewN n) fun e w' => e = .returned v ∧ w.drewN n = w') : Calls P f args (w.drewN n) fun e w'' => e = .returned v ∧ ∃ m,w'' = w.drewN m :=
  h.mono fun _ _ ⟨he,hm⟩ => ⟨he,n,hm.symm⟩
theorem quiet_add_leftX {P : Program} {f : FuncId} {args : Array Value} {w : World} {a n : Nat} {v : Value}
    (h : Calls P f args (w.drewN (a + n)) fun e w' => e = .returned v ∧ w.drewN (a + n) = w') :
    Calls P f args (w.drewN (a + n)) fun e w'' => e = .returned v ∧ ∃ m,w'' = w.drewN (a + m) :=
  h.mono fun _ _ ⟨he,hm⟩ => ⟨he,n,hm.symm⟩
theorem ret_sb {a b : ByteArray} {x y : Bool} (h : a = b) (h' : x = y) : Ending.returned (.tuple #[.string a, .bool x]) = .returned (.tuple #[.string b, .bool y]):=by rw [h,h']
theorem s_nil (s : Bytes) : s = [] ∨ s ≠ []:=by cases s <;> simp
theorem below_grow {B : Nat} {a w : World} (h : Below B a w) (hB : B ≤ w.heap.size) (k : Nat) (os : Array Obj) : Below B a (Go.Sort.grow (w.drewN k) os) :=
  h.trans ⟨rfl,rfl,rfl,by simp [Go.Sort.grow],fun i hi => by
    show (w.heap ++ os)[i]? = w.heap[i]?
    rw [Array.getElem?_append_left (by omega)]⟩
/-- strconv.Itoa: below the heap's end the world is as it was. -/
theorem itoa_any (n : Int) (h0 : -9223372036854775808 ≤ n) (h1 : n ≤ 9223372036854775807) (w : World) (ht : Tab w) :
    Calls Tryz.prog 58 #[.int .i64 n] w fun e w' => e = .returned (.string ⟨(Lib.itoa n).toArray⟩) ∧ Below w.heap.size w w' :=
  (Tryz.strconv_Itoa n h0 h1 w ht).mono fun _ _ ⟨he,k,os,hw⟩ => ⟨he,hw ▸ below_grow (Below.refl _ _) (Nat.le_refl _) k os⟩
end
end Go.Proofs.YtjbniichcopnlaaGreatDoor
