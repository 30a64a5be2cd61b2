/- Layer 8 (lex), plain laws: tokens put together are cut into the same tokens. No program in sight (joinL, textL stand beside the walk of Join). Then: Layer 9 (tree), in plain Lean: items, and how tokens are read as items. -/
import Derived.Test.YtjbniichcopnlaaGreatDoorPkS3
import Derived.Test.YtjbniichcopnlaaGreatDoorPkS4
namespace Go.Proofs.YtjbniichcopnlaaGreatDoor
section
/-- A token without its place. -/
def Tok.bare (t : Tok) : Tok:={ t with pos:=0 }
/-! ### Decimal digits -/
theorem ofNat_digit (k : Nat) (h : k < 10) : isDigit (UInt8.ofNat (48 + k)) = true := by
  rw [isDigit_iff]
  have : (UInt8.ofNat (48 + k)).toNat = 48 + k:=by simp;omega
  omega
theorem ofNat_val (k : Nat) (h : k < 10) : ((UInt8.ofNat (48 + k)).toNat : Int) = 48 + k := by
  have : (UInt8.ofNat (48 + k)).toNat = 48 + k:=by simp;omega
  omega
theorem decDigits_snoc (u : Nat) (h : ¬ u < 10) : Lib.decDigits u = Lib.decDigits (u / 10) ++ [UInt8.ofNat (48 + u % 10)] := by
  conv => lhs;rw [Lib.decDigits,dif_neg h]
theorem dec_digits : ∀ (k u : Nat),u < 10 ^ (k + 1) → (Lib.decDigits u).all isDigit = true ∧ numL (Lib.decDigits u) = u := by
  intro k
  induction k with
  | zero =>
    intro u h
    rw [Lib.decDigits_one (by omega)]
    refine ⟨by rw [List.all_cons,ofNat_digit u (by omega),List.all_nil];rfl,?_⟩
    have:=ofNat_val u (by omega)
    simp [numL] at this ⊢
    omega
  | succ k ih =>
    intro u h
    by_cases h10 : u < 10
    · rw [Lib.decDigits_one h10]
      refine ⟨by rw [List.all_cons,ofNat_digit u h10,List.all_nil];rfl,?_⟩
      have:=ofNat_val u h10
      simp [numL] at this ⊢
      omega
    · obtain ⟨h1,h2⟩ := ih (u / 10) (by rw [Nat.pow_succ] at h; omega)
      rw [decDigits_snoc u h10]
      refine ⟨by rw [List.all_append,h1,List.all_cons,ofNat_digit (u % 10) (by omega),List.all_nil];rfl,?_⟩
      rw [numL_snoc,h2,ofNat_val (u % 10) (by omega)]
      omega
theorem dec_ne (u : Nat) : Lib.decDigits u ≠ [] := by
  intro h
  have h1:=Lib.decDigits_length u
  have h2:=Lib.nDigits_pos u
  rw [h] at h1
  simp at h1
  omega
/-- The first digit is no nought,but of nought itself. -/
theorem dec_head : ∀ (k u : Nat),u < 10 ^ (k + 1) → 0 < u → (Lib.decDigits u).head? ≠ some 48 := by
  intro k
  induction k with
  | zero =>
    intro u h h0
    rw [Lib.decDigits_one (by omega)]
    simp only [List.head?_cons,ne_eq,Option.some.injEq]
    intro h2
    have:=ofNat_val u (by omega)
    rw [h2] at this
    have e : ((48 : UInt8).toNat : Int) = 48:=rfl
    omega
  | succ k ih =>
    intro u h h0
    by_cases h10 : u < 10
    · rw [Lib.decDigits_one h10]
      simp only [List.head?_cons,ne_eq,Option.some.injEq]
      intro h2
      have:=ofNat_val u h10
      rw [h2] at this
      have e : ((48 : UInt8).toNat : Int) = 48:=rfl
      omega
    · rw [decDigits_snoc u h10]
      have:=ih (u / 10) (by rw [Nat.pow_succ] at h;omega) (by omega)
      have hne:=dec_ne (u / 10)
      cases hd : Lib.decDigits (u / 10) with
      | nil => exact absurd hd hne
      | cons c r => rw [hd] at this;simpa using this
/-- Digits without a nought ahead are the digits of their number. -/
theorem dec_num : ∀ (m : Nat) (l : Bytes),l.length = m → l ≠ [] → l.all isDigit = true → (l.head? = some 48 → l.length ≤ 1) → Lib.decDigits (numL l).toNat = l ∧ (1 < l.length → 10 ≤ numL l) := by
  intro m
  induction m with
  | zero => intro l h hn;exact absurd (List.eq_nil_of_length_eq_zero h) hn
  | succ m ih =>
    intro l hl hn hall hh
    obtain ⟨r,c,rfl⟩ : ∃ r c,l = r ++ [c]:=⟨l.dropLast,l.getLast hn,(List.dropLast_concat_getLast hn).symm⟩
    rw [List.all_append,Bool.and_eq_true] at hall
    have hc:=(isDigit_iff c).1 (by simpa using hall.2)
    have hcv : UInt8.ofNat (48 + (c.toNat - 48)) = c := by
      rw [show 48 + (c.toNat - 48) = c.toNat by omega];simp
    by_cases hr : r = []
    · subst hr
      have : numL ([] ++ [c]) = ((c.toNat - 48 : Nat) : Int):=by rw [numL_snoc];simp [numL];omega
      rw [this,Int.toNat_natCast,Lib.decDigits_one (by omega),hcv]
      exact ⟨rfl,by simp⟩
    · have hrl : r.length = m := by simp at hl; omega
      have hrh : r.head? ≠ some 48 := by
        intro h
        have : (r ++ [c]).head? = some 48:=by cases r with | nil => exact absurd rfl hr | cons x y => simpa using h
        have:=hh this
        rw [List.length_append,List.length_singleton] at this
        exact hr (List.eq_nil_of_length_eq_zero (by omega))
      have hnb:=numL_bound r hall.1
      obtain ⟨h1,h2⟩:=ih r hrl hr hall.1 (fun h => absurd h hrh)
      have hpos : 1 ≤ numL r := by
        by_cases h1l : 1 < r.length
        · have:=h2 h1l;omega
        · have hr1 : r.length = 1 := by have := List.length_pos_iff.2 hr; omega
          obtain ⟨d,rfl⟩:=List.length_eq_one_iff.1 hr1
          have hd:=(isDigit_iff d).1 (by simpa using hall.1)
          have : d.toNat ≠ 48 := by
            intro h
            apply hrh
            simp only [List.head?_cons,Option.some.injEq]
            rw [← UInt8.toNat_inj]
            exact h
          simp [numL]
          omega
      rw [numL_snoc]
      obtain ⟨z,hz⟩:=Int.eq_ofNat_of_zero_le hnb.1
      rw [hz] at h1 hpos ⊢
      have e : ((z : Int) * 10 + ((c.toNat : Int) - 48)).toNat = z * 10 + (c.toNat - 48):=by omega
      rw [e,decDigits_snoc _ (by omega)]
      have e1 : (z * 10 + (c.toNat - 48)) / 10 = z:=by omega
      have e2 : (z * 10 + (c.toNat - 48)) % 10 = c.toNat - 48:=by omega
      rw [e1,e2,hcv]
      rw [Int.toNat_natCast] at h1
      rw [h1]
      exact ⟨rfl,fun _ => by omega⟩
theorem numberL_pos (u : Bytes) (h : (numberL u).2.2 = 0) : numberL u = (numL (u.take (runL isDigit u)),runL isDigit u,0) ∧ runL isDigit u ≤ 9 ∧ ¬ (u.head? = some 48 ∧ runL isDigit u > 1) := by
  unfold numberL at h ⊢
  dsimp only at h ⊢
  split at h
  · simp at h
  split at h
  · simp at h
  split at h
  · simp at h
  rename_i a1 a2 a3
  rw [if_neg a1,if_neg a2,if_neg a3]
  exact ⟨rfl,by omega,a2⟩
/-- The token that stands first may be,and what stands there is its text. -/
theorem tokenL_text (l : Bytes) (cnt : Nat) (hl : l ≠ []) (he : (tokenL l cnt).2.2 = 0) : textL (tokenL l cnt).1 = (l.take (tokenL l cnt).2.1,true) := by
  cases l with
  | nil => exact absurd rfl hl
  | cons c r =>
    rw [tokenL_def] at he ⊢
    split at he
    · simp at he
    rename_i a1
    rw [if_neg a1]
    split at he
    · simp at he
    rename_i a2
    rw [if_neg a2]
    split at he
    · rename_i a3
      rw [if_pos a3]
      unfold signK at a3 ⊢
      by_cases h1 : c = 123
      · subst h1;rfl
      by_cases h2 : c = 125
      · subst h2;rfl
      by_cases h3 : c = 59
      · subst h3;rfl
      rw [if_neg h1,if_neg h2,if_neg h3] at a3
      exact absurd rfl a3
    rename_i a3
    rw [if_neg a3]
    split at he
    · rename_i a4
      rw [if_pos a4]
      obtain ⟨hn,h9,h0⟩:=numberL_pos (c :: r) he
      have hm:=runL_head isDigit c r a4
      have hle:=runL_le isDigit (c :: r)
      have hall:=runL_all isDigit (c :: r)
      have hlen : ((c :: r).take (runL isDigit (c :: r))).length = runL isDigit (c :: r):=by rw [List.length_take];omega
      have hhead : ((c :: r).take (runL isDigit (c :: r))).head? = some c := by
        obtain ⟨k,hk⟩ : ∃ k,runL isDigit (c :: r) = k + 1:=⟨runL isDigit (c :: r) - 1,by omega⟩
        rw [hk,List.take_succ_cons];rfl
      have hb:=numL_lt ((c :: r).take (runL isDigit (c :: r))) (runL isDigit (c :: r)) hall (by omega)
      rw [List.take_take,Nat.min_self] at hb
      have hd := (dec_num _ ((c :: r).take (runL isDigit (c :: r))) rfl (by intro h; rw [h] at hlen; simp at hlen; omega) hall (by
        intro h;rw [hhead] at h;rw [hlen]
        rw [List.head?_cons] at h0
        by_cases hh : runL isDigit (c :: r) ≤ 1
        · exact hh
        · exact absurd ⟨h,by omega⟩ h0)).1
      rw [hn]
      show (Lib.itoa _,decide _) = _
      rw [Lib.itoa,if_neg (Int.not_lt.2 hb.1),hd,decide_eq_true (by exact ⟨hb.1,hb.2,rfl⟩)]
    rename_i a4
    rw [if_neg a4]
    split at he
    · simp at he
    rename_i a5
    rw [if_neg a5]
    have hlt : isLetter c = true := by
      cases hl : isLetter c
      · exact absurd ⟨by simpa using a3,hl,by simpa using a4⟩ a1
      · rfl
    have hin : isInner c = true:=by simp [isInner,hlt]
    have hall:=runL_all isInner (c :: r)
    have hlen : ((c :: r).take (runL isInner (c :: r))).length ≤ 16:=by rw [List.length_take];omega
    obtain ⟨m,hm⟩ : ∃ m,runL isInner (c :: r) = m + 1:=⟨runL isInner (c :: r) - 1,by have:=runL_head isInner c r hin;omega⟩
    rw [hm] at hall hlen ⊢
    rw [List.take_succ_cons] at hall hlen ⊢
    show (_,nameL _ && decide _) = _
    simp only [nameL,decide_true,hlt,hall,Bool.and_self,decide_eq_true hlen]
/-- The text of a token that may be is cut into it. -/
theorem tokenL_of_text (t : Tok) (cnt : Nat) (hc : cnt ≠ 8192) (h : (textL t).2 = true) : (textL t).1 ≠ [] ∧ tokenL (textL t).1 cnt = (t.bare,(textL t).1.length,0) := by
  obtain ⟨K,P,N,S⟩:=t
  unfold textL at h ⊢
  simp only at h ⊢
  by_cases h1 : K = 1
  · subst h1
    simp only [if_true,Bool.and_eq_true,decide_eq_true_eq] at h ⊢
    obtain ⟨hn,rfl⟩:=h
    cases S with
    | nil => cases hn
    | cons c r =>
      simp only [nameL,Bool.and_eq_true,decide_eq_true_eq] at hn
      obtain ⟨⟨h16,hlt⟩,hall⟩:=hn
      refine ⟨by simp,?_⟩
      have hr:=runL_whole isInner (c :: r) hall
      rw [tokenL_def,if_neg (by simp [hlt]),if_neg hc,if_neg (by simp [letter_sign c hlt]),if_neg (by simp [letter_digit c hlt]),hr,if_neg (by omega),List.take_length]
      rfl
  rw [if_neg h1] at h ⊢
  by_cases h2 : K = 2
  · subst h2
    rw [if_pos rfl] at h ⊢
    simp only [decide_eq_true_eq] at h
    obtain ⟨h0,h9,rfl⟩:=h
    obtain ⟨u,rfl⟩:=Int.eq_ofNat_of_zero_le h0
    have hi : Lib.itoa (u : Int) = Lib.decDigits u:=by rw [Lib.itoa,if_neg (by omega),Int.toNat_natCast]
    rw [hi]
    obtain ⟨hall,hnum⟩:=dec_digits 8 u (by omega)
    have hne:=dec_ne u
    have hlen:=Lib.decDigits_length u
    have hnd:=nDigits_pow 8 u (by omega)
    refine ⟨hne,?_⟩
    have hh : ¬ ((Lib.decDigits u).head? = some 48 ∧ (Lib.decDigits u).length > 1) := by
      rintro ⟨a,b⟩
      by_cases hu : u = 0
      · subst hu;rw [Lib.decDigits_one (by omega)] at b;simp at b
      · exact dec_head 8 u (by omega) (by omega) a
    have hr:=runL_whole isDigit (Lib.decDigits u) hall
    have hnl : numberL (Lib.decDigits u) = ((u : Int),(Lib.decDigits u).length,0) := by
      unfold numberL
      rw [hr]
      dsimp only
      rw [if_neg (by omega),if_neg hh,if_neg (by simp),List.take_length,hnum]
    cases hd : Lib.decDigits u with
    | nil => exact absurd hd hne
    | cons c r =>
      rw [hd] at hnl hall
      have hcd : isDigit c = true:=by simp at hall;exact hall.1
      have hs : signK c = 0 := by
        by_cases hk : signK c = 0
        · exact hk
        · have:=(sign_other c hk).2;rw [hcd] at this;cases this
      rw [tokenL_def,if_neg (by simp [hcd]),if_neg hc,if_neg (by simp [hs]),if_pos hcd,hnl]
      rfl
  rw [if_neg h2] at h ⊢
  by_cases h3 : K = 3
  · subst h3
    rw [if_pos rfl] at h ⊢
    simp only [decide_eq_true_eq] at h
    obtain ⟨rfl,rfl⟩:=h
    exact ⟨by simp,by rw [tokenL_def,if_neg (by decide),if_neg hc,if_pos (by decide)];rfl⟩
  rw [if_neg h3] at h ⊢
  by_cases h4 : K = 4
  · subst h4
    rw [if_pos rfl] at h ⊢
    simp only [decide_eq_true_eq] at h
    obtain ⟨rfl,rfl⟩:=h
    exact ⟨by simp,by rw [tokenL_def,if_neg (by decide),if_neg hc,if_pos (by decide)];rfl⟩
  rw [if_neg h4] at h ⊢
  by_cases h5 : K = 5
  · subst h5
    rw [if_pos rfl] at h ⊢
    simp only [decide_eq_true_eq] at h
    obtain ⟨rfl,rfl⟩:=h
    exact ⟨by simp,by rw [tokenL_def,if_neg (by decide),if_neg hc,if_pos (by decide)];rfl⟩
  rw [if_neg h5] at h
  cases h
theorem text_free (t : Tok) (h : (textL t).2 = true) : freeM false (textL t).1 = 0 := by
  obtain ⟨h1,h2⟩:=tokenL_of_text t 0 (by decide) h
  cases hu : (textL t).1 with
  | nil => exact absurd hu h1
  | cons c r =>
    rw [hu] at h2
    by_cases hb : isBlank c = true
    · exfalso
      have h3 : (tokenL (c :: r) 0).2.2 = 0:=by rw [h2]
      rw [tokenL_def,if_pos ?_] at h3
      · simp at h3
      · have := (blank_iff c).1 hb
        refine ⟨?_,?_,?_⟩
        · have:=signK_int c;rw [if_neg (by omega),if_neg (by omega),if_neg (by omega)] at this;exact this
        · cases hl : isLetter c
          · rfl
          · have:=(isLetter_iff c).1 hl;omega
        · cases hl : isDigit c
          · rfl
          · have:=(isDigit_iff c).1 hl;omega
    · by_cases h35 : c = 35
      · exfalso
        subst h35
        have h3 : (tokenL (35 :: r) 0).2.2 = 0:=by rw [h2]
        rw [tokenL_def,if_pos (by decide)] at h3
        simp at h3
      · show (if isBlank c then _ else if c = 35 then _ else 0) = 0
        rw [if_neg hb,if_neg h35]
/-- A token's text with what stops it behind it. -/
theorem cut_text (t : Tok) (pos cnt : Nat) (v : Bytes) (hc : cnt ≠ 8192) (h : (textL t).2 = true) (hv : stops v) :
    cutM false 0 pos cnt ((textL t).1 ++ v) = .cons { t.bare with pos:=pos } (cutM false 0 (pos + (textL t).1.length) (cnt + 1) v):=by
  obtain ⟨h1,h2⟩:=tokenL_of_text t cnt hc h
  have hf:=text_free t h
  generalize (textL t).1 = u at *
  cases u with
  | nil => exact absurd rfl h1
  | cons c r =>
    have hfh:=free_head c r hf
    have hs:=tokenL_stop (c :: r) v cnt h1 hv
    rw [h2,List.cons_append] at hs
    rw [List.cons_append,cutM,if_neg (by simp [hfh.1]),if_neg hfh.2,hs]
    dsimp only
    rw [if_neg (by simp),cutM_skip _ _ _ _ (by simp)]
    simp only [List.length_cons,Nat.add_sub_cancel,List.drop_left]
    rw [show pos + 1 + r.length = pos + (r.length + 1) by omega]
theorem tail_stops (xs : List Bytes) : stops (Lib.joinTail [32] xs) := by
  cases xs with
  | nil => intro c hc;simp [Lib.joinTail] at hc
  | cons x r => intro c hc;simp [Lib.joinTail] at hc;subst hc;rfl
theorem cons_bare (t : Tok) (p : Int) (r : CutRes) (h : r.err = 0) : (CutRes.cons { t.bare with pos := p } r).err = 0 ∧ (CutRes.cons { t.bare with pos := p } r).pos = 0 ∧ (CutRes.cons { t.bare with pos := p } r).toks.map Tok.bare = t.bare :: r.toks.map Tok.bare := by
  unfold CutRes.cons
  rw [if_pos h]
  exact ⟨rfl,rfl,by simp [Tok.bare]⟩
theorem cut_tail : ∀ (l : List Tok) (pos cnt : Nat),l.all (fun t => (textL t).2) = true → cnt + l.length ≤ 8192 →
    (cutM false 0 pos cnt (Lib.joinTail [32] (textsL l))).err = 0 ∧ (cutM false 0 pos cnt (Lib.joinTail [32] (textsL l))).pos = 0 ∧ (cutM false 0 pos cnt (Lib.joinTail [32] (textsL l))).toks.map Tok.bare = l.map Tok.bare
  | [],pos,cnt,_,_ => by
    skip
    rw [show Lib.joinTail [32] (textsL []) = [] from rfl,cutM_nil]
    exact ⟨rfl,rfl,rfl⟩
  | t :: l,pos,cnt,h,hl => by
    simp only [List.all_cons,Bool.and_eq_true,List.length_cons] at h hl
    obtain ⟨i1,i2,i3⟩:=cut_tail l (pos + 1 + (textL t).1.length) (cnt + 1) h.2 (by omega)
    have e : Lib.joinTail [32] (textsL (t :: l)) = 32 :: ((textL t).1 ++ Lib.joinTail [32] (textsL l)):=by simp [Lib.joinTail,textsL]
    rw [e,cutM,if_pos (by rfl),cut_text t (pos + 1) cnt _ (by omega) h.1 (tail_stops _)]
    obtain ⟨j1,j2,j3⟩:=cons_bare t ((pos + 1 : Nat) : Int) _ i1
    exact ⟨j1,j2,by rw [j3,i3,List.map_cons]⟩
/-- Tokens put together are cut into the same tokens. -/
theorem join_cut (l : List Tok) (hl : l.length ≤ 8192) (h : (joinL l).2 = 0) : (cutL (joinL l).1).err = 0 ∧ (cutL (joinL l).1).pos = 0 ∧ (cutL (joinL l).1).toks.map Tok.bare = l.map Tok.bare := by
  unfold joinL at h ⊢
  rw [if_neg (by omega)] at h ⊢
  split at h
  · rename_i hall
    rw [if_pos hall]
    split at h
    · simp at h
    · rename_i h6
      rw [if_neg h6]
      unfold cutL
      rw [if_neg h6]
      cases l with
      | nil => exact ⟨rfl,rfl,rfl⟩
      | cons t l =>
        simp only [List.all_cons,Bool.and_eq_true,List.length_cons] at hall hl
        have e : Lib.join (textsL (t :: l)) [32] = (textL t).1 ++ Lib.joinTail [32] (textsL l):=by rw [textsL,List.map_cons,Lib.join_cons];rfl
        rw [e,cut_text t 0 0 _ (by decide) hall.1 (tail_stops _)]
        obtain ⟨i1,i2,i3⟩:=cut_tail l (0 + (textL t).1.length) (0 + 1) hall.2 (by omega)
        obtain ⟨j1,j2,j3⟩:=cons_bare t ((0 : Nat) : Int) _ i1
        exact ⟨j1,j2,by rw [j3,i3,List.map_cons]⟩
  · simp at h
/-- What Cut tells may be. -/
theorem cutM_ok : ∀ (b : Bool) (j pos cnt : Nat) (l : Bytes),∀ t ∈ (cutM b j pos cnt l).toks,(textL t).2 = true
  | b,j,pos,cnt,[],t,h => by rw [cutM_nil] at h;simp at h
  | b,j + 1,pos,cnt,c :: r,t,h => by
    have e1 : cutM b (j + 1) pos cnt (c :: r) = cutM b j (pos + 1) cnt r:=by cases b <;> rfl
    rw [e1] at h
    exact cutM_ok b j (pos + 1) cnt r t h
  | true,0,pos,cnt,c :: r,t,h => cutM_ok (notEol c) 0 (pos + 1) cnt r t h
  | false,0,pos,cnt,c :: r,t,h => by
    rw [cutM] at h
    split at h
    · exact cutM_ok false 0 (pos + 1) cnt r t h
    split at h
    · exact cutM_ok true 0 (pos + 1) cnt r t h
    dsimp only at h
    split at h
    · simp at h
    · rename_i he
      have he0 : (tokenL (c :: r) cnt).2.2 = 0:=by simpa using he
      unfold CutRes.cons at h
      split at h
      · simp only [List.mem_cons] at h
        rcases h with rfl | h
        · have := tokenL_text (c :: r) cnt (by simp) he0
          have e : textL { (tokenL (c :: r) cnt).1 with pos:=pos } = textL (tokenL (c :: r) cnt).1:=rfl
          rw [e,this]
        · exact cutM_ok false _ (pos + 1) (cnt + 1) r t h
      · exact cutM_ok false _ (pos + 1) (cnt + 1) r t h
theorem cut_join (s : Bytes) (hs : s.length ≤ 3000) : (joinL (cutL s).toks).2 = 0 := by
  have hl:=cutL_len s
  have hall : (cutL s).toks.all (fun t => (textL t).2) = true := by
    rw [List.all_eq_true]
    unfold cutL
    rw [if_neg (by omega)]
    exact cutM_ok _ _ _ _ _
  have hlen:=texts_len _ hall
  unfold joinL
  rw [if_neg (by omega),if_pos hall,if_neg (by omega)]
theorem text_fits (t : Tok) (h : (textL t).2 = true) : t.s.length ≤ 16 ∧ 0 ≤ t.n ∧ t.n ≤ 999999999 := by
  obtain ⟨K,P,N,S⟩:=t
  unfold textL at h
  simp only at h ⊢
  by_cases h1 : K = 1
  · rw [if_pos h1] at h
    simp only [Bool.and_eq_true,decide_eq_true_eq] at h
    obtain ⟨h2,rfl⟩:=h
    unfold nameL at h2
    split at h2
    · cases h2
    · simp only [Bool.and_eq_true,decide_eq_true_eq] at h2
      exact ⟨h2.1.1,by omega,by omega⟩
  rw [if_neg h1] at h
  by_cases h2 : K = 2
  · rw [if_pos h2] at h
    simp only [decide_eq_true_eq] at h
    obtain ⟨h3,h4,rfl⟩:=h
    exact ⟨by simp,h3,h4⟩
  rw [if_neg h2] at h
  repeat' split at h
  all_goals first | (cases h;done) | (simp only [decide_eq_true_eq] at h;obtain ⟨rfl,rfl⟩:=h;exact ⟨by simp,by omega,by omega⟩)
theorem join_small (l : List Tok) : (joinL l).1.length ≤ 65536 := by
  unfold joinL
  repeat' split
  all_goals first | (simp;done) | (simp only;omega)
theorem cut_fits (s : Bytes) (hs : s.length ≤ 65536) : ∀ t ∈ (cutL s).toks,(textL t).2 = true := by
  unfold cutL
  rw [if_neg (by omega)]
  exact cutM_ok _ _ _ _ _
end
section
structure WordL where
  num : Bool
  n : Int
  s : Bytes
  pos : Int
  deriving DecidableEq,Repr
inductive NodeL where
  | mk (name : Bytes) (pos : Int) (words : List WordL) (block : Bool) (kids : List NodeL)
def NodeL.name : NodeL → Bytes | .mk n _ _ _ _ => n
def NodeL.pos : NodeL → Int | .mk _ p _ _ _ => p
def NodeL.words : NodeL → List WordL | .mk _ _ w _ _ => w
def NodeL.block : NodeL → Bool | .mk _ _ _ b _ => b
def NodeL.kids : NodeL → List NodeL | .mk _ _ _ _ k => k
/-- A block that is open: its name,place,words,and what stands in it so far. -/
structure FrameL where
  name : Bytes
  pos : Int
  words : List WordL
  kids : List NodeL
/-- An item that is read. -/
structure ItemL where
  name : Bytes
  pos : Int
  words : List WordL
def FrameL.add (f : FrameL) (n : NodeL) : FrameL:={ f with kids:=f.kids ++ [n] }
def FrameL.node (f : FrameL) : NodeL:=.mk f.name f.pos f.words true f.kids
def ItemL.node (i : ItemL) : NodeL:=.mk i.name i.pos i.words false []
inductive StepR where
  | bad (e : Int)
  | fine (fs : List FrameL) (it : Option ItemL)
/-- A token where an item begins,or a block ends. -/
def beginT (fs : List FrameL) (t : Tok) : StepR :=
  if t.kind = 1 then .fine fs (some ⟨t.s,t.pos,[]⟩)
  else if t.kind = 4 then (match fs with | f :: g :: r => .fine (g.add f.node :: r) none | _ => .bad 5)
  else .bad 5
/-- A token within an item. -/
def goT (fs : List FrameL) (i : ItemL) (t : Tok) : StepR :=
  if t.kind = 1 ∨ t.kind = 2 then (if i.words.length = 8 then .bad 6 else .fine fs (some { i with words:=i.words ++ [⟨decide (t.kind = 2),t.n,t.s,t.pos⟩] }))
  else if t.kind = 5 then (match fs with | f :: r => .fine (f.add i.node :: r) none | [] => .bad 5)
  else if t.kind = 3 then (if fs.length = 7 then .bad 7 else .fine (⟨i.name,i.pos,i.words,[]⟩ :: fs) none)
  else .bad 5
def stepT (fs : List FrameL) (it : Option ItemL) (t : Tok) : StepR :=
  match it with
  | none => beginT fs t
  | some i => goT fs i t
structure ParseRes where
  nodes : List NodeL
  pos : Int
  err : Int
def endT (E : Int) : List FrameL → Option ItemL → ParseRes
  | [f],none => ⟨f.kids,0,0⟩
  | _,_ => ⟨[],E,5⟩
def parseT (E : Int) : List FrameL → Option ItemL → List Tok → ParseRes
  | fs,it,[] => endT E fs it
  | fs,it,t :: ts =>
    match stepT fs it t with
    | .bad e => ⟨[],t.pos,e⟩
    | .fine fs' it' => parseT E fs' it' ts
def rootF : FrameL:=⟨[],0,[],[]⟩
def treeL (s : Bytes) : ParseRes :=
  if (cutL s).err ≠ 0 then ⟨[],(cutL s).pos,(cutL s).err⟩ else parseT s.length [rootF] none (cutL s).toks
/-! ### What may be;how deep;the same;few -/
def wordOk (w : WordL) : Bool:=if w.num then decide (w.s = []) && decide (0 ≤ w.n) && decide (w.n ≤ 999999999) else decide (w.n = 0) && nameL w.s
mutual
def checkN (d : Nat) : NodeL → Int
  | .mk nm _ ws b ks => if (!ws.all wordOk || !nameL nm || decide (8 < ws.length) || (!b && decide (0 < ks.length))) = true then 1 else if b = true ∧ d = 6 then 7 else checkL (d + 1) ks
def checkL (d : Nat) : List NodeL → Int
  | [] => 0
  | n :: r => if checkN d n ≠ 0 then checkN d n else checkL d r
end
mutual
def deepN : NodeL → Nat
  | .mk _ _ _ b ks => deepL ks + (if b then 1 else 0)
def deepL : List NodeL → Nat
  | [] => 0
  | n :: r => max (deepN n) (deepL r)
end
def sameW (v w : WordL) : Bool:=(v.num == w.num) && decide (v.n = w.n) && decide (v.s = w.s)
def sameWs : List WordL → List WordL → Bool
  | [],[] => true
  | v :: l,w :: m => sameW v w && sameWs l m
  | _,_ => false
mutual
def sameN : NodeL → NodeL → Bool
  | .mk n1 _ w1 b1 k1, .mk n2 _ w2 b2 k2 => sameWs w1 w2 && decide (n1 = n2) && (b1 == b2) && sameNs k1 k2
def sameNs : List NodeL → List NodeL → Bool
  | [],[] => true
  | x :: l,y :: m => sameN x y && sameNs l m
  | _,_ => false
end
mutual
def leftN (most : Int) (deep : Int) : NodeL → Int
  | .mk _ _ ws _ ks => if most < 0 ∨ 20 < ws.length then -1 else leftL (most - 1) (deep - 1) ks
def leftL (most : Int) (deep : Int) : List NodeL → Int
  | [] => most
  | n :: r => if deep = 0 then -1 else leftGo most deep (n :: r)
def leftGo (most : Int) (deep : Int) : List NodeL → Int
  | [] => most
  | n :: r => leftGo (leftN most deep n) deep r
end
end
end Go.Proofs.YtjbniichcopnlaaGreatDoor
