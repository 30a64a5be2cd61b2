/- Layer 8 (lex): the plain laws: texts one behind the other, blanks put in, what stands ahead of an error. No program in sight. -/
import Derived.Test.YtjbniichcopnlaaGreatDoorPkS3
namespace Go.Proofs.YtjbniichcopnlaaGreatDoor
/-- No run of a name or a number goes on into v. -/
def stops (v : Bytes) : Prop:=∀ c,v.head? = some c → isInner c = false
theorem inner_of_digit (c : UInt8) (h : isDigit c = true) : isInner c = true:=by simp [isInner,h]
theorem runL_stop (p : UInt8 → Bool) (hp : ∀ c,p c = true → isInner c = true) : ∀ (u v : Bytes),stops v → runL p (u ++ v) = runL p u
  | [],[],_ => rfl
  | [],c :: v,h => by
    have:=h c rfl
    rw [List.nil_append,runL_cons]
    cases hc : p c
    · rfl
    · rw [hp c hc] at this;cases this
  | c :: u,v,h => by
    rw [List.cons_append,runL_cons,runL_cons,runL_stop p hp u v h]
theorem any_stop (u v : Bytes) (m : Nat) (h : stops v) (hm : m ≤ u.length) : ((u ++ v)[m]?).any isInner = (u[m]?).any isInner := by
  by_cases hlt : m < u.length
  · rw [List.getElem?_append_left hlt]
  · obtain rfl : m = u.length := by omega
    rw [List.getElem?_append_right (Nat.le_refl _),Nat.sub_self,List.getElem?_eq_none (Nat.le_refl _),← List.head?_eq_getElem?]
    cases hv : v.head? with
    | none => rfl
    | some c => simp [h c hv]
theorem numberL_stop (u v : Bytes) (hu : u ≠ []) (h : stops v) : numberL (u ++ v) = numberL u := by
  have h1:=runL_stop isDigit inner_of_digit u v h
  have h2:=runL_le isDigit u
  unfold numberL
  rw [h1]
  dsimp only
  rw [any_stop u v _ h h2,List.take_append_of_le_length h2]
  have : (u ++ v).head? = u.head?:=by cases u with | nil => exact absurd rfl hu | cons c u => rfl
  rw [this]
theorem tokenL_stop (u v : Bytes) (cnt : Nat) (hu : u ≠ []) (h : stops v) : tokenL (u ++ v) cnt = tokenL u cnt := by
  cases u with
  | nil => exact absurd rfl hu
  | cons c u =>
    have h1:=numberL_stop (c :: u) v hu h
    have h2:=runL_stop isInner (fun _ h => h) (c :: u) v h
    have h3:=runL_le isInner (c :: u)
    rw [List.cons_append,tokenL_def,tokenL_def,← List.cons_append,h1,h2,List.take_append_of_le_length h3]
/-! ### Two texts,one behind the other,a line's end between -/
theorem cutM_app : ∀ (b : Bool) (j pos cnt : Nat) (u t : Bytes),j ≤ u.length →
    cutM b j pos cnt (u ++ 10 :: t) = if (cutM b j pos cnt u).err = 0 then (cutM false 0 (pos + u.length + 1) (cnt + (cutM b j pos cnt u).toks.length) t).pre (cutM b j pos cnt u).toks else cutM b j pos cnt u
  | b,j,pos,cnt,[],t,h => by
    obtain rfl : j = 0:=by simpa using h
    rw [cutM_nil]
    simp only [if_true,List.length_nil,Nat.add_zero,List.nil_append,cutM_pre_nil]
    cases b
    · rw [cutM,if_pos (by rfl)]
    · rw [cutM];rfl
  | b,j + 1,pos,cnt,c :: r,t,h => by
    have ih:=cutM_app b j (pos + 1) cnt r t (by simpa using h)
    have e1 : ∀ l,cutM b (j + 1) pos cnt (c :: l) = cutM b j (pos + 1) cnt l:=fun l => by cases b <;> rfl
    rw [List.cons_append,e1,e1,ih,List.length_cons]
    have : pos + 1 + r.length + 1 = pos + (r.length + 1) + 1:=by omega
    rw [this]
  | true,0,pos,cnt,c :: r,t,h => by
    have ih:=cutM_app (notEol c) 0 (pos + 1) cnt r t (Nat.zero_le _)
    rw [List.cons_append]
    show cutM (notEol c) 0 (pos + 1) cnt (r ++ 10 :: t) = if (cutM (notEol c) 0 (pos + 1) cnt r).err = 0 then (cutM false 0 _ _ t).pre (cutM (notEol c) 0 (pos + 1) cnt r).toks else cutM (notEol c) 0 (pos + 1) cnt r
    rw [ih,List.length_cons]
    have : pos + 1 + r.length + 1 = pos + (r.length + 1) + 1:=by omega
    rw [this]
    rfl
  | false,0,pos,cnt,c :: r,t,h => by
    have hn : pos + 1 + r.length + 1 = pos + (r.length + 1) + 1:=by omega
    by_cases hb : isBlank c = true
    · have ih := cutM_app false 0 (pos + 1) cnt r t (Nat.zero_le _)
      have e1 : ∀ l,cutM false 0 pos cnt (c :: l) = cutM false 0 (pos + 1) cnt l:=fun l => by rw [cutM,if_pos hb]
      rw [List.cons_append,e1,e1,ih,List.length_cons,hn]
    by_cases h35 : c = 35
    · have ih := cutM_app true 0 (pos + 1) cnt r t (Nat.zero_le _)
      have e1 : ∀ l,cutM false 0 pos cnt (c :: l) = cutM true 0 (pos + 1) cnt l:=fun l => by rw [cutM,if_neg hb,if_pos h35]
      rw [List.cons_append,e1,e1,ih,List.length_cons,hn]
    have hs : stops (10 :: t):=fun x hx => by simp at hx;subst hx;rfl
    have ht:=tokenL_stop (c :: r) (10 :: t) cnt (by simp) hs
    rw [List.cons_append] at ht
    have e1 : ∀ l,cutM false 0 pos cnt (c :: l) = if (tokenL (c :: l) cnt).2.2 ≠ 0 then ⟨[],pos + (tokenL (c :: l) cnt).2.1,(tokenL (c :: l) cnt).2.2⟩
        else .cons { (tokenL (c :: l) cnt).1 with pos:=pos } (cutM false ((tokenL (c :: l) cnt).2.1 - 1) (pos + 1) (cnt + 1) l):=fun l => by rw [cutM,if_neg hb,if_neg h35]
    rw [List.cons_append,e1,e1,ht]
    by_cases he : (tokenL (c :: r) cnt).2.2 ≠ 0
    · rw [if_pos he,if_pos he,if_neg he]
    · rw [if_neg he,if_neg he]
      have hl:=tokenL_len (c :: r) cnt (by simp)
      have ih:=cutM_app false ((tokenL (c :: r) cnt).2.1 - 1) (pos + 1) (cnt + 1) r t (by have:=hl.1;simp only [List.length_cons] at this;omega)
      rw [ih,List.length_cons]
      unfold CutRes.cons
      by_cases hr : (cutM false ((tokenL (c :: r) cnt).2.1 - 1) (pos + 1) (cnt + 1) r).err = 0
      · simp only [hr,if_true,List.length_cons]
        have e2 : pos + 1 + r.length + 1 = pos + (r.length + 1) + 1:=by omega
        have e3 : cnt + 1 + (cutM false ((tokenL (c :: r) cnt).2.1 - 1) (pos + 1) (cnt + 1) r).toks.length = cnt + ((cutM false ((tokenL (c :: r) cnt).2.1 - 1) (pos + 1) (cnt + 1) r).toks.length + 1):=by omega
        rw [e2,e3]
        unfold CutRes.pre
        split
        · simp
        · rfl
      · simp only [hr,if_false]
/-! ### Places moved;how many tokens stand ahead -/
def CutRes.shift (d : Nat) (r : CutRes) : CutRes:=⟨r.toks.map fun t => { t with pos:=t.pos + d },if r.err = 0 then 0 else r.pos + d,r.err⟩
theorem cons_shift (t : Tok) (d : Nat) (r : CutRes) : (CutRes.cons t r).shift d = CutRes.cons { t with pos := t.pos + d } (r.shift d) := by
  unfold CutRes.cons CutRes.shift
  by_cases h : r.err = 0 <;> simp [h]
theorem cutM_shift (d : Nat) : ∀ (b : Bool) (j pos cnt : Nat) (l : Bytes),cutM b j (pos + d) cnt l = (cutM b j pos cnt l).shift d
  | b,j,pos,cnt,[] => by rw [cutM_nil,cutM_nil];rfl
  | b,j + 1,pos,cnt,c :: r => by
    have ih:=cutM_shift d b j (pos + 1) cnt r
    have e1 : ∀ p,cutM b (j + 1) p cnt (c :: r) = cutM b j (p + 1) cnt r:=fun p => by cases b <;> rfl
    rw [e1,e1,← ih];congr 1;omega
  | true,0,pos,cnt,c :: r => by
    have ih:=cutM_shift d (notEol c) 0 (pos + 1) cnt r
    show cutM (notEol c) 0 (pos + d + 1) cnt r = (cutM (notEol c) 0 (pos + 1) cnt r).shift d
    rw [← ih];congr 1;omega
  | false,0,pos,cnt,c :: r => by
    have hp : pos + d + 1 = pos + 1 + d:=by omega
    rw [cutM,cutM]
    split
    · rw [hp];exact cutM_shift d false 0 (pos + 1) cnt r
    split
    · rw [hp];exact cutM_shift d true 0 (pos + 1) cnt r
    dsimp only
    split
    · rename_i h
      unfold CutRes.shift
      simp only [h,if_false,List.map_nil,CutRes.mk.injEq,true_and,and_true]
      omega
    · rw [cons_shift,hp,cutM_shift d false _ (pos + 1) (cnt + 1) r]
      simp
theorem tokenL_cnt (l : Bytes) (a b : Nat) (ha : a ≠ 8192) (hb : b ≠ 8192) : tokenL l a = tokenL l b := by
  cases l with
  | nil => rfl
  | cons c r => rw [tokenL_def,tokenL_def,if_neg ha,if_neg hb]
theorem cutM_cnt : ∀ (b : Bool) (j pos x y : Nat) (l : Bytes),x + l.length ≤ 8192 → y + l.length ≤ 8192 → cutM b j pos x l = cutM b j pos y l
  | b,j,pos,x,y,[],_,_ => by rw [cutM_nil,cutM_nil]
  | b,j + 1,pos,x,y,c :: r,hx,hy => by
    simp only [List.length_cons] at hx hy
    have ih:=cutM_cnt b j (pos + 1) x y r (by omega) (by omega)
    cases b <;> exact ih
  | true,0,pos,x,y,c :: r,hx,hy => by
    simp only [List.length_cons] at hx hy
    exact cutM_cnt (notEol c) 0 (pos + 1) x y r (by omega) (by omega)
  | false,0,pos,x,y,c :: r,hx,hy => by
    simp only [List.length_cons] at hx hy
    rw [cutM,cutM,tokenL_cnt (c :: r) x y (by omega) (by omega)]
    split
    · exact cutM_cnt false 0 (pos + 1) x y r (by omega) (by omega)
    split
    · exact cutM_cnt true 0 (pos + 1) x y r (by omega) (by omega)
    dsimp only
    split
    · rfl
    · rw [cutM_cnt false _ (pos + 1) (x + 1) (y + 1) r (by omega) (by omega)]
/-! ### A text cut at a token: whatever stands there then -/
theorem pre_pre (a b : List Tok) (r : CutRes) : (r.pre b).pre a = r.pre (a ++ b) := by
  unfold CutRes.pre
  by_cases h : r.err = 0 <;> simp [h]
theorem cons_eq_pre (t : Tok) (r : CutRes) : CutRes.cons t r = if r.err = 0 then r.pre [t] else r := by
  unfold CutRes.cons CutRes.pre
  by_cases h : r.err = 0 <;> simp [h]
theorem cons_pre (t : Tok) (a : List Tok) (r : CutRes) : CutRes.cons t (r.pre a) = r.pre (t :: a) := by
  unfold CutRes.cons CutRes.pre
  by_cases h : r.err = 0 <;> simp [h]
theorem cutM_split : ∀ (b : Bool) (j pos cnt : Nat) (l : Bytes) (i : Nat) (t : Tok),(cutM b j pos cnt l).err = 0 → (cutM b j pos cnt l).toks[i]? = some t →
    ∃ q : Nat,t.pos = ((pos + q : Nat) : Int) ∧ j ≤ q ∧ q ≤ l.length ∧
      ∀ v,v = l.drop q ∨ stops v → cutM b j pos cnt (l.take q ++ v) = (cutM false 0 (pos + q) (cnt + i) v).pre ((cutM b j pos cnt l).toks.take i)
  | b,j,pos,cnt,[],i,t,_,h => by rw [cutM_nil] at h;simp at h
  | b,j + 1,pos,cnt,c :: r,i,t,he,h => by
    have e1 : ∀ l,cutM b (j + 1) pos cnt (c :: l) = cutM b j (pos + 1) cnt l:=fun l => by cases b <;> rfl
    rw [e1] at h he
    obtain ⟨q,h1,h2,h3,h4⟩:=cutM_split b j (pos + 1) cnt r i t he h
    refine ⟨q + 1,by rw [h1];omega,by omega,by simpa using h3,fun v hv => ?_⟩
    rw [List.take_succ_cons,List.cons_append,e1,e1,h4 v (by simpa using hv)]
    have : pos + 1 + q = pos + (q + 1):=by omega
    rw [this]
  | true,0,pos,cnt,c :: r,i,t,he,h => by
    have e1 : ∀ l,cutM true 0 pos cnt (c :: l) = cutM (notEol c) 0 (pos + 1) cnt l:=fun l => rfl
    rw [e1] at h he
    obtain ⟨q,h1,h2,h3,h4⟩:=cutM_split (notEol c) 0 (pos + 1) cnt r i t he h
    refine ⟨q + 1,by rw [h1];omega,by omega,by simpa using h3,fun v hv => ?_⟩
    rw [List.take_succ_cons,List.cons_append,e1,e1,h4 v (by simpa using hv)]
    have : pos + 1 + q = pos + (q + 1):=by omega
    rw [this]
  | false,0,pos,cnt,c :: r,i,t,he,h => by
    by_cases hb : isBlank c = true
    · have e1 : ∀ l,cutM false 0 pos cnt (c :: l) = cutM false 0 (pos + 1) cnt l := fun l => by rw [cutM,if_pos hb]
      rw [e1] at h he
      obtain ⟨q,h1,h2,h3,h4⟩:=cutM_split false 0 (pos + 1) cnt r i t he h
      refine ⟨q + 1,by rw [h1];omega,by omega,by simpa using h3,fun v hv => ?_⟩
      rw [List.take_succ_cons,List.cons_append,e1,e1,h4 v (by simpa using hv)]
      have : pos + 1 + q = pos + (q + 1):=by omega
      rw [this]
    by_cases h35 : c = 35
    · have e1 : ∀ l,cutM false 0 pos cnt (c :: l) = cutM true 0 (pos + 1) cnt l := fun l => by rw [cutM,if_neg hb,if_pos h35]
      rw [e1] at h he
      obtain ⟨q,h1,h2,h3,h4⟩:=cutM_split true 0 (pos + 1) cnt r i t he h
      refine ⟨q + 1,by rw [h1];omega,by omega,by simpa using h3,fun v hv => ?_⟩
      rw [List.take_succ_cons,List.cons_append,e1,e1,h4 v (by simpa using hv)]
      have : pos + 1 + q = pos + (q + 1):=by omega
      rw [this]
    have e1 : ∀ l,cutM false 0 pos cnt (c :: l) = if (tokenL (c :: l) cnt).2.2 ≠ 0 then ⟨[],pos + (tokenL (c :: l) cnt).2.1,(tokenL (c :: l) cnt).2.2⟩
        else .cons { (tokenL (c :: l) cnt).1 with pos:=pos } (cutM false ((tokenL (c :: l) cnt).2.1 - 1) (pos + 1) (cnt + 1) l):=fun l => by rw [cutM,if_neg hb,if_neg h35]
    rw [e1] at h he
    by_cases ht : (tokenL (c :: r) cnt).2.2 ≠ 0
    · rw [if_pos ht] at he;exact absurd he ht
    rw [if_neg ht] at h he
    have ht0 : (tokenL (c :: r) cnt).2.2 = 0:=by simpa using ht
    have hw:=(tokenL_len (c :: r) cnt (by simp)).2.1 ht0
    have hr : (cutM false ((tokenL (c :: r) cnt).2.1 - 1) (pos + 1) (cnt + 1) r).err = 0 := by
      unfold CutRes.cons at he
      split at he
      · assumption
      · exact he
    have hc : CutRes.cons { (tokenL (c :: r) cnt).1 with pos := (pos : Int) } (cutM false ((tokenL (c :: r) cnt).2.1 - 1) (pos + 1) (cnt + 1) r) = ⟨{ (tokenL (c :: r) cnt).1 with pos := (pos : Int) } :: (cutM false ((tokenL (c :: r) cnt).2.1 - 1) (pos + 1) (cnt + 1) r).toks,0,0⟩ := by
      unfold CutRes.cons;rw [if_pos hr]
    rw [hc] at h
    cases i with
    | zero =>
      simp only [List.getElem?_cons_zero,Option.some.injEq] at h
      refine ⟨0,by rw [← h];rfl,Nat.le_refl _,Nat.zero_le _,fun v _ => ?_⟩
      rw [List.take_zero,List.take_zero,List.nil_append,cutM_pre_nil];rfl
    | succ i =>
      simp only [List.getElem?_cons_succ] at h
      obtain ⟨q,h1,h2,h3,h4⟩:=cutM_split false ((tokenL (c :: r) cnt).2.1 - 1) (pos + 1) (cnt + 1) r i t hr h
      refine ⟨q + 1,by rw [h1];omega,by omega,by simpa using h3,fun v hv => ?_⟩
      have htv : tokenL (c :: (r.take q ++ v)) cnt = tokenL (c :: r) cnt := by
        rcases hv with rfl | hv
        · rw [List.drop_succ_cons,List.take_append_drop]
        · have s1 := tokenL_stop (c :: r.take q) v cnt (by simp) hv
          have s2:=tokenL_take (c :: r) cnt (q + 1) (by simp) ht0 (by omega)
          rw [List.take_succ_cons] at s2
          rw [← s2,← s1];rfl
      rw [List.take_succ_cons,List.cons_append,e1,e1,htv,if_neg ht,if_neg ht,hc,h4 v (by simpa using hv),cons_pre,List.take_succ_cons]
      have a1 : pos + 1 + q = pos + (q + 1):=by omega
      have a2 : cnt + 1 + i = cnt + (i + 1):=by omega
      rw [a1,a2]
/-! ### Names -/
theorem cutM_names : ∀ (b : Bool) (j pos cnt : Nat) (l : Bytes),∀ t ∈ (cutM b j pos cnt l).toks,t.kind = 1 → nameL t.s = true
  | b,j,pos,cnt,[],t,h,_ => by rw [cutM_nil] at h;simp at h
  | b,j + 1,pos,cnt,c :: r,t,h,hk => by
    have e1 : cutM b (j + 1) pos cnt (c :: r) = cutM b j (pos + 1) cnt r:=by cases b <;> rfl
    rw [e1] at h
    exact cutM_names b j (pos + 1) cnt r t h hk
  | true,0,pos,cnt,c :: r,t,h,hk => cutM_names (notEol c) 0 (pos + 1) cnt r t h hk
  | false,0,pos,cnt,c :: r,t,h,hk => by
    rw [cutM] at h
    split at h
    · exact cutM_names false 0 (pos + 1) cnt r t h hk
    split at h
    · exact cutM_names true 0 (pos + 1) cnt r t h hk
    dsimp only at h
    split at h
    · simp at h
    · rename_i he
      unfold CutRes.cons at h
      split at h
      · simp only [List.mem_cons] at h
        rcases h with rfl | h
        · simp only at hk ⊢
          rw [tokenL_def] at hk he ⊢
          split at hk
          · simp at hk
          rename_i a1
          rw [if_neg a1] at he ⊢
          split at hk
          · simp at hk
          rename_i a2
          rw [if_neg a2] at he ⊢
          split at hk
          · simp only at hk; unfold signK at hk; repeat' split at hk
            all_goals simp at hk
          rename_i a3
          rw [if_neg a3] at he ⊢
          split at hk
          · simp at hk
          rename_i a4
          rw [if_neg a4] at he ⊢
          split at hk
          · simp at hk
          rename_i a5
          rw [if_neg a5]
          have hl : isLetter c = true := by
            cases hl : isLetter c
            · exact absurd ⟨by simpa using a3,hl,by simpa using a4⟩ a1
            · rfl
          have hin : isInner c = true:=by simp [isInner,hl]
          have hall:=runL_all isInner (c :: r)
          have hlen : ((c :: r).take (runL isInner (c :: r))).length ≤ 16:=by rw [List.length_take];omega
          obtain ⟨m,hm⟩ : ∃ m,runL isInner (c :: r) = m + 1:=⟨runL isInner (c :: r) - 1,by have:=runL_head isInner c r hin;omega⟩
          rw [hm] at hall hlen ⊢
          rw [List.take_succ_cons] at hall hlen ⊢
          simp only [nameL,Bool.and_eq_true,decide_eq_true_eq]
          exact ⟨⟨hlen,hl⟩,hall⟩
        · exact cutM_names false _ (pos + 1) (cnt + 1) r t h hk
      · exact cutM_names false _ (pos + 1) (cnt + 1) r t h hk
theorem runL_whole (p : UInt8 → Bool) : ∀ l : Bytes,l.all p = true → runL p l = l.length
  | [],_ => rfl
  | c :: r,h => by
    simp only [List.all_cons,Bool.and_eq_true] at h
    rw [runL_cons,if_pos h.1,runL_whole p r h.2];rfl
theorem letter_sign (c : UInt8) (h : isLetter c = true) : signK c = 0 := by
  by_cases hk : signK c = 0
  · exact hk
  · have:=(sign_other c hk).1;rw [h] at this;cases this
theorem letter_blank (c : UInt8) (h : isLetter c = true) : isBlank c = false ∧ c ≠ 35 := by
  have h1:=(isLetter_iff c).1 h
  constructor
  · cases hb : isBlank c
    · rfl
    · have:=(blank_iff c).1 hb;omega
  · intro hc;have:=(hash_iff c).1 hc;omega
/-- A text is a name just if it is one token,a name,and nothing else. -/
theorem names_law (l : Bytes) (hl : l.length ≤ 65536) : nameL l = decide ((cutL l).err = 0 ∧ (cutL l).toks = [⟨1,0,0,l⟩]) := by
  unfold cutL
  rw [if_neg (by omega)]
  rw [Bool.eq_iff_iff,decide_eq_true_eq]
  constructor
  · intro hn
    cases l with
    | nil => cases hn
    | cons c r =>
      simp only [nameL,Bool.and_eq_true,decide_eq_true_eq] at hn
      obtain ⟨⟨h16,hlt⟩,hall⟩:=hn
      have hr:=runL_whole isInner (c :: r) hall
      have hb:=letter_blank c hlt
      have htd : tokenL (c :: r) 0 = (⟨1,0,0,c :: r⟩,(c :: r).length,0) := by
        rw [tokenL_def,if_neg (by simp [hlt]),if_neg (by decide),if_neg (by simp [letter_sign c hlt]),if_neg (by simp [letter_digit c hlt]),hr,if_neg (by omega),List.take_length]
      rw [cutM,if_neg (by simp [hb.1]),if_neg hb.2,htd]
      dsimp only
      rw [if_neg (by simp),cutM_all false _ _ _ _ (by simp)]
      exact ⟨rfl,rfl⟩
  · rintro ⟨_,h⟩
    exact cutM_names false 0 0 0 l ⟨1,0,0,l⟩ (by rw [h];simp) rfl
end Go.Proofs.YtjbniichcopnlaaGreatDoor
