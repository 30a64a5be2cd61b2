/- Layer 9 (tree), plain laws. No program in sight. Then: Layer 9, in plain Lean: what is read may be. Then: Layer 10 (layout), in plain Lean: how items are written, and that what is written is cut into the items' tokens. -/
import Derived.Test.YtjbniichcopnlaaGreatDoorPkS5
namespace Go.Proofs.YtjbniichcopnlaaGreatDoor
section
/-! ### What Cut tells -/
/-- A token that Cut could tell,its place aside. -/
def tokOk (t : Tok) : Bool :=
  if t.kind = 1 then nameL t.s && decide (t.n = 0)
  else if t.kind = 2 then decide (0 ≤ t.n) && decide (t.n ≤ 999999999) && decide (t.s = [])
  else (decide (t.kind = 3) || decide (t.kind = 4) || decide (t.kind = 5)) && decide (t.n = 0) && decide (t.s = [])
theorem numberL_ok (u : Bytes) (h : (numberL u).2.2 = 0) : 0 ≤ (numberL u).1 ∧ (numberL u).1 ≤ 999999999 := by
  unfold numberL at h ⊢
  dsimp only at h ⊢
  split at h
  · simp at h
  split at h
  · simp at h
  split at h
  · simp at h
  rename_i a1 a2 a3
  rw [if_neg a1,if_neg a2,if_neg a3]
  have hall:=runL_all isDigit u
  have hb:=numL_lt (u.take (runL isDigit u)) (runL isDigit u) hall (by rw [List.length_take];omega)
  rw [List.take_take,Nat.min_self] at hb
  exact hb
theorem tokenL_ok (l : Bytes) (cnt : Nat) (hl : l ≠ []) (he : (tokenL l cnt).2.2 = 0) (p : Int) : tokOk { (tokenL l cnt).1 with pos := p } = true := by
  cases l with
  | nil => exact absurd rfl hl
  | cons c r =>
    rw [tokenL_def] at he ⊢
    split at he
    · simp at he
    rename_i a1
    rw [if_neg a1]
    split at he
    · simp at he
    rename_i a2
    rw [if_neg a2]
    split at he
    · rename_i a3
      rw [if_pos a3]
      unfold signK at a3 ⊢
      by_cases h1 : c = 123
      · subst h1;rfl
      by_cases h2 : c = 125
      · subst h2;rfl
      by_cases h3 : c = 59
      · subst h3;rfl
      rw [if_neg h1,if_neg h2,if_neg h3] at a3
      exact absurd rfl a3
    rename_i a3
    rw [if_neg a3]
    split at he
    · rename_i a4
      rw [if_pos a4]
      obtain ⟨h1,h2⟩:=numberL_ok (c :: r) he
      simp [tokOk,h1,h2]
    rename_i a4
    rw [if_neg a4]
    split at he
    · simp at he
    rename_i a5
    rw [if_neg a5]
    have hlt : isLetter c = true := by
      cases hl : isLetter c
      · exact absurd ⟨by simpa using a3,hl,by simpa using a4⟩ a1
      · rfl
    have hin : isInner c = true:=by simp [isInner,hlt]
    have hall:=runL_all isInner (c :: r)
    have hlen : ((c :: r).take (runL isInner (c :: r))).length ≤ 16:=by rw [List.length_take];omega
    obtain ⟨m,hm⟩ : ∃ m,runL isInner (c :: r) = m + 1:=⟨runL isInner (c :: r) - 1,by have:=runL_head isInner c r hin;omega⟩
    rw [hm] at hall hlen ⊢
    rw [List.take_succ_cons] at hall hlen ⊢
    simp only [tokOk,if_true,nameL,decide_true,Bool.and_true,hlt,hall,Bool.and_self,decide_eq_true hlen]
theorem cutM_tokOk : ∀ (b : Bool) (j pos cnt : Nat) (l : Bytes),∀ t ∈ (cutM b j pos cnt l).toks,tokOk t = true
  | b,j,pos,cnt,[],t,h => by rw [cutM_nil] at h;simp at h
  | b,j + 1,pos,cnt,c :: r,t,h => by
    have e1 : cutM b (j + 1) pos cnt (c :: r) = cutM b j (pos + 1) cnt r:=by cases b <;> rfl
    rw [e1] at h
    exact cutM_tokOk b j (pos + 1) cnt r t h
  | true,0,pos,cnt,c :: r,t,h => cutM_tokOk (notEol c) 0 (pos + 1) cnt r t h
  | false,0,pos,cnt,c :: r,t,h => by
    rw [cutM] at h
    split at h
    · exact cutM_tokOk false 0 (pos + 1) cnt r t h
    split at h
    · exact cutM_tokOk true 0 (pos + 1) cnt r t h
    dsimp only at h
    split at h
    · simp at h
    · rename_i he
      have he0 : (tokenL (c :: r) cnt).2.2 = 0:=by simpa using he
      unfold CutRes.cons at h
      split at h
      · simp only [List.mem_cons] at h
        rcases h with rfl | h
        · exact tokenL_ok (c :: r) cnt (by simp) he0 _
        · exact cutM_tokOk false _ (pos + 1) (cnt + 1) r t h
      · exact cutM_tokOk false _ (pos + 1) (cnt + 1) r t h
theorem cutL_tokOk (s : Bytes) : ∀ t ∈ (cutL s).toks,tokOk t = true := by
  unfold cutL
  split
  · intro t h;simp at h
  · exact cutM_tokOk _ _ _ _ _
/-- Each token's place lies within the text. -/
theorem cutM_posLt : ∀ (b : Bool) (j pos cnt : Nat) (l : Bytes),∀ t ∈ (cutM b j pos cnt l).toks,(pos : Int) ≤ t.pos ∧ t.pos < pos + l.length
  | b,j,pos,cnt,[],t,h => by rw [cutM_nil] at h;simp at h
  | b,j + 1,pos,cnt,c :: r,t,h => by
    have e1 : cutM b (j + 1) pos cnt (c :: r) = cutM b j (pos + 1) cnt r:=by cases b <;> rfl
    rw [e1] at h
    have:=cutM_posLt b j (pos + 1) cnt r t h
    rw [List.length_cons];omega
  | true,0,pos,cnt,c :: r,t,h => by
    have:=cutM_posLt (notEol c) 0 (pos + 1) cnt r t h
    rw [List.length_cons];omega
  | false,0,pos,cnt,c :: r,t,h => by
    rw [cutM] at h
    split at h
    · have := cutM_posLt false 0 (pos + 1) cnt r t h
      rw [List.length_cons];omega
    split at h
    · have := cutM_posLt true 0 (pos + 1) cnt r t h
      rw [List.length_cons];omega
    dsimp only at h
    split at h
    · simp at h
    · unfold CutRes.cons at h
      split at h
      · simp only [List.mem_cons] at h
        rcases h with rfl | h
        · simp only [List.length_cons];omega
        · have := cutM_posLt false _ (pos + 1) (cnt + 1) r t h
          rw [List.length_cons];omega
      · have := cutM_posLt false _ (pos + 1) (cnt + 1) r t h
        rw [List.length_cons];omega
theorem cutL_posLt (s : Bytes) : ∀ t ∈ (cutL s).toks,0 ≤ t.pos ∧ t.pos < s.length := by
  unfold cutL
  split
  · intro t h;simp at h
  · intro t h;have:=cutM_posLt _ _ _ _ _ t h;omega
/-! ### The tokens of items -/
/-- A token without its place. -/
def Tok.bare0 (t : Tok) : Tok:={ t with pos:=0 }
def wordT (w : WordL) : Tok:=if w.num then ⟨2,0,w.n,[]⟩ else ⟨1,0,0,w.s⟩
mutual
def flatN : NodeL → List Tok
  | .mk nm _ ws b ks => ⟨1,0,0,nm⟩ :: (ws.map wordT ++ (if b then ⟨3,0,0,[]⟩ :: (flatL ks ++ [⟨4,0,0,[]⟩]) else [⟨5,0,0,[]⟩]))
def flatL : List NodeL → List Tok
  | [] => []
  | n :: r => flatN n ++ flatL r
end
theorem flatL_append : ∀ (l m : List NodeL),flatL (l ++ m) = flatL l ++ flatL m
  | [],m => by simp [flatL]
  | n :: r,m => by simp only [List.cons_append,flatL,flatL_append r m,List.append_assoc]
/-- The tokens that open a block,and those that stand in it so far. -/
def flatF : List FrameL → List Tok
  | [] => []
  | [f] => flatL f.kids
  | f :: g :: r => flatF (g :: r) ++ (⟨1,0,0,f.name⟩ :: (f.words.map wordT ++ [⟨3,0,0,[]⟩])) ++ flatL f.kids
def flatI : Option ItemL → List Tok
  | none => []
  | some i => ⟨1,0,0,i.name⟩ :: i.words.map wordT
theorem flatF_add (f : FrameL) (r : List FrameL) (n : NodeL) : flatF (f.add n :: r) = flatF (f :: r) ++ flatN n := by
  cases r with
  | nil => simp [flatF,FrameL.add,flatL_append,flatL]
  | cons g r => simp [flatF,FrameL.add,flatL_append,flatL]
/-- A token that is read is told by what is read. -/
theorem step_flat (fs : List FrameL) (it : Option ItemL) (t : Tok) (fs' : List FrameL) (it' : Option ItemL) (hne : fs ≠ []) (ht : tokOk t = true) (h : stepT fs it t = .fine fs' it') :
    flatF fs' ++ flatI it' = flatF fs ++ flatI it ++ [t.bare0] ∧ fs' ≠ []:=by
  obtain ⟨K,P,N,S⟩:=t
  cases it with
  | none =>
    simp only [stepT,beginT] at h
    split at h
    · rename_i h1
      simp only [StepR.fine.injEq] at h
      obtain ⟨rfl,rfl⟩:=h
      subst h1
      simp only [tokOk,if_true,Bool.and_eq_true,decide_eq_true_eq] at ht
      obtain ⟨_,rfl⟩:=ht
      exact ⟨by simp [flatI,Tok.bare0],hne⟩
    split at h
    · rename_i h1
      subst h1
      split at h
      · rename_i f g r
        simp only [StepR.fine.injEq] at h
        obtain ⟨rfl,rfl⟩:=h
        simp only [tokOk] at ht
        simp at ht
        obtain ⟨rfl,rfl⟩:=ht
        refine ⟨?_,by simp⟩
        rw [flatF_add]
        simp [flatF,flatI,FrameL.node,flatN,Tok.bare0]
      · cases h
    · cases h
  | some i =>
    simp only [stepT,goT] at h
    split at h
    · rename_i h1
      split at h
      · cases h
      simp only [StepR.fine.injEq] at h
      obtain ⟨rfl,rfl⟩:=h
      refine ⟨?_,hne⟩
      rcases h1 with h1 | h1
      · have h1 : K = 1 := h1
        subst h1
        simp only [tokOk,if_true,Bool.and_eq_true,decide_eq_true_eq] at ht
        obtain ⟨_,rfl⟩:=ht
        simp [flatI,Tok.bare0,wordT]
      · have h1 : K = 2 := h1
        subst h1
        simp only [tokOk] at ht
        simp at ht
        obtain ⟨_,rfl⟩:=ht
        simp [flatI,Tok.bare0,wordT]
    rename_i h12
    split at h
    · rename_i h1
      have h1 : K = 5:=h1
      subst h1
      simp only [tokOk] at ht
      simp at ht
      obtain ⟨rfl,rfl⟩:=ht
      split at h
      · simp only [StepR.fine.injEq] at h
        obtain ⟨rfl,rfl⟩:=h
        refine ⟨?_,by simp⟩
        rw [flatF_add]
        simp [flatI,ItemL.node,flatN,Tok.bare0]
      · cases h
    split at h
    · rename_i h1
      have h1 : K = 3:=h1
      subst h1
      simp only [tokOk] at ht
      simp at ht
      obtain ⟨rfl,rfl⟩:=ht
      split at h
      · cases h
      simp only [StepR.fine.injEq] at h
      obtain ⟨rfl,rfl⟩:=h
      refine ⟨?_,by simp⟩
      cases fs with
      | nil => exact absurd rfl hne
      | cons g r => simp [flatF,flatI,flatL,Tok.bare0]
    · cases h
theorem parse_flat (E : Int) (hE : 0 ≤ E) : ∀ (ts : List Tok) (fs : List FrameL) (it : Option ItemL),fs ≠ [] → (∀ t ∈ ts,tokOk t = true) → (parseT E fs it ts).err = 0 → (∀ e,∀ f i t,stepT f i t = .bad e → e ≠ 0) →
    flatL (parseT E fs it ts).nodes = flatF fs ++ flatI it ++ ts.map Tok.bare0 ∧ (parseT E fs it ts).pos = 0
  | [],fs,it,hne,_,h,_ => by
    unfold parseT at h ⊢
    unfold endT at h ⊢
    split at h
    · simp [flatF,flatI]
    · simp at h
  | t :: ts,fs,it,hne,hok,h,hbad => by
    unfold parseT at h ⊢
    split at h
    · rename_i e he
      exact absurd h (hbad e _ _ _ he)
    · rename_i fs' it' he
      obtain ⟨h1,h2⟩:=step_flat fs it t fs' it' hne (hok t (by simp)) he
      obtain ⟨h3,h4⟩:=parse_flat E hE ts fs' it' h2 (fun t ht => hok t (by simp [ht])) h hbad
      refine ⟨?_,h4⟩
      rw [h3,h1]
      simp
theorem step_bad (e : Int) (fs : List FrameL) (it : Option ItemL) (t : Tok) (h : stepT fs it t = .bad e) : e = 5 ∨ e = 6 ∨ e = 7 := by
  cases it with
  | none =>
    simp only [stepT,beginT] at h
    repeat' split at h
    all_goals first | (cases h;simp;done) | cases h
  | some i =>
    simp only [stepT,goT] at h
    repeat' split at h
    all_goals first | (cases h;simp;done) | cases h
theorem step_bad0 (e : Int) (fs : List FrameL) (it : Option ItemL) (t : Tok) (h : stepT fs it t = .bad e) : e ≠ 0 := by
  have:=step_bad e fs it t h;omega
theorem treeL_err0 (s : Bytes) (h : (treeL s).err = 0) : (cutL s).err = 0 ∧ treeL s = parseT s.length [rootF] none (cutL s).toks := by
  unfold treeL at h ⊢
  split at h
  · rename_i he;exact absurd h he
  · rename_i he;rw [if_neg he];exact ⟨by simpa using he,rfl⟩
/-- The tokens of what is told are those of the text. -/
theorem tokens_law (s : Bytes) (h : (treeL s).err = 0) : (cutL s).err = 0 ∧ (treeL s).pos = 0 ∧ flatL (treeL s).nodes = (cutL s).toks.map Tok.bare0 := by
  obtain ⟨h1,h2⟩:=treeL_err0 s h
  rw [h2] at h ⊢
  obtain ⟨h3,h4⟩:=parse_flat s.length (by omega) (cutL s).toks [rootF] none (by simp) (cutL_tokOk s) h step_bad0
  refine ⟨h1,h4,?_⟩
  rw [h3]
  simp [flatF,flatI,rootF,flatL]
/-- An error is told within the text,and nothing else. -/
theorem parse_err (E : Int) : ∀ (ts : List Tok) (fs : List FrameL) (it : Option ItemL),(parseT E fs it ts).err ≠ 0 → (parseT E fs it ts).nodes = [] ∧ ((parseT E fs it ts).pos = E ∨ ∃ t ∈ ts,(parseT E fs it ts).pos = t.pos)
  | [],fs,it,h => by
    unfold parseT at h ⊢
    unfold endT at h ⊢
    split at h
    · simp at h
    · exact ⟨rfl, .inl rfl⟩
  | t :: ts,fs,it,h => by
    unfold parseT at h ⊢
    split at h
    · exact ⟨rfl, .inr ⟨t,by simp,rfl⟩⟩
    · obtain ⟨h1,h2⟩ := parse_err E ts _ _ h
      refine ⟨h1,?_⟩
      rcases h2 with h2 | ⟨u,hu,h2⟩
      · exact .inl h2
      · exact .inr ⟨u,by simp [hu],h2⟩
theorem tree_err (s : Bytes) (hs : s.length ≤ 65536) (h : (treeL s).err ≠ 0) : (treeL s).nodes = [] ∧ 0 ≤ (treeL s).pos ∧ (treeL s).pos ≤ s.length := by
  unfold treeL at h ⊢
  by_cases he : (cutL s).err ≠ 0
  · rw [if_pos he]
    unfold cutL at he ⊢
    rw [if_neg (by omega)] at he ⊢
    obtain ⟨q,h1,_,h3,_⟩:=cutM_before false 0 0 0 s he
    exact ⟨rfl,by simp only;omega,by simp only;omega⟩
  · rw [if_neg he] at h ⊢
    obtain ⟨h1,h2⟩:=parse_err s.length _ _ _ h
    refine ⟨h1,?_⟩
    rcases h2 with h2 | ⟨u,hu,h2⟩
    · omega
    · have:=cutL_posLt s u hu;omega
end
section
mutual
/-- How many items and words. -/
def cntN : NodeL → Nat
  | .mk _ _ ws _ ks => 1 + ws.length + cntL ks
def cntL : List NodeL → Nat
  | [] => 0
  | n :: r => cntN n + cntL r
end
theorem cntL_mem : ∀ (l : List NodeL) (i : Nat) (n : NodeL),l[i]? = some n → cntL n.kids + n.words.length + 1 ≤ cntL l
  | [],i,n,h => by simp at h
  | x :: r,0,n,h => by
    simp only [List.getElem?_cons_zero,Option.some.injEq] at h
    subst h
    obtain ⟨nm,p,ws,b,ks⟩:=x
    simp only [NodeL.kids,NodeL.words,cntL,cntN];omega
  | x :: r,i + 1,n,h => by
    have:=cntL_mem r i n (by simpa using h)
    simp only [cntL];omega
theorem cntL_len : ∀ l : List NodeL,l.length ≤ cntL l
  | [] => Nat.le_refl _
  | x :: r => by
    have:=cntL_len r
    obtain ⟨nm,p,ws,b,ks⟩:=x
    simp only [List.length_cons,cntL,cntN];omega
theorem checkL_snoc : ∀ (l : List NodeL) (n : NodeL) (d : Nat),checkL d l = 0 → checkN d n = 0 → checkL d (l ++ [n]) = 0
  | [],n,d,_,h => by simp [checkL,h]
  | x :: r,n,d,hl,h => by
    simp only [checkL] at hl
    rw [List.cons_append]
    simp only [checkL]
    by_cases hx : checkN d x = 0
    · rw [if_neg (by simp [hx])] at hl ⊢
      exact checkL_snoc r n d hl h
    · rw [if_pos hx] at hl;exact absurd hl hx
def itemOk (nm : Bytes) (ws : List WordL) : Prop:=ws.all wordOk = true ∧ nameL nm = true ∧ ws.length ≤ 8
def invF : List FrameL → Prop
  | [] => True
  | f :: r => checkL r.length f.kids = 0 ∧ (r ≠ [] → itemOk f.name f.words) ∧ invF r
def invI : Option ItemL → Prop
  | none => True
  | some i => itemOk i.name i.words
theorem checkN_mk (d : Nat) (nm : Bytes) (p : Int) (ws : List WordL) (b : Bool) (ks : List NodeL) (h : itemOk nm ws) (hb : b = false → ks = []) (hd : b = true → d ≠ 6) (hk : checkL (d + 1) ks = 0) : checkN d (.mk nm p ws b ks) = 0 := by
  obtain ⟨h1,h2,h3⟩:=h
  simp only [checkN]
  have hlen : (!b && decide (0 < ks.length)) = false := by
    cases b
    · rw [hb rfl];rfl
    · rfl
  rw [h1,h2,hlen,decide_eq_false (by omega)]
  rw [if_neg (by simp),if_neg (fun a => hd a.1 a.2)]
  exact hk
theorem step_inv (fs : List FrameL) (it : Option ItemL) (t : Tok) (fs' : List FrameL) (it' : Option ItemL) (ht : tokOk t = true) (hf : invF fs) (hi : invI it) (hl : fs.length ≤ 7) (h : stepT fs it t = .fine fs' it') :
    invF fs' ∧ invI it' ∧ fs'.length ≤ 7:=by
  cases it with
  | none =>
    simp only [stepT,beginT] at h
    by_cases h1 : t.kind = 1
    · rw [if_pos h1] at h
      injection h with e1 e2
      subst e1 e2
      unfold tokOk at ht
      rw [if_pos h1,Bool.and_eq_true] at ht
      exact ⟨hf,⟨rfl,ht.1,by simp⟩,hl⟩
    · rw [if_neg h1] at h
      by_cases h4 : t.kind = 4
      · rw [if_pos h4] at h
        rcases fs with _ | ⟨x,_ | ⟨y,r⟩⟩
        · cases h
        · cases h
        · injection h with e1 e2
          subst e1 e2
          obtain ⟨hx1,hx2,hy1,hy2,hr⟩:=hf
          simp only [List.length_cons] at hl hx1
          refine ⟨⟨checkL_snoc _ _ _ hy1 ?_,hy2,hr⟩,trivial,by simp only [List.length_cons];omega⟩
          exact checkN_mk _ _ _ _ _ _ (hx2 (by simp)) (fun e => by cases e) (fun _ => by omega) hx1
      · rw [if_neg h4] at h;cases h
  | some i =>
    simp only [stepT,goT] at h
    by_cases h12 : t.kind = 1 ∨ t.kind = 2
    · rw [if_pos h12] at h
      by_cases h8 : i.words.length = 8
      · rw [if_pos h8] at h;cases h
      · rw [if_neg h8] at h
        injection h with e1 e2
        subst e1 e2
        obtain ⟨i1,i2,i3⟩:=hi
        refine ⟨hf,⟨?_,i2,by simp only [List.length_append,List.length_singleton];omega⟩,hl⟩
        rw [List.all_append,i1]
        unfold tokOk at ht
        rcases h12 with h | h
        · rw [if_pos h,Bool.and_eq_true] at ht
          have hn : t.n = 0:=by simpa using ht.2
          simp [wordOk,h,ht.1,hn]
        · rw [if_neg (by omega),if_pos h] at ht
          simp only [Bool.and_eq_true,decide_eq_true_eq] at ht
          simp [wordOk,h,ht.1.1,ht.1.2,ht.2]
    · rw [if_neg h12] at h
      by_cases h5 : t.kind = 5
      · rw [if_pos h5] at h
        rcases fs with _ | ⟨y,r⟩
        · cases h
        · injection h with e1 e2
          subst e1 e2
          obtain ⟨hy1,hy2,hr⟩:=hf
          refine ⟨⟨checkL_snoc _ _ _ hy1 ?_,hy2,hr⟩,trivial,hl⟩
          exact checkN_mk _ _ _ _ _ _ hi (fun _ => rfl) (fun e => by cases e) rfl
      · rw [if_neg h5] at h
        by_cases h3 : t.kind = 3
        · rw [if_pos h3] at h
          by_cases h7 : fs.length = 7
          · rw [if_pos h7] at h;cases h
          · rw [if_neg h7] at h
            injection h with e1 e2
            subst e1 e2
            exact ⟨⟨rfl,fun _ => hi,hf⟩,trivial,by simp only [List.length_cons];omega⟩
        · rw [if_neg h3] at h;cases h
theorem parse_inv (E : Int) : ∀ (ts : List Tok) (fs : List FrameL) (it : Option ItemL),(∀ t ∈ ts,tokOk t = true) → invF fs → invI it → fs.length ≤ 7 → (parseT E fs it ts).err = 0 → checkL 0 (parseT E fs it ts).nodes = 0
  | [],fs,it,_,hf,hi,hl,h => by
    rw [parseT] at h ⊢
    rcases fs with _ | ⟨f,_ | ⟨g,r⟩⟩ <;> rcases it with _ | i <;> simp [endT] at h ⊢ <;> first | exact hf.1 | rfl
  | t :: ts,fs,it,ht,hf,hi,hl,h => by
    rw [parseT] at h ⊢
    cases hst : stepT fs it t with
    | bad e =>
      rw [hst] at h
      exact absurd h (step_bad0 e fs it t hst)
    | fine fs' it' =>
      rw [hst] at h
      simp only at h ⊢
      obtain ⟨a,b,c⟩:=step_inv fs it t fs' it' (ht t (by simp)) hf hi hl hst
      exact parse_inv E ts fs' it' (fun u hu => ht u (by simp [hu])) a b c h
theorem check_parts (d : Nat) (nm : Bytes) (p : Int) (ws : List WordL) (b : Bool) (ks : List NodeL) (h : checkN d (.mk nm p ws b ks) = 0) : ws.length ≤ 8 ∧ (b = false → ks = []) ∧ (b = true → d ≠ 6) ∧ checkL (d + 1) ks = 0 := by
  simp only [checkN] at h
  by_cases h1 : (!ws.all wordOk || !nameL nm || decide (8 < ws.length) || (!b && decide (0 < ks.length))) = true
  · rw [if_pos h1] at h;cases h
  · rw [if_neg h1] at h
    simp only [Bool.or_eq_true,not_or,Bool.not_eq_true,decide_eq_false_iff_not] at h1
    by_cases h2 : b = true ∧ d = 6
    · rw [if_pos h2] at h;cases h
    · rw [if_neg h2] at h
      refine ⟨by omega,fun e => ?_,fun e e' => h2 ⟨e,e'⟩,h⟩
      have:=h1.2
      rw [e] at this
      simp at this
      exact this
theorem checkL_cons (d : Nat) (n : NodeL) (r : List NodeL) (h : checkL d (n :: r) = 0) : checkN d n = 0 ∧ checkL d r = 0 := by
  simp only [checkL] at h
  by_cases hx : checkN d n = 0
  · rw [if_neg (by simp [hx])] at h;exact ⟨hx,h⟩
  · rw [if_pos hx] at h;exact absurd h hx
theorem cnt_flat : ∀ (l : List NodeL) (d : Nat),checkL d l = 0 → cntL l ≤ (flatL l).length
  | [],_,_ => Nat.le_refl _
  | .mk nm p ws b ks :: r,d,h => by
    obtain ⟨h1,h2⟩:=checkL_cons d _ _ h
    obtain ⟨_,p2,_,p4⟩:=check_parts d nm p ws b ks h1
    have i2:=cnt_flat r d h2
    simp only [cntL,cntN,flatL,flatN,List.length_append,List.length_cons,List.length_map]
    cases b
    · have := p2 rfl
      subst this
      simp [cntL];omega
    · have i1 := cnt_flat ks (d + 1) p4
      simp;omega
theorem deep_le : ∀ (l : List NodeL) (d : Nat),d ≤ 6 → checkL d l = 0 → deepL l + d ≤ 6
  | [],d,hd,_ => by simp [deepL];omega
  | .mk nm p ws b ks :: r,d,hd,h => by
    obtain ⟨h1,h2⟩:=checkL_cons d _ _ h
    obtain ⟨_,p2,p3,p4⟩:=check_parts d nm p ws b ks h1
    have i2:=deep_le r d hd h2
    simp only [deepL,deepN]
    cases b
    · have := p2 rfl
      subst this
      simp [deepL];omega
    · have := p3 rfl
      have i1:=deep_le ks (d + 1) (by omega) p4
      simp;omega
mutual
theorem left_okN : ∀ (n : NodeL) (d : Nat) (most deep : Int),d ≤ 6 → checkN d n = 0 → (cntN n : Int) ≤ most → 8 - (d : Int) ≤ deep → most - cntN n ≤ leftN most deep n
  | .mk nm p ws b ks,d,most,deep,hd,h,hm,hdp => by
    obtain ⟨p1,p2,p3,p4⟩:=check_parts d nm p ws b ks h
    simp only [cntN] at hm ⊢
    simp only [leftN]
    rw [if_neg (by omega)]
    cases b
    · have := p2 rfl
      subst this
      simp only [leftL,cntL] at hm ⊢
      omega
    · have := p3 rfl
      have:=left_okL ks (d + 1) (most - 1) (deep - 1) (by omega) p4 (by omega) (by omega)
      omega
theorem left_okL : ∀ (l : List NodeL) (d : Nat) (most deep : Int),d ≤ 6 → checkL d l = 0 → (cntL l : Int) ≤ most → 8 - (d : Int) ≤ deep → most - cntL l ≤ leftL most deep l
  | [],d,most,deep,_,_,_,_ => by simp [leftL,cntL]
  | n :: r,d,most,deep,hd,h,hm,hdp => by
    simp only [leftL]
    rw [if_neg (by omega)]
    simp only [leftGo]
    obtain ⟨h1,h2⟩:=checkL_cons d _ _ h
    simp only [cntL] at hm ⊢
    have i1:=left_okN n d most deep hd h1 (by omega) hdp
    have i2:=left_okG r d (leftN most deep n) deep hd h2 (by omega) hdp
    omega
theorem left_okG : ∀ (l : List NodeL) (d : Nat) (most deep : Int),d ≤ 6 → checkL d l = 0 → (cntL l : Int) ≤ most → 8 - (d : Int) ≤ deep → most - cntL l ≤ leftGo most deep l
  | [],d,most,deep,_,_,_,_ => by simp [leftGo,cntL]
  | n :: r,d,most,deep,hd,h,hm,hdp => by
    simp only [leftGo]
    obtain ⟨h1,h2⟩:=checkL_cons d _ _ h
    simp only [cntL] at hm ⊢
    have i1:=left_okN n d most deep hd h1 (by omega) hdp
    have i2:=left_okG r d (leftN most deep n) deep hd h2 (by omega) hdp
    omega
end
/-- What is read may be,stands no deeper than may be,and is few. -/
theorem right_law (s : Bytes) (hs : s.length ≤ 400) (he : (treeL s).err = 0) : checkL 0 (treeL s).nodes = 0 ∧ deepL (treeL s).nodes ≤ 6 ∧ 0 ≤ leftL 400 12 (treeL s).nodes ∧ cntL (treeL s).nodes ≤ 400 := by
  obtain ⟨h1,h2⟩:=treeL_err0 s he
  obtain ⟨_,_,hfl⟩:=tokens_law s he
  have hck : checkL 0 (treeL s).nodes = 0 := by
    rw [h2] at he ⊢
    exact parse_inv s.length _ _ _ (cutL_tokOk s) ⟨rfl,fun h => absurd rfl h,trivial⟩ trivial (by simp) he
  have hc : cntL (treeL s).nodes ≤ 400 := by
    have a:=cnt_flat (treeL s).nodes 0 hck
    rw [hfl,List.length_map] at a
    have b:=cutL_len s
    omega
  refine ⟨hck,by have:=deep_le _ 0 (by omega) hck;omega,?_,hc⟩
  have:=left_okL (treeL s).nodes 0 400 12 (by omega) hck (by omega) (by omega)
  omega
end
section
def wordB (w : WordL) : Bytes:=if w.num then Lib.itoa w.n else w.s
def lineB (d : Nat) (ws : List Bytes) (e : Bytes) : Bytes:=List.replicate (2 * d) 32 ++ (Lib.join ws [32] ++ (e ++ [10]))
mutual
def printN (d : Nat) : NodeL → Bytes
  | .mk nm _ ws b ks => if b then lineB d (nm :: ws.map wordB) [32,123] ++ (printL (d + 1) ks ++ lineB d [] [125]) else lineB d (nm :: ws.map wordB) [59]
def printL (d : Nat) : List NodeL → Bytes
  | [] => []
  | n :: r => printN d n ++ printL d r
end
/-- What Print tells. -/
def layL (l : List NodeL) : Bytes × Int :=
  if checkL 0 l ≠ 0 then ([],checkL 0 l) else if 8192 < (flatL l).length ∨ 65536 < (printL 0 l).length then ([],6) else (printL 0 l,0)
/-- What Canon tells. -/
def canonL (s : Bytes) : Bytes × Int × Int :=
  if (treeL s).err ≠ 0 then ([],(treeL s).pos,(treeL s).err) else ((layL (treeL s).nodes).1,0,(layL (treeL s).nodes).2)
theorem printL_append (d : Nat) : ∀ l m : List NodeL,printL d (l ++ m) = printL d l ++ printL d m
  | [],m => by simp [printL]
  | n :: r,m => by simp only [List.cons_append,printL,printL_append d r m,List.append_assoc]
/-! ### The tokens of a word -/
theorem word_text (w : WordL) (h : wordOk w = true) : textL (wordT w) = (wordB w,true) ∧ (wordT w).bare = wordT w := by
  obtain ⟨nu,n,s,p⟩:=w
  unfold wordOk at h
  cases nu
  · simp only [Bool.false_eq_true,if_false,Bool.and_eq_true,decide_eq_true_eq] at h
    obtain ⟨rfl,h⟩:=h
    simp [wordT,textL,wordB,Tok.bare,h]
  · simp only [if_true,Bool.and_eq_true,decide_eq_true_eq] at h
    obtain ⟨⟨rfl,h1⟩,h2⟩:=h
    simp [wordT,textL,wordB,Tok.bare,h1,h2]
/-! ### Texts that are cut into tokens,whatever stands behind -/
/-- .. behind which something stands that ends a name. -/
def CutsS (u : Bytes) (ts : List Tok) : Prop := ∀ (pos cnt : Nat) (v : Bytes),cnt + ts.length ≤ 8192 → stops v →
  ∃ ps,ps.map Tok.bare = ts ∧ cutM false 0 pos cnt (u ++ v) = (cutM false 0 (pos + u.length) (cnt + ts.length) v).pre ps
/-- .. whatever. -/
def Cuts0 (u : Bytes) (ts : List Tok) : Prop := ∀ (pos cnt : Nat) (v : Bytes),cnt + ts.length ≤ 8192 →
  ∃ ps,ps.map Tok.bare = ts ∧ cutM false 0 pos cnt (u ++ v) = (cutM false 0 (pos + u.length) (cnt + ts.length) v).pre ps
theorem pre_nil (r : CutRes) (h : r.err = 0 → r.pos = 0) : r.pre [] = r := by
  unfold CutRes.pre
  by_cases he : r.err = 0
  · rw [if_pos he]
    obtain ⟨a,b,c⟩:=r
    simp only at he h
    subst he
    rw [h rfl]
    rfl
  · rw [if_neg he]
theorem pre_nil_cut (pos cnt : Nat) (v : Bytes) : (cutM false 0 pos cnt v).pre [] = cutM false 0 pos cnt v:=pre_nil _ (cutM_err false 0 pos cnt v).1
theorem Cuts0.s {u : Bytes} {ts : List Tok} (h : Cuts0 u ts) : CutsS u ts:=fun pos cnt v hc _ => h pos cnt v hc
theorem Cuts0.app {u u' : Bytes} {ts ts' : List Tok} (h : Cuts0 u ts) (h' : Cuts0 u' ts') : Cuts0 (u ++ u') (ts ++ ts') := by
  intro pos cnt v hc
  rw [List.length_append] at hc
  obtain ⟨ps,e1,e2⟩:=h pos cnt (u' ++ v) (by omega)
  obtain ⟨qs,e3,e4⟩:=h' (pos + u.length) (cnt + ts.length) v (by omega)
  refine ⟨ps ++ qs,by rw [List.map_append,e1,e3],?_⟩
  rw [List.append_assoc,e2,e4,pre_pre,List.length_append,List.length_append,Nat.add_assoc,Nat.add_assoc]
theorem Cuts0.appS {u u' : Bytes} {ts ts' : List Tok} (h : Cuts0 u ts) (h' : CutsS u' ts') : CutsS (u ++ u') (ts ++ ts') := by
  intro pos cnt v hc hv
  rw [List.length_append] at hc
  obtain ⟨ps,e1,e2⟩:=h pos cnt (u' ++ v) (by omega)
  obtain ⟨qs,e3,e4⟩:=h' (pos + u.length) (cnt + ts.length) v (by omega) hv
  refine ⟨ps ++ qs,by rw [List.map_append,e1,e3],?_⟩
  rw [List.append_assoc,e2,e4,pre_pre,List.length_append,List.length_append,Nat.add_assoc,Nat.add_assoc]
/-- A text that begins with what ends a name. -/
def halts (u : Bytes) : Prop:=∃ c r,u = c :: r ∧ isInner c = false
theorem halts.stops {u : Bytes} (h : halts u) (v : Bytes) : Go.Proofs.YtjbniichcopnlaaGreatDoor.stops (u ++ v) := by
  obtain ⟨c,r,rfl,hc⟩:=h
  intro c' h'
  simp only [List.cons_append,List.head?_cons,Option.some.injEq] at h'
  subst h'
  exact hc
theorem halts.app {u : Bytes} (h : halts u) (v : Bytes) : halts (u ++ v) := by
  obtain ⟨c,r,rfl,hc⟩:=h
  exact ⟨c,r ++ v,rfl,hc⟩
theorem CutsS.app {u u' : Bytes} {ts ts' : List Tok} (h : CutsS u ts) (h' : CutsS u' ts') (hu : halts u') : CutsS (u ++ u') (ts ++ ts') := by
  intro pos cnt v hc hv
  rw [List.length_append] at hc
  obtain ⟨ps,e1,e2⟩:=h pos cnt (u' ++ v) (by omega) (hu.stops v)
  obtain ⟨qs,e3,e4⟩:=h' (pos + u.length) (cnt + ts.length) v (by omega) hv
  refine ⟨ps ++ qs,by rw [List.map_append,e1,e3],?_⟩
  rw [List.append_assoc,e2,e4,pre_pre,List.length_append,List.length_append,Nat.add_assoc,Nat.add_assoc]
theorem CutsS.app0 {u u' : Bytes} {ts ts' : List Tok} (h : CutsS u ts) (h' : Cuts0 u' ts') (hu : halts u') : Cuts0 (u ++ u') (ts ++ ts') := by
  intro pos cnt v hc
  rw [List.length_append] at hc
  obtain ⟨ps,e1,e2⟩:=h pos cnt (u' ++ v) (by omega) (hu.stops v)
  obtain ⟨qs,e3,e4⟩:=h' (pos + u.length) (cnt + ts.length) v (by omega)
  refine ⟨ps ++ qs,by rw [List.map_append,e1,e3],?_⟩
  rw [List.append_assoc,e2,e4,pre_pre,List.length_append,List.length_append,Nat.add_assoc,Nat.add_assoc]
theorem cuts_nil : Cuts0 [] []:=fun pos cnt v _ => ⟨[],rfl,by rw [pre_nil_cut];rfl⟩
theorem cuts_blank (c : UInt8) (hc : isBlank c = true) : Cuts0 [c] [] := fun pos cnt v _ => ⟨[],rfl,by
  rw [pre_nil_cut]
  show cutM false 0 pos cnt (c :: v) = _
  rw [cutM,if_pos hc]
  rfl⟩
theorem cuts_blanks : ∀ k : Nat,Cuts0 (List.replicate k 32) []
  | 0 => cuts_nil
  | k + 1 => by
    have:=(cuts_blank 32 rfl).app (cuts_blanks k)
    simpa [List.replicate_succ] using this
theorem cuts_tok (t : Tok) (h : (textL t).2 = true) : CutsS (textL t).1 [t.bare] := by
  intro pos cnt v hc hv
  simp only [List.length_cons,List.length_nil] at hc
  refine ⟨[{ t.bare with pos:=pos }],rfl,?_⟩
  rw [cut_text t pos cnt v (by omega) h hv,cons_eq_pre]
  unfold CutRes.pre
  by_cases he : (cutM false 0 (pos + (textL t).1.length) (cnt + 1) v).err = 0
  · rw [if_pos he];simp [he]
  · rw [if_neg he];simp [he]
theorem cuts_sign (t : Tok) (u : Bytes) (h : textL t = (u,true)) (hb : t.bare = t) : CutsS u [t] := by
  have:=cuts_tok t (by rw [h])
  rwa [h,hb] at this
theorem halts_tail (xs : List Bytes) (u : Bytes) (hu : halts u) : halts (Lib.joinTail [32] xs ++ u) := by
  cases xs with
  | nil => simpa [Lib.joinTail] using hu
  | cons x r => exact ⟨32,x ++ (Lib.joinTail [32] r) ++ u,by simp [Lib.joinTail],rfl⟩
theorem joinTail_cons (x : Bytes) (r : List Bytes) : Lib.joinTail [32] (x :: r) = [32] ++ (x ++ Lib.joinTail [32] r):=by simp [Lib.joinTail]
/-- Words,each with a blank ahead,and an end that ends a name. -/
theorem cuts_words (u : Bytes) (us : List Tok) (hu : halts u) (hc : Cuts0 u us) : ∀ ws : List WordL,ws.all wordOk = true → Cuts0 (Lib.joinTail [32] (ws.map wordB) ++ u) (ws.map wordT ++ us)
  | [],_ => by simpa [Lib.joinTail] using hc
  | w :: ws,h => by
    simp only [List.all_cons,Bool.and_eq_true] at h
    obtain ⟨h1,h2⟩:=word_text w h.1
    have hw:=cuts_sign (wordT w) (wordB w) h1 h2
    have hr:=cuts_words u us hu hc ws h.2
    have:=(cuts_blank 32 rfl).app (hw.app0 hr (halts_tail _ u hu))
    rw [List.map_cons,joinTail_cons,List.map_cons]
    simpa [List.append_assoc] using this
theorem name_text (nm : Bytes) (h : nameL nm = true) : textL ⟨1,0,0,nm⟩ = (nm,true) ∧ (⟨1,0,0,nm⟩ : Tok).bare = ⟨1,0,0,nm⟩ := by
  simp [textL,Tok.bare,h]
theorem cuts_line (d : Nat) (nm : Bytes) (ws : List WordL) (e : Bytes) (es : List Tok) (hn : nameL nm = true) (hw : ws.all wordOk = true) (he : halts e) (hc : CutsS e es) :
    Cuts0 (lineB d (nm :: ws.map wordB) e) (⟨1,0,0,nm⟩ :: (ws.map wordT ++ es)):=by
  obtain ⟨h1,h2⟩:=name_text nm hn
  have hnm:=cuts_sign _ nm h1 h2
  have hend:=hc.app0 (cuts_blank 10 rfl) ⟨10,[],rfl,rfl⟩
  rw [List.append_nil] at hend
  have:=(cuts_blanks (2 * d)).app (hnm.app0 (cuts_words _ es (he.app [10]) hend ws hw) (halts_tail _ _ (he.app [10])))
  unfold lineB
  rw [Lib.join_cons]
  simpa [List.append_assoc] using this
theorem check_head (d : Nat) (nm : Bytes) (p : Int) (ws : List WordL) (b : Bool) (ks : List NodeL) (h : checkN d (.mk nm p ws b ks) = 0) : ws.all wordOk = true ∧ nameL nm = true := by
  simp only [checkN] at h
  by_cases h1 : (!ws.all wordOk || !nameL nm || decide (8 < ws.length) || (!b && decide (0 < ks.length))) = true
  · rw [if_pos h1] at h;simp at h
  · simp only [Bool.not_eq_true,Bool.or_eq_false_iff,Bool.not_eq_false'] at h1
    exact ⟨by simpa using h1.1.1.1,by simpa using h1.1.1.2⟩
mutual
theorem cuts_node : ∀ (n : NodeL) (d : Nat),checkN d n = 0 → Cuts0 (printN d n) (flatN n)
  | .mk nm p ws b ks,d,h => by
    obtain ⟨h1,h2⟩:=check_head d nm p ws b ks h
    obtain ⟨_,_,_,h3⟩:=check_parts d nm p ws b ks h
    cases b
    · simp only [printN,flatN,Bool.false_eq_true,if_false]
      exact cuts_line d nm ws [59] [⟨5,0,0,[]⟩] h2 h1 ⟨59,[],rfl,rfl⟩ (cuts_sign ⟨5,0,0,[]⟩ [59] rfl rfl)
    · simp only [printN,flatN,if_true]
      have a1:=cuts_line d nm ws [32,123] [⟨3,0,0,[]⟩] h2 h1 ⟨32,[123],rfl,rfl⟩ ((cuts_blank 32 rfl).appS (cuts_sign ⟨3,0,0,[]⟩ [123] rfl rfl))
      have a2:=cuts_nodes ks (d + 1) h3
      have a3 : Cuts0 (lineB d [] [125]) [⟨4,0,0,[]⟩] := by
        have:=(cuts_blanks (2 * d)).app ((cuts_sign ⟨4,0,0,[]⟩ [125] rfl rfl).app0 (cuts_blank 10 rfl) ⟨10,[],rfl,rfl⟩)
        simpa [lineB,Lib.join_nil] using this
      have:=a1.app (a2.app a3)
      simpa [List.append_assoc] using this
theorem cuts_nodes : ∀ (l : List NodeL) (d : Nat),checkL d l = 0 → Cuts0 (printL d l) (flatL l)
  | [],_,_ => by simpa only [printL,flatL] using cuts_nil
  | n :: r,d,h => by
    obtain ⟨h1,h2⟩:=checkL_cons d n r h
    simp only [printL,flatL]
    exact (cuts_node n d h1).app (cuts_nodes r d h2)
end
/-- What is written is cut into the items' tokens. -/
theorem print_cut (l : List NodeL) (h : checkL 0 l = 0) (h1 : (flatL l).length ≤ 8192) (h2 : (printL 0 l).length ≤ 65536) :
    (cutL (printL 0 l)).err = 0 ∧ (cutL (printL 0 l)).pos = 0 ∧ (cutL (printL 0 l)).toks.map Tok.bare0 = flatL l:=by
  obtain ⟨ps,e1,e2⟩:=cuts_nodes l 0 h 0 0 [] (by omega)
  unfold cutL
  rw [if_neg (by omega)]
  rw [List.append_nil] at e2
  rw [e2,cutM_nil]
  refine ⟨rfl,rfl,?_⟩
  show (ps ++ []).map Tok.bare0 = flatL l
  rw [List.append_nil]
  exact e1
theorem lay_ok (l : List NodeL) (h : (layL l).2 = 0) : checkL 0 l = 0 ∧ (flatL l).length ≤ 8192 ∧ (printL 0 l).length ≤ 65536 ∧ layL l = (printL 0 l,0) := by
  unfold layL at h ⊢
  by_cases hc : checkL 0 l = 0
  · rw [if_neg (by simp [hc])] at h ⊢
    by_cases hl : 8192 < (flatL l).length ∨ 65536 < (printL 0 l).length
    · rw [if_pos hl] at h;simp at h
    · rw [if_neg hl]
      exact ⟨hc,by omega,by omega,rfl⟩
  · rw [if_pos hc] at h
    exact absurd h hc
end
end Go.Proofs.YtjbniichcopnlaaGreatDoor
