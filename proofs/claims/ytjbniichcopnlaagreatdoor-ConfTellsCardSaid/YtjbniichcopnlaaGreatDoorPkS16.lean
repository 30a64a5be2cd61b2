/- Layer 10 (layout), plain laws: tokens alike are read as items alike; items' tokens are read as the items; items alike are written the same. No program in sight. Then: Layer 9 (tree): the walk of Same. Then: Layer 9 (tree): whether any items are few: the walk of left. -/
import Derived.Test.YtjbniichcopnlaaGreatDoorPkS6
import Derived.Test.YtjbniichcopnlaaGreatDoorPkS15
import Derived.Test.YtjbniichcopnlaaGreatDoorPkS13
namespace Go.Proofs.YtjbniichcopnlaaGreatDoor
section
open List renaming setIfInBounds_toArray → zA, set_cons_succ → zB, set_cons_zero → zC, getElem_toArray → zD, getElem_cons_succ → zE, getElem_cons_zero → zF
theorem words_z (ws : List WordL) : (ws.map zW).map wordB = ws.map wordB ∧ (ws.map zW).map wordT = ws.map wordT ∧ (ws.map zW).all wordOk = ws.all wordOk := by
  induction ws with
  | nil => exact ⟨rfl,rfl,rfl⟩
  | cons w r ih =>
    simp only [List.map_cons,List.all_cons]
    exact ⟨by rw [ih.1];rfl,by rw [ih.2.1];rfl,by rw [ih.2.2];rfl⟩
mutual
theorem print_zN : ∀ (n : NodeL) (d : Nat),printN d (zN n) = printN d n
  | .mk nm p ws b ks,d => by simp only [zN,printN,(words_z ws).1,print_z ks (d + 1)]
theorem print_z : ∀ (l : List NodeL) (d : Nat),printL d (zNs l) = printL d l
  | [],_ => rfl
  | n :: r,d => by simp only [zNs,printL,print_zN n d,print_z r d]
end
mutual
theorem flat_zN : ∀ (n : NodeL),flatN (zN n) = flatN n
  | .mk nm p ws b ks => by simp only [zN,flatN,(words_z ws).2.1,flat_z ks]
theorem flat_z : ∀ (l : List NodeL),flatL (zNs l) = flatL l
  | [] => rfl
  | n :: r => by simp only [zNs,flatL,flat_zN n,flat_z r]
end
mutual
theorem left_zN : ∀ (n : NodeL) (m d : Int),leftN m d (zN n) = leftN m d n
  | .mk nm p ws b ks,m,d => by simp only [zN,leftN,List.length_map,left_z ks (m - 1) (d - 1)]
theorem left_z : ∀ (l : List NodeL) (m d : Int),leftL m d (zNs l) = leftL m d l
  | [],_,_ => rfl
  | n :: r,m,d => by simp only [zNs,leftL,leftGo,left_zN n m d,left_zG r _ d]
theorem left_zG : ∀ (l : List NodeL) (m d : Int),leftGo m d (zNs l) = leftGo m d l
  | [],_,_ => rfl
  | n :: r,m,d => by simp only [zNs,leftGo,left_zN n m d,left_zG r _ d]
end
theorem lay_z (l : List NodeL) : layL (zNs l) = layL l:=by simp only [layL,check_z,flat_z,print_z]
theorem sameW_z (v w : WordL) (h : zW v = zW w) : sameW v w = true := by
  obtain ⟨a,b,c,d⟩:=v
  obtain ⟨a',b',c',d'⟩:=w
  simp only [zW,WordL.mk.injEq] at h
  obtain ⟨rfl,rfl,rfl,_⟩:=h
  simp [sameW]
theorem sameWs_z : ∀ (v w : List WordL),v.map zW = w.map zW → sameWs v w = true
  | [],[],_ => rfl
  | [],_ :: _,h => by simp at h
  | _ :: _,[],h => by simp at h
  | a :: v,b :: w,h => by
    simp only [List.map_cons,List.cons.injEq] at h
    simp [sameWs,sameW_z a b h.1,sameWs_z v w h.2]
mutual
theorem sameN_z : ∀ (m n : NodeL),zN m = zN n → sameN m n = true
  | .mk n1 p1 w1 b1 k1, .mk n2 p2 w2 b2 k2,h => by
    simp only [zN,NodeL.mk.injEq] at h
    obtain ⟨rfl,_,hw,rfl,hk⟩:=h
    simp [sameN,sameWs_z w1 w2 hw,sameNs_z k1 k2 hk]
theorem sameNs_z : ∀ (l m : List NodeL),zNs l = zNs m → sameNs l m = true
  | [],[],_ => rfl
  | [],_ :: _,h => by simp [zNs] at h
  | _ :: _,[],h => by simp [zNs] at h
  | x :: l,y :: m,h => by
    simp only [zNs,List.cons.injEq] at h
    simp [sameNs,sameN_z x y h.1,sameNs_z l m h.2]
end
/-! ### Tokens alike are read alike -/
def zF (f : FrameL) : FrameL:=⟨f.name,0,f.words.map zW,zNs f.kids⟩
def zI (i : ItemL) : ItemL:=⟨i.name,0,i.words.map zW⟩
theorem step_z (fs : List FrameL) (it : Option ItemL) (t : Tok) :
    stepT (fs.map zF) (it.map zI) t.bare0 = (match stepT fs it t with | .bad e => .bad e | .fine fs' it' => .fine (fs'.map zF) (it'.map zI)):=by
  obtain ⟨tk,tp,tn,ts⟩:=t
  rw [show Tok.bare0 ⟨tk,tp,tn,ts⟩ = ⟨tk,0,tn,ts⟩ from rfl]
  cases it with
  | none =>
    simp only [Option.map_none,stepT_none]
    by_cases h1 : tk = 1
    · rw [if_pos h1,if_pos h1];rfl
    · rw [if_neg h1,if_neg h1]
      by_cases h4 : tk = 4
      · rw [if_pos h4,if_pos h4]
        rcases fs with _ | ⟨x,_ | ⟨y,r⟩⟩
        · rfl
        · rfl
        · simp [zF,FrameL.add,FrameL.node,zNs_append,zNs,zN]
      · rw [if_neg h4,if_neg h4]
  | some i =>
    simp only [Option.map_some,stepT_some]
    by_cases h12 : tk = 1 ∨ tk = 2
    · rw [if_pos h12,if_pos h12]
      by_cases h8 : i.words.length = 8
      · rw [if_pos h8,if_pos (by simpa [zI] using h8)]
      · rw [if_neg h8,if_neg (by simpa [zI] using h8)]
        simp [zI,zW]
    · rw [if_neg h12,if_neg h12]
      by_cases h5 : tk = 5
      · rw [if_pos h5,if_pos h5]
        rcases fs with _ | ⟨y,r⟩
        · rfl
        · simp [zF,zI,FrameL.add,ItemL.node,zNs_append,zNs,zN]
      · rw [if_neg h5,if_neg h5]
        by_cases h3 : tk = 3
        · rw [if_pos h3,if_pos h3,List.length_map]
          by_cases h7 : fs.length = 7
          · rw [if_pos h7,if_pos h7]
          · rw [if_neg h7,if_neg h7]
            simp [zF,zI,zNs]
        · rw [if_neg h3,if_neg h3]
theorem parse_z (E E' : Int) : ∀ (ts : List Tok) (fs : List FrameL) (it : Option ItemL),
    (parseT E' (fs.map zF) (it.map zI) (ts.map Tok.bare0)).err = (parseT E fs it ts).err ∧ (parseT E' (fs.map zF) (it.map zI) (ts.map Tok.bare0)).nodes = zNs (parseT E fs it ts).nodes
  | [],fs,it => by
    simp only [List.map_nil,parseT]
    rcases fs with _ | ⟨f,_ | ⟨g,r⟩⟩ <;> cases it <;> simp [endT,zF,zNs]
  | t :: ts,fs,it => by
    rw [List.map_cons,parseT,parseT,step_z fs it t]
    cases hst : stepT fs it t with
    | bad e => exact ⟨rfl,rfl⟩
    | fine fs' it' => exact parse_z E E' ts fs' it'
/-- Texts of the same tokens are read alike. -/
theorem tree_alike (s t : Bytes) (hs : (cutL s).err = 0) (ht : (cutL t).err = 0) (h : (cutL s).toks.map Tok.bare0 = (cutL t).toks.map Tok.bare0) :
    (treeL t).err = (treeL s).err ∧ zNs (treeL t).nodes = zNs (treeL s).nodes:=by
  unfold treeL
  rw [if_neg (by simp [ht]),if_neg (by simp [hs])]
  obtain ⟨a1,a2⟩:=parse_z s.length 0 (cutL s).toks [rootF] none
  obtain ⟨b1,b2⟩:=parse_z t.length 0 (cutL t).toks [rootF] none
  rw [h] at a1 a2
  exact ⟨by rw [← b1,a1],by rw [← b2,a2]⟩
/-! ### The items' tokens are read as the items -/
theorem run_app : ∀ (ts us : List Tok) (fs : List FrameL) (it : Option ItemL) (r : List FrameL × Option ItemL),runT fs it ts = some r → runT fs it (ts ++ us) = runT r.1 r.2 us
  | [],us,fs,it,r,h => by
    rw [runT,Option.some.injEq] at h
    subst h
    rfl
  | t :: ts,us,fs,it,r,h => by
    rw [List.cons_append,runT]
    rw [runT] at h
    cases hst : stepT fs it t with
    | bad e => rw [hst] at h;cases h
    | fine fs' it' =>
      rw [hst] at h
      exact run_app ts us fs' it' r h
theorem run_words (fs : List FrameL) : ∀ (ws : List WordL) (i : ItemL),ws.all wordOk = true → i.words.length + ws.length ≤ 8 → runT fs (some i) (ws.map wordT) = some (fs,some { i with words := i.words ++ ws.map zW })
  | [],i,_,_ => by simp [runT]
  | w :: ws,i,h,hl => by
    simp only [List.all_cons,Bool.and_eq_true] at h
    simp only [List.length_cons] at hl
    obtain ⟨nu,n,s,p⟩:=w
    have hw:=h.1
    unfold wordOk at hw
    rw [List.map_cons,runT]
    cases nu
    · simp only [Bool.false_eq_true,if_false,Bool.and_eq_true,decide_eq_true_eq] at hw
      obtain ⟨rfl,_⟩:=hw
      simp only [wordT,Bool.false_eq_true,if_false]
      rw [stepT_some,if_pos (Or.inl rfl),if_neg (by omega)]
      show runT fs (some (⟨i.name,i.pos,i.words ++ [(⟨false,0,s,0⟩ : WordL)]⟩ : ItemL)) (ws.map wordT) = _
      rw [run_words fs ws (⟨i.name,i.pos,i.words ++ [(⟨false,0,s,0⟩ : WordL)]⟩ : ItemL) h.2 (by simp;omega)]
      simp [zW]
    · simp only [if_true,Bool.and_eq_true,decide_eq_true_eq] at hw
      obtain ⟨⟨rfl,_⟩,_⟩:=hw
      simp only [wordT,if_true]
      rw [stepT_some,if_pos (Or.inr rfl),if_neg (by omega)]
      show runT fs (some (⟨i.name,i.pos,i.words ++ [(⟨true,n,[],0⟩ : WordL)]⟩ : ItemL)) (ws.map wordT) = _
      rw [run_words fs ws (⟨i.name,i.pos,i.words ++ [(⟨true,n,[],0⟩ : WordL)]⟩ : ItemL) h.2 (by simp;omega)]
      simp [zW]
mutual
theorem run_node : ∀ (n : NodeL) (f : FrameL) (r : List FrameL),checkN r.length n = 0 → r.length ≤ 6 → runT (f :: r) none (flatN n) = some (f.add (zN n) :: r,none)
  | .mk nm p ws b ks,f,r,h,hl => by
    obtain ⟨h1,h2⟩:=check_head r.length nm p ws b ks h
    obtain ⟨h3,h4,h5,h6⟩:=check_parts r.length nm p ws b ks h
    have e1 : runT (f :: r) none [⟨1,0,0,nm⟩] = some (f :: r,some ⟨nm,0,[]⟩):=rfl
    have e2:=run_words (f :: r) ws ⟨nm,0,[]⟩ h1 (by simpa using h3)
    rw [List.nil_append] at e2
    have e12:=run_app _ (ws.map wordT) _ _ _ e1
    simp only [List.cons_append,List.nil_append] at e12
    rw [e2] at e12
    cases b
    · have e3 := run_app _ [⟨5,0,0,[]⟩] _ _ _ e12
      simp only [List.cons_append] at e3
      simp only [flatN,Bool.false_eq_true,if_false]
      rw [e3,h4 rfl]
      rfl
    · have hd : r.length ≠ 6 := h5 rfl
      simp only [flatN,if_true]
      have e3:=run_app _ (⟨3,0,0,[]⟩ :: (flatL ks ++ [⟨4,0,0,[]⟩])) _ _ _ e12
      simp only [List.cons_append] at e3
      rw [e3,runT,stepT_some,if_neg (by decide),if_neg (by decide),if_pos rfl,if_neg (by simp only [List.length_cons];omega)]
      simp only
      have e4:=run_nodes ks ⟨nm,0,ws.map zW,[]⟩ (f :: r) (by simpa using h6) (by simp only [List.length_cons];omega)
      rw [run_app _ _ _ _ _ e4]
      simp only [List.nil_append]
      rfl
theorem run_nodes : ∀ (l : List NodeL) (f : FrameL) (r : List FrameL),checkL r.length l = 0 → r.length ≤ 6 → runT (f :: r) none (flatL l) = some ({ f with kids := f.kids ++ zNs l } :: r,none)
  | [],f,r,_,_ => by simp [flatL,runT,zNs]
  | n :: l,f,r,h,hl => by
    obtain ⟨h1,h2⟩:=checkL_cons r.length n l h
    simp only [flatL]
    rw [run_app _ _ _ _ _ (run_node n f r h1 hl)]
    simp only
    rw [run_nodes l (f.add (zN n)) r h2 hl]
    simp [FrameL.add,zNs]
end
/-- A text whose tokens are the items' is read as the items. -/
theorem tree_of_flat (s : Bytes) (l : List NodeL) (hc : checkL 0 l = 0) (hs : (cutL s).err = 0) (h : (cutL s).toks.map Tok.bare0 = flatL l) : (treeL s).err = 0 ∧ (treeL s).pos = 0 ∧ zNs (treeL s).nodes = zNs l := by
  have hr:=run_nodes l (zF rootF) [] hc (by simp)
  obtain ⟨a1,a2⟩:=parse_z s.length 0 (cutL s).toks [rootF] none
  have hp:=parse_run 0 (flatL l) [] [zF rootF] none _ hr
  rw [List.append_nil] at hp
  rw [h] at a1 a2
  have e : treeL s = parseT s.length [rootF] none (cutL s).toks:=by unfold treeL;rw [if_neg (by simp [hs])]
  have hp' : parseT 0 [zF rootF] none (flatL l) = ⟨zNs l,0,0⟩:=by rw [hp];simp [parseT,endT,zF,rootF,zNs]
  simp only [List.map_cons,List.map_nil,Option.map_none] at a1 a2
  rw [hp',← e] at a1 a2
  have he : (treeL s).err = 0:=a1.symm
  exact ⟨he,(tokens_law s he).2.1,a2.symm⟩
/-- What is written is read as the same items. -/
theorem print_tree (l : List NodeL) (h : (layL l).2 = 0) : (treeL (layL l).1).err = 0 ∧ (treeL (layL l).1).pos = 0 ∧ zNs (treeL (layL l).1).nodes = zNs l := by
  obtain ⟨h1,h2,h3,h4⟩:=lay_ok l h
  rw [h4]
  obtain ⟨c1,_,c3⟩:=print_cut l h1 h2 h3
  exact tree_of_flat _ l h1 c1 c3
/-- A text written anew has the same tokens,and is written anew as it is. -/
theorem canon_law (s : Bytes) (h : (canonL s).2.2 = 0) : canonL (canonL s).1 = ((canonL s).1,0,0) ∧ (cutL s).err = 0 ∧ (cutL (canonL s).1).err = 0 ∧ (cutL s).toks.map Tok.bare0 = (cutL (canonL s).1).toks.map Tok.bare0 := by
  unfold canonL at h
  by_cases he : (treeL s).err ≠ 0
  · rw [if_pos he] at h;exact absurd h he
  rw [if_neg he] at h
  have he0 : (treeL s).err = 0:=by simpa using he
  have hc : canonL s = ((layL (treeL s).nodes).1,0,0) := by
    unfold canonL;rw [if_neg he];exact congrArg (fun x => ((layL (treeL s).nodes).1,(0 : Int),x)) h
  obtain ⟨t1,_,t3⟩:=tokens_law s he0
  obtain ⟨h1,h2,h3,h4⟩:=lay_ok (treeL s).nodes h
  obtain ⟨c1,_,c3⟩:=print_cut (treeL s).nodes h1 h2 h3
  obtain ⟨p1,p2,p3⟩:=print_tree (treeL s).nodes h
  have hl : layL (treeL (layL (treeL s).nodes).1).nodes = layL (treeL s).nodes:=by rw [← lay_z,p3,lay_z]
  rw [hc]
  simp only
  refine ⟨?_,t1,by rw [h4];exact c1,by rw [h4,c3,t3]⟩
  unfold canonL
  rw [if_neg (by simp [p1]),hl]
  exact congrArg (fun x => ((layL (treeL s).nodes).1,(0 : Int),x)) h
/-- Texts of the same tokens are written the same. -/
theorem canon_alike (s t : Bytes) (hs : (cutL s).err = 0) (ht : (cutL t).err = 0) (h : (cutL s).toks.map Tok.bare0 = (cutL t).toks.map Tok.bare0) : (canonL t).1 = (canonL s).1 ∧ (canonL t).2.2 = (canonL s).2.2 := by
  obtain ⟨h1,h2⟩:=tree_alike s t hs ht h
  have hl : layL (treeL t).nodes = layL (treeL s).nodes:=by rw [← lay_z,h2,lay_z]
  unfold canonL
  rw [h1]
  by_cases he : (treeL s).err ≠ 0
  · rw [if_pos he,if_pos he];exact ⟨rfl,rfl⟩
  · rw [if_neg he,if_neg he,hl];exact ⟨rfl,rfl⟩
end
section
set_option linter.unusedVariables false
set_option linter.unusedSimpArgs false
open Go.RowKit
def wordV (t : WordL) : Value:=.agg #[.bool t.num, .int .i64 t.n, .string ⟨t.s.toArray⟩, .int .i64 t.pos]
theorem sameWs_len : ∀ (l m : List WordL),l.length ≠ m.length → sameWs l m = false
  | [],[],h => absurd rfl h
  | [],_ :: _,_ => rfl
  | _ :: _,[],_ => rfl
  | a :: l,b :: m,h => by
    rw [sameWs,sameWs_len l m (by simpa using h)];simp
theorem sameWs_step : ∀ (l m : List WordL) (k : Nat) (a b : WordL),l[k]? = some a → m[k]? = some b → sameWs (l.drop k) (m.drop k) = (sameW a b && sameWs (l.drop (k + 1)) (m.drop (k + 1)))
  | [],_,k,a,b,h,_ => by simp at h
  | _ :: _,[],k,a,b,_,h => by simp at h
  | x :: l,y :: m,0,a,b,h1,h2 => by
    simp only [List.getElem?_cons_zero,Option.some.injEq] at h1 h2
    subst h1 h2
    simp [sameWs]
  | x :: l,y :: m,k + 1,a,b,h1,h2 => by
    simpa using sameWs_step l m k a b (by simpa using h1) (by simpa using h2)
mutual
/-- No item has more than twenty words. -/
def fewN : NodeL → Bool
  | .mk _ _ ws _ ks => decide (ws.length ≤ 20) && fewNs ks
def fewNs : List NodeL → Bool
  | [] => true
  | n :: r => fewN n && fewNs r
end
mutual
theorem few_of_checkN : ∀ (n : NodeL) (d : Nat),checkN d n = 0 → fewN n = true
  | .mk nm p ws b ks,d,h => by
    rw [checkN] at h
    split at h
    · simp at h
    rename_i h1
    split at h
    · simp at h
    have hk:=few_of_checkL ks (d + 1) h
    simp only [Bool.or_eq_true,decide_eq_true_eq,not_or] at h1
    simp only [fewN,hk,Bool.and_true,decide_eq_true_eq]
    omega
theorem few_of_checkL : ∀ (l : List NodeL) (d : Nat),checkL d l = 0 → fewNs l = true
  | [],d,_ => rfl
  | n :: r,d,h => by
    obtain ⟨h1,h2⟩:=checkL_cons d _ _ h
    simp only [fewNs,few_of_checkN n d h1,few_of_checkL r d h2,Bool.and_self]
end
theorem few_at : ∀ (l : List NodeL) (k : Nat) (n : NodeL),fewNs l = true → l[k]? = some n → n.words.length ≤ 20 ∧ fewNs n.kids = true
  | [],k,n,_,h => by simp at h
  | x :: r,0,n,h,hk => by
    simp only [List.getElem?_cons_zero,Option.some.injEq] at hk
    subst hk
    obtain ⟨nm,p,ws,b,ks⟩:=x
    simp only [fewNs,fewN,Bool.and_eq_true,decide_eq_true_eq] at h
    exact h.1
  | x :: r,k + 1,n,h,hk => by
    simp only [fewNs,Bool.and_eq_true] at h
    exact few_at r k n h.2 (by simpa using hk)
theorem sameN_eq (x y : NodeL) : sameN x y = (sameWs x.words y.words && decide (x.name = y.name) && (x.block == y.block) && sameNs x.kids y.kids) := by
  obtain ⟨a,b,c,d,e⟩:=x
  obtain ⟨a',b',c',d',e'⟩:=y
  rfl
theorem sameNs_len : ∀ (l m : List NodeL),l.length ≠ m.length → sameNs l m = false
  | [],[],h => absurd rfl h
  | [],_ :: _,_ => rfl
  | _ :: _,[],_ => rfl
  | a :: l,b :: m,h => by
    rw [sameNs,sameNs_len l m (by simpa using h)];simp
theorem sameNs_step : ∀ (l m : List NodeL) (k : Nat) (a b : NodeL),l[k]? = some a → m[k]? = some b → sameNs (l.drop k) (m.drop k) = (sameN a b && sameNs (l.drop (k + 1)) (m.drop (k + 1)))
  | [],_,k,a,b,h,_ => by simp at h
  | _ :: _,[],k,a,b,_,h => by simp at h
  | x :: l,y :: m,0,a,b,h1,h2 => by
    simp only [List.getElem?_cons_zero,Option.some.injEq] at h1 h2
    subst h1 h2
    simp [sameNs]
  | x :: l,y :: m,k + 1,a,b,h1,h2 => by
    simpa using sameNs_step l m k a b (by simpa using h1) (by simpa using h2)
end
section
set_option linter.unusedVariables false
set_option linter.unusedSimpArgs false
open Go.RowKit
mutual
/-- Names,texts,and lists are no longer than may be. -/
def fitN : NodeL → Prop
  | .mk nm _ ws _ ks => nm.length ≤ maxLen ∧ ws.length ≤ maxLen ∧ (∀ w ∈ ws,w.s.length ≤ maxLen) ∧ ks.length ≤ maxLen ∧ fitNs ks
def fitNs : List NodeL → Prop
  | [] => True
  | n :: r => fitN n ∧ fitNs r
end
theorem fit_at : ∀ (l : List NodeL) (k : Nat) (n : NodeL),fitNs l → l[k]? = some n → fitN n
  | [],k,n,_,h => by simp at h
  | x :: r,0,n,h,hk => by
    simp only [List.getElem?_cons_zero,Option.some.injEq] at hk
    subst hk
    exact h.1
  | x :: r,k + 1,n,h,hk => fit_at r k n h.2 (by simpa using hk)
theorem fit_parts (n : NodeL) (h : fitN n) : n.name.length ≤ maxLen ∧ n.words.length ≤ maxLen ∧ (∀ w ∈ n.words,w.s.length ≤ maxLen) ∧ n.kids.length ≤ maxLen ∧ fitNs n.kids := by
  obtain ⟨a,b,c,d,e⟩:=n
  exact ⟨h.1,h.2.1,h.2.2.1,h.2.2.2.1,h.2.2.2.2⟩
theorem leftN_eq (most deep : Int) (n : NodeL) : leftN most deep n = if most < 0 ∨ 20 < n.words.length then -1 else leftL (most - 1) (deep - 1) n.kids := by
  obtain ⟨a,b,c,d,e⟩:=n
  simp only [leftN,NodeL.words,NodeL.kids]
  congr 1
theorem leftL_go (most deep : Int) (l : List NodeL) (h : deep ≠ 0) : leftL most deep l = leftGo most deep l := by
  cases l with
  | nil => simp only [leftL,leftGo]
  | cons n r => rw [leftL,if_neg h]
theorem leftGo_step : ∀ (l : List NodeL) (k : Nat) (n : NodeL) (most deep : Int),l[k]? = some n → leftGo most deep (l.drop k) = leftGo (leftN most deep n) deep (l.drop (k + 1))
  | [],k,n,_,_,h => by simp at h
  | x :: r,0,n,most,deep,h => by
    simp only [List.getElem?_cons_zero,Option.some.injEq] at h
    subst h
    simp only [List.drop_zero,leftGo,Nat.zero_add,List.drop_succ_cons]
  | x :: r,k + 1,n,most,deep,h => by simpa using leftGo_step r k n most deep (by simpa using h)
mutual
theorem left_geN : ∀ (n : NodeL) (most deep : Int),-1 ≤ most → -1 ≤ leftN most deep n ∧ leftN most deep n ≤ most ∧ (0 ≤ leftN most deep n → fewN n = true ∧ (cntN n : Int) ≤ 21 * (most - leftN most deep n))
  | .mk nm p ws b ks,most,deep,h => by
    simp only [leftN]
    split
    · exact ⟨by omega,by omega,fun h => by omega⟩
    · rename_i h1
      obtain ⟨a1,a2,a3⟩:=left_geL ks (most - 1) (deep - 1) (by omega)
      refine ⟨a1,by omega,fun h0 => ?_⟩
      obtain ⟨b1,b2⟩:=a3 h0
      simp only [fewN,b1,Bool.and_true,decide_eq_true_eq,cntN]
      refine ⟨by omega,by omega⟩
theorem left_geL : ∀ (l : List NodeL) (most deep : Int),-1 ≤ most → -1 ≤ leftL most deep l ∧ leftL most deep l ≤ most ∧ (0 ≤ leftL most deep l → fewNs l = true ∧ (cntL l : Int) ≤ 21 * (most - leftL most deep l))
  | [],most,deep,h => by simp only [leftL,cntL];exact ⟨h,Int.le_refl _,fun _ => ⟨rfl,by omega⟩⟩
  | n :: r,most,deep,h => by
    simp only [leftL]
    split
    · exact ⟨by omega,by omega,fun h => by omega⟩
    · simp only [leftGo]
      obtain ⟨a1,a2,a3⟩:=left_geN n most deep h
      obtain ⟨b1,b2,b3⟩:=left_geG r (leftN most deep n) deep a1
      refine ⟨b1,by omega,fun h0 => ?_⟩
      obtain ⟨c1,c2⟩:=b3 h0
      obtain ⟨d1,d2⟩:=a3 (by omega)
      simp only [fewNs,c1,d1,Bool.and_self,cntL]
      refine ⟨trivial,by omega⟩
theorem left_geG : ∀ (l : List NodeL) (most deep : Int),-1 ≤ most → -1 ≤ leftGo most deep l ∧ leftGo most deep l ≤ most ∧ (0 ≤ leftGo most deep l → fewNs l = true ∧ (cntL l : Int) ≤ 21 * (most - leftGo most deep l))
  | [],most,deep,h => by simp only [leftGo,cntL];exact ⟨h,Int.le_refl _,fun _ => ⟨rfl,by omega⟩⟩
  | n :: r,most,deep,h => by
    simp only [leftGo]
    obtain ⟨a1,a2,a3⟩:=left_geN n most deep h
    obtain ⟨b1,b2,b3⟩:=left_geG r (leftN most deep n) deep a1
    refine ⟨b1,by omega,fun h0 => ?_⟩
    obtain ⟨c1,c2⟩:=b3 h0
    obtain ⟨d1,d2⟩:=a3 (by omega)
    simp only [fewNs,c1,d1,Bool.and_self,cntL]
    refine ⟨trivial,by omega⟩
end
end
end Go.Proofs.YtjbniichcopnlaaGreatDoor
