/- Layer 9, in plain Lean: a step leaves a block open. Then: Layer 9, in plain Lean: two texts, one behind the other. Then: Layer 9, in plain Lean: items in a block. Then: Items without their places, in plain Lean. -/
import Derived.Test.YtjbniichcopnlaaGreatDoorPkS6
import Derived.Test.YtjbniichcopnlaaGreatDoorPkS14
import Derived.Test.YtjbniichcopnlaaGreatDoorPkS13
import Derived.Test.YtjbniichcopnlaaGreatDoorPkS5
namespace Go.Proofs.YtjbniichcopnlaaGreatDoor
section
theorem step_ne {fs : List FrameL} {it : Option ItemL} {u : Tok} {fs' : List FrameL} {it' : Option ItemL} (hne : fs ≠ []) (h : stepT fs it u = .fine fs' it') : fs' ≠ [] := by
  cases it with
  | none =>
    simp only [stepT,beginT] at h
    split at h
    · injection h with e1 e2;subst e1;exact hne
    · split at h
      · rcases fs with _ | ⟨a,_ | ⟨b,c⟩⟩
        · cases h
        · cases h
        · injection h with e1 e2;subst e1;simp
      · cases h
  | some i =>
    simp only [stepT,goT] at h
    split at h
    · split at h
      · cases h
      · injection h with e1 e2;subst e1;exact hne
    · split at h
      · rcases fs with _ | ⟨a,c⟩
        · cases h
        · injection h with e1 e2;subst e1;simp
      · split at h
        · split at h
          · cases h
          · injection h with e1 e2;subst e1;simp
        · cases h
end
section
def sW (d : Int) (w : WordL) : WordL:={ w with pos:=w.pos + d }
mutual
def sN (d : Int) : NodeL → NodeL
  | .mk nm p ws b ks => .mk nm (p + d) (ws.map (sW d)) b (sNs d ks)
def sNs (d : Int) : List NodeL → List NodeL
  | [] => []
  | n :: r => sN d n :: sNs d r
end
theorem sNs_append (d : Int) : ∀ l m : List NodeL,sNs d (l ++ m) = sNs d l ++ sNs d m
  | [],m => rfl
  | n :: r,m => by simp only [List.cons_append,sNs,sNs_append d r m]
def sF (d : Int) (f : FrameL) : FrameL:=⟨f.name,f.pos + d,f.words.map (sW d),sNs d f.kids⟩
def sI (d : Int) (i : ItemL) : ItemL:=⟨i.name,i.pos + d,i.words.map (sW d)⟩
def sT (d : Int) (t : Tok) : Tok:={ t with pos:=t.pos + d }
/-- The frames moved,the outermost one being behind a's items. -/
def sB (d : Int) (a : FrameL) : List FrameL → List FrameL
  | [] => []
  | [f] => [⟨a.name,a.pos,a.words,a.kids ++ sNs d f.kids⟩]
  | f :: g :: r => sF d f :: sB d a (g :: r)
theorem sB_len (d : Int) (a : FrameL) : ∀ fs : List FrameL,(sB d a fs).length = fs.length
  | [] => rfl
  | [f] => rfl
  | f :: g :: r => by simp only [sB,List.length_cons,sB_len d a (g :: r)]
theorem sB_add (d : Int) (a : FrameL) (g : FrameL) (r : List FrameL) (n : NodeL) : sB d a (g.add n :: r) = (match sB d a (g :: r) with | h :: q => h.add (sN d n) :: q | [] => []) := by
  cases r with
  | nil => simp [sB,FrameL.add,sNs_append,sNs]
  | cons x r => simp [sB,FrameL.add,sF,sNs_append,sNs]
def okB (fs : List FrameL) : Prop:=fs.getLast? = none ∨ ∃ f,fs.getLast? = some f
theorem stepT_none (fs : List FrameL) (tk p n : Int) (s : Bytes) : stepT fs none ⟨tk,p,n,s⟩ = (if tk = 1 then .fine fs (some ⟨s,p,[]⟩) else if tk = 4 then (match fs with | f :: g :: r => .fine (g.add f.node :: r) none | _ => .bad 5) else .bad 5):=rfl
theorem stepT_some (fs : List FrameL) (i : ItemL) (tk p n : Int) (s : Bytes) : stepT fs (some i) ⟨tk,p,n,s⟩ = (if tk = 1 ∨ tk = 2 then (if i.words.length = 8 then .bad 6 else .fine fs (some ⟨i.name,i.pos,i.words ++ [⟨decide (tk = 2),n,s,p⟩]⟩)) else if tk = 5 then (match fs with | f :: r => .fine (f.add i.node :: r) none | [] => .bad 5) else if tk = 3 then (if fs.length = 7 then .bad 7 else .fine (⟨i.name,i.pos,i.words,[]⟩ :: fs) none) else .bad 5):=rfl
theorem step_shift (d : Int) (a : FrameL) (fs : List FrameL) (it : Option ItemL) (t : Tok) (hne : fs ≠ []) :
    stepT (sB d a fs) (it.map (sI d)) (sT d t) = (match stepT fs it t with | .bad e => .bad e | .fine fs' it' => .fine (sB d a fs') (it'.map (sI d))):=by
  obtain ⟨tk,tp,tn,ts⟩:=t
  rw [show sT d ⟨tk,tp,tn,ts⟩ = ⟨tk,tp + d,tn,ts⟩ from rfl]
  cases it with
  | none =>
    simp only [Option.map_none,stepT_none]
    by_cases h1 : tk = 1
    · rw [if_pos h1,if_pos h1];rfl
    · rw [if_neg h1,if_neg h1]
      by_cases h4 : tk = 4
      · rw [if_pos h4,if_pos h4]
        rcases fs with _ | ⟨x,_ | ⟨y,r⟩⟩
        · rfl
        · rfl
        · simp only [sB]
          have hb:=sB_add d a y r x.node
          rcases hq : sB d a (y :: r) with _ | ⟨h,q⟩
          · have:=sB_len d a (y :: r);rw [hq] at this;simp at this
          · rw [hq] at hb
            simp only at hb ⊢
            rw [hb];rfl
      · rw [if_neg h4,if_neg h4]
  | some i =>
    simp only [Option.map_some,stepT_some]
    by_cases h12 : tk = 1 ∨ tk = 2
    · rw [if_pos h12,if_pos h12]
      by_cases h8 : i.words.length = 8
      · rw [if_pos h8,if_pos (by simpa [sI] using h8)]
      · rw [if_neg h8,if_neg (by simpa [sI] using h8)]
        simp [sI,sW]
    · rw [if_neg h12,if_neg h12]
      by_cases h5 : tk = 5
      · rw [if_pos h5,if_pos h5]
        rcases fs with _ | ⟨y,r⟩
        · exact absurd rfl hne
        · have hb := sB_add d a y r i.node
          rcases hq : sB d a (y :: r) with _ | ⟨h,q⟩
          · have:=sB_len d a (y :: r);rw [hq] at this;simp at this
          · rw [hq] at hb
            simp only at hb ⊢
            rw [hb];rfl
      · rw [if_neg h5,if_neg h5]
        by_cases h3 : tk = 3
        · rw [if_pos h3,if_pos h3,sB_len]
          by_cases h7 : fs.length = 7
          · rw [if_pos h7,if_pos h7]
          · rw [if_neg h7,if_neg h7]
            rcases fs with _ | ⟨y,r⟩
            · exact absurd rfl hne
            · simp [sB,sF,sI,sNs]
        · rw [if_neg h3,if_neg h3]
theorem parse_shift (d : Int) (a : FrameL) (E : Int) : ∀ (ts : List Tok) (fs : List FrameL) (it : Option ItemL),fs ≠ [] →
    parseT (E + d) (sB d a fs) (it.map (sI d)) (ts.map (sT d)) =
      if (parseT E fs it ts).err = 0 then ⟨a.kids ++ sNs d (parseT E fs it ts).nodes,0,0⟩ else ⟨[],(parseT E fs it ts).pos + d,(parseT E fs it ts).err⟩
  | [],fs,it,hne => by
    simp only [List.map_nil,parseT]
    rcases fs with _ | ⟨f,_ | ⟨g,r⟩⟩
    · exact absurd rfl hne
    · cases it <;> simp [sB,endT]
    · have : ∃ x y q,sB d a (f :: g :: r) = x :: y :: q := by
        rcases hq : sB d a (g :: r) with _ | ⟨h,q⟩
        · have:=sB_len d a (g :: r);rw [hq] at this;simp at this
        · exact ⟨sF d f,h,q,by simp only [sB];rw [hq]⟩
      obtain ⟨x,y,q,e⟩:=this
      rw [e]
      cases it <;> simp [endT]
  | t :: ts,fs,it,hne => by
    rw [List.map_cons,parseT,step_shift d a fs it t hne,parseT]
    cases hst : stepT fs it t with
    | bad e =>
      have:=step_bad0 e fs it t hst
      simp [this,sT]
    | fine fs' it' =>
      simp only
      exact parse_shift d a E ts fs' it' (step_ne hne hst)
theorem parse_app (E E' : Int) : ∀ (ts us : List Tok) (fs : List FrameL) (it : Option ItemL),(parseT E fs it ts).err = 0 →
    ∃ f : FrameL,f.kids = (parseT E fs it ts).nodes ∧ parseT E' fs it (ts ++ us) = parseT E' [f] none us
  | [],us,fs,it,h => by
    rw [parseT] at h
    rcases fs with _ | ⟨f,_ | ⟨g,r⟩⟩
    · simp [endT] at h
    · cases it with
      | none => exact ⟨f,rfl,rfl⟩
      | some i => simp [endT] at h
    · cases it <;> simp [endT] at h
  | t :: ts,us,fs,it,h => by
    rw [parseT] at h
    rw [List.cons_append,parseT,parseT]
    cases hst : stepT fs it t with
    | bad e =>
      rw [hst] at h
      exact absurd h (step_bad0 e fs it t hst)
    | fine fs' it' =>
      rw [hst] at h
      simp only at h
      obtain ⟨f,h1,h2⟩:=parse_app E E' ts us fs' it' h
      exact ⟨f,h1,h2⟩
theorem sameW_shift (d : Int) (w : WordL) : sameW (sW d w) w = true:=by simp [sameW,sW]
theorem sameWs_shift (d : Int) : ∀ l : List WordL,sameWs (l.map (sW d)) l = true
  | [] => rfl
  | w :: l => by rw [List.map_cons,sameWs,sameW_shift,sameWs_shift d l];rfl
theorem sameNs_shift (d : Int) : ∀ l : List NodeL,sameNs (sNs d l) l = true
  | [] => rfl
  | .mk nm p ws b ks :: r => by
    simp only [sNs,sN,sameNs,sameN,sameWs_shift,sameNs_shift d ks,sameNs_shift d r]
    simp
theorem sameNs_append : ∀ l l' m m' : List NodeL,sameNs l l' = true → sameNs m m' = true → sameNs (l ++ m) (l' ++ m') = true
  | [],[],m,m',_,h => h
  | [],_ :: _,m,m',h,_ => by simp [sameNs] at h
  | _ :: _,[],m,m',h,_ => by simp [sameNs] at h
  | x :: l,y :: l',m,m',h,h' => by
    simp only [sameNs,Bool.and_eq_true] at h
    simp only [List.cons_append,sameNs,h.1,sameNs_append l l' m m' h.2 h',Bool.and_self]
/-- The tokens of two texts. -/
theorem cut_two (s t : Bytes) (hs : s.length ≤ 200) (ht : t.length ≤ 200) (he : (cutL s).err = 0) :
    cutL (s ++ 10 :: t) = if (cutL t).err = 0 then ⟨(cutL s).toks ++ (cutL t).toks.map (sT ((s.length + 1 : Nat) : Int)),0,0⟩ else ⟨[],(cutL t).pos + (s.length + 1),(cutL t).err⟩:=by
  have e : cutL s = cutM false 0 0 0 s:=by unfold cutL;rw [if_neg (by omega)]
  have e2 : cutL t = cutM false 0 0 0 t:=by unfold cutL;rw [if_neg (by omega)]
  have e3 : cutL (s ++ 10 :: t) = cutM false 0 0 0 (s ++ 10 :: t):=by unfold cutL;rw [if_neg (by simp;omega)]
  have hlen:=cutM_len false 0 0 0 s
  rw [e] at he ⊢
  rw [e2,e3,cutM_app false 0 0 0 s t (Nat.zero_le _),if_pos he,Nat.zero_add,Nat.zero_add]
  have h1 : cutM false 0 (s.length + 1) (cutM false 0 0 0 s).toks.length t = (cutM false 0 0 0 t).shift (s.length + 1) := by
    rw [cutM_cnt false 0 (s.length + 1) _ 0 t (by omega) (by omega)]
    have:=cutM_shift (s.length + 1) false 0 0 0 t
    rwa [Nat.zero_add] at this
  rw [h1]
  have herr:=cutM_err false 0 0 0 t
  by_cases hf : (cutM false 0 0 0 t).err = 0
  · rw [if_pos hf]
    unfold CutRes.pre CutRes.shift
    rw [if_pos hf]
    rfl
  · rw [if_neg hf]
    have hn:=herr.2 hf
    unfold CutRes.pre CutRes.shift
    rw [if_neg hf,if_neg hf,hn]
    rfl
theorem right_law' (s : Bytes) (hc : (cutL s).toks.length ≤ 400) (he : (treeL s).err = 0) : checkL 0 (treeL s).nodes = 0 ∧ cntL (treeL s).nodes ≤ 400 := by
  obtain ⟨h1,h2⟩:=treeL_err0 s he
  obtain ⟨_,_,hfl⟩:=tokens_law s he
  have hck : checkL 0 (treeL s).nodes = 0 := by
    rw [h2] at he ⊢
    exact parse_inv s.length _ _ _ (cutL_tokOk s) ⟨rfl,fun h => absurd rfl h,trivial⟩ trivial (by simp) he
  refine ⟨hck,?_⟩
  have a:=cnt_flat (treeL s).nodes 0 hck
  rw [hfl,List.length_map] at a
  omega
/-- Two texts,one behind the other,are read as the items of both. -/
theorem two_tree (s t : Bytes) (hs : s.length ≤ 200) (ht : t.length ≤ 200) (he : (treeL s).err = 0) :
    treeL (s ++ 10 :: t) = (if (treeL t).err = 0 then ⟨(treeL s).nodes ++ sNs ((s.length + 1 : Nat) : Int) (treeL t).nodes,0,0⟩ else ⟨[],(treeL t).pos + ((s.length + 1 : Nat) : Int),(treeL t).err⟩) ∧
      (cutL (s ++ 10 :: t)).toks.length ≤ 400:=by
  obtain ⟨h1,h2⟩:=treeL_err0 s he
  have hct:=cut_two s t hs ht h1
  have hl1:=cutL_len s
  have hl2:=cutL_len t
  refine ⟨?_,?_⟩
  · by_cases hf : (cutL t).err = 0
    · rw [if_pos hf] at hct
      have e1 : treeL (s ++ 10 :: t) = parseT (s ++ 10 :: t).length [rootF] none ((cutL s).toks ++ (cutL t).toks.map (sT ((s.length + 1 : Nat) : Int))) := by
        unfold treeL;rw [hct,if_neg (by simp)]
      have e2 : treeL t = parseT t.length [rootF] none (cutL t).toks:=by unfold treeL;rw [if_neg (by simp [hf])]
      rw [h2] at he
      obtain ⟨f,hf1,hf2⟩:=parse_app s.length (s ++ 10 :: t).length (cutL s).toks ((cutL t).toks.map (sT ((s.length + 1 : Nat) : Int))) [rootF] none he
      rw [e1,hf2,e2]
      have hE : ((s ++ 10 :: t).length : Int) = (t.length : Int) + ((s.length + 1 : Nat) : Int):=by simp;omega
      have hps:=parse_shift ((s.length + 1 : Nat) : Int) f t.length (cutL t).toks [rootF] none (by simp)
      have hroot : sB ((s.length + 1 : Nat) : Int) f [rootF] = [f]:=by simp [sB,rootF,sNs]
      rw [hroot] at hps
      rw [hE]
      have hps' : parseT ((t.length : Int) + ((s.length + 1 : Nat) : Int)) [f] none ((cutL t).toks.map (sT ((s.length + 1 : Nat) : Int))) = _:=hps
      rw [hps',hf1,← h2]
    · rw [if_neg hf] at hct
      have e1 : treeL (s ++ 10 :: t) = ⟨[],(((cutL t).pos + (s.length + 1) : Nat) : Int),(cutL t).err⟩ := by
        unfold treeL;rw [hct,if_pos hf]
      have e2 : treeL t = ⟨[],(cutL t).pos,(cutL t).err⟩:=by unfold treeL;rw [if_pos hf]
      rw [e1,e2,if_neg hf]
      simp
  · rw [hct]
    split
    · rw [List.length_append,List.length_map];omega
    · simp
end
section
theorem cut_head (s : Bytes) : cutM false 0 0 0 (120 :: 32 :: 55 :: 32 :: 123 :: s) = .cons ⟨1,0,0,[120]⟩ (.cons ⟨2,2,7,[]⟩ (.cons ⟨3,4,0,[]⟩ (cutM false 0 5 3 s))) := by
  have t1 : tokenL (120 :: 32 :: 55 :: 32 :: 123 :: s) 0 = (⟨1,0,0,[120]⟩,1,0):=rfl
  have t2 : tokenL (55 :: 32 :: 123 :: s) 1 = (⟨2,0,7,[]⟩,1,0):=rfl
  have t3 : tokenL (123 :: s) 2 = (⟨3,0,0,[]⟩,1,0):=rfl
  rw [cutM,if_neg (by decide),if_neg (by decide)]
  simp only [t1,ne_eq,not_true_eq_false,if_false,Nat.sub_self]
  rw [cutM,if_pos (by decide),cutM,if_neg (by decide),if_neg (by decide)]
  simp only [t2,ne_eq,not_true_eq_false,if_false,Nat.sub_self]
  rw [cutM,if_pos (by decide),cutM,if_neg (by decide),if_neg (by decide)]
  simp only [t3,ne_eq,not_true_eq_false,if_false,Nat.sub_self]
  rfl
/-- The tokens of a text in a block. -/
theorem cut_block (s : Bytes) (hs : s.length ≤ 200) (he : (cutL s).err = 0) :
    cutL (120 :: 32 :: 55 :: 32 :: 123 :: (s ++ [10,125])) = ⟨⟨1,0,0,[120]⟩ :: ⟨2,2,7,[]⟩ :: ⟨3,4,0,[]⟩ :: ((cutL s).toks.map (sT 5) ++ [⟨4,((s.length + 6 : Nat) : Int),0,[]⟩]),0,0⟩:=by
  have e : cutL s = cutM false 0 0 0 s:=by unfold cutL;rw [if_neg (by omega)]
  have e3 : cutL (120 :: 32 :: 55 :: 32 :: 123 :: (s ++ [10,125])) = cutM false 0 0 0 (120 :: 32 :: 55 :: 32 :: 123 :: (s ++ [10,125])):=by unfold cutL;rw [if_neg (by simp;omega)]
  have hlen:=cutM_len false 0 0 0 s
  rw [e] at he ⊢
  have h1 : cutM false 0 5 3 s = (cutM false 0 0 0 s).shift 5 := by
    rw [cutM_cnt false 0 5 3 0 s (by omega) (by omega)]
    have:=cutM_shift 5 false 0 0 0 s
    rwa [Nat.zero_add] at this
  have h2 : (cutM false 0 5 3 s) = ⟨(cutM false 0 0 0 s).toks.map (sT 5),0,0⟩ := by
    rw [h1]
    unfold CutRes.shift
    rw [if_pos he,he]
    rfl
  have t4 : ∀ p c : Nat,c ≠ 8192 → cutM false 0 p c [125] = ⟨[⟨4,p,0,[]⟩],0,0⟩ := by
    intro p c hc
    have t : tokenL [125] c = (⟨4,0,0,[]⟩,1,0) := by
      rw [tokenL_cnt [125] c 0 hc (by decide)];rfl
    rw [cutM,if_neg (by decide),if_neg (by decide)]
    simp only [t,ne_eq,not_true_eq_false,if_false]
    rfl
  have hq : cutM false 0 5 3 (s ++ [10,125]) = ⟨(cutM false 0 0 0 s).toks.map (sT 5) ++ [⟨4,((s.length + 6 : Nat) : Int),0,[]⟩],0,0⟩ := by
    have:=cutM_app false 0 5 3 s [125] (Nat.zero_le _)
    rw [show s ++ 10 :: [125] = s ++ [10,125] from rfl] at this
    rw [this,h2,if_pos rfl,t4 _ _ (by simp;omega)]
    unfold CutRes.pre
    simp
    omega
  rw [e3,cut_head,hq]
  unfold CutRes.cons
  simp
/-! ### Tokens that are read,and where one stands then -/
def runT : List FrameL → Option ItemL → List Tok → Option (List FrameL × Option ItemL)
  | fs,it,[] => some (fs,it)
  | fs,it,t :: ts => match stepT fs it t with | .bad _ => none | .fine fs' it' => runT fs' it' ts
theorem parse_run (E : Int) : ∀ (ts us : List Tok) (fs : List FrameL) (it : Option ItemL) (r : List FrameL × Option ItemL),runT fs it ts = some r → parseT E fs it (ts ++ us) = parseT E r.1 r.2 us
  | [],us,fs,it,r,h => by
    rw [runT,Option.some.injEq] at h
    subst h
    rfl
  | t :: ts,us,fs,it,r,h => by
    rw [runT] at h
    rw [List.cons_append,parseT]
    cases hst : stepT fs it t with
    | bad e => rw [hst] at h;cases h
    | fine fs' it' =>
      rw [hst] at h
      exact parse_run E ts us fs' it' r h
theorem run_none (E : Int) : ∀ (ts : List Tok) (fs : List FrameL) (it : Option ItemL),runT fs it ts = none → ∃ t ∈ ts,(parseT E fs it ts).pos = t.pos ∧ (parseT E fs it ts).err ≠ 0
  | [],fs,it,h => by simp [runT] at h
  | t :: ts,fs,it,h => by
    rw [runT] at h
    rw [parseT]
    cases hst : stepT fs it t with
    | bad e => exact ⟨t,by simp,rfl,step_bad0 e fs it t hst⟩
    | fine fs' it' =>
      rw [hst] at h
      obtain ⟨u,hu,h2⟩:=run_none E ts fs' it' h
      exact ⟨u,by simp [hu],h2⟩
/-- How deep blocks stand,those that are open counted. -/
def depF : List FrameL → Nat
  | [] => 0
  | f :: r => max (deepL f.kids + r.length) (depF r)
theorem deepL_app : ∀ l m : List NodeL,deepL (l ++ m) = max (deepL l) (deepL m)
  | [],m => by simp [deepL]
  | n :: r,m => by simp only [List.cons_append,deepL,deepL_app r m];omega
theorem depF_len (fs : List FrameL) : fs.length ≤ depF fs + 1 := by
  cases fs with
  | nil => simp
  | cons f r => simp only [depF,List.length_cons];omega
theorem step_dep (fs : List FrameL) (it : Option ItemL) (t : Tok) (fs' : List FrameL) (it' : Option ItemL) (h : stepT fs it t = .fine fs' it') : depF fs' = max (depF fs) (fs'.length - 1) := by
  obtain ⟨tk,tp,tn,ts⟩:=t
  have hlen:=depF_len fs
  cases it with
  | none =>
    rw [stepT_none] at h
    split at h
    · simp only [StepR.fine.injEq] at h
      obtain ⟨rfl,rfl⟩:=h
      omega
    split at h
    · split at h
      · rename_i f g r
        simp only [StepR.fine.injEq] at h
        obtain ⟨rfl,rfl⟩:=h
        simp only [depF,FrameL.add,deepL_app,deepL,FrameL.node,deepN,List.length_cons,if_true]
        omega
      · cases h
    · cases h
  | some i =>
    rw [stepT_some] at h
    split at h
    · split at h
      · cases h
      simp only [StepR.fine.injEq] at h
      obtain ⟨rfl,rfl⟩:=h
      omega
    split at h
    · split at h
      · simp only [StepR.fine.injEq] at h
        obtain ⟨rfl,rfl⟩:=h
        simp only [depF,FrameL.add,deepL_app,deepL,ItemL.node,deepN,List.length_cons] at hlen ⊢
        simp
        omega
      · cases h
    split at h
    · split at h
      · cases h
      simp only [StepR.fine.injEq] at h
      obtain ⟨rfl,rfl⟩:=h
      simp only [depF,deepL,List.length_cons]
      omega
    · cases h
theorem run_dep : ∀ (ts : List Tok) (fs : List FrameL) (it : Option ItemL) (r : List FrameL × Option ItemL),runT fs it ts = some r → depF fs ≤ depF r.1
  | [],fs,it,r,h => by
    rw [runT,Option.some.injEq] at h
    subst h
    exact Nat.le_refl _
  | t :: ts,fs,it,r,h => by
    rw [runT] at h
    cases hst : stepT fs it t with
    | bad e => rw [hst] at h;cases h
    | fine fs' it' =>
      rw [hst] at h
      have h1:=run_dep ts fs' it' r h
      have h2:=step_dep fs it t fs' it' hst
      omega
theorem step_len (fs : List FrameL) (it : Option ItemL) (t : Tok) (fs' : List FrameL) (it' : Option ItemL) (h : stepT fs it t = .fine fs' it') : fs'.length ≤ fs.length + 1 := by
  obtain ⟨tk,tp,tn,ts⟩:=t
  cases it with
  | none =>
    rw [stepT_none] at h
    split at h
    · simp only [StepR.fine.injEq] at h
      obtain ⟨rfl,rfl⟩:=h
      omega
    split at h
    · split at h
      · simp only [StepR.fine.injEq] at h
        obtain ⟨rfl,rfl⟩:=h
        simp only [List.length_cons];omega
      · cases h
    · cases h
  | some i =>
    rw [stepT_some] at h
    split at h
    · split at h
      · cases h
      simp only [StepR.fine.injEq] at h
      obtain ⟨rfl,rfl⟩:=h
      omega
    split at h
    · split at h
      · simp only [StepR.fine.injEq] at h
        obtain ⟨rfl,rfl⟩:=h
        simp only [List.length_cons];omega
      · cases h
    split at h
    · split at h
      · cases h
      simp only [StepR.fine.injEq] at h
      obtain ⟨rfl,rfl⟩:=h
      simp only [List.length_cons];omega
    · cases h
/-- The frames moved by five,the outermost one being the block. -/
def sX : List FrameL → List FrameL
  | [] => []
  | [f] => [⟨[120],0,[⟨true,7,[],2⟩],sNs 5 f.kids⟩,rootF]
  | f :: g :: r => sF 5 f :: sX (g :: r)
theorem sX_len : ∀ fs : List FrameL,fs ≠ [] → (sX fs).length = fs.length + 1
  | [],h => absurd rfl h
  | [f],_ => rfl
  | f :: g :: r,_ => by simp only [sX,List.length_cons];rw [sX_len (g :: r) (by simp)];rfl
theorem sX_add (g : FrameL) (r : List FrameL) (n : NodeL) : sX (g.add n :: r) = (match sX (g :: r) with | h :: q => h.add (sN 5 n) :: q | [] => []) := by
  cases r with
  | nil => simp [sX,FrameL.add,sNs_append,sNs]
  | cons x r => simp [sX,FrameL.add,sF,sNs_append,sNs]
theorem sX_cons (g : FrameL) (r : List FrameL) : ∃ h q,sX (g :: r) = h :: q ∧ q ≠ [] := by
  rcases hq : sX (g :: r) with _ | ⟨h,q⟩
  · have:=sX_len (g :: r) (by simp);rw [hq] at this;simp at this
  · refine ⟨h,q,rfl,?_⟩
    rintro rfl
    have:=sX_len (g :: r) (by simp);rw [hq] at this;simp at this
theorem step_block (fs : List FrameL) (it : Option ItemL) (t : Tok) (fs' : List FrameL) (it' : Option ItemL) (hne : fs ≠ []) (h : stepT fs it t = .fine fs' it') :
    stepT (sX fs) (it.map (sI 5)) (sT 5 t) = if fs'.length = 7 ∧ fs.length = 6 then .bad 7 else .fine (sX fs') (it'.map (sI 5)):=by
  obtain ⟨tk,tp,tn,ts⟩:=t
  rw [show sT 5 ⟨tk,tp,tn,ts⟩ = ⟨tk,tp + 5,tn,ts⟩ from rfl]
  cases it with
  | none =>
    simp only [Option.map_none,stepT_none] at h ⊢
    by_cases h1 : tk = 1
    · rw [if_pos h1] at h ⊢
      simp only [StepR.fine.injEq] at h
      obtain ⟨rfl,rfl⟩:=h
      rw [if_neg (by omega)]
      rfl
    · rw [if_neg h1] at h ⊢
      by_cases h4 : tk = 4
      · rw [if_pos h4] at h ⊢
        rcases fs with _ | ⟨x,_ | ⟨y,r⟩⟩
        · cases h
        · cases h
        · simp only [StepR.fine.injEq] at h
          obtain ⟨rfl,rfl⟩:=h
          rw [if_neg (by simp only [List.length_cons];omega)]
          simp only [sX]
          have hb:=sX_add y r x.node
          obtain ⟨h,q,e,_⟩:=sX_cons y r
          rw [e] at hb ⊢
          simp only at hb ⊢
          rw [hb];rfl
      · rw [if_neg h4] at h
        cases h
  | some i =>
    simp only [Option.map_some,stepT_some] at h ⊢
    by_cases h12 : tk = 1 ∨ tk = 2
    · rw [if_pos h12] at h ⊢
      by_cases h8 : i.words.length = 8
      · rw [if_pos h8] at h;cases h
      · rw [if_neg h8] at h
        rw [if_neg (by simpa [sI] using h8)]
        simp only [StepR.fine.injEq] at h
        obtain ⟨rfl,rfl⟩:=h
        rw [if_neg (by omega)]
        simp [sI,sW]
    · rw [if_neg h12] at h ⊢
      by_cases h5 : tk = 5
      · rw [if_pos h5] at h ⊢
        rcases fs with _ | ⟨y,r⟩
        · exact absurd rfl hne
        · simp only [StepR.fine.injEq] at h
          obtain ⟨rfl,rfl⟩:=h
          rw [if_neg (by simp only [List.length_cons];omega)]
          have hb:=sX_add y r i.node
          obtain ⟨h,q,e,_⟩:=sX_cons y r
          rw [e] at hb ⊢
          simp only at hb ⊢
          rw [hb];rfl
      · rw [if_neg h5] at h ⊢
        by_cases h3 : tk = 3
        · rw [if_pos h3] at h ⊢
          rw [sX_len fs hne]
          by_cases h7 : fs.length = 7
          · rw [if_pos h7] at h;cases h
          · rw [if_neg h7] at h
            simp only [StepR.fine.injEq] at h
            obtain ⟨rfl,rfl⟩:=h
            by_cases h6 : fs.length = 6
            · rw [if_pos (by omega),if_pos ⟨by simp only [List.length_cons];omega,h6⟩]
            · rw [if_neg (by omega),if_neg (by omega)]
              rcases fs with _ | ⟨y,r⟩
              · exact absurd rfl hne
              · simp [sX,sF,sI,sNs]
        · rw [if_neg h3] at h;cases h
theorem run_block (E : Int) : ∀ (ts us : List Tok) (fs : List FrameL) (it : Option ItemL) (r : List FrameL × Option ItemL),fs ≠ [] → (∀ t ∈ ts,0 ≤ t.pos) → depF fs ≤ 5 → runT fs it ts = some r →
    (depF r.1 ≤ 5 → runT (sX fs) (it.map (sI 5)) (ts.map (sT 5)) = some (sX r.1,r.2.map (sI 5))) ∧ (6 ≤ depF r.1 → ∃ p,4 < p ∧ parseT E (sX fs) (it.map (sI 5)) (ts.map (sT 5) ++ us) = ⟨[],p,7⟩)
  | [],us,fs,it,r,hne,_,hd,h => by
    rw [runT,Option.some.injEq] at h
    subst h
    exact ⟨fun _ => rfl,fun h => by simp only at h;omega⟩
  | t :: ts,us,fs,it,r,hne,hpos,hd,h => by
    rw [runT] at h
    cases hst : stepT fs it t with
    | bad e => rw [hst] at h;cases h
    | fine fs' it' =>
      rw [hst] at h
      have hb:=step_block fs it t fs' it' hne hst
      have hdp:=step_dep fs it t fs' it' hst
      have hrd:=run_dep ts fs' it' r h
      have hne':=step_ne hne hst
      have hlf:=depF_len fs
      rw [List.map_cons,List.cons_append,runT,parseT,hb]
      by_cases h6 : depF fs' ≤ 5
      · have hlf' := depF_len fs'
        rw [if_neg (by omega)]
        exact run_block E ts us fs' it' r hne' (fun u hu => hpos u (by simp [hu])) h6 h
      · refine ⟨fun h5 => by omega,fun _ => ?_⟩
        have hl7 : fs'.length = 7 ∧ fs.length = 6 := by
          have:=step_len fs it t fs' it' hst
          omega
        rw [if_pos hl7]
        have:=hpos t (by simp)
        exact ⟨t.pos + 5,by omega,rfl⟩
def blockT (s : Bytes) : Bytes:=120 :: 32 :: 55 :: 32 :: 123 :: (s ++ [10,125])
/-- The head of the block,then the tokens. -/
theorem parse_head (E : Int) (ts : List Tok) : parseT E [rootF] none (⟨1,0,0,[120]⟩ :: ⟨2,2,7,[]⟩ :: ⟨3,4,0,[]⟩ :: ts) = parseT E (sX [rootF]) ((none : Option ItemL).map (sI 5)) ts:=rfl
theorem block_tree (s : Bytes) (hs : s.length ≤ 200) :
    ((treeL s).err ≠ 0 → (treeL (blockT s)).err ≠ 0 ∨ (treeL s).pos < s.length) ∧
    ((treeL s).err = 0 → deepL (treeL s).nodes = 6 → ∃ p,4 < p ∧ treeL (blockT s) = ⟨[],p,7⟩) ∧
    ((treeL s).err = 0 → deepL (treeL s).nodes ≠ 6 → treeL (blockT s) = ⟨[.mk [120] 0 [⟨true,7,[],2⟩] true (sNs 5 (treeL s).nodes)],0,0⟩ ∧ (cutL (blockT s)).toks.length ≤ 400):=by
  by_cases hce : (cutL s).err = 0
  · have hT : treeL s = parseT s.length [rootF] none (cutL s).toks := by unfold treeL; rw [if_neg (by simp [hce])]
    have hcb:=cut_block s hs hce
    have hlen:=cutL_len s
    have hpl:=cutL_posLt s
    have hB : treeL (blockT s) = parseT (blockT s).length (sX [rootF]) ((none : Option ItemL).map (sI 5)) ((cutL s).toks.map (sT 5) ++ [⟨4,((s.length + 6 : Nat) : Int),0,[]⟩]) := by
      rw [← parse_head]
      unfold treeL
      rw [show cutL (blockT s) = _ from hcb,if_neg (by simp)]
    have hcl : (cutL (blockT s)).toks.length ≤ 400 := by
      rw [show cutL (blockT s) = _ from hcb]
      simp
      omega
    cases hrun : runT [rootF] none (cutL s).toks with
    | none =>
      obtain ⟨t,ht,h1,h2⟩:=run_none s.length _ _ _ hrun
      rw [← hT] at h1 h2
      have:=hpl t ht
      refine ⟨fun _ => Or.inr (by omega),fun h => absurd h h2,fun h => absurd h h2⟩
    | some r =>
      obtain ⟨fs,it⟩:=r
      have hp:=parse_run s.length (cutL s).toks [] [rootF] none (fs,it) hrun
      rw [List.append_nil,← hT] at hp
      obtain ⟨hA,hC⟩:=run_block (blockT s).length (cutL s).toks [⟨4,((s.length + 6 : Nat) : Int),0,[]⟩] [rootF] none (fs,it) (by simp) (fun t ht => (hpl t ht).1) (by simp [depF,rootF,deepL]) hrun
      rw [← hB] at hC
      simp only at hA hC hp
      have hmain : depF fs ≤ 5 → treeL (blockT s) = parseT (blockT s).length (sX fs) (it.map (sI 5)) [⟨4,((s.length + 6 : Nat) : Int),0,[]⟩] := by
        intro h5
        rw [hB,parse_run _ _ _ _ _ _ (hA h5)]
      rcases fs with _ | ⟨f,_ | ⟨g,q⟩⟩
      · -- no frame
        have he : (treeL s).err = 5:=by rw [hp];cases it <;> rfl
        refine ⟨fun _ => Or.inl ?_,fun h => by omega,fun h => by omega⟩
        rw [hmain (by simp [depF])]
        cases it <;> simp [parseT,stepT_none,stepT_some,sX]
      · cases it with
        | some i =>
          have he : (treeL s).err = 5:=by rw [hp];rfl
          refine ⟨fun _ => Or.inl ?_,fun h => by omega,fun h => by omega⟩
          by_cases h5 : depF [f] ≤ 5
          · rw [hmain h5]
            simp [parseT,stepT_some]
          · obtain ⟨p,_,h⟩ := hC (by omega)
            rw [h];simp
        | none =>
          have he : treeL s = ⟨f.kids,0,0⟩:=by rw [hp];rfl
          have hd : depF [f] = deepL f.kids:=by simp [depF]
          refine ⟨fun h => absurd (by rw [he]) h,fun _ h6 => ?_,fun _ h6 => ⟨?_,hcl⟩⟩
          · rw [he] at h6
            simp only at h6
            exact hC (by omega)
          · have hr := deep_le (treeL s).nodes 0 (by omega) (right_law s (by omega) (by rw [he])).1
            rw [he] at h6 hr
            simp only at h6 hr
            rw [hmain (by omega),he]
            simp [parseT,stepT_none,sX,endT,FrameL.add,rootF,FrameL.node]
      · have he : (treeL s).err = 5 := by rw [hp]; cases it <;> rfl
        refine ⟨fun _ => Or.inl ?_,fun h => by omega,fun h => by omega⟩
        by_cases h5 : depF (f :: g :: q) ≤ 5
        · rw [hmain h5]
          obtain ⟨h,q',e,hq⟩:=sX_cons g q
          cases it with
          | some i => simp [parseT,stepT_some]
          | none =>
            rcases q' with _ | ⟨y,q'⟩
            · exact absurd rfl hq
            · simp [parseT,stepT_none,sX,e,endT]
        · obtain ⟨p,_,h⟩ := hC (by omega)
          rw [h];simp
  · have hT : treeL s = ⟨[],(cutL s).pos,(cutL s).err⟩ := by unfold treeL; rw [if_pos hce]
    refine ⟨fun _ => Or.inr ?_,fun h => absurd (by rw [hT] at h;exact h) hce,fun h => absurd (by rw [hT] at h;exact h) hce⟩
    rw [hT]
    simp only
    have e : cutL s = cutM false 0 0 0 s:=by unfold cutL;rw [if_neg (by omega)]
    rw [e] at hce ⊢
    obtain ⟨q,h1,_,h3,h4⟩:=cutM_before false 0 0 0 s hce
    omega
end
section
/-! ### Items without their places -/
def zW (w : WordL) : WordL:={ w with pos:=0 }
mutual
def zN : NodeL → NodeL
  | .mk nm _ ws b ks => .mk nm 0 (ws.map zW) b (zNs ks)
def zNs : List NodeL → List NodeL
  | [] => []
  | n :: r => zN n :: zNs r
end
theorem zNs_append : ∀ l m : List NodeL,zNs (l ++ m) = zNs l ++ zNs m
  | [],m => rfl
  | n :: r,m => by simp only [List.cons_append,zNs,zNs_append r m]
theorem zNs_len : ∀ l : List NodeL,(zNs l).length = l.length
  | [] => rfl
  | n :: r => by simp only [zNs,List.length_cons,zNs_len r]
theorem words_okz (ws : List WordL) : (ws.map zW).all wordOk = ws.all wordOk := by
  induction ws with
  | nil => rfl
  | cons w r ih =>
    simp only [List.map_cons,List.all_cons]
    rw [ih];rfl
mutual
theorem check_zN : ∀ (n : NodeL) (d : Nat),checkN d (zN n) = checkN d n
  | .mk nm p ws b ks,d => by simp only [zN,checkN,words_okz ws,List.length_map,zNs_len,check_z ks (d + 1)]
theorem check_z : ∀ (l : List NodeL) (d : Nat),checkL d (zNs l) = checkL d l
  | [],_ => rfl
  | n :: r,d => by simp only [zNs,checkL,check_zN n d,check_z r d]
end
end
end Go.Proofs.YtjbniichcopnlaaGreatDoor
