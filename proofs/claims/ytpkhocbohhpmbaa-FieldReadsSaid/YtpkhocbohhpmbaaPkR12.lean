/- Layer 9, in plain Lean: what is read may be. Then: Layer 9 (tree): items that are read: the walks of Deep, and of Few. Then: Layer 9 (tree): the walk of Same. -/
import Derived.Test.YtpkhocbohhpmbaaPkR11
namespace Go.Proofs.Ytpkhocbohhpmbaa
section
mutual
/-- How many items and words. -/
def cntN : NodeL → Nat
  | .mk _ _ ws _ ks => 1 + ws.length + cntL ks
def cntL : List NodeL → Nat
  | [] => 0
  | n :: r => cntN n + cntL r
end
theorem cntL_mem : ∀ (l : List NodeL) (i : Nat) (n : NodeL),l[i]? = some n → cntL n.kids + n.words.length + 1 ≤ cntL l
  | [],i,n,h => by simp at h
  | x :: r,0,n,h => by
    simp only [List.getElem?_cons_zero,Option.some.injEq] at h
    subst h
    obtain ⟨nm,p,ws,b,ks⟩:=x
    simp only [NodeL.kids,NodeL.words,cntL,cntN];omega
  | x :: r,i + 1,n,h => by
    have:=cntL_mem r i n (by simpa using h)
    simp only [cntL];omega
theorem cntL_len : ∀ l : List NodeL,l.length ≤ cntL l
  | [] => Nat.le_refl _
  | x :: r => by
    have:=cntL_len r
    obtain ⟨nm,p,ws,b,ks⟩:=x
    simp only [List.length_cons,cntL,cntN];omega
theorem checkL_snoc : ∀ (l : List NodeL) (n : NodeL) (d : Nat),checkL d l = 0 → checkN d n = 0 → checkL d (l ++ [n]) = 0
  | [],n,d,_,h => by simp [checkL,h]
  | x :: r,n,d,hl,h => by
    simp only [checkL] at hl
    rw [List.cons_append]
    simp only [checkL]
    by_cases hx : checkN d x = 0
    · rw [if_neg (by simp [hx])] at hl ⊢
      exact checkL_snoc r n d hl h
    · rw [if_pos hx] at hl;exact absurd hl hx
def itemOk (nm : Bytes) (ws : List WordL) : Prop:=ws.all wordOk = true ∧ nameL nm = true ∧ ws.length ≤ 8
def invF : List FrameL → Prop
  | [] => True
  | f :: r => checkL r.length f.kids = 0 ∧ (r ≠ [] → itemOk f.name f.words) ∧ invF r
def invI : Option ItemL → Prop
  | none => True
  | some i => itemOk i.name i.words
theorem checkN_mk (d : Nat) (nm : Bytes) (p : Int) (ws : List WordL) (b : Bool) (ks : List NodeL) (h : itemOk nm ws) (hb : b = false → ks = []) (hd : b = true → d ≠ 6) (hk : checkL (d + 1) ks = 0) : checkN d (.mk nm p ws b ks) = 0 := by
  obtain ⟨h1,h2,h3⟩:=h
  simp only [checkN]
  have hlen : (!b && decide (0 < ks.length)) = false := by
    cases b
    · rw [hb rfl];rfl
    · rfl
  rw [h1,h2,hlen,decide_eq_false (by omega)]
  rw [if_neg (by simp),if_neg (fun a => hd a.1 a.2)]
  exact hk
theorem step_inv (fs : List FrameL) (it : Option ItemL) (t : Tok) (fs' : List FrameL) (it' : Option ItemL) (ht : tokOk t = true) (hf : invF fs) (hi : invI it) (hl : fs.length ≤ 7) (h : stepT fs it t = .fine fs' it') :
    invF fs' ∧ invI it' ∧ fs'.length ≤ 7:=by
  cases it with
  | none =>
    simp only [stepT,beginT] at h
    by_cases h1 : t.kind = 1
    · rw [if_pos h1] at h
      injection h with e1 e2
      subst e1 e2
      unfold tokOk at ht
      rw [if_pos h1,Bool.and_eq_true] at ht
      exact ⟨hf,⟨rfl,ht.1,by simp⟩,hl⟩
    · rw [if_neg h1] at h
      by_cases h4 : t.kind = 4
      · rw [if_pos h4] at h
        rcases fs with _ | ⟨x,_ | ⟨y,r⟩⟩
        · cases h
        · cases h
        · injection h with e1 e2
          subst e1 e2
          obtain ⟨hx1,hx2,hy1,hy2,hr⟩:=hf
          simp only [List.length_cons] at hl hx1
          refine ⟨⟨checkL_snoc _ _ _ hy1 ?_,hy2,hr⟩,trivial,by simp only [List.length_cons];omega⟩
          exact checkN_mk _ _ _ _ _ _ (hx2 (by simp)) (fun e => by cases e) (fun _ => by omega) hx1
      · rw [if_neg h4] at h;cases h
  | some i =>
    simp only [stepT,goT] at h
    by_cases h12 : t.kind = 1 ∨ t.kind = 2
    · rw [if_pos h12] at h
      by_cases h8 : i.words.length = 8
      · rw [if_pos h8] at h;cases h
      · rw [if_neg h8] at h
        injection h with e1 e2
        subst e1 e2
        obtain ⟨i1,i2,i3⟩:=hi
        refine ⟨hf,⟨?_,i2,by simp only [List.length_append,List.length_singleton];omega⟩,hl⟩
        rw [List.all_append,i1]
        unfold tokOk at ht
        rcases h12 with h | h
        · rw [if_pos h,Bool.and_eq_true] at ht
          have hn : t.n = 0:=by simpa using ht.2
          simp [wordOk,h,ht.1,hn]
        · rw [if_neg (by omega),if_pos h] at ht
          simp only [Bool.and_eq_true,decide_eq_true_eq] at ht
          simp [wordOk,h,ht.1.1,ht.1.2,ht.2]
    · rw [if_neg h12] at h
      by_cases h5 : t.kind = 5
      · rw [if_pos h5] at h
        rcases fs with _ | ⟨y,r⟩
        · cases h
        · injection h with e1 e2
          subst e1 e2
          obtain ⟨hy1,hy2,hr⟩:=hf
          refine ⟨⟨checkL_snoc _ _ _ hy1 ?_,hy2,hr⟩,trivial,hl⟩
          exact checkN_mk _ _ _ _ _ _ hi (fun _ => rfl) (fun e => by cases e) rfl
      · rw [if_neg h5] at h
        by_cases h3 : t.kind = 3
        · rw [if_pos h3] at h
          by_cases h7 : fs.length = 7
          · rw [if_pos h7] at h;cases h
          · rw [if_neg h7] at h
            injection h with e1 e2
            subst e1 e2
            exact ⟨⟨rfl,fun _ => hi,hf⟩,trivial,by simp only [List.length_cons];omega⟩
        · rw [if_neg h3] at h;cases h
theorem parse_inv (E : Int) : ∀ (ts : List Tok) (fs : List FrameL) (it : Option ItemL),(∀ t ∈ ts,tokOk t = true) → invF fs → invI it → fs.length ≤ 7 → (parseT E fs it ts).err = 0 → checkL 0 (parseT E fs it ts).nodes = 0
  | [],fs,it,_,hf,hi,hl,h => by
    rw [parseT] at h ⊢
    rcases fs with _ | ⟨f,_ | ⟨g,r⟩⟩ <;> rcases it with _ | i <;> simp [endT] at h ⊢ <;> first | exact hf.1 | rfl
  | t :: ts,fs,it,ht,hf,hi,hl,h => by
    rw [parseT] at h ⊢
    cases hst : stepT fs it t with
    | bad e =>
      rw [hst] at h
      exact absurd h (step_bad0 e fs it t hst)
    | fine fs' it' =>
      rw [hst] at h
      simp only at h ⊢
      obtain ⟨a,b,c⟩:=step_inv fs it t fs' it' (ht t (by simp)) hf hi hl hst
      exact parse_inv E ts fs' it' (fun u hu => ht u (by simp [hu])) a b c h
theorem check_parts (d : Nat) (nm : Bytes) (p : Int) (ws : List WordL) (b : Bool) (ks : List NodeL) (h : checkN d (.mk nm p ws b ks) = 0) : ws.length ≤ 8 ∧ (b = false → ks = []) ∧ (b = true → d ≠ 6) ∧ checkL (d + 1) ks = 0 := by
  simp only [checkN] at h
  by_cases h1 : (!ws.all wordOk || !nameL nm || decide (8 < ws.length) || (!b && decide (0 < ks.length))) = true
  · rw [if_pos h1] at h;cases h
  · rw [if_neg h1] at h
    simp only [Bool.or_eq_true,not_or,Bool.not_eq_true,decide_eq_false_iff_not] at h1
    by_cases h2 : b = true ∧ d = 6
    · rw [if_pos h2] at h;cases h
    · rw [if_neg h2] at h
      refine ⟨by omega,fun e => ?_,fun e e' => h2 ⟨e,e'⟩,h⟩
      have:=h1.2
      rw [e] at this
      simp at this
      exact this
theorem checkL_cons (d : Nat) (n : NodeL) (r : List NodeL) (h : checkL d (n :: r) = 0) : checkN d n = 0 ∧ checkL d r = 0 := by
  simp only [checkL] at h
  by_cases hx : checkN d n = 0
  · rw [if_neg (by simp [hx])] at h;exact ⟨hx,h⟩
  · rw [if_pos hx] at h;exact absurd h hx
theorem cnt_flat : ∀ (l : List NodeL) (d : Nat),checkL d l = 0 → cntL l ≤ (flatL l).length
  | [],_,_ => Nat.le_refl _
  | .mk nm p ws b ks :: r,d,h => by
    obtain ⟨h1,h2⟩:=checkL_cons d _ _ h
    obtain ⟨_,p2,_,p4⟩:=check_parts d nm p ws b ks h1
    have i2:=cnt_flat r d h2
    simp only [cntL,cntN,flatL,flatN,List.length_append,List.length_cons,List.length_map]
    cases b
    · have := p2 rfl
      subst this
      simp [cntL];omega
    · have i1 := cnt_flat ks (d + 1) p4
      simp;omega
theorem deep_le : ∀ (l : List NodeL) (d : Nat),d ≤ 6 → checkL d l = 0 → deepL l + d ≤ 6
  | [],d,hd,_ => by simp [deepL];omega
  | .mk nm p ws b ks :: r,d,hd,h => by
    obtain ⟨h1,h2⟩:=checkL_cons d _ _ h
    obtain ⟨_,p2,p3,p4⟩:=check_parts d nm p ws b ks h1
    have i2:=deep_le r d hd h2
    simp only [deepL,deepN]
    cases b
    · have := p2 rfl
      subst this
      simp [deepL];omega
    · have := p3 rfl
      have i1:=deep_le ks (d + 1) (by omega) p4
      simp;omega
mutual
theorem left_okN : ∀ (n : NodeL) (d : Nat) (most deep : Int),d ≤ 6 → checkN d n = 0 → (cntN n : Int) ≤ most → 8 - (d : Int) ≤ deep → most - cntN n ≤ leftN most deep n
  | .mk nm p ws b ks,d,most,deep,hd,h,hm,hdp => by
    obtain ⟨p1,p2,p3,p4⟩:=check_parts d nm p ws b ks h
    simp only [cntN] at hm ⊢
    simp only [leftN]
    rw [if_neg (by omega)]
    cases b
    · have := p2 rfl
      subst this
      simp only [leftL,cntL] at hm ⊢
      omega
    · have := p3 rfl
      have:=left_okL ks (d + 1) (most - 1) (deep - 1) (by omega) p4 (by omega) (by omega)
      omega
theorem left_okL : ∀ (l : List NodeL) (d : Nat) (most deep : Int),d ≤ 6 → checkL d l = 0 → (cntL l : Int) ≤ most → 8 - (d : Int) ≤ deep → most - cntL l ≤ leftL most deep l
  | [],d,most,deep,_,_,_,_ => by simp [leftL,cntL]
  | n :: r,d,most,deep,hd,h,hm,hdp => by
    simp only [leftL]
    rw [if_neg (by omega)]
    simp only [leftGo]
    obtain ⟨h1,h2⟩:=checkL_cons d _ _ h
    simp only [cntL] at hm ⊢
    have i1:=left_okN n d most deep hd h1 (by omega) hdp
    have i2:=left_okG r d (leftN most deep n) deep hd h2 (by omega) hdp
    omega
theorem left_okG : ∀ (l : List NodeL) (d : Nat) (most deep : Int),d ≤ 6 → checkL d l = 0 → (cntL l : Int) ≤ most → 8 - (d : Int) ≤ deep → most - cntL l ≤ leftGo most deep l
  | [],d,most,deep,_,_,_,_ => by simp [leftGo,cntL]
  | n :: r,d,most,deep,hd,h,hm,hdp => by
    simp only [leftGo]
    obtain ⟨h1,h2⟩:=checkL_cons d _ _ h
    simp only [cntL] at hm ⊢
    have i1:=left_okN n d most deep hd h1 (by omega) hdp
    have i2:=left_okG r d (leftN most deep n) deep hd h2 (by omega) hdp
    omega
end
/-- What is read may be,stands no deeper than may be,and is few. -/
theorem right_law (s : Bytes) (hs : s.length ≤ 400) (he : (treeL s).err = 0) : checkL 0 (treeL s).nodes = 0 ∧ deepL (treeL s).nodes ≤ 6 ∧ 0 ≤ leftL 400 12 (treeL s).nodes ∧ cntL (treeL s).nodes ≤ 400 := by
  obtain ⟨h1,h2⟩:=treeL_err0 s he
  obtain ⟨_,_,hfl⟩:=tokens_law s he
  have hck : checkL 0 (treeL s).nodes = 0 := by
    rw [h2] at he ⊢
    exact parse_inv s.length _ _ _ (cutL_tokOk s) ⟨rfl,fun h => absurd rfl h,trivial⟩ trivial (by simp) he
  have hc : cntL (treeL s).nodes ≤ 400 := by
    have a:=cnt_flat (treeL s).nodes 0 hck
    rw [hfl,List.length_map] at a
    have b:=cutL_len s
    omega
  refine ⟨hck,by have:=deep_le _ 0 (by omega) hck;omega,?_,hc⟩
  have:=left_okL (treeL s).nodes 0 400 12 (by omega) hck (by omega) (by omega)
  omega
end
section
set_option linter.unusedVariables false
set_option linter.unusedSimpArgs false
open Go.RowKit
open Go.Lib renaming hid → zh
/-- The slice reads as items,all they lead to below block B. -/
def ROk (w : World) (B : Nat) (A : Option Addr) (l : List NodeL) : Prop:=∃ cs,ReadsM w (· < B) 5 A l.length cs ∧ NodesOk w (· < B) l cs
theorem ROk.below {w w' : World} {B : Nat} {A : Option Addr} {l : List NodeL} (h : ROk w B A l) (hb : Below B w w') : ROk w' B A l := by
  obtain ⟨cs,h1,h2⟩:=h
  have hk : ∀ p : Addr,p.block < B → w'.cell? p = w.cell? p:=fun p hp => hb.cell hp
  exact ⟨cs,h1.keep (fun _ h => h) hk,NodesOk.keep (fun _ h => h) hk _ _ h2⟩
theorem ROk.of_parse {w w' : World} {A : Option Addr} {l : List NodeL} {kcs : List Value} (h1 : ReadsM w' (fun b => w.heap.size ≤ b ∧ b < w'.heap.size) 5 A l.length kcs) (h2 : NodesOk w' (fun b => w.heap.size ≤ b ∧ b < w'.heap.size) l kcs) : ROk w' w'.heap.size A l :=
  ⟨kcs,h1.keep (fun _ h => h.2) (fun _ _ => rfl),NodesOk.keep (fun _ h => h.2) (fun _ _ => rfl) _ _ h2⟩
/-- The cells of item i,as a walk reads them. -/
theorem ROk.at {w : World} {B : Nat} {A : Option Addr} {l : List NodeL} (h : ROk w B A l) (i : Nat) (n : NodeL) (hi : l[i]? = some n) :
    ∃ ad Aw cw Ak ck,A = some ad ∧ ad.block < B ∧ w.cell? (ad.add (i * 5)) = some (.string ⟨n.name.toArray⟩) ∧ w.cell? ⟨(ad.add (i * 5)).block,(ad.add (i * 5)).off + 1,none⟩ = some (.int .i64 n.pos) ∧
      w.cell? ⟨(ad.add (i * 5)).block,(ad.add (i * 5)).off + 2,none⟩ = some (.slice Aw n.words.length cw) ∧ w.cell? ⟨(ad.add (i * 5)).block,(ad.add (i * 5)).off + 3,none⟩ = some (.bool n.block) ∧
      w.cell? ⟨(ad.add (i * 5)).block,(ad.add (i * 5)).off + 4,none⟩ = some (.slice Ak n.kids.length ck) ∧ ReadsM w (· < B) 4 Aw n.words.length (n.words.flatMap WordL.cells) ∧ ROk w B Ak n.kids:=by
  obtain ⟨cs,h1,h2⟩:=h
  obtain ⟨ad,Aw,cw,Ak,ck,kcs,e,hM,c0,c1,c2,c3,c4,_,_,hw,hk,hkn⟩:=node_cells h1 h2 i n hi
  exact ⟨ad,Aw,cw,Ak,ck,e,hM,c0,c1,c2,c3,c4,hw,kcs,hk,hkn⟩
theorem deepL_cnt : ∀ l : List NodeL,deepL l ≤ cntL l
  | [] => Nat.le_refl _
  | .mk nm p ws b ks :: r => by
    have h1:=deepL_cnt ks
    have h2:=deepL_cnt r
    simp only [deepL,deepN,cntL,cntN]
    split <;> omega
theorem cntL_take : ∀ (l : List NodeL) (k : Nat),cntL (l.take k) ≤ cntL l
  | [],k => by simp [cntL]
  | x :: r,0 => by simp [cntL]
  | x :: r,k + 1 => by
    have:=cntL_take r k
    simp only [List.take_succ_cons,cntL];omega
theorem deepN_eq (n : NodeL) : deepN n = deepL n.kids + (if n.block then 1 else 0):=by obtain ⟨nm,p,ws,b,ks⟩:=n;rfl
theorem deepL_take (l : List NodeL) (k : Nat) (n : NodeL) (h : l[k]? = some n) : deepL (l.take (k + 1)) = max (deepL (l.take k)) (deepN n) := by
  induction l generalizing k with
  | nil => simp at h
  | cons x r ih =>
    cases k with
    | zero =>
      simp only [List.getElem?_cons_zero,Option.some.injEq] at h
      subst h
      simp [deepL]
    | succ k =>
      have:=ih k (by simpa using h)
      simp only [List.take_succ_cons,deepL,this]
      omega
mutual
/-- How many items. -/
def ndN : NodeL → Nat
  | .mk _ _ _ _ ks => 1 + ndL ks
def ndL : List NodeL → Nat
  | [] => 0
  | n :: r => ndN n + ndL r
end
theorem ndN_eq (n : NodeL) : ndN n = 1 + ndL n.kids:=by obtain ⟨nm,p,ws,b,ks⟩:=n;rfl
theorem ndL_take (l : List NodeL) (k : Nat) (n : NodeL) (h : l[k]? = some n) : ndL (l.take (k + 1)) = ndL (l.take k) + ndN n := by
  induction l generalizing k with
  | nil => simp at h
  | cons x r ih =>
    cases k with
    | zero =>
      simp only [List.getElem?_cons_zero,Option.some.injEq] at h
      subst h
      simp [ndL]
    | succ k =>
      have:=ih k (by simpa using h)
      simp only [List.take_succ_cons,ndL,this]
      omega
theorem ndL_cnt : ∀ l : List NodeL,ndL l ≤ cntL l
  | [] => Nat.le_refl _
  | .mk nm p ws b ks :: r => by
    have h1:=ndL_cnt ks
    have h2:=ndL_cnt r
    simp only [ndL,ndN,cntL,cntN];omega
theorem cntL_take_mem (l : List NodeL) (k : Nat) (n : NodeL) (h : l[k]? = some n) : cntL (l.take k) + cntN n ≤ cntL l := by
  induction l generalizing k with
  | nil => simp at h
  | cons x r ih =>
    cases k with
    | zero =>
      simp only [List.getElem?_cons_zero,Option.some.injEq] at h
      subst h
      simp [cntL]
    | succ k =>
      have:=ih k (by simpa using h)
      simp only [List.take_succ_cons,cntL]
      omega
theorem cntN_eq (n : NodeL) : cntN n = 1 + n.words.length + cntL n.kids:=by obtain ⟨nm,p,ws,b,ks⟩:=n;rfl
/-- What is known of each item of a list that may be. -/
theorem check_at : ∀ (l : List NodeL) (d i : Nat) (n : NodeL),checkL d l = 0 → l[i]? = some n → n.words.length ≤ 8 ∧ n.words.all wordOk = true ∧ nameL n.name = true ∧ (n.block = false → n.kids = []) ∧ (n.block = true → d ≠ 6) ∧ checkL (d + 1) n.kids = 0
  | [],d,i,n,_,h => by simp at h
  | x :: r,d,0,n,hl,h => by
    simp only [List.getElem?_cons_zero,Option.some.injEq] at h
    subst h
    obtain ⟨h1,_⟩:=checkL_cons d _ _ hl
    obtain ⟨nm,p,ws,b,ks⟩:=x
    obtain ⟨p1,p2,p3,p4⟩:=check_parts d nm p ws b ks h1
    refine ⟨p1,?_,?_,p2,p3,p4⟩
    · simp only [checkN] at h1
      show ws.all wordOk = true
      cases hw : ws.all wordOk
      · rw [hw] at h1;simp at h1
      · rfl
    · simp only [checkN] at h1
      show nameL nm = true
      cases hw : nameL nm
      · rw [hw] at h1;simp at h1
      · rfl
  | x :: r,d,i + 1,n,hl,h => by
    obtain ⟨_,h2⟩:=checkL_cons d _ _ hl
    exact check_at r d i n h2 (by simpa using h)
set_option maxRecDepth 100000 in
set_option maxHeartbeats 2000000 in
theorem ref9_left : ∀ (N : Nat) (l : List NodeL) (A : Option Addr) (c : Nat) (w : World) (B d : Nat) (most deep : Int),cntL l < N → (cntL l : Int) ≤ most → most ≤ 100000 → B ≤ w.heap.size → ROk w B A l →
    (l = [] ∨ (checkL d l = 0 ∧ d ≤ 6 ∧ 8 - (d : Int) ≤ deep)) → 0 ≤ deep → deep ≤ 100 →
    Calls Try.prog 17 #[.slice A l.length c, .int .i64 most, .int .i64 deep] w fun e w' => e = .returned (.int .i64 (most - ndL l)) ∧ Below w.heap.size w w':=by
  intro N
  induction N with
  | zero => intro l A c w B d most deep h;omega
  | succ N ih =>
    intro l A c w B d most deep hN hsm hmx hB hok hchk hdp0 hdp1
    have hlen:=cntL_len l
    have HOK:=zh hok
    have HIH:=zh ih
    clear ih hok
    have hg : (deep == 0) = false ∨ (0 < (l.length : Int)) = False := by
      rcases hchk with rfl | ⟨_,h6,h8⟩
      · right;simp
      · left;exact beq_false_of_ne (by omega)
    have key : (∀ (h : 0 < l.length),(deep == 0) = false) := fun h => by
      rcases hchk with rfl | ⟨_,h6,h8⟩
      · simp at h
      · exact beq_false_of_ne (by omega)
    have HCK:=zh hchk
    clear hchk hg
    have hmn : ∀ k : Nat,(ndL (l.take k) : Int) ≤ cntL l:=fun k => by have:=ndL_cnt (l.take k);have:=cntL_take l k;omega
    have HMN:=zh hmn
    clear hmn
    by_cases hemp : l.length = 0
    · have hl0 : l = [] := List.eq_nil_of_length_eq_zero hemp
      subst hl0
      clear key hemp
      have hz : most - (ndL [] : Int) = most:=by simp [ndL]
      rw [hz]
      cases hdd : (deep == 0)
      all_goals
        go_enter Try.func17,Try.ntmps17
        go_wp2_with fail
        go_loopw [1,18] (fun m i wr => m = .int .i64 most ∧ i = .int .i64 0 ∧ wr = w) (fun _ _ _ => 0)
        case atStart => exact ⟨rfl,rfl,rfl⟩
        case round =>
          obtain ⟨rfl,rfl,rfl⟩:=hrel
          go_wp2_with fail
          go_ret
          exact ⟨rfl,Below.refl _ _⟩
    · have hd0 := key (by omega)
      clear key
      go_enter Try.func17,Try.ntmps17
      go_wp2_with fail
      go_loopw [1,18] (fun m i wr => ∃ k : Nat,k ≤ l.length ∧ m = .int .i64 (most - ndL (l.take k)) ∧ i = .int .i64 k ∧ Below w.heap.size w wr) (fun _ i _ => l.length - (intOf i).toNat)
      case atStart => exact ⟨0,Nat.zero_le _,by simp [ndL],rfl,Below.refl _ _⟩
      case round =>
        obtain ⟨k,hk,rfl,rfl,hb⟩:=hrel
        by_cases hlt : k < l.length
        · obtain ⟨n,hn⟩ : ∃ n,l[k]? = some n := ⟨_,List.getElem?_eq_getElem hlt⟩
          obtain ⟨ad,Aw,cw,Ak,ck,hA,hadB,c0,c1,c2,c3,c4,hw,hkk⟩:=(HOK.out.below (hb.mono hB)).at k n hn
          subst hA
          obtain ⟨hck,hd6,hd8⟩:=HCK.out.resolve_left (fun e => hemp (by rw [e];rfl))
          obtain ⟨p1,p2,p3,p4,p5,p6⟩:=check_at l d k n hck hn
          have hbs:=hb.size
          have hc1:=cntL_take_mem l k n hn
          have hc2:=cntN_eq n
          have hc3:=ndL_cnt (l.take k)
          have hc4:=ndL_cnt n.kids
          have hnt:=ndL_take l k n hn
          rw [ndN_eq] at hnt
          have HNT:=zh hnt
          have HKK:=zh hkk
          have HB:=zh hb
          have lk : (k : Int) < l.length:=by omega
          have lk0 : (0 : Int) ≤ k:=by omega
          have w1f : IntKind.i64.wrap ((k : Int) + 1) = (k : Int) + 1:=by rw [IntKind.wrap_i64];omega
          obtain ⟨m,hm⟩ : ∃ m : Int,m = most - ndL (l.take k):=⟨_,rfl⟩
          have hm0 : ¬ m < 0:=by omega
          have hm1 : (cntL n.kids : Int) ≤ m - 1:=by omega
          have hm2 : m ≤ 100000:=by omega
          have HM:=zh hm
          rw [← hm]
          have hw20 : ¬ (20 < (n.words.length : Int)):=by omega
          have w3f : IntKind.i64.wrap (m - 1) = m - 1:=by rw [IntKind.wrap_i64];omega
          have w4f : IntKind.i64.wrap (deep - 1) = deep - 1:=by rw [IntKind.wrap_i64];omega
          have hkd : n.kids = [] ∨ (checkL (d + 1) n.kids = 0 ∧ d + 1 ≤ 6 ∧ 8 - ((d + 1 : Nat) : Int) ≤ deep - 1) := by
            cases hnb : n.block
            · exact .inl (p4 hnb)
            · exact .inr ⟨p6,by have:=p5 hnb;omega,by omega⟩
          have HKD:=zh hkd
          clear hkd p1 p2 p3 p4 p5 p6 hck hw hnt hm hb
          go_wp2_with fail
          refine (HIH.out n.kids Ak ck _ B (d + 1) (m - 1) (deep - 1) (by omega) hm1 (by omega) (by simp;omega) (HKK.out.below ((Below.refl _ _).alloc (by omega) _)) HKD.out (by omega) (by omega)).mono ?_
          rintro e w2 ⟨rfl,hb2⟩
          have hb3 : Below w.heap.size w w2:=HB.out.trans (((Below.refl wr.heap.size wr).alloc (Nat.le_refl _) _ |>.trans (hb2.mono (by simp))).mono hbs)
          have HB3:=zh hb3
          clear hb2 hb3
          go_wp2_with fail
          refine ⟨⟨k + 1,by omega,?_,by go_num,HB3.out⟩,by simp [intOf];omega⟩
          refine val_int ?_
          rw [HNT.out,HM.out]
          omega
        · have hkl : k = l.length := by omega
          have HD:=zh (show ndL (l.take k) = ndL l by rw [hkl,List.take_length])
          have lk : ¬ (k : Int) < l.length:=by omega
          go_wp2_with fail
          go_ret
          exact ⟨by first | rfl | exact ret_int (by rw [HD.out]),hb⟩
theorem name16 (s : Bytes) (h : nameL s = true) : s.length ≤ 16 := by
  unfold nameL at h
  cases s with
  | nil => simp
  | cons c r => simp only [Bool.and_eq_true,decide_eq_true_eq] at h;exact h.1.1
end
section
set_option linter.unusedVariables false
set_option linter.unusedSimpArgs false
open Go.RowKit
def wordV (t : WordL) : Value:=.agg #[.bool t.num, .int .i64 t.n, .string ⟨t.s.toArray⟩, .int .i64 t.pos]
theorem sameWs_len : ∀ (l m : List WordL),l.length ≠ m.length → sameWs l m = false
  | [],[],h => absurd rfl h
  | [],_ :: _,_ => rfl
  | _ :: _,[],_ => rfl
  | a :: l,b :: m,h => by
    rw [sameWs,sameWs_len l m (by simpa using h)];simp
theorem sameWs_step : ∀ (l m : List WordL) (k : Nat) (a b : WordL),l[k]? = some a → m[k]? = some b → sameWs (l.drop k) (m.drop k) = (sameW a b && sameWs (l.drop (k + 1)) (m.drop (k + 1)))
  | [],_,k,a,b,h,_ => by simp at h
  | _ :: _,[],k,a,b,_,h => by simp at h
  | x :: l,y :: m,0,a,b,h1,h2 => by
    simp only [List.getElem?_cons_zero,Option.some.injEq] at h1 h2
    subst h1 h2
    simp [sameWs]
  | x :: l,y :: m,k + 1,a,b,h1,h2 => by
    simpa using sameWs_step l m k a b (by simpa using h1) (by simpa using h2)
mutual
/-- No item has more than twenty words. -/
def fewN : NodeL → Bool
  | .mk _ _ ws _ ks => decide (ws.length ≤ 20) && fewNs ks
def fewNs : List NodeL → Bool
  | [] => true
  | n :: r => fewN n && fewNs r
end
mutual
theorem few_of_checkN : ∀ (n : NodeL) (d : Nat),checkN d n = 0 → fewN n = true
  | .mk nm p ws b ks,d,h => by
    rw [checkN] at h
    split at h
    · simp at h
    rename_i h1
    split at h
    · simp at h
    have hk:=few_of_checkL ks (d + 1) h
    simp only [Bool.or_eq_true,decide_eq_true_eq,not_or] at h1
    simp only [fewN,hk,Bool.and_true,decide_eq_true_eq]
    omega
theorem few_of_checkL : ∀ (l : List NodeL) (d : Nat),checkL d l = 0 → fewNs l = true
  | [],d,_ => rfl
  | n :: r,d,h => by
    obtain ⟨h1,h2⟩:=checkL_cons d _ _ h
    simp only [fewNs,few_of_checkN n d h1,few_of_checkL r d h2,Bool.and_self]
end
theorem few_at : ∀ (l : List NodeL) (k : Nat) (n : NodeL),fewNs l = true → l[k]? = some n → n.words.length ≤ 20 ∧ fewNs n.kids = true
  | [],k,n,_,h => by simp at h
  | x :: r,0,n,h,hk => by
    simp only [List.getElem?_cons_zero,Option.some.injEq] at hk
    subst hk
    obtain ⟨nm,p,ws,b,ks⟩:=x
    simp only [fewNs,fewN,Bool.and_eq_true,decide_eq_true_eq] at h
    exact h.1
  | x :: r,k + 1,n,h,hk => by
    simp only [fewNs,Bool.and_eq_true] at h
    exact few_at r k n h.2 (by simpa using hk)
theorem sameN_eq (x y : NodeL) : sameN x y = (sameWs x.words y.words && decide (x.name = y.name) && (x.block == y.block) && sameNs x.kids y.kids) := by
  obtain ⟨a,b,c,d,e⟩:=x
  obtain ⟨a',b',c',d',e'⟩:=y
  rfl
theorem sameNs_len : ∀ (l m : List NodeL),l.length ≠ m.length → sameNs l m = false
  | [],[],h => absurd rfl h
  | [],_ :: _,_ => rfl
  | _ :: _,[],_ => rfl
  | a :: l,b :: m,h => by
    rw [sameNs,sameNs_len l m (by simpa using h)];simp
theorem sameNs_step : ∀ (l m : List NodeL) (k : Nat) (a b : NodeL),l[k]? = some a → m[k]? = some b → sameNs (l.drop k) (m.drop k) = (sameN a b && sameNs (l.drop (k + 1)) (m.drop (k + 1)))
  | [],_,k,a,b,h,_ => by simp at h
  | _ :: _,[],k,a,b,_,h => by simp at h
  | x :: l,y :: m,0,a,b,h1,h2 => by
    simp only [List.getElem?_cons_zero,Option.some.injEq] at h1 h2
    subst h1 h2
    simp [sameNs]
  | x :: l,y :: m,k + 1,a,b,h1,h2 => by
    simpa using sameNs_step l m k a b (by simpa using h1) (by simpa using h2)
end
end Go.Proofs.Ytpkhocbohhpmbaa
