/- Layer 11 (field), in plain Lean: a calendar's block is read as the calendar. Then: Layer 11 (field), in plain Lean: a calendar's block is read as the calendar: the end, the other keys. Then: Layer 11 (field), in plain Lean: the keys of a calendar's block, in whatever order, lead to the calendar. -/
import Derived.Test.YtpkhocbohhpmbaaPkT1
import Derived.Test.YtpkhocbohhpmbaaPkR28
set_option linter.unusedVariables false
set_option maxRecDepth 100000
namespace Go.Proofs.Ytpkhocbohhpmbaa
section
theorem day_at : ∀ k : Fin 7,posL days (days.getD k.val []) = (k.val : Int) + 1:=by decide
theorem mon_at : ∀ k : Fin 12,posL mons (mons.getD k.val []) = (k.val : Int) + 1:=by decide
theorem end_at : ∀ k : Fin 6,posL endsL (endsL.getD k.val []) = (k.val : Int) + 1:=by decide
theorem pol_at : ∀ k : Fin 4,posL pols (pols.getD k.val []) = (k.val : Int) + 1:=by decide
theorem shf_at : ∀ k : Fin 2,posL shifts (shifts.getD k.val []) = (k.val : Int) + 1:=by decide
theorem at_of {l : List Bytes} {n : Nat} (h : ∀ k : Fin n,posL l (l.getD k.val []) = (k.val : Int) + 1) (x : Int) (h1 : 1 ≤ x) (h2 : x ≤ n) : placeW l (wS (l.getD (x - 1).toNat [])) = x := by
  have:=h ⟨(x - 1).toNat,by omega⟩
  exact this.trans (by show ((x - 1).toNat : Int) + 1 = x;omega)
theorem names_ok : (endsL ++ days ++ mons ++ pols ++ shifts).all nameL = true:=by decide
theorem nameAt {l : List Bytes} (h : l.all nameL = true) (k : Nat) (hk : k < l.length) : nameL (l.getD k []) = true := by
  rw [List.getD_eq_getElem?_getD,List.getElem?_eq_getElem hk]
  exact List.all_eq_true.1 h _ (List.getElem_mem hk)
theorem wS_ok {s : Bytes} (h : nameL s = true) : wordOk (wS s) = true := by
  unfold wordOk wS
  simp [h]
theorem wN_ok {k : Int} (h : 0 ≤ k ∧ k ≤ 999999999) : wordOk (wN k) = true := by
  unfold wordOk wN
  simp [h]
/-- A key that may be. -/
structure KidOk (nm : Bytes) (k : NodeL) : Prop where
  key : keysL.contains k.name = true
  blk : k.block = false
  wds : k.words.isEmpty = false
  put : (putK k.name { calZ with name:=nm } k.words).2 = true
/-- What is known of the end so far. -/
def endIn (nm : Bytes) (co : Option CalL) (l : List NodeL) : Option CalL:=l.foldl (fun c k => if k.name = b_end then some (putK k.name { calZ with name:=nm } k.words).1 else c) co
theorem formed_ok (nm : Bytes) : ∀ (l : List NodeL) (seen : List Bytes) (co : Option CalL),(∀ k ∈ l,KidOk nm k) → (seen ++ l.map NodeL.name).Nodup → formedL nm seen co l = .inr (endIn nm co l)
  | [],seen,co,_,_ => rfl
  | k :: r,seen,co,hk,hn => by
    have h:=hk k (by simp)
    have hns : seen.contains k.name = false := by
      rw [List.nodup_append] at hn
      cases hc : seen.contains k.name
      · rfl
      · exact absurd rfl (hn.2.2 k.name (by simpa using hc) k.name (by simp))
    rw [formed_go h.key hns (by rw [h.blk,h.wds,h.put];rfl)]
    rw [formed_ok nm r (seen ++ [k.name]) _ (fun x hx => hk x (by simp [hx])) (by simpa using hn)]
    rfl
theorem fits_ok (kind : Int) : ∀ (l : List NodeL) (seen : List Bytes),(∀ k ∈ l,standsC kind k.name = true) → ¬ (b_periods ∈ seen ++ l.map NodeL.name ∧ b_pay ∈ seen ++ l.map NodeL.name) → fitsL kind seen l = none
  | [],seen,_,_ => rfl
  | k :: r,seen,hs,hp => by
    unfold fitsL
    rw [hs k (by simp)]
    have h2 : ¬ ((k.name = b_periods ∧ b_pay ∈ seen) ∨ (k.name = b_pay ∧ b_periods ∈ seen)) := by
      rintro (⟨h1,h2⟩ | ⟨h1,h2⟩)
      · exact hp ⟨by simp [← h1],by simp [h2]⟩
      · exact hp ⟨by simp [h2],by simp [← h1]⟩
    rw [if_neg (by decide),if_neg h2]
    exact fits_ok kind r (seen ++ [k.name]) (fun x hx => hs x (by simp [hx])) (by simpa using hp)
/-- One key put in. -/
def putF (c : CalL) (k : NodeL) : CalL:=if k.name = b_end then c else (keyK k.name c k.words).1
theorem putAll_cons (c : CalL) (k : NodeL) (r : List NodeL) : putAll c (k :: r) = putAll (putF c k) r:=rfl
theorem fold_keep {α : Type} (g : CalL → α) (P : Bytes → Prop) (hkeep : ∀ c k,¬ P k.name → g (putF c k) = g c) : ∀ (l : List NodeL) (c : CalL),(∀ k ∈ l,¬ P k.name) → g (putAll c l) = g c
  | [],c,_ => rfl
  | k :: r,c,h => by
    rw [putAll_cons,fold_keep g P hkeep r _ (fun x hx => h x (by simp [hx])),hkeep c k (h k (by simp))]
theorem fold_set {α : Type} (g : CalL → α) (P : Bytes → Prop) (hkeep : ∀ c k,¬ P k.name → g (putF c k) = g c) (v : α) : ∀ (l : List NodeL) (c : CalL),(∃ k ∈ l,P k.name) → (∀ k ∈ l,P k.name → ∀ c,g (putF c k) = v) → g (putAll c l) = v
  | [],c,h,_ => by obtain ⟨k,hk,_⟩:=h;cases hk
  | a :: r,c,h,hs => by
    rw [putAll_cons]
    by_cases hr : ∃ k ∈ r,P k.name
    · exact fold_set g P hkeep v r _ hr (fun k hk => hs k (by simp [hk]))
    · have hn : ∀ k ∈ r,¬ P k.name := fun k hk hp => hr ⟨k,hk,hp⟩
      rw [fold_keep g P hkeep r _ hn]
      obtain ⟨k,hk,hp⟩:=h
      rcases List.mem_cons.1 hk with rfl | hk
      · exact hs k (by simp) hp c
      · exact absurd hp (hn k hk)
theorem putF_fields (c : CalL) (k : NodeL) : (putF c k).name = c.name ∧ (putF c k).kind = c.kind ∧ (putF c k).day = c.day ∧ (putF c k).month = c.month ∧
    (k.name ≠ b_named → (putF c k).shift = c.shift) ∧ (k.name ≠ b_periods → k.name ≠ b_pay → (putF c k).shape = c.shape) ∧ (k.name ≠ b_periods → (putF c k).p0 = c.p0 ∧ (putF c k).p1 = c.p1 ∧ (putF c k).p2 = c.p2) ∧
    (k.name ≠ b_pay → (putF c k).cycle = c.cycle) ∧ (k.name ≠ b_extra → (putF c k).extra = c.extra) ∧ (k.name ≠ b_serve → (putF c k).first = c.first ∧ (putF c k).last = c.last):=by
  unfold putF
  by_cases h0 : k.name = b_end
  · rw [if_pos h0];simp
  rw [if_neg h0]
  unfold keyK
  by_cases h1 : k.name = b_periods
  · rw [if_pos h1]
    simp only [h1]
    split
    · split
      · simp
      · split
        · simp
        · simp
    · simp
  rw [if_neg h1]
  by_cases h2 : k.name = b_named
  · rw [if_pos h2];simp [h2]
  rw [if_neg h2]
  by_cases h3 : k.name = b_pay
  · rw [if_pos h3];simp [h3]
  rw [if_neg h3]
  by_cases h4 : k.name = b_extra
  · rw [if_pos h4];simp [h4]
  rw [if_neg h4]
  by_cases h5 : k.name = b_serve
  · rw [if_pos h5]
    split
    · simp [h5]
    · simp
  rw [if_neg h5]
  simp
theorem putF_policy (c : CalL) (k : NodeL) (h : keysL.contains k.name = true) (hn : k.name ≠ b_compare) : (putF c k).policy = c.policy := by
  unfold putF
  by_cases h0 : k.name = b_end
  · rw [if_pos h0]
  rw [if_neg h0]
  unfold keyK
  by_cases h1 : k.name = b_periods
  · rw [if_pos h1]
    split
    · split
      · rfl
      · split
        · rfl
        · rfl
    · rfl
  rw [if_neg h1]
  by_cases h2 : k.name = b_named
  · rw [if_pos h2]
  rw [if_neg h2]
  by_cases h3 : k.name = b_pay
  · rw [if_pos h3]
  rw [if_neg h3]
  by_cases h4 : k.name = b_extra
  · rw [if_pos h4]
  rw [if_neg h4]
  by_cases h5 : k.name = b_serve
  · rw [if_pos h5]
    split <;> rfl
  exfalso
  simp only [keysL,List.contains_cons,Bool.or_eq_true,beq_iff_eq,List.contains_nil,Bool.false_eq_true,or_false] at h
  rcases h with h | h | h | h | h | h | h
  · exact h0 h
  · exact h1 h
  · exact h2 h
  · exact h3 h
  · exact h4 h
  · exact h5 h
  · exact hn h
/-- An item of the block,up to its place. -/
def KidOf (c : CalL) (k : NodeL) : Prop:=∃ k0 ∈ kidsC c,k.name = k0.name ∧ k.words = k0.words ∧ k.block = false ∧ k.kids = []
theorem mem_kids (c : CalL) (k : NodeL) : k ∈ kidsC c ↔ k = itemL b_end (saysC c) [] ∨ (standsC c.kind b_named = true ∧ k = itemL b_named [shifts.getD c.shift.toNat []] []) ∨
    (standsC c.kind b_extra = true ∧ ((c.shape = 1 ∧ k = itemL b_periods [] [c.p0,c.p1,c.p2]) ∨ (c.shape = 2 ∧ k = itemL b_periods [] [4]) ∨ (c.shape = 3 ∧ k = itemL b_pay [] [c.cycle]) ∨ k = itemL b_extra [] [c.extra])) ∨
    k = itemL b_serve [] [c.first,c.last] ∨ k = itemL b_compare [pols.getD (c.policy - 1).toNat []] []:=by
  unfold kidsC endI namedI extraI serveI shapeC
  by_cases h1 : c.shape = 1
  · cases standsC c.kind b_named <;> cases standsC c.kind b_extra <;> simp [h1,or_assoc]
  · by_cases h2 : c.shape = 2
    · cases standsC c.kind b_named <;> cases standsC c.kind b_extra <;> simp [h2,or_assoc]
    · by_cases h3 : c.shape = 3
      · cases standsC c.kind b_named <;> cases standsC c.kind b_extra <;> simp [h3,or_assoc]
      · cases standsC c.kind b_named <;> cases standsC c.kind b_extra <;> simp [h1,h2,h3]
theorem ne_keys : b_end ≠ b_named ∧ b_end ≠ b_periods ∧ b_end ≠ b_pay ∧ b_end ≠ b_extra ∧ b_end ≠ b_serve ∧ b_end ≠ b_compare ∧ b_named ≠ b_periods ∧ b_named ≠ b_pay ∧ b_named ≠ b_extra ∧ b_named ≠ b_serve ∧ b_named ≠ b_compare ∧
    b_periods ≠ b_pay ∧ b_periods ≠ b_extra ∧ b_periods ≠ b_serve ∧ b_periods ≠ b_compare ∧ b_pay ≠ b_extra ∧ b_pay ≠ b_serve ∧ b_pay ≠ b_compare ∧ b_extra ≠ b_serve ∧ b_extra ≠ b_compare ∧ b_serve ≠ b_compare:=by decide
theorem itemL_name (nm : Bytes) (a : List Bytes) (b : List Int) : (itemL nm a b).name = nm:=rfl
theorem itemL_words (nm : Bytes) (a : List Bytes) (b : List Int) : (itemL nm a b).words = a.map wS ++ b.map wN:=rfl
/-- What each key of the block says. -/
structure KidSays (c : CalL) (k : NodeL) : Prop where
  any : keysL.contains k.name = true
  blk : k.block = false
  stands : standsC c.kind k.name = true
  end_ : k.name = b_end → k.words = (saysC c).map wS
  named : k.name = b_named → k.words = [wS (shifts.getD c.shift.toNat [])]
  periods : k.name = b_periods → (c.shape = 1 ∧ k.words = [wN c.p0,wN c.p1,wN c.p2]) ∨ (c.shape = 2 ∧ k.words = [wN 4])
  pay : k.name = b_pay → c.shape = 3 ∧ k.words = [wN c.cycle]
  extra : k.name = b_extra → k.words = [wN c.extra]
  serve : k.name = b_serve → k.words = [wN c.first,wN c.last]
  compare : k.name = b_compare → k.words = [wS (pols.getD (c.policy - 1).toNat [])]
theorem stands_same (k : Int) : standsC k b_periods = standsC k b_extra ∧ standsC k b_pay = standsC k b_extra ∧ standsC k b_end = true ∧ standsC k b_serve = true ∧ standsC k b_compare = true:=⟨rfl,rfl,rfl,rfl,rfl⟩
theorem kid_says (c : CalL) (k : NodeL) (h : KidOf c k) : KidSays c k := by
  obtain ⟨k0,hk0,hn,hw,hb,_⟩:=h
  obtain ⟨n1,n2,n3,n4,n5,n6,n7,n8,n9,n10,n11,n12,n13,n14,n15,n16,n17,n18,n19,n20,n21⟩:=ne_keys
  obtain ⟨s1,s2,s3,s4,s5⟩:=stands_same c.kind
  rw [mem_kids] at hk0
  rcases hk0 with rfl | ⟨hs,rfl⟩ | ⟨hs,⟨hc,rfl⟩ | ⟨hc,rfl⟩ | ⟨hc,rfl⟩ | rfl⟩ | rfl | rfl <;> (
    rw [itemL_name] at hn
    rw [itemL_words] at hw
    constructor <;> (first
      | exact hb
      | (rw [hn];first | rfl | assumption | (rw [s1];assumption) | (rw [s2];assumption))
      | (intro e;rw [hn] at e;first | exact absurd e (by assumption) | exact absurd e.symm (by assumption) | exact .inl ⟨hc,hw⟩ | exact .inr ⟨hc,hw⟩ | exact ⟨hc,hw⟩ | (rw [hw];simp;done))))
end
section
/-- What the end of a calendar says. -/
def endCal (nm : Bytes) (c : CalL) : CalL :=
  if c.kind = 3 then { nrfC with name:=nm } else if c.kind = 4 then { broadC with name:=nm } else if c.kind = 5 then { calZ with name:=nm,kind:=5,day:=7,month:=12 }
  else if c.kind = 6 then { calZ with name:=nm,kind:=6,shape:=5,month:=c.month } else { calZ with name:=nm,kind:=c.kind,day:=c.day,month:=c.month }
theorem endK_says (nm : Bytes) (c : CalL) (h : NodeFit c) : endK nm ((saysC c).map wS) = (endCal nm c,true) := by
  obtain ⟨k1,k6,hday,hmon,_,_⟩:=h
  have hm:=at_of mon_at c.month hmon.1 hmon.2
  have hk : c.kind = 1 ∨ c.kind = 2 ∨ c.kind = 3 ∨ c.kind = 4 ∨ c.kind = 5 ∨ c.kind = 6:=by omega
  have e3 : ∀ a b d : Bytes,([a,b,d].map wS).getD 1 ⟨false,0,[],0⟩ = wS b ∧ ([a,b,d].map wS).getD 2 ⟨false,0,[],0⟩ = wS d ∧ ([a,b,d].map wS).headD ⟨false,0,[],0⟩ = wS a ∧ ([a,b,d].map wS).length = 3:=fun _ _ _ => ⟨rfl,rfl,rfl,rfl⟩
  have e2 : ∀ a b : Bytes,([a,b].map wS).getD 1 ⟨false,0,[],0⟩ = wS b ∧ ([a,b].map wS).headD ⟨false,0,[],0⟩ = wS a ∧ ([a,b].map wS).length = 2:=fun _ _ => ⟨rfl,rfl,rfl⟩
  have e1 : ∀ a : Bytes,([a].map wS).headD ⟨false,0,[],0⟩ = wS a ∧ ([a].map wS).length = 1:=fun _ => ⟨rfl,rfl⟩
  have hE:=at_of end_at c.kind k1 k6
  rcases hk with hk | hk | hk | hk | hk | hk
  · have hs : saysC c = [endsL.getD (c.kind - 1).toNat [],days.getD (c.day - 1).toNat [],mons.getD (c.month - 1).toNat []] := by unfold saysC; rw [hk]; rfl
    have hd:=at_of day_at c.day (hday (.inl hk)).1 (hday (.inl hk)).2
    obtain ⟨a1,a2,a3,a4⟩:=e3 (endsL.getD (c.kind - 1).toNat []) (days.getD (c.day - 1).toNat []) (mons.getD (c.month - 1).toNat [])
    rw [hs,endK_eq nm _ c.kind (by rw [a3];exact hE)]
    unfold endB endCal fixedC
    rw [a1,a2,a4,hd,hm,hk]
    simp;omega
  · have hs : saysC c = [endsL.getD (c.kind - 1).toNat [],days.getD (c.day - 1).toNat [],mons.getD (c.month - 1).toNat []] := by unfold saysC; rw [hk]; rfl
    have hd:=at_of day_at c.day (hday (.inr hk)).1 (hday (.inr hk)).2
    obtain ⟨a1,a2,a3,a4⟩:=e3 (endsL.getD (c.kind - 1).toNat []) (days.getD (c.day - 1).toNat []) (mons.getD (c.month - 1).toNat [])
    rw [hs,endK_eq nm _ c.kind (by rw [a3];exact hE)]
    unfold endB endCal fixedC
    rw [a1,a2,a4,hd,hm,hk]
    simp;omega
  · have hs : saysC c = [endsL.getD (c.kind - 1).toNat []] := by unfold saysC; rw [hk]; rfl
    obtain ⟨a1,a2⟩:=e1 (endsL.getD (c.kind - 1).toNat [])
    rw [hs,endK_eq nm _ c.kind (by rw [a1];exact hE)]
    unfold endB endCal fixedC
    rw [a2,hk]
    rfl
  · have hs : saysC c = [endsL.getD (c.kind - 1).toNat []] := by unfold saysC; rw [hk]; rfl
    obtain ⟨a1,a2⟩:=e1 (endsL.getD (c.kind - 1).toNat [])
    rw [hs,endK_eq nm _ c.kind (by rw [a1];exact hE)]
    unfold endB endCal fixedC
    rw [a2,hk]
    rfl
  · have hs : saysC c = [endsL.getD (c.kind - 1).toNat []] := by unfold saysC; rw [hk]; rfl
    obtain ⟨a1,a2⟩:=e1 (endsL.getD (c.kind - 1).toNat [])
    rw [hs,endK_eq nm _ c.kind (by rw [a1];exact hE)]
    unfold endB endCal fixedC
    rw [a2,hk]
    rfl
  · have hs : saysC c = [endsL.getD (c.kind - 1).toNat [],mons.getD (c.month - 1).toNat []] := by unfold saysC; rw [hk]; rfl
    obtain ⟨a1,a2,a3⟩:=e2 (endsL.getD (c.kind - 1).toNat []) (mons.getD (c.month - 1).toNat [])
    rw [hs,endK_eq nm _ c.kind (by rw [a2];exact hE)]
    unfold endB endCal fixedC
    rw [a1,a3,hm,hk]
    simp;omega
theorem fold_same {α : Type} (g : CalL → α) : ∀ (l : List NodeL) (c : CalL),(∀ k ∈ l,∀ c,g (putF c k) = g c) → g (putAll c l) = g c
  | [],c,_ => rfl
  | k :: r,c,h => by rw [putAll_cons,fold_same g r _ (fun x hx => h x (by simp [hx])),h k (by simp)]
theorem putF_named {k : NodeL} {s : Int} (h : k.name = b_named) (hw : k.words = [wS (shifts.getD s.toNat [])]) (h0 : 0 ≤ s) (h1 : s ≤ 1) (c : CalL) : (putF c k).shift = s := by
  have hp:=at_of shf_at (s + 1) (by omega) (by omega)
  rw [show s + 1 - 1 = s by omega] at hp
  unfold putF
  rw [if_neg (by rw [h];decide),h,hw]
  show placeW shifts (wS (shifts.getD s.toNat [])) - 1 = s
  rw [hp];omega
theorem putF_periods3 {k : NodeL} {a b d : Int} (h : k.name = b_periods) (hw : k.words = [wN a,wN b,wN d]) (c : CalL) : (putF c k).shape = 1 ∧ (putF c k).p0 = a ∧ (putF c k).p1 = b ∧ (putF c k).p2 = d := by
  unfold putF
  rw [if_neg (by rw [h];decide),h,hw]
  exact ⟨rfl,rfl,rfl,rfl⟩
theorem putF_periods1 {k : NodeL} (h : k.name = b_periods) (hw : k.words = [wN 4]) (c : CalL) : (putF c k).shape = 2 ∧ (putF c k).p0 = c.p0 ∧ (putF c k).p1 = c.p1 ∧ (putF c k).p2 = c.p2 := by
  unfold putF
  rw [if_neg (by rw [h];decide),h,hw]
  exact ⟨rfl,rfl,rfl,rfl⟩
theorem putF_pay {k : NodeL} {a : Int} (h : k.name = b_pay) (hw : k.words = [wN a]) (c : CalL) : (putF c k).shape = 3 ∧ (putF c k).cycle = a := by
  unfold putF
  rw [if_neg (by rw [h];decide),h,hw]
  exact ⟨rfl,rfl⟩
theorem putF_extra {k : NodeL} {a : Int} (h : k.name = b_extra) (hw : k.words = [wN a]) (c : CalL) : (putF c k).extra = a := by
  unfold putF
  rw [if_neg (by rw [h];decide),h,hw]
  rfl
theorem putF_serve {k : NodeL} {a b : Int} (h : k.name = b_serve) (hw : k.words = [wN a,wN b]) (c : CalL) : (putF c k).first = a ∧ (putF c k).last = b := by
  unfold putF
  rw [if_neg (by rw [h];decide),h,hw]
  exact ⟨rfl,rfl⟩
theorem putF_compare {k : NodeL} {p : Int} (h : k.name = b_compare) (hw : k.words = [wS (pols.getD (p - 1).toNat [])]) (h1 : 1 ≤ p) (h4 : p ≤ 4) (c : CalL) : (putF c k).policy = p := by
  have hp:=at_of pol_at p h1 h4
  unfold putF
  rw [if_neg (by rw [h];decide),h,hw]
  show placeW pols (wS (pols.getD (p - 1).toNat [])) = p
  exact hp
/-- What a calendar that may be is,by its kind. -/
theorem cal_kinds (c : CalL) (hok : okC c = true) :
    (c.kind = 3 ∧ c = { nrfC with name:=c.name,first:=c.first,last:=c.last,policy:=c.policy }) ∨ (c.kind = 4 ∧ c = { broadC with name:=c.name,first:=c.first,last:=c.last,policy:=c.policy }) ∨
    ((c.kind = 1 ∨ c.kind = 2) ∧ weeksC c = true) ∨ (c.kind = 5 ∧ c.day = 7 ∧ c.month = 12 ∧ c.shift = 0 ∧ weeksC c = true) ∨
    (c.kind = 6 ∧ c.day = 0 ∧ c.shape = 5 ∧ c.p0 = 0 ∧ c.p1 = 0 ∧ c.p2 = 0 ∧ c.cycle = 0 ∧ c.extra = 0):=by
  unfold okC at hok
  simp only [Bool.and_eq_true] at hok
  obtain ⟨⟨⟨_,_⟩,_⟩,hr⟩:=hok
  unfold ruledC fixedC at hr
  by_cases h3 : c.kind = 3
  · rw [if_pos h3] at hr
    exact .inl ⟨h3,of_decide_eq_true hr⟩
  rw [if_neg h3] at hr
  by_cases h4 : c.kind = 4
  · rw [if_pos h4] at hr
    exact .inr (.inl ⟨h4,of_decide_eq_true hr⟩)
  rw [if_neg h4] at hr
  dsimp only at hr
  split at hr
  · simp at hr
  · split at hr
    · next hk =>
      simp only [Bool.and_eq_true] at hr
      exact .inr (.inr (.inl ⟨hk,hr.2⟩))
    · split at hr
      · next hk =>
        simp only [Bool.and_eq_true,decide_eq_true_eq] at hr
        exact .inr (.inr (.inr (.inl ⟨hk,hr.1.1.1,hr.1.1.2,hr.1.2,hr.2⟩)))
      · split at hr
        · next hk =>
          simp only [Bool.and_eq_true,decide_eq_true_eq,patZ] at hr
          exact .inr (.inr (.inr (.inr ⟨hk,hr.1.1.1.1,hr.1.1.1.2,hr.1.1.2.1.1,hr.1.1.2.1.2,hr.1.1.2.2,hr.1.2,hr.2⟩)))
        · simp at hr
theorem weeks_kinds (c : CalL) (h : weeksC c = true) :
    (1 ≤ c.extra ∧ c.extra ≤ 52) ∧ ((c.shape = 1 ∧ patOk c.p0 c.p1 c.p2 = true ∧ c.cycle = 0) ∨ (c.shape = 2 ∧ c.p0 = 0 ∧ c.p1 = 0 ∧ c.p2 = 0 ∧ c.cycle = 0) ∨ (c.shape = 3 ∧ c.p0 = 0 ∧ c.p1 = 0 ∧ c.p2 = 0 ∧ cycOk c.cycle = true)):=by
  unfold weeksC at h
  by_cases h1 : c.shape = 1
  · rw [if_pos h1] at h
    simp only [Bool.and_eq_true,decide_eq_true_eq,tween] at h
    have hm : manyC c.shape c.cycle = 12:=by unfold manyC;rw [if_neg (by omega),if_neg (by omega),if_pos (by omega)]
    rw [hm] at h
    exact ⟨by omega, .inl ⟨h1,h.1.1,h.1.2⟩⟩
  rw [if_neg h1] at h
  by_cases h2 : c.shape = 2
  · rw [if_pos h2] at h
    simp only [Bool.and_eq_true,decide_eq_true_eq,tween,patZ] at h
    have hm : manyC c.shape c.cycle = 13:=by unfold manyC;rw [if_pos h2]
    rw [hm] at h
    exact ⟨by omega, .inr (.inl ⟨h2,h.1.1.1.1,h.1.1.1.2,h.1.1.2,h.1.2⟩)⟩
  rw [if_neg h2] at h
  by_cases h3 : c.shape = 3
  · rw [if_pos h3] at h
    simp only [Bool.and_eq_true,decide_eq_true_eq,tween,patZ] at h
    obtain ⟨⟨hz,hc⟩,he⟩:=h
    have hc':=hc
    unfold cycOk at hc'
    simp only [Bool.or_eq_true,decide_eq_true_eq] at hc'
    have hm : manyC c.shape c.cycle ≤ 52 := by
      unfold manyC
      rw [if_neg h2,if_pos ⟨h3,by omega⟩]
      rcases hc' with (h | h) | h <;> rw [h] <;> decide
    exact ⟨by omega, .inr (.inr ⟨h3,hz.1.1,hz.1.2,hz.2,hc⟩)⟩
  · rw [if_neg h3] at h;simp at h
end
section
theorem stands_kinds (k : Int) : (k = 1 ∨ k = 2 → standsC k b_named = true ∧ standsC k b_extra = true) ∧ (k = 3 → standsC k b_named = false ∧ standsC k b_extra = false) ∧ (k = 4 → standsC k b_named = false ∧ standsC k b_extra = false) ∧
    (k = 5 → standsC k b_named = false ∧ standsC k b_extra = true) ∧ (k = 6 → standsC k b_named = true ∧ standsC k b_extra = false):=by
  refine ⟨?_,?_,?_,?_,?_⟩
  · rintro (rfl | rfl) <;> decide
  · rintro rfl;decide
  · rintro rfl;decide
  · rintro rfl;decide
  · rintro rfl;decide
section
variable {c : CalL} {l : List NodeL}
theorem no_named (hof : ∀ k ∈ l,KidOf c k) (h : standsC c.kind b_named = false) : ∀ k ∈ l,k.name ≠ b_named := fun k hk e => by
  have:=(kid_says c k (hof k hk)).stands
  rw [e,h] at this
  cases this
theorem no_shape (hof : ∀ k ∈ l,KidOf c k) (h : standsC c.kind b_extra = false) : ∀ k ∈ l,k.name ≠ b_periods ∧ k.name ≠ b_pay ∧ k.name ≠ b_extra := fun k hk => by
  have hs:=(kid_says c k (hof k hk)).stands
  obtain ⟨s1,s2,_⟩:=stands_same c.kind
  refine ⟨fun e => ?_,fun e => ?_,fun e => ?_⟩ <;> rw [e] at hs
  · rw [s1,h] at hs;cases hs
  · rw [s2,h] at hs;cases hs
  · rw [h] at hs;cases hs
theorem put_all (hok : okC c = true) (hof : ∀ k ∈ l,KidOf c k) (hall : ∀ k0 ∈ kidsC c,∃ k ∈ l,k.name = k0.name) : putAll (endCal c.name c) l = c := by
  have hfit:=nodeFit c hok
  have hS:=fun k hk => kid_says c k (hof k hk)
  obtain ⟨t12,t3,t4,t5,t6⟩:=stands_kinds c.kind
  have hin : ∀ k0,k0 ∈ kidsC c → ∃ k ∈ l,k.name = k0.name:=hall
  have hserve : ∃ k ∈ l,k.name = b_serve:=hin (itemL b_serve [] [c.first,c.last]) ((mem_kids c _).2 (.inr (.inr (.inr (.inl rfl)))))
  have hcomp : ∃ k ∈ l,k.name = b_compare:=hin (itemL b_compare [pols.getD (c.policy - 1).toNat []] []) ((mem_kids c _).2 (.inr (.inr (.inr (.inr rfl)))))
  have gname : (putAll (endCal c.name c) l).name = (endCal c.name c).name:=putAll_name _ l
  have gkind : (putAll (endCal c.name c) l).kind = (endCal c.name c).kind:=fold_same (·.kind) l _ (fun k _ c => (putF_fields c k).2.1)
  have gday : (putAll (endCal c.name c) l).day = (endCal c.name c).day:=fold_same (·.day) l _ (fun k _ c => (putF_fields c k).2.2.1)
  have gmon : (putAll (endCal c.name c) l).month = (endCal c.name c).month:=fold_same (·.month) l _ (fun k _ c => (putF_fields c k).2.2.2.1)
  have gfirst : (putAll (endCal c.name c) l).first = c.first:=fold_set (·.first) (· = b_serve) (fun c k h => ((putF_fields c k).2.2.2.2.2.2.2.2.2 h).1) _ l _ hserve (fun k hk h c' => (putF_serve h ((hS k hk).serve h) c').1)
  have glast : (putAll (endCal c.name c) l).last = c.last:=fold_set (·.last) (· = b_serve) (fun c k h => ((putF_fields c k).2.2.2.2.2.2.2.2.2 h).2) _ l _ hserve (fun k hk h c' => (putF_serve h ((hS k hk).serve h) c').2)
  have gpol : (putAll (endCal c.name c) l).policy = c.policy := by
    have key : ∀ (l : List NodeL) (d : CalL),(∀ k ∈ l,keysL.contains k.name = true) → (∃ k ∈ l,k.name = b_compare) → (∀ k ∈ l,k.name = b_compare → ∀ c',(putF c' k).policy = c.policy) → (putAll d l).policy = c.policy := by
      intro l
      induction l with
      | nil => intro d _ h _;obtain ⟨k,hk,_⟩:=h;cases hk
      | cons a r ih =>
        intro d hk h hs
        rw [putAll_cons]
        by_cases hr : ∃ k ∈ r,k.name = b_compare
        · exact ih _ (fun k h => hk k (by simp [h])) hr (fun k h => hs k (by simp [h]))
        · rw [fold_same (·.policy) r _ (fun k h c' => putF_policy c' k (hk k (by simp [h])) (fun e => hr ⟨k,h,e⟩))]
          obtain ⟨k,hkm,hp⟩:=h
          rcases List.mem_cons.1 hkm with rfl | hkm
          · exact hs k (by simp) hp _
          · exact absurd ⟨k,hkm,hp⟩ hr
    exact key l _ (fun k hk => (hS k hk).any) hcomp (fun k hk h c' => putF_compare h ((hS k hk).compare h) hfit.pol.1 hfit.pol.2 c')
  have gshift1 : standsC c.kind b_named = true → (putAll (endCal c.name c) l).shift = c.shift := fun hst =>
    fold_set (·.shift) (· = b_named) (fun c k h => (putF_fields c k).2.2.2.2.1 h) _ l _ (hin (itemL b_named [shifts.getD c.shift.toNat []] []) ((mem_kids c _).2 (.inr (.inl ⟨hst,rfl⟩)))) (fun k hk h c' => putF_named h ((hS k hk).named h) hfit.shf.1 hfit.shf.2 c')
  have gshift0 : standsC c.kind b_named = false → (putAll (endCal c.name c) l).shift = (endCal c.name c).shift := fun hst =>
    fold_same (·.shift) l _ (fun k hk c' => (putF_fields c' k).2.2.2.2.1 (no_named hof hst k hk))
  have gno : standsC c.kind b_extra = false → (putAll (endCal c.name c) l).shape = (endCal c.name c).shape ∧ (putAll (endCal c.name c) l).p0 = (endCal c.name c).p0 ∧ (putAll (endCal c.name c) l).p1 = (endCal c.name c).p1 ∧ (putAll (endCal c.name c) l).p2 = (endCal c.name c).p2 ∧
      (putAll (endCal c.name c) l).cycle = (endCal c.name c).cycle ∧ (putAll (endCal c.name c) l).extra = (endCal c.name c).extra:=fun hst => by
    have hn:=no_shape hof hst
    exact ⟨fold_same (·.shape) l _ (fun k hk c' => (putF_fields c' k).2.2.2.2.2.1 (hn k hk).1 (hn k hk).2.1),fold_same (·.p0) l _ (fun k hk c' => ((putF_fields c' k).2.2.2.2.2.2.1 (hn k hk).1).1),fold_same (·.p1) l _ (fun k hk c' => ((putF_fields c' k).2.2.2.2.2.2.1 (hn k hk).1).2.1),
      fold_same (·.p2) l _ (fun k hk c' => ((putF_fields c' k).2.2.2.2.2.2.1 (hn k hk).1).2.2),fold_same (·.cycle) l _ (fun k hk c' => (putF_fields c' k).2.2.2.2.2.2.2.1 (hn k hk).2.1),fold_same (·.extra) l _ (fun k hk c' => (putF_fields c' k).2.2.2.2.2.2.2.2.1 (hn k hk).2.2)⟩
  have gwk : standsC c.kind b_extra = true → weeksC c = true → (endCal c.name c).p0 = 0 ∧ (endCal c.name c).p1 = 0 ∧ (endCal c.name c).p2 = 0 ∧ (endCal c.name c).cycle = 0 → (putAll (endCal c.name c) l).shape = c.shape ∧ (putAll (endCal c.name c) l).p0 = c.p0 ∧ (putAll (endCal c.name c) l).p1 = c.p1 ∧ (putAll (endCal c.name c) l).p2 = c.p2 ∧
      (putAll (endCal c.name c) l).cycle = c.cycle ∧ (putAll (endCal c.name c) l).extra = c.extra:=fun hst hw hz => by
    obtain ⟨_,hsh⟩:=weeks_kinds c hw
    have gex : (putAll (endCal c.name c) l).extra = c.extra:=fold_set (·.extra) (· = b_extra) (fun c k h => (putF_fields c k).2.2.2.2.2.2.2.2.1 h) _ l _ (hin (itemL b_extra [] [c.extra]) ((mem_kids c _).2 (.inr (.inr (.inl ⟨hst, .inr (.inr (.inr rfl))⟩))))) (fun k hk h c' => putF_extra h ((hS k hk).extra h) c')
    have gshape : (putAll (endCal c.name c) l).shape = c.shape := by
      refine fold_set (·.shape) (fun n => n = b_periods ∨ n = b_pay) (fun c k h => (putF_fields c k).2.2.2.2.2.1 (fun e => h (.inl e)) (fun e => h (.inr e))) _ l _ ?_ ?_
      · rcases hsh with ⟨h,_⟩ | ⟨h,_⟩ | ⟨h,_⟩
        · obtain ⟨k,hk,e⟩ := hin (itemL b_periods [] [c.p0,c.p1,c.p2]) ((mem_kids c _).2 (.inr (.inr (.inl ⟨hst, .inl ⟨h,rfl⟩⟩))))
          exact ⟨k,hk, .inl e⟩
        · obtain ⟨k,hk,e⟩ := hin (itemL b_periods [] [4]) ((mem_kids c _).2 (.inr (.inr (.inl ⟨hst, .inr (.inl ⟨h,rfl⟩)⟩))))
          exact ⟨k,hk, .inl e⟩
        · obtain ⟨k,hk,e⟩ := hin (itemL b_pay [] [c.cycle]) ((mem_kids c _).2 (.inr (.inr (.inl ⟨hst, .inr (.inr (.inl ⟨h,rfl⟩))⟩))))
          exact ⟨k,hk, .inr e⟩
      · rintro k hk (h | h) c'
        · rcases (hS k hk).periods h with ⟨hs,hw⟩ | ⟨hs,hw⟩
          · exact ((putF_periods3 h hw c').1).trans hs.symm
          · exact ((putF_periods1 h hw c').1).trans hs.symm
        · obtain ⟨hs,hw⟩ := (hS k hk).pay h
          exact ((putF_pay h hw c').1).trans hs.symm
    have gcyc : (putAll (endCal c.name c) l).cycle = c.cycle := by
      rcases hsh with ⟨h,_,h0⟩ | ⟨h,_,_,_,h0⟩ | ⟨h,_⟩
      · rw [fold_same (·.cycle) l _ (fun k hk c' => (putF_fields c' k).2.2.2.2.2.2.2.1 (fun e => by have:=((hS k hk).pay e).1;omega)),h0];exact hz.2.2.2
      · rw [fold_same (·.cycle) l _ (fun k hk c' => (putF_fields c' k).2.2.2.2.2.2.2.1 (fun e => by have:=((hS k hk).pay e).1;omega)),h0];exact hz.2.2.2
      · exact fold_set (·.cycle) (· = b_pay) (fun c k h => (putF_fields c k).2.2.2.2.2.2.2.1 h) _ l _ (hin (itemL b_pay [] [c.cycle]) ((mem_kids c _).2 (.inr (.inr (.inl ⟨hst, .inr (.inr (.inl ⟨h,rfl⟩))⟩))))) (fun k hk h c' => (putF_pay h ((hS k hk).pay h).2 c').2)
    have gp : (putAll (endCal c.name c) l).p0 = c.p0 ∧ (putAll (endCal c.name c) l).p1 = c.p1 ∧ (putAll (endCal c.name c) l).p2 = c.p2 := by
      by_cases h1 : c.shape = 1
      · have hex := hin (itemL b_periods [] [c.p0,c.p1,c.p2]) ((mem_kids c _).2 (.inr (.inr (.inl ⟨hst, .inl ⟨h1,rfl⟩⟩))))
        have hw3 : ∀ k ∈ l,k.name = b_periods → k.words = [wN c.p0,wN c.p1,wN c.p2] := fun k hk h => by
          rcases (hS k hk).periods h with ⟨_,hw⟩ | ⟨hs,_⟩
          · exact hw
          · omega
        exact ⟨fold_set (·.p0) (· = b_periods) (fun c k h => ((putF_fields c k).2.2.2.2.2.2.1 h).1) _ l _ hex (fun k hk h c' => (putF_periods3 h (hw3 k hk h) c').2.1),
          fold_set (·.p1) (· = b_periods) (fun c k h => ((putF_fields c k).2.2.2.2.2.2.1 h).2.1) _ l _ hex (fun k hk h c' => (putF_periods3 h (hw3 k hk h) c').2.2.1),
          fold_set (·.p2) (· = b_periods) (fun c k h => ((putF_fields c k).2.2.2.2.2.2.1 h).2.2) _ l _ hex (fun k hk h c' => (putF_periods3 h (hw3 k hk h) c').2.2.2)⟩
      · have hz3 : c.p0 = 0 ∧ c.p1 = 0 ∧ c.p2 = 0 := by
          rcases hsh with ⟨h,_⟩ | ⟨_,a,b,d,_⟩ | ⟨_,a,b,d,_⟩
          · exact absurd h h1
          · exact ⟨a,b,d⟩
          · exact ⟨a,b,d⟩
        have hk3 : ∀ k ∈ l,∀ c',(putF c' k).p0 = c'.p0 ∧ (putF c' k).p1 = c'.p1 ∧ (putF c' k).p2 = c'.p2 := fun k hk c' => by
          by_cases h : k.name = b_periods
          · rcases (hS k hk).periods h with ⟨hs,_⟩ | ⟨_,hw⟩
            · exact absurd hs h1
            · exact (putF_periods1 h hw c').2
          · exact (putF_fields c' k).2.2.2.2.2.2.1 h
        rw [hz3.1,hz3.2.1,hz3.2.2]
        exact ⟨(fold_same (·.p0) l _ (fun k hk c' => (hk3 k hk c').1)).trans hz.1,(fold_same (·.p1) l _ (fun k hk c' => (hk3 k hk c').2.1)).trans hz.2.1,(fold_same (·.p2) l _ (fun k hk c' => (hk3 k hk c').2.2)).trans hz.2.2.1⟩
    exact ⟨gshape,gp.1,gp.2.1,gp.2.2,gcyc,gex⟩
  rw [cal_ext]
  rcases cal_kinds c hok with ⟨h3,he⟩ | ⟨h4,he⟩ | ⟨h12,hw⟩ | ⟨h5,hd,hm,hs,hw⟩ | ⟨h6,hd,hs,q0,q1,q2,hcy,hex⟩
  · have hE : endCal c.name c = { nrfC with name := c.name } := by unfold endCal; rw [if_pos h3]
    obtain ⟨g1,g2,g3,g4,g5,g6⟩:=gno (t3 h3).2
    have gs:=gshift0 (t3 h3).1
    rw [gname,gkind,gday,gmon,gs,g1,g2,g3,g4,g5,g6,gfirst,glast,gpol,hE]
    rw [cal_ext] at he
    exact ⟨rfl,he.2.1.symm,he.2.2.1.symm,he.2.2.2.1.symm,he.2.2.2.2.1.symm,he.2.2.2.2.2.1.symm,he.2.2.2.2.2.2.1.symm,he.2.2.2.2.2.2.2.1.symm,he.2.2.2.2.2.2.2.2.1.symm,he.2.2.2.2.2.2.2.2.2.1.symm,he.2.2.2.2.2.2.2.2.2.2.1.symm,rfl,rfl,rfl⟩
  · have hE : endCal c.name c = { broadC with name := c.name } := by unfold endCal; rw [if_neg (by omega),if_pos h4]
    obtain ⟨g1,g2,g3,g4,g5,g6⟩:=gno (t4 h4).2
    have gs:=gshift0 (t4 h4).1
    rw [gname,gkind,gday,gmon,gs,g1,g2,g3,g4,g5,g6,gfirst,glast,gpol,hE]
    rw [cal_ext] at he
    exact ⟨rfl,he.2.1.symm,he.2.2.1.symm,he.2.2.2.1.symm,he.2.2.2.2.1.symm,he.2.2.2.2.2.1.symm,he.2.2.2.2.2.2.1.symm,he.2.2.2.2.2.2.2.1.symm,he.2.2.2.2.2.2.2.2.1.symm,he.2.2.2.2.2.2.2.2.2.1.symm,he.2.2.2.2.2.2.2.2.2.2.1.symm,rfl,rfl,rfl⟩
  · have hE : endCal c.name c = { calZ with name := c.name,kind := c.kind,day := c.day,month := c.month } := by unfold endCal; rw [if_neg (by omega),if_neg (by omega),if_neg (by omega),if_neg (by omega)]
    obtain ⟨g1,g2,g3,g4,g5,g6⟩:=gwk (t12 h12).2 hw (by rw [hE];exact ⟨rfl,rfl,rfl,rfl⟩)
    have gs:=gshift1 (t12 h12).1
    rw [gname,gkind,gday,gmon,gs,g1,g2,g3,g4,g5,g6,gfirst,glast,gpol,hE]
    exact ⟨rfl,rfl,rfl,rfl,rfl,rfl,rfl,rfl,rfl,rfl,rfl,rfl,rfl,rfl⟩
  · have hE : endCal c.name c = { calZ with name := c.name,kind := 5,day := 7,month := 12 } := by unfold endCal; rw [if_neg (by omega),if_neg (by omega),if_pos h5]
    obtain ⟨g1,g2,g3,g4,g5,g6⟩:=gwk (t5 h5).2 hw (by rw [hE];exact ⟨rfl,rfl,rfl,rfl⟩)
    have gs:=gshift0 (t5 h5).1
    rw [gname,gkind,gday,gmon,gs,g1,g2,g3,g4,g5,g6,gfirst,glast,gpol,hE]
    exact ⟨rfl,h5.symm,hd.symm,hm.symm,hs.symm,rfl,rfl,rfl,rfl,rfl,rfl,rfl,rfl,rfl⟩
  · have hE : endCal c.name c = { calZ with name := c.name,kind := 6,shape := 5,month := c.month } := by unfold endCal; rw [if_neg (by omega),if_neg (by omega),if_neg (by omega),if_pos h6]
    obtain ⟨g1,g2,g3,g4,g5,g6⟩:=gno (t6 h6).2
    have gs:=gshift1 (t6 h6).1
    rw [gname,gkind,gday,gmon,gs,g1,g2,g3,g4,g5,g6,gfirst,glast,gpol,hE]
    exact ⟨rfl,h6.symm,hd.symm,rfl,rfl,hs.symm,q0.symm,q1.symm,q2.symm,hcy.symm,hex.symm,rfl,rfl,rfl⟩
end
end
end Go.Proofs.Ytpkhocbohhpmbaa
