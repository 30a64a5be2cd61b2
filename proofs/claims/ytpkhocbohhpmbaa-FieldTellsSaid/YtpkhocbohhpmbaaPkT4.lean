/- Layer 11 (field), in plain Lean: a block of a calendar's keys, in whatever order, is read as the calendar. Then: Layer 11 (field), in plain Lean: how a block of a calendar's keys is read. -/
import Derived.Test.YtpkhocbohhpmbaaPkT3
set_option linter.unusedVariables false
set_option linter.unusedSimpArgs false
set_option maxRecDepth 100000
namespace Go.Proofs.Ytpkhocbohhpmbaa
section
theorem lists_ok : endsL.all nameL = true ∧ days.all nameL = true ∧ mons.all nameL = true ∧ pols.all nameL = true ∧ shifts.all nameL = true ∧ keysL.all nameL = true ∧ nameL b_calendar = true:=by decide
theorem getD_ok {l : List Bytes} (h : l.all nameL = true) {x : Int} {n : Nat} (hn : l.length = n) (h1 : 1 ≤ x) (h2 : x ≤ n) : wordOk (wS (l.getD (x - 1).toNat [])) = true:=wS_ok (nameAt h _ (by omega))
theorem checkK {k : NodeL} (hn : nameL k.name = true) (hw : k.words.all wordOk = true) (hl : k.words.length ≤ 8) (hb : k.block = false) (hk : k.kids = []) (d : Nat) : checkN d k = 0 := by
  obtain ⟨nm,p,ws,b,ks⟩:=k
  simp only [NodeL.name,NodeL.words,NodeL.block,NodeL.kids] at *
  subst hb hk
  have : ¬ 8 < ws.length:=by omega
  simp only [checkN,hn,hw,this,checkL]
  simp
theorem kid_check {c : CalL} {k : NodeL} (hok : okC c = true) (h : KidOf c k) (d : Nat) : checkN d k = 0 := by
  obtain ⟨w1,w2,w3,w4,w5,w6,w7⟩:=lists_ok
  have hfit:=nodeFit c hok
  have hs:=kid_says c k h
  obtain ⟨k0,hk0,hn,hw,hb,hkk⟩:=h
  have hname : nameL k.name = true:=List.all_eq_true.1 w6 _ (by simpa using hs.any)
  have hsv : 1602 ≤ c.first ∧ c.last ≤ 9996 ∧ c.first ≤ c.last := by
    have:=hok
    unfold okC servedC at this
    simp only [Bool.and_eq_true,decide_eq_true_eq] at this
    exact ⟨this.1.1.1.1.1.1,this.1.1.1.1.1.2,this.1.1.1.1.2⟩
  rw [mem_kids] at hk0
  have hwk : standsC c.kind b_extra = true → weeksC c = true := fun hst => by
    obtain ⟨t12,t3,t4,t5,t6⟩:=stands_kinds c.kind
    rcases cal_kinds c hok with ⟨h,_⟩ | ⟨h,_⟩ | ⟨_,hw⟩ | ⟨_,_,_,_,hw⟩ | ⟨h,_⟩
    · rw [(t3 h).2] at hst;cases hst
    · rw [(t4 h).2] at hst;cases hst
    · exact hw
    · exact hw
    · rw [(t6 h).2] at hst;cases hst
  refine checkK hname ?_ ?_ hb hkk d
  · rw [hw]
    rcases hk0 with rfl | ⟨hst,rfl⟩ | ⟨hst,⟨hc,rfl⟩ | ⟨hc,rfl⟩ | ⟨hc,rfl⟩ | rfl⟩ | rfl | rfl
    · rw [itemL_words]
      have he:=getD_ok w1 (x:=c.kind) rfl hfit.k1 hfit.k6
      have hm:=getD_ok w3 (x:=c.month) rfl hfit.mon.1 hfit.mon.2
      unfold saysC
      by_cases h12 : c.kind = 1 ∨ c.kind = 2
      · have hd := getD_ok w2 (x := c.day) rfl (hfit.day h12).1 (hfit.day h12).2
        rw [if_pos h12]
        cases standsC c.kind b_named <;> simp only [List.map_append,List.map_cons,List.map_nil,List.all_append,List.all_cons,List.all_nil,if_true,Bool.false_eq_true,if_false,Bool.and_true,Bool.and_self,he,hm,hd]
      · rw [if_neg h12]
        cases standsC c.kind b_named <;> simp only [List.map_append,List.map_cons,List.map_nil,List.all_append,List.all_cons,List.all_nil,if_true,Bool.false_eq_true,if_false,Bool.and_true,Bool.and_self,he,hm]
    · have := getD_ok w5 (x := c.shift + 1) (n := 2) rfl (by have := hfit.shf; omega) (by have := hfit.shf; omega)
      rw [show c.shift + 1 - 1 = c.shift by omega] at this
      rw [itemL_words]
      simp only [List.map_append,List.map_cons,List.map_nil,List.all_append,List.all_cons,List.all_nil,if_true,Bool.false_eq_true,if_false,Bool.and_true,Bool.and_self,this]
    · obtain ⟨_,hsh⟩ := weeks_kinds c (hwk hst)
      have hp : patOk c.p0 c.p1 c.p2 = true := by
        rcases hsh with ⟨_,h,_⟩ | ⟨h,_⟩ | ⟨h,_⟩
        · exact h
        · omega
        · omega
      have hp' : (c.p0 = 4 ∨ c.p0 = 5) ∧ (c.p1 = 4 ∨ c.p1 = 5) ∧ (c.p2 = 4 ∨ c.p2 = 5) := by
        unfold patOk at hp
        simp only [Bool.or_eq_true,Bool.and_eq_true,decide_eq_true_eq] at hp
        omega
      rw [itemL_words];simp [wN_ok (k:=c.p0) (by omega),wN_ok (k:=c.p1) (by omega),wN_ok (k:=c.p2) (by omega)]
    · rw [itemL_words];decide
    · obtain ⟨_,hsh⟩ := weeks_kinds c (hwk hst)
      have hp : cycOk c.cycle = true := by
        rcases hsh with ⟨h,_⟩ | ⟨h,_⟩ | ⟨_,_,_,_,h⟩
        · omega
        · omega
        · exact h
      have hp' : c.cycle = 1 ∨ c.cycle = 2 ∨ c.cycle = 4 := by
        unfold cycOk at hp
        simp only [Bool.or_eq_true,decide_eq_true_eq] at hp
        omega
      rw [itemL_words];simp [wN_ok (k:=c.cycle) (by omega)]
    · obtain ⟨hx,_⟩ := weeks_kinds c (hwk hst)
      rw [itemL_words];simp [wN_ok (k:=c.extra) (by omega)]
    · rw [itemL_words];simp [wN_ok (k:=c.first) (by omega),wN_ok (k:=c.last) (by omega)]
    · have := getD_ok w4 (x := c.policy) rfl hfit.pol.1 hfit.pol.2
      rw [itemL_words]
      simp only [List.map_append,List.map_cons,List.map_nil,List.all_append,List.all_cons,List.all_nil,if_true,Bool.false_eq_true,if_false,Bool.and_true,Bool.and_self,this]
  · rw [hw]
    rcases hk0 with rfl | ⟨hst,rfl⟩ | ⟨hst,⟨hc,rfl⟩ | ⟨hc,rfl⟩ | ⟨hc,rfl⟩ | rfl⟩ | rfl | rfl <;> rw [itemL_words]
    · unfold saysC
      split <;> split <;> simp
    all_goals simp
theorem check_all : ∀ (l : List NodeL) (d : Nat),(∀ k ∈ l,checkN d k = 0) → checkL d l = 0
  | [],d,_ => by simp only [checkL]
  | k :: r,d,h => by
    simp only [checkL]
    rw [h k (by simp)]
    simpa using check_all r d (fun x hx => h x (by simp [hx]))
theorem nm_ok {c : CalL} (hok : okC c = true) : nameL c.name = true := by
  unfold okC at hok
  simp only [Bool.and_eq_true] at hok
  exact hok.1.2
theorem check_block {c : CalL} {l : List NodeL} (hok : okC c = true) (hk : ∀ k ∈ l,checkN 1 k = 0) (p : Int) : checkL 0 [.mk b_calendar p [wS c.name] true l] = 0 := by
  obtain ⟨w1,w2,w3,w4,w5,w6,w7⟩:=lists_ok
  have h1:=check_all l 1 hk
  simp only [checkL,checkN]
  rw [h1]
  simp [w7,wS_ok (nm_ok hok)]
theorem kid_put {c : CalL} {k : NodeL} (hok : okC c = true) (h : KidOf c k) (nm : Bytes) : KidOk nm k := by
  have hs:=kid_says c k h
  have hfit:=nodeFit c hok
  obtain ⟨k0,hk0,hn,hw,hb,hkk⟩:=h
  have hwk : standsC c.kind b_extra = true → weeksC c = true := fun hst => by
    obtain ⟨t12,t3,t4,t5,t6⟩:=stands_kinds c.kind
    rcases cal_kinds c hok with ⟨h,_⟩ | ⟨h,_⟩ | ⟨_,hw⟩ | ⟨_,_,_,_,hw⟩ | ⟨h,_⟩
    · rw [(t3 h).2] at hst;cases hst
    · rw [(t4 h).2] at hst;cases hst
    · exact hw
    · exact hw
    · rw [(t6 h).2] at hst;cases hst
  rw [mem_kids] at hk0
  refine ⟨hs.any,hb,?_,?_⟩
  · rw [hw]
    rcases hk0 with rfl | ⟨hst,rfl⟩ | ⟨hst,⟨hc,rfl⟩ | ⟨hc,rfl⟩ | ⟨hc,rfl⟩ | rfl⟩ | rfl | rfl <;> rw [itemL_words] <;> rfl
  · rw [hn,hw]
    rcases hk0 with rfl | ⟨hst,rfl⟩ | ⟨hst,⟨hc,rfl⟩ | ⟨hc,rfl⟩ | ⟨hc,rfl⟩ | rfl⟩ | rfl | rfl <;> rw [itemL_words,itemL_name]
    · show (endK nm _).2 = true
      rw [show ((saysC c).map wS ++ ([] : List Int).map wN) = (saysC c).map wS by simp,endK_says nm c hfit]
    · have hp := at_of shf_at (c.shift + 1) (by have := hfit.shf; omega) (by have := hfit.shf; omega)
      rw [show c.shift + 1 - 1 = c.shift by omega] at hp
      show (decide (0 < placeW shifts (wS (shifts.getD c.shift.toNat []))) && decide (1 = 1)) = true
      rw [hp]
      have:=hfit.shf
      simp;omega
    · obtain ⟨_,hsh⟩ := weeks_kinds c (hwk hst)
      show patOk c.p0 c.p1 c.p2 = true
      rcases hsh with ⟨_,h,_⟩ | ⟨h,_⟩ | ⟨h,_⟩
      · exact h
      · omega
      · omega
    · rfl
    · obtain ⟨_,hsh⟩ := weeks_kinds c (hwk hst)
      show cycOk c.cycle = true
      rcases hsh with ⟨h,_⟩ | ⟨h,_⟩ | ⟨_,_,_,_,h⟩
      · omega
      · omega
      · exact h
    · obtain ⟨hx,_⟩ := weeks_kinds c (hwk hst)
      show tween c.extra 1 52 = true
      unfold tween
      simp;omega
    · rfl
    · have hp := at_of pol_at c.policy hfit.pol.1 hfit.pol.2
      show (decide (0 < placeW pols (wS (pols.getD (c.policy - 1).toNat []))) && decide (1 = 1)) = true
      rw [hp]
      have:=hfit.pol
      simp;omega
end
section
theorem endIn_ok (nm : Bytes) (v : CalL) : ∀ (l : List NodeL) (co : Option CalL),(∀ k ∈ l,k.name = b_end → (putK k.name { calZ with name := nm } k.words).1 = v) → ((∃ k ∈ l,k.name = b_end) ∨ co = some v) → endIn nm co l = some v
  | [],co,_,h => by
    rcases h with ⟨k,hk,_⟩ | h
    · cases hk
    · exact h
  | k :: r,co,hv,h => by
    show endIn nm (if k.name = b_end then some (putK k.name { calZ with name:=nm } k.words).1 else co) r = some v
    by_cases e : k.name = b_end
    · rw [if_pos e]
      exact endIn_ok nm v r _ (fun x hx => hv x (by simp [hx])) (.inr (by rw [hv k (by simp) e]))
    · rw [if_neg e]
      refine endIn_ok nm v r _ (fun x hx => hv x (by simp [hx])) ?_
      rcases h with ⟨x,hx,hn⟩ | h
      · rcases List.mem_cons.1 hx with rfl | hx
        · exact absurd hn e
        · exact .inl ⟨x,hx,hn⟩
      · exact .inr h
theorem endIn_none (nm : Bytes) : ∀ (l : List NodeL),(∀ k ∈ l,k.name ≠ b_end) → ∀ co,endIn nm co l = co
  | [],_,_ => rfl
  | k :: r,h,co => by
    show endIn nm (if k.name = b_end then some (putK k.name { calZ with name:=nm } k.words).1 else co) r = co
    rw [if_neg (h k (by simp))]
    exact endIn_none nm r (fun x hx => h x (by simp [hx])) co
section
variable {c : CalL} {l : List NodeL}
theorem not_both (hof : ∀ k ∈ l,KidOf c k) : ¬ (b_periods ∈ l.map NodeL.name ∧ b_pay ∈ l.map NodeL.name) := by
  rintro ⟨h1,h2⟩
  obtain ⟨k1,hk1,e1⟩:=List.mem_map.1 h1
  obtain ⟨k2,hk2,e2⟩:=List.mem_map.1 h2
  have a2:=((kid_says c k2 (hof k2 hk2)).pay e2).1
  rcases (kid_says c k1 (hof k1 hk1)).periods e1 with ⟨a1,_⟩ | ⟨a1,_⟩ <;> omega
theorem end_put (hok : okC c = true) (hof : ∀ k ∈ l,KidOf c k) (nm : Bytes) : ∀ k ∈ l,k.name = b_end → (putK k.name { calZ with name := nm } k.words).1 = endCal nm c := fun k hk e => by
  rw [e,(kid_says c k (hof k hk)).end_ e]
  show (endK nm _).1 = _
  rw [endK_says nm c (nodeFit c hok)]
theorem endCal_kind (nm : Bytes) (hok : okC c = true) : (endCal nm c).kind = c.kind := by
  have hf:=nodeFit c hok
  unfold endCal
  by_cases h3 : c.kind = 3
  · rw [if_pos h3,h3];rfl
  by_cases h4 : c.kind = 4
  · rw [if_neg h3,if_pos h4,h4];rfl
  by_cases h5 : c.kind = 5
  · rw [if_neg h3,if_neg h4,if_pos h5,h5]
  by_cases h6 : c.kind = 6
  · rw [if_neg h3,if_neg h4,if_neg h5,if_pos h6,h6]
  rw [if_neg h3,if_neg h4,if_neg h5,if_neg h6]
/-- How a block of a calendar's keys is read: each key fits;what is read hangs on whether all are there. -/
theorem read_keys (hok : okC c = true) (hof : ∀ k ∈ l,KidOf c k) (hnd : (l.map NodeL.name).Nodup) (p : Int) :
    readC (.mk b_calendar p [wS c.name] true l) = if b_end ∈ l.map NodeL.name then (if missL c.kind (l.map NodeL.name) = true then ⟨calZ,p,10⟩ else if okC (putAll (endCal c.name c) l) = true then ⟨putAll (endCal c.name c) l,0,0⟩ else ⟨calZ,p,1⟩) else ⟨calZ,p,10⟩:=by
  have hck:=check_block (l:=l) hok (fun k hk => kid_check hok (hof k hk) 1) p
  have hform:=formed_ok c.name l [] none (fun k hk => kid_put hok (hof k hk) c.name) (by simpa using hnd)
  rw [readC_block b_calendar p [wS c.name] true l hck (by simp [wS])]
  unfold readBlock
  show (match formedL c.name [] none l with
    | .inl (p,e) => _
    | .inr none => _
    | .inr (some c) => _) = _
  rw [hform]
  by_cases he : b_end ∈ l.map NodeL.name
  · rw [if_pos he]
    obtain ⟨k,hk,e⟩:=List.mem_map.1 he
    rw [endIn_ok c.name (endCal c.name c) l none (end_put hok hof c.name) (.inl ⟨k,hk,e⟩)]
    dsimp only [NodeL.kids,NodeL.pos]
    rw [endCal_kind c.name hok,fits_ok c.kind l [] (fun k hk => (kid_says c k (hof k hk)).stands) (by simpa using not_both hof)]
    rfl
  · rw [if_neg he,endIn_none c.name l (fun k hk e => he (List.mem_map.2 ⟨k,hk,e⟩))]
    rfl
/-- Whether a key is missing,by the names that are there. -/
theorem miss_no (hall : ∀ k0 ∈ kidsC c,k0.name ∈ l.map NodeL.name) (hok : okC c = true) : missL c.kind (l.map NodeL.name) = false := by
  have hwk : standsC c.kind b_extra = true → weeksC c = true := fun hst => by
    obtain ⟨t12,t3,t4,t5,t6⟩:=stands_kinds c.kind
    rcases cal_kinds c hok with ⟨h,_⟩ | ⟨h,_⟩ | ⟨_,hw⟩ | ⟨_,_,_,_,hw⟩ | ⟨h,_⟩
    · rw [(t3 h).2] at hst;cases hst
    · rw [(t4 h).2] at hst;cases hst
    · exact hw
    · exact hw
    · rw [(t6 h).2] at hst;cases hst
  unfold missL
  rw [List.any_eq_false]
  intro x hx
  simp only [Bool.and_eq_true,Bool.not_eq_true',Bool.or_eq_false_iff,not_and,List.contains_eq_mem,decide_eq_false_iff_not,Bool.and_eq_false_iff,decide_eq_true_eq]
  intro hst hno
  simp only [List.mem_cons,List.not_mem_nil,or_false] at hx
  rcases hx with rfl | rfl | rfl | rfl | rfl
  · exact absurd (hall _ ((mem_kids c _).2 (.inr (.inl ⟨hst,rfl⟩)))) hno
  · obtain ⟨_,hsh⟩ := weeks_kinds c (hwk hst)
    rcases hsh with ⟨h,_⟩ | ⟨h,_⟩ | ⟨h,_⟩
    · exact absurd (hall _ ((mem_kids c _).2 (.inr (.inr (.inl ⟨hst, .inl ⟨h,rfl⟩⟩))))) hno
    · exact absurd (hall _ ((mem_kids c _).2 (.inr (.inr (.inl ⟨hst, .inr (.inl ⟨h,rfl⟩)⟩))))) hno
    · have := hall _ ((mem_kids c (itemL b_pay [] [c.cycle])).2 (.inr (.inr (.inl ⟨hst, .inr (.inr (.inl ⟨h,rfl⟩))⟩))))
      rw [itemL_name] at this
      simpa using this
  · exact absurd (hall _ ((mem_kids c _).2 (.inr (.inr (.inl ⟨hst, .inr (.inr (.inr rfl))⟩))))) hno
  · exact absurd (hall _ ((mem_kids c _).2 (.inr (.inr (.inr (.inl rfl)))))) hno
  · exact absurd (hall _ ((mem_kids c _).2 (.inr (.inr (.inr (.inr rfl)))))) hno
/-- With all of its keys,in whatever order,a calendar's block is read as the calendar. -/
theorem read_all (hok : okC c = true) (hof : ∀ k ∈ l,KidOf c k) (hnd : (l.map NodeL.name).Nodup) (hall : ∀ k0 ∈ kidsC c,k0.name ∈ l.map NodeL.name) (p : Int) :
    readC (.mk b_calendar p [wS c.name] true l) = ⟨c,0,0⟩:=by
  have hp := put_all hok hof (fun k0 h => by
    obtain ⟨k,hk,e⟩:=List.mem_map.1 (hall k0 h)
    exact ⟨k,hk,e⟩)
  have hen : b_end ∈ l.map NodeL.name:=hall (itemL b_end (saysC c) []) ((mem_kids c _).2 (.inl rfl))
  rw [read_keys hok hof hnd p,if_pos hen,miss_no hall hok,hp,if_neg (by decide),if_pos hok]
theorem kids_nodup : ((kidsC c).map NodeL.name).Nodup := by
  unfold kidsC endI namedI extraI serveI shapeC
  by_cases h1 : c.shape = 1
  · cases standsC c.kind b_named <;> cases standsC c.kind b_extra <;> simp [h1,itemL,NodeL.name] <;> decide
  · by_cases h2 : c.shape = 2
    · cases standsC c.kind b_named <;> cases standsC c.kind b_extra <;> simp [h2,itemL,NodeL.name] <;> decide
    · by_cases h3 : c.shape = 3
      · cases standsC c.kind b_named <;> cases standsC c.kind b_extra <;> simp [h3,itemL,NodeL.name] <;> decide
      · cases standsC c.kind b_named <;> cases standsC c.kind b_extra <;> simp [h1,h2,h3,itemL,NodeL.name] <;> decide
theorem read_node (hok : okC c = true) : readC (nodeC c) = ⟨c,0,0⟩ :=
  read_all hok (fun k hk => ⟨k,hk,rfl,rfl,by
    rw [mem_kids] at hk
    rcases hk with rfl | ⟨_,rfl⟩ | ⟨_,⟨_,rfl⟩ | ⟨_,rfl⟩ | ⟨_,rfl⟩ | rfl⟩ | rfl | rfl <;> rfl,by
    rw [mem_kids] at hk
    rcases hk with rfl | ⟨_,rfl⟩ | ⟨_,⟨_,rfl⟩ | ⟨_,rfl⟩ | ⟨_,rfl⟩ | rfl⟩ | rfl | rfl <;> rfl⟩) kids_nodup (fun k0 h => List.mem_map.2 ⟨k0,h,rfl⟩) 0
end
end
end Go.Proofs.Ytpkhocbohhpmbaa
