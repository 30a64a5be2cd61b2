import Derived.Test.YtjbniichcopnlaaGreatDoorPkV23
import Derived.Test.YtjbniichcopnlaaGreatDoorFieldT
import Derived.Test.YtjbniichcopnlaaGreatDoorPkV5
import Derived.Test.YtjbniichcopnlaaGreatDoorShelf
import Derived.BigQuiet
import Derived.Deep.QuietTactic
import Derived.Deep.RegionWith
import Derived.RegionTactic
import Derived.Lib.SmallJoins
section
/- Layer 11 (field), in plain Lean: a calendar's block is read as the calendar. -/
set_option linter.unusedVariables false
set_option maxRecDepth 100000
namespace Go.Proofs.YtjbniichcopnlaaGreatDoor

theorem day_at : ∀ k : Fin 7, posL days (days.getD k.val []) = (k.val : Int) + 1 := by decide
theorem mon_at : ∀ k : Fin 12, posL mons (mons.getD k.val []) = (k.val : Int) + 1 := by decide
theorem end_at : ∀ k : Fin 6, posL endsL (endsL.getD k.val []) = (k.val : Int) + 1 := by decide
theorem pol_at : ∀ k : Fin 4, posL pols (pols.getD k.val []) = (k.val : Int) + 1 := by decide
theorem shf_at : ∀ k : Fin 2, posL shifts (shifts.getD k.val []) = (k.val : Int) + 1 := by decide
theorem at_of {l : List Bytes} {n : Nat} (h : ∀ k : Fin n, posL l (l.getD k.val []) = (k.val : Int) + 1) (x : Int) (h1 : 1 ≤ x) (h2 : x ≤ n) : placeW l (wS (l.getD (x - 1).toNat [])) = x := by
  have := h ⟨(x - 1).toNat, by omega⟩
  exact this.trans (by show ((x - 1).toNat : Int) + 1 = x; omega)
theorem names_ok : (endsL ++ days ++ mons ++ pols ++ shifts).all nameL = true := by decide
theorem nameAt {l : List Bytes} (h : l.all nameL = true) (k : Nat) (hk : k < l.length) : nameL (l.getD k []) = true := by
  rw [List.getD_eq_getElem?_getD, List.getElem?_eq_getElem hk]
  exact List.all_eq_true.1 h _ (List.getElem_mem hk)
theorem wS_ok {s : Bytes} (h : nameL s = true) : wordOk (wS s) = true := by
  unfold wordOk wS
  simp [h]
theorem wN_ok {k : Int} (h : 0 ≤ k ∧ k ≤ 999999999) : wordOk (wN k) = true := by
  unfold wordOk wN
  simp [h]

/-- A key that may be. -/
structure KidOk (nm : Bytes) (k : NodeL) : Prop where
  key : keysL.contains k.name = true
  blk : k.block = false
  wds : k.words.isEmpty = false
  put : (putK k.name { calZ with name := nm } k.words).2 = true
/-- What is known of the end so far. -/
def endIn (nm : Bytes) (co : Option CalL) (l : List NodeL) : Option CalL := l.foldl (fun c k => if k.name = b_end then some (putK k.name { calZ with name := nm } k.words).1 else c) co
theorem formed_ok (nm : Bytes) : ∀ (l : List NodeL) (seen : List Bytes) (co : Option CalL), (∀ k ∈ l, KidOk nm k) → (seen ++ l.map NodeL.name).Nodup → formedL nm seen co l = .inr (endIn nm co l)
  | [], seen, co, _, _ => rfl
  | k :: r, seen, co, hk, hn => by
    have h := hk k (by simp)
    have hns : seen.contains k.name = false := by
      rw [List.nodup_append] at hn
      cases hc : seen.contains k.name
      · rfl
      · exact absurd rfl (hn.2.2 k.name (by simpa using hc) k.name (by simp))
    rw [formed_go h.key hns (by rw [h.blk, h.wds, h.put]; rfl)]
    rw [formed_ok nm r (seen ++ [k.name]) _ (fun x hx => hk x (by simp [hx])) (by simpa using hn)]
    rfl
theorem fits_ok (kind : Int) : ∀ (l : List NodeL) (seen : List Bytes), (∀ k ∈ l, standsC kind k.name = true) → ¬ (b_periods ∈ seen ++ l.map NodeL.name ∧ b_pay ∈ seen ++ l.map NodeL.name) → fitsL kind seen l = none
  | [], seen, _, _ => rfl
  | k :: r, seen, hs, hp => by
    unfold fitsL
    rw [hs k (by simp)]
    have h2 : ¬ ((k.name = b_periods ∧ b_pay ∈ seen) ∨ (k.name = b_pay ∧ b_periods ∈ seen)) := by
      rintro (⟨h1, h2⟩ | ⟨h1, h2⟩)
      · exact hp ⟨by simp [← h1], by simp [h2]⟩
      · exact hp ⟨by simp [h2], by simp [← h1]⟩
    rw [if_neg (by decide), if_neg h2]
    exact fits_ok kind r (seen ++ [k.name]) (fun x hx => hs x (by simp [hx])) (by simpa using hp)

/-- One key put in. -/
def putF (c : CalL) (k : NodeL) : CalL := if k.name = b_end then c else (keyK k.name c k.words).1
theorem putAll_cons (c : CalL) (k : NodeL) (r : List NodeL) : putAll c (k :: r) = putAll (putF c k) r := rfl
theorem fold_keep {α : Type} (g : CalL → α) (P : Bytes → Prop) (hkeep : ∀ c k, ¬ P k.name → g (putF c k) = g c) : ∀ (l : List NodeL) (c : CalL), (∀ k ∈ l, ¬ P k.name) → g (putAll c l) = g c
  | [], c, _ => rfl
  | k :: r, c, h => by
    rw [putAll_cons, fold_keep g P hkeep r _ (fun x hx => h x (by simp [hx])), hkeep c k (h k (by simp))]
theorem fold_set {α : Type} (g : CalL → α) (P : Bytes → Prop) (hkeep : ∀ c k, ¬ P k.name → g (putF c k) = g c) (v : α) : ∀ (l : List NodeL) (c : CalL), (∃ k ∈ l, P k.name) → (∀ k ∈ l, P k.name → ∀ c, g (putF c k) = v) → g (putAll c l) = v
  | [], c, h, _ => by obtain ⟨k, hk, _⟩ := h; cases hk
  | a :: r, c, h, hs => by
    rw [putAll_cons]
    by_cases hr : ∃ k ∈ r, P k.name
    · exact fold_set g P hkeep v r _ hr (fun k hk => hs k (by simp [hk]))
    · have hn : ∀ k ∈ r, ¬ P k.name := fun k hk hp => hr ⟨k, hk, hp⟩
      rw [fold_keep g P hkeep r _ hn]
      obtain ⟨k, hk, hp⟩ := h
      rcases List.mem_cons.1 hk with rfl | hk
      · exact hs k (by simp) hp c
      · exact absurd hp (hn k hk)
theorem putF_fields (c : CalL) (k : NodeL) : (putF c k).name = c.name ∧ (putF c k).kind = c.kind ∧ (putF c k).day = c.day ∧ (putF c k).month = c.month ∧
    (k.name ≠ b_named → (putF c k).shift = c.shift) ∧ (k.name ≠ b_periods → k.name ≠ b_pay → (putF c k).shape = c.shape) ∧ (k.name ≠ b_periods → (putF c k).p0 = c.p0 ∧ (putF c k).p1 = c.p1 ∧ (putF c k).p2 = c.p2) ∧
    (k.name ≠ b_pay → (putF c k).cycle = c.cycle) ∧ (k.name ≠ b_extra → (putF c k).extra = c.extra) ∧ (k.name ≠ b_serve → (putF c k).first = c.first ∧ (putF c k).last = c.last) := by
  unfold putF
  by_cases h0 : k.name = b_end
  · rw [if_pos h0]; simp
  rw [if_neg h0]
  unfold keyK
  by_cases h1 : k.name = b_periods
  · rw [if_pos h1]
    simp only [h1]
    split
    · split
      · simp
      · split
        · simp
        · simp
    · simp
  rw [if_neg h1]
  by_cases h2 : k.name = b_named
  · rw [if_pos h2]; simp [h2]
  rw [if_neg h2]
  by_cases h3 : k.name = b_pay
  · rw [if_pos h3]; simp [h3]
  rw [if_neg h3]
  by_cases h4 : k.name = b_extra
  · rw [if_pos h4]; simp [h4]
  rw [if_neg h4]
  by_cases h5 : k.name = b_serve
  · rw [if_pos h5]
    split
    · simp [h5]
    · simp
  rw [if_neg h5]
  simp

theorem putF_policy (c : CalL) (k : NodeL) (h : keysL.contains k.name = true) (hn : k.name ≠ b_compare) : (putF c k).policy = c.policy := by
  unfold putF
  by_cases h0 : k.name = b_end
  · rw [if_pos h0]
  rw [if_neg h0]
  unfold keyK
  by_cases h1 : k.name = b_periods
  · rw [if_pos h1]
    split
    · split
      · rfl
      · split
        · rfl
        · rfl
    · rfl
  rw [if_neg h1]
  by_cases h2 : k.name = b_named
  · rw [if_pos h2]
  rw [if_neg h2]
  by_cases h3 : k.name = b_pay
  · rw [if_pos h3]
  rw [if_neg h3]
  by_cases h4 : k.name = b_extra
  · rw [if_pos h4]
  rw [if_neg h4]
  by_cases h5 : k.name = b_serve
  · rw [if_pos h5]
    split <;> rfl
  exfalso
  simp only [keysL, List.contains_cons, Bool.or_eq_true, beq_iff_eq, List.contains_nil, Bool.false_eq_true, or_false] at h
  rcases h with h | h | h | h | h | h | h
  · exact h0 h
  · exact h1 h
  · exact h2 h
  · exact h3 h
  · exact h4 h
  · exact h5 h
  · exact hn h
/-- An item of the block, up to its place. -/
def KidOf (c : CalL) (k : NodeL) : Prop := ∃ k0 ∈ kidsC c, k.name = k0.name ∧ k.words = k0.words ∧ k.block = false ∧ k.kids = []
theorem mem_kids (c : CalL) (k : NodeL) : k ∈ kidsC c ↔ k = itemL b_end (saysC c) [] ∨ (standsC c.kind b_named = true ∧ k = itemL b_named [shifts.getD c.shift.toNat []] []) ∨
    (standsC c.kind b_extra = true ∧ ((c.shape = 1 ∧ k = itemL b_periods [] [c.p0, c.p1, c.p2]) ∨ (c.shape = 2 ∧ k = itemL b_periods [] [4]) ∨ (c.shape = 3 ∧ k = itemL b_pay [] [c.cycle]) ∨ k = itemL b_extra [] [c.extra])) ∨
    k = itemL b_serve [] [c.first, c.last] ∨ k = itemL b_compare [pols.getD (c.policy - 1).toNat []] [] := by
  unfold kidsC endI namedI extraI serveI shapeC
  by_cases h1 : c.shape = 1
  · cases standsC c.kind b_named <;> cases standsC c.kind b_extra <;> simp [h1, or_assoc]
  · by_cases h2 : c.shape = 2
    · cases standsC c.kind b_named <;> cases standsC c.kind b_extra <;> simp [h2, or_assoc]
    · by_cases h3 : c.shape = 3
      · cases standsC c.kind b_named <;> cases standsC c.kind b_extra <;> simp [h3, or_assoc]
      · cases standsC c.kind b_named <;> cases standsC c.kind b_extra <;> simp [h1, h2, h3]
theorem ne_keys : b_end ≠ b_named ∧ b_end ≠ b_periods ∧ b_end ≠ b_pay ∧ b_end ≠ b_extra ∧ b_end ≠ b_serve ∧ b_end ≠ b_compare ∧ b_named ≠ b_periods ∧ b_named ≠ b_pay ∧ b_named ≠ b_extra ∧ b_named ≠ b_serve ∧ b_named ≠ b_compare ∧
    b_periods ≠ b_pay ∧ b_periods ≠ b_extra ∧ b_periods ≠ b_serve ∧ b_periods ≠ b_compare ∧ b_pay ≠ b_extra ∧ b_pay ≠ b_serve ∧ b_pay ≠ b_compare ∧ b_extra ≠ b_serve ∧ b_extra ≠ b_compare ∧ b_serve ≠ b_compare := by decide
theorem itemL_name (nm : Bytes) (a : List Bytes) (b : List Int) : (itemL nm a b).name = nm := rfl
theorem itemL_words (nm : Bytes) (a : List Bytes) (b : List Int) : (itemL nm a b).words = a.map wS ++ b.map wN := rfl
/-- What each key of the block says. -/
structure KidSays (c : CalL) (k : NodeL) : Prop where
  any : keysL.contains k.name = true
  blk : k.block = false
  stands : standsC c.kind k.name = true
  end_ : k.name = b_end → k.words = (saysC c).map wS
  named : k.name = b_named → k.words = [wS (shifts.getD c.shift.toNat [])]
  periods : k.name = b_periods → (c.shape = 1 ∧ k.words = [wN c.p0, wN c.p1, wN c.p2]) ∨ (c.shape = 2 ∧ k.words = [wN 4])
  pay : k.name = b_pay → c.shape = 3 ∧ k.words = [wN c.cycle]
  extra : k.name = b_extra → k.words = [wN c.extra]
  serve : k.name = b_serve → k.words = [wN c.first, wN c.last]
  compare : k.name = b_compare → k.words = [wS (pols.getD (c.policy - 1).toNat [])]
theorem stands_same (k : Int) : standsC k b_periods = standsC k b_extra ∧ standsC k b_pay = standsC k b_extra ∧ standsC k b_end = true ∧ standsC k b_serve = true ∧ standsC k b_compare = true := ⟨rfl, rfl, rfl, rfl, rfl⟩
theorem kid_says (c : CalL) (k : NodeL) (h : KidOf c k) : KidSays c k := by
  obtain ⟨k0, hk0, hn, hw, hb, _⟩ := h
  obtain ⟨n1, n2, n3, n4, n5, n6, n7, n8, n9, n10, n11, n12, n13, n14, n15, n16, n17, n18, n19, n20, n21⟩ := ne_keys
  obtain ⟨s1, s2, s3, s4, s5⟩ := stands_same c.kind
  rw [mem_kids] at hk0
  rcases hk0 with rfl | ⟨hs, rfl⟩ | ⟨hs, ⟨hc, rfl⟩ | ⟨hc, rfl⟩ | ⟨hc, rfl⟩ | rfl⟩ | rfl | rfl <;> (
    rw [itemL_name] at hn
    rw [itemL_words] at hw
    constructor <;> (first
      | exact hb
      | (rw [hn]; first | rfl | assumption | (rw [s1]; assumption) | (rw [s2]; assumption))
      | (intro e; rw [hn] at e; first | exact absurd e (by assumption) | exact absurd e.symm (by assumption) | exact .inl ⟨hc, hw⟩ | exact .inr ⟨hc, hw⟩ | exact ⟨hc, hw⟩ | (rw [hw]; simp; done))))

end Go.Proofs.YtjbniichcopnlaaGreatDoor
end

section
/- Layer 11 (field), in plain Lean: a calendar's block is read as the calendar: the end, the other keys. -/
set_option linter.unusedVariables false
set_option maxRecDepth 100000
namespace Go.Proofs.YtjbniichcopnlaaGreatDoor

/-- What the end of a calendar says. -/
def endCal (nm : Bytes) (c : CalL) : CalL :=
  if c.kind = 3 then { nrfC with name := nm } else if c.kind = 4 then { broadC with name := nm } else if c.kind = 5 then { calZ with name := nm, kind := 5, day := 7, month := 12 }
  else if c.kind = 6 then { calZ with name := nm, kind := 6, shape := 5, month := c.month } else { calZ with name := nm, kind := c.kind, day := c.day, month := c.month }
theorem endK_says (nm : Bytes) (c : CalL) (h : NodeFit c) : endK nm ((saysC c).map wS) = (endCal nm c, true) := by
  obtain ⟨k1, k6, hday, hmon, _, _⟩ := h
  have hm := at_of mon_at c.month hmon.1 hmon.2
  have hk : c.kind = 1 ∨ c.kind = 2 ∨ c.kind = 3 ∨ c.kind = 4 ∨ c.kind = 5 ∨ c.kind = 6 := by omega
  have e3 : ∀ a b d : Bytes, ([a, b, d].map wS).getD 1 ⟨false, 0, [], 0⟩ = wS b ∧ ([a, b, d].map wS).getD 2 ⟨false, 0, [], 0⟩ = wS d ∧ ([a, b, d].map wS).headD ⟨false, 0, [], 0⟩ = wS a ∧ ([a, b, d].map wS).length = 3 := fun _ _ _ => ⟨rfl, rfl, rfl, rfl⟩
  have e2 : ∀ a b : Bytes, ([a, b].map wS).getD 1 ⟨false, 0, [], 0⟩ = wS b ∧ ([a, b].map wS).headD ⟨false, 0, [], 0⟩ = wS a ∧ ([a, b].map wS).length = 2 := fun _ _ => ⟨rfl, rfl, rfl⟩
  have e1 : ∀ a : Bytes, ([a].map wS).headD ⟨false, 0, [], 0⟩ = wS a ∧ ([a].map wS).length = 1 := fun _ => ⟨rfl, rfl⟩
  have hE := at_of end_at c.kind k1 k6
  rcases hk with hk | hk | hk | hk | hk | hk
  · have hs : saysC c = [endsL.getD (c.kind - 1).toNat [], days.getD (c.day - 1).toNat [], mons.getD (c.month - 1).toNat []] := by unfold saysC; rw [hk]; rfl
    have hd := at_of day_at c.day (hday (.inl hk)).1 (hday (.inl hk)).2
    obtain ⟨a1, a2, a3, a4⟩ := e3 (endsL.getD (c.kind - 1).toNat []) (days.getD (c.day - 1).toNat []) (mons.getD (c.month - 1).toNat [])
    rw [hs, endK_eq nm _ c.kind (by rw [a3]; exact hE)]
    unfold endB endCal fixedC
    rw [a1, a2, a4, hd, hm, hk]
    simp; omega
  · have hs : saysC c = [endsL.getD (c.kind - 1).toNat [], days.getD (c.day - 1).toNat [], mons.getD (c.month - 1).toNat []] := by unfold saysC; rw [hk]; rfl
    have hd := at_of day_at c.day (hday (.inr hk)).1 (hday (.inr hk)).2
    obtain ⟨a1, a2, a3, a4⟩ := e3 (endsL.getD (c.kind - 1).toNat []) (days.getD (c.day - 1).toNat []) (mons.getD (c.month - 1).toNat [])
    rw [hs, endK_eq nm _ c.kind (by rw [a3]; exact hE)]
    unfold endB endCal fixedC
    rw [a1, a2, a4, hd, hm, hk]
    simp; omega
  · have hs : saysC c = [endsL.getD (c.kind - 1).toNat []] := by unfold saysC; rw [hk]; rfl
    obtain ⟨a1, a2⟩ := e1 (endsL.getD (c.kind - 1).toNat [])
    rw [hs, endK_eq nm _ c.kind (by rw [a1]; exact hE)]
    unfold endB endCal fixedC
    rw [a2, hk]
    rfl
  · have hs : saysC c = [endsL.getD (c.kind - 1).toNat []] := by unfold saysC; rw [hk]; rfl
    obtain ⟨a1, a2⟩ := e1 (endsL.getD (c.kind - 1).toNat [])
    rw [hs, endK_eq nm _ c.kind (by rw [a1]; exact hE)]
    unfold endB endCal fixedC
    rw [a2, hk]
    rfl
  · have hs : saysC c = [endsL.getD (c.kind - 1).toNat []] := by unfold saysC; rw [hk]; rfl
    obtain ⟨a1, a2⟩ := e1 (endsL.getD (c.kind - 1).toNat [])
    rw [hs, endK_eq nm _ c.kind (by rw [a1]; exact hE)]
    unfold endB endCal fixedC
    rw [a2, hk]
    rfl
  · have hs : saysC c = [endsL.getD (c.kind - 1).toNat [], mons.getD (c.month - 1).toNat []] := by unfold saysC; rw [hk]; rfl
    obtain ⟨a1, a2, a3⟩ := e2 (endsL.getD (c.kind - 1).toNat []) (mons.getD (c.month - 1).toNat [])
    rw [hs, endK_eq nm _ c.kind (by rw [a2]; exact hE)]
    unfold endB endCal fixedC
    rw [a1, a3, hm, hk]
    simp; omega

theorem fold_same {α : Type} (g : CalL → α) : ∀ (l : List NodeL) (c : CalL), (∀ k ∈ l, ∀ c, g (putF c k) = g c) → g (putAll c l) = g c
  | [], c, _ => rfl
  | k :: r, c, h => by rw [putAll_cons, fold_same g r _ (fun x hx => h x (by simp [hx])), h k (by simp)]

theorem putF_named {k : NodeL} {s : Int} (h : k.name = b_named) (hw : k.words = [wS (shifts.getD s.toNat [])]) (h0 : 0 ≤ s) (h1 : s ≤ 1) (c : CalL) : (putF c k).shift = s := by
  have hp := at_of shf_at (s + 1) (by omega) (by omega)
  rw [show s + 1 - 1 = s by omega] at hp
  unfold putF
  rw [if_neg (by rw [h]; decide), h, hw]
  show placeW shifts (wS (shifts.getD s.toNat [])) - 1 = s
  rw [hp]; omega
theorem putF_periods3 {k : NodeL} {a b d : Int} (h : k.name = b_periods) (hw : k.words = [wN a, wN b, wN d]) (c : CalL) : (putF c k).shape = 1 ∧ (putF c k).p0 = a ∧ (putF c k).p1 = b ∧ (putF c k).p2 = d := by
  unfold putF
  rw [if_neg (by rw [h]; decide), h, hw]
  exact ⟨rfl, rfl, rfl, rfl⟩
theorem putF_periods1 {k : NodeL} (h : k.name = b_periods) (hw : k.words = [wN 4]) (c : CalL) : (putF c k).shape = 2 ∧ (putF c k).p0 = c.p0 ∧ (putF c k).p1 = c.p1 ∧ (putF c k).p2 = c.p2 := by
  unfold putF
  rw [if_neg (by rw [h]; decide), h, hw]
  exact ⟨rfl, rfl, rfl, rfl⟩
theorem putF_pay {k : NodeL} {a : Int} (h : k.name = b_pay) (hw : k.words = [wN a]) (c : CalL) : (putF c k).shape = 3 ∧ (putF c k).cycle = a := by
  unfold putF
  rw [if_neg (by rw [h]; decide), h, hw]
  exact ⟨rfl, rfl⟩
theorem putF_extra {k : NodeL} {a : Int} (h : k.name = b_extra) (hw : k.words = [wN a]) (c : CalL) : (putF c k).extra = a := by
  unfold putF
  rw [if_neg (by rw [h]; decide), h, hw]
  rfl
theorem putF_serve {k : NodeL} {a b : Int} (h : k.name = b_serve) (hw : k.words = [wN a, wN b]) (c : CalL) : (putF c k).first = a ∧ (putF c k).last = b := by
  unfold putF
  rw [if_neg (by rw [h]; decide), h, hw]
  exact ⟨rfl, rfl⟩
theorem putF_compare {k : NodeL} {p : Int} (h : k.name = b_compare) (hw : k.words = [wS (pols.getD (p - 1).toNat [])]) (h1 : 1 ≤ p) (h4 : p ≤ 4) (c : CalL) : (putF c k).policy = p := by
  have hp := at_of pol_at p h1 h4
  unfold putF
  rw [if_neg (by rw [h]; decide), h, hw]
  show placeW pols (wS (pols.getD (p - 1).toNat [])) = p
  exact hp

/-- What a calendar that may be is, by its kind. -/
theorem cal_kinds (c : CalL) (hok : okC c = true) :
    (c.kind = 3 ∧ c = { nrfC with name := c.name, first := c.first, last := c.last, policy := c.policy }) ∨ (c.kind = 4 ∧ c = { broadC with name := c.name, first := c.first, last := c.last, policy := c.policy }) ∨
    ((c.kind = 1 ∨ c.kind = 2) ∧ weeksC c = true) ∨ (c.kind = 5 ∧ c.day = 7 ∧ c.month = 12 ∧ c.shift = 0 ∧ weeksC c = true) ∨
    (c.kind = 6 ∧ c.day = 0 ∧ c.shape = 5 ∧ c.p0 = 0 ∧ c.p1 = 0 ∧ c.p2 = 0 ∧ c.cycle = 0 ∧ c.extra = 0) := by
  unfold okC at hok
  simp only [Bool.and_eq_true] at hok
  obtain ⟨⟨⟨_, _⟩, _⟩, hr⟩ := hok
  unfold ruledC fixedC at hr
  by_cases h3 : c.kind = 3
  · rw [if_pos h3] at hr
    exact .inl ⟨h3, of_decide_eq_true hr⟩
  rw [if_neg h3] at hr
  by_cases h4 : c.kind = 4
  · rw [if_pos h4] at hr
    exact .inr (.inl ⟨h4, of_decide_eq_true hr⟩)
  rw [if_neg h4] at hr
  dsimp only at hr
  split at hr
  · simp at hr
  · split at hr
    · next hk =>
      simp only [Bool.and_eq_true] at hr
      exact .inr (.inr (.inl ⟨hk, hr.2⟩))
    · split at hr
      · next hk =>
        simp only [Bool.and_eq_true, decide_eq_true_eq] at hr
        exact .inr (.inr (.inr (.inl ⟨hk, hr.1.1.1, hr.1.1.2, hr.1.2, hr.2⟩)))
      · split at hr
        · next hk =>
          simp only [Bool.and_eq_true, decide_eq_true_eq, patZ] at hr
          exact .inr (.inr (.inr (.inr ⟨hk, hr.1.1.1.1, hr.1.1.1.2, hr.1.1.2.1.1, hr.1.1.2.1.2, hr.1.1.2.2, hr.1.2, hr.2⟩)))
        · simp at hr
theorem weeks_kinds (c : CalL) (h : weeksC c = true) :
    (1 ≤ c.extra ∧ c.extra ≤ 52) ∧ ((c.shape = 1 ∧ patOk c.p0 c.p1 c.p2 = true ∧ c.cycle = 0) ∨ (c.shape = 2 ∧ c.p0 = 0 ∧ c.p1 = 0 ∧ c.p2 = 0 ∧ c.cycle = 0) ∨ (c.shape = 3 ∧ c.p0 = 0 ∧ c.p1 = 0 ∧ c.p2 = 0 ∧ cycOk c.cycle = true)) := by
  unfold weeksC at h
  by_cases h1 : c.shape = 1
  · rw [if_pos h1] at h
    simp only [Bool.and_eq_true, decide_eq_true_eq, tween] at h
    have hm : manyC c.shape c.cycle = 12 := by unfold manyC; rw [if_neg (by omega), if_neg (by omega), if_pos (by omega)]
    rw [hm] at h
    exact ⟨by omega, .inl ⟨h1, h.1.1, h.1.2⟩⟩
  rw [if_neg h1] at h
  by_cases h2 : c.shape = 2
  · rw [if_pos h2] at h
    simp only [Bool.and_eq_true, decide_eq_true_eq, tween, patZ] at h
    have hm : manyC c.shape c.cycle = 13 := by unfold manyC; rw [if_pos h2]
    rw [hm] at h
    exact ⟨by omega, .inr (.inl ⟨h2, h.1.1.1.1, h.1.1.1.2, h.1.1.2, h.1.2⟩)⟩
  rw [if_neg h2] at h
  by_cases h3 : c.shape = 3
  · rw [if_pos h3] at h
    simp only [Bool.and_eq_true, decide_eq_true_eq, tween, patZ] at h
    obtain ⟨⟨hz, hc⟩, he⟩ := h
    have hc' := hc
    unfold cycOk at hc'
    simp only [Bool.or_eq_true, decide_eq_true_eq] at hc'
    have hm : manyC c.shape c.cycle ≤ 52 := by
      unfold manyC
      rw [if_neg h2, if_pos ⟨h3, by omega⟩]
      rcases hc' with (h | h) | h <;> rw [h] <;> decide
    exact ⟨by omega, .inr (.inr ⟨h3, hz.1.1, hz.1.2, hz.2, hc⟩)⟩
  · rw [if_neg h3] at h; simp at h

end Go.Proofs.YtjbniichcopnlaaGreatDoor
end

section
/- Layer 11 (field), in plain Lean: the keys of a calendar's block, in whatever order, lead to the calendar. -/
set_option linter.unusedVariables false
set_option maxRecDepth 100000
namespace Go.Proofs.YtjbniichcopnlaaGreatDoor

theorem stands_kinds (k : Int) : (k = 1 ∨ k = 2 → standsC k b_named = true ∧ standsC k b_extra = true) ∧ (k = 3 → standsC k b_named = false ∧ standsC k b_extra = false) ∧ (k = 4 → standsC k b_named = false ∧ standsC k b_extra = false) ∧
    (k = 5 → standsC k b_named = false ∧ standsC k b_extra = true) ∧ (k = 6 → standsC k b_named = true ∧ standsC k b_extra = false) := by
  refine ⟨?_, ?_, ?_, ?_, ?_⟩
  · rintro (rfl | rfl) <;> decide
  · rintro rfl; decide
  · rintro rfl; decide
  · rintro rfl; decide
  · rintro rfl; decide

section
variable {c : CalL} {l : List NodeL}
theorem no_named (hof : ∀ k ∈ l, KidOf c k) (h : standsC c.kind b_named = false) : ∀ k ∈ l, k.name ≠ b_named := fun k hk e => by
  have := (kid_says c k (hof k hk)).stands
  rw [e, h] at this
  cases this
theorem no_shape (hof : ∀ k ∈ l, KidOf c k) (h : standsC c.kind b_extra = false) : ∀ k ∈ l, k.name ≠ b_periods ∧ k.name ≠ b_pay ∧ k.name ≠ b_extra := fun k hk => by
  have hs := (kid_says c k (hof k hk)).stands
  obtain ⟨s1, s2, _⟩ := stands_same c.kind
  refine ⟨fun e => ?_, fun e => ?_, fun e => ?_⟩ <;> rw [e] at hs
  · rw [s1, h] at hs; cases hs
  · rw [s2, h] at hs; cases hs
  · rw [h] at hs; cases hs

theorem put_all (hok : okC c = true) (hof : ∀ k ∈ l, KidOf c k) (hall : ∀ k0 ∈ kidsC c, ∃ k ∈ l, k.name = k0.name) : putAll (endCal c.name c) l = c := by
  have hfit := nodeFit c hok
  have hS := fun k hk => kid_says c k (hof k hk)
  obtain ⟨t12, t3, t4, t5, t6⟩ := stands_kinds c.kind
  have hin : ∀ k0, k0 ∈ kidsC c → ∃ k ∈ l, k.name = k0.name := hall
  have hserve : ∃ k ∈ l, k.name = b_serve := hin (itemL b_serve [] [c.first, c.last]) ((mem_kids c _).2 (.inr (.inr (.inr (.inl rfl)))))
  have hcomp : ∃ k ∈ l, k.name = b_compare := hin (itemL b_compare [pols.getD (c.policy - 1).toNat []] []) ((mem_kids c _).2 (.inr (.inr (.inr (.inr rfl)))))
  have gname : (putAll (endCal c.name c) l).name = (endCal c.name c).name := putAll_name _ l
  have gkind : (putAll (endCal c.name c) l).kind = (endCal c.name c).kind := fold_same (·.kind) l _ (fun k _ c => (putF_fields c k).2.1)
  have gday : (putAll (endCal c.name c) l).day = (endCal c.name c).day := fold_same (·.day) l _ (fun k _ c => (putF_fields c k).2.2.1)
  have gmon : (putAll (endCal c.name c) l).month = (endCal c.name c).month := fold_same (·.month) l _ (fun k _ c => (putF_fields c k).2.2.2.1)
  have gfirst : (putAll (endCal c.name c) l).first = c.first := fold_set (·.first) (· = b_serve) (fun c k h => ((putF_fields c k).2.2.2.2.2.2.2.2.2 h).1) _ l _ hserve (fun k hk h c' => (putF_serve h ((hS k hk).serve h) c').1)
  have glast : (putAll (endCal c.name c) l).last = c.last := fold_set (·.last) (· = b_serve) (fun c k h => ((putF_fields c k).2.2.2.2.2.2.2.2.2 h).2) _ l _ hserve (fun k hk h c' => (putF_serve h ((hS k hk).serve h) c').2)
  have gpol : (putAll (endCal c.name c) l).policy = c.policy := by
    have key : ∀ (l : List NodeL) (d : CalL), (∀ k ∈ l, keysL.contains k.name = true) → (∃ k ∈ l, k.name = b_compare) → (∀ k ∈ l, k.name = b_compare → ∀ c', (putF c' k).policy = c.policy) → (putAll d l).policy = c.policy := by
      intro l
      induction l with
      | nil => intro d _ h _; obtain ⟨k, hk, _⟩ := h; cases hk
      | cons a r ih =>
        intro d hk h hs
        rw [putAll_cons]
        by_cases hr : ∃ k ∈ r, k.name = b_compare
        · exact ih _ (fun k h => hk k (by simp [h])) hr (fun k h => hs k (by simp [h]))
        · rw [fold_same (·.policy) r _ (fun k h c' => putF_policy c' k (hk k (by simp [h])) (fun e => hr ⟨k, h, e⟩))]
          obtain ⟨k, hkm, hp⟩ := h
          rcases List.mem_cons.1 hkm with rfl | hkm
          · exact hs k (by simp) hp _
          · exact absurd ⟨k, hkm, hp⟩ hr
    exact key l _ (fun k hk => (hS k hk).any) hcomp (fun k hk h c' => putF_compare h ((hS k hk).compare h) hfit.pol.1 hfit.pol.2 c')
  have gshift1 : standsC c.kind b_named = true → (putAll (endCal c.name c) l).shift = c.shift := fun hst =>
    fold_set (·.shift) (· = b_named) (fun c k h => (putF_fields c k).2.2.2.2.1 h) _ l _ (hin (itemL b_named [shifts.getD c.shift.toNat []] []) ((mem_kids c _).2 (.inr (.inl ⟨hst, rfl⟩)))) (fun k hk h c' => putF_named h ((hS k hk).named h) hfit.shf.1 hfit.shf.2 c')
  have gshift0 : standsC c.kind b_named = false → (putAll (endCal c.name c) l).shift = (endCal c.name c).shift := fun hst =>
    fold_same (·.shift) l _ (fun k hk c' => (putF_fields c' k).2.2.2.2.1 (no_named hof hst k hk))
  have gno : standsC c.kind b_extra = false → (putAll (endCal c.name c) l).shape = (endCal c.name c).shape ∧ (putAll (endCal c.name c) l).p0 = (endCal c.name c).p0 ∧ (putAll (endCal c.name c) l).p1 = (endCal c.name c).p1 ∧ (putAll (endCal c.name c) l).p2 = (endCal c.name c).p2 ∧
      (putAll (endCal c.name c) l).cycle = (endCal c.name c).cycle ∧ (putAll (endCal c.name c) l).extra = (endCal c.name c).extra := fun hst => by
    have hn := no_shape hof hst
    exact ⟨fold_same (·.shape) l _ (fun k hk c' => (putF_fields c' k).2.2.2.2.2.1 (hn k hk).1 (hn k hk).2.1), fold_same (·.p0) l _ (fun k hk c' => ((putF_fields c' k).2.2.2.2.2.2.1 (hn k hk).1).1), fold_same (·.p1) l _ (fun k hk c' => ((putF_fields c' k).2.2.2.2.2.2.1 (hn k hk).1).2.1),
      fold_same (·.p2) l _ (fun k hk c' => ((putF_fields c' k).2.2.2.2.2.2.1 (hn k hk).1).2.2), fold_same (·.cycle) l _ (fun k hk c' => (putF_fields c' k).2.2.2.2.2.2.2.1 (hn k hk).2.1), fold_same (·.extra) l _ (fun k hk c' => (putF_fields c' k).2.2.2.2.2.2.2.2.1 (hn k hk).2.2)⟩
  have gwk : standsC c.kind b_extra = true → weeksC c = true → (endCal c.name c).p0 = 0 ∧ (endCal c.name c).p1 = 0 ∧ (endCal c.name c).p2 = 0 ∧ (endCal c.name c).cycle = 0 → (putAll (endCal c.name c) l).shape = c.shape ∧ (putAll (endCal c.name c) l).p0 = c.p0 ∧ (putAll (endCal c.name c) l).p1 = c.p1 ∧ (putAll (endCal c.name c) l).p2 = c.p2 ∧
      (putAll (endCal c.name c) l).cycle = c.cycle ∧ (putAll (endCal c.name c) l).extra = c.extra := fun hst hw hz => by
    obtain ⟨_, hsh⟩ := weeks_kinds c hw
    have gex : (putAll (endCal c.name c) l).extra = c.extra := fold_set (·.extra) (· = b_extra) (fun c k h => (putF_fields c k).2.2.2.2.2.2.2.2.1 h) _ l _ (hin (itemL b_extra [] [c.extra]) ((mem_kids c _).2 (.inr (.inr (.inl ⟨hst, .inr (.inr (.inr rfl))⟩))))) (fun k hk h c' => putF_extra h ((hS k hk).extra h) c')
    have gshape : (putAll (endCal c.name c) l).shape = c.shape := by
      refine fold_set (·.shape) (fun n => n = b_periods ∨ n = b_pay) (fun c k h => (putF_fields c k).2.2.2.2.2.1 (fun e => h (.inl e)) (fun e => h (.inr e))) _ l _ ?_ ?_
      · rcases hsh with ⟨h, _⟩ | ⟨h, _⟩ | ⟨h, _⟩
        · obtain ⟨k, hk, e⟩ := hin (itemL b_periods [] [c.p0, c.p1, c.p2]) ((mem_kids c _).2 (.inr (.inr (.inl ⟨hst, .inl ⟨h, rfl⟩⟩))))
          exact ⟨k, hk, .inl e⟩
        · obtain ⟨k, hk, e⟩ := hin (itemL b_periods [] [4]) ((mem_kids c _).2 (.inr (.inr (.inl ⟨hst, .inr (.inl ⟨h, rfl⟩)⟩))))
          exact ⟨k, hk, .inl e⟩
        · obtain ⟨k, hk, e⟩ := hin (itemL b_pay [] [c.cycle]) ((mem_kids c _).2 (.inr (.inr (.inl ⟨hst, .inr (.inr (.inl ⟨h, rfl⟩))⟩))))
          exact ⟨k, hk, .inr e⟩
      · rintro k hk (h | h) c'
        · rcases (hS k hk).periods h with ⟨hs, hw⟩ | ⟨hs, hw⟩
          · exact ((putF_periods3 h hw c').1).trans hs.symm
          · exact ((putF_periods1 h hw c').1).trans hs.symm
        · obtain ⟨hs, hw⟩ := (hS k hk).pay h
          exact ((putF_pay h hw c').1).trans hs.symm
    have gcyc : (putAll (endCal c.name c) l).cycle = c.cycle := by
      rcases hsh with ⟨h, _, h0⟩ | ⟨h, _, _, _, h0⟩ | ⟨h, _⟩
      · rw [fold_same (·.cycle) l _ (fun k hk c' => (putF_fields c' k).2.2.2.2.2.2.2.1 (fun e => by have := ((hS k hk).pay e).1; omega)), h0]; exact hz.2.2.2
      · rw [fold_same (·.cycle) l _ (fun k hk c' => (putF_fields c' k).2.2.2.2.2.2.2.1 (fun e => by have := ((hS k hk).pay e).1; omega)), h0]; exact hz.2.2.2
      · exact fold_set (·.cycle) (· = b_pay) (fun c k h => (putF_fields c k).2.2.2.2.2.2.2.1 h) _ l _ (hin (itemL b_pay [] [c.cycle]) ((mem_kids c _).2 (.inr (.inr (.inl ⟨hst, .inr (.inr (.inl ⟨h, rfl⟩))⟩))))) (fun k hk h c' => (putF_pay h ((hS k hk).pay h).2 c').2)
    have gp : (putAll (endCal c.name c) l).p0 = c.p0 ∧ (putAll (endCal c.name c) l).p1 = c.p1 ∧ (putAll (endCal c.name c) l).p2 = c.p2 := by
      by_cases h1 : c.shape = 1
      · have hex := hin (itemL b_periods [] [c.p0, c.p1, c.p2]) ((mem_kids c _).2 (.inr (.inr (.inl ⟨hst, .inl ⟨h1, rfl⟩⟩))))
        have hw3 : ∀ k ∈ l, k.name = b_periods → k.words = [wN c.p0, wN c.p1, wN c.p2] := fun k hk h => by
          rcases (hS k hk).periods h with ⟨_, hw⟩ | ⟨hs, _⟩
          · exact hw
          · omega
        exact ⟨fold_set (·.p0) (· = b_periods) (fun c k h => ((putF_fields c k).2.2.2.2.2.2.1 h).1) _ l _ hex (fun k hk h c' => (putF_periods3 h (hw3 k hk h) c').2.1),
          fold_set (·.p1) (· = b_periods) (fun c k h => ((putF_fields c k).2.2.2.2.2.2.1 h).2.1) _ l _ hex (fun k hk h c' => (putF_periods3 h (hw3 k hk h) c').2.2.1),
          fold_set (·.p2) (· = b_periods) (fun c k h => ((putF_fields c k).2.2.2.2.2.2.1 h).2.2) _ l _ hex (fun k hk h c' => (putF_periods3 h (hw3 k hk h) c').2.2.2)⟩
      · have hz3 : c.p0 = 0 ∧ c.p1 = 0 ∧ c.p2 = 0 := by
          rcases hsh with ⟨h, _⟩ | ⟨_, a, b, d, _⟩ | ⟨_, a, b, d, _⟩
          · exact absurd h h1
          · exact ⟨a, b, d⟩
          · exact ⟨a, b, d⟩
        have hk3 : ∀ k ∈ l, ∀ c', (putF c' k).p0 = c'.p0 ∧ (putF c' k).p1 = c'.p1 ∧ (putF c' k).p2 = c'.p2 := fun k hk c' => by
          by_cases h : k.name = b_periods
          · rcases (hS k hk).periods h with ⟨hs, _⟩ | ⟨_, hw⟩
            · exact absurd hs h1
            · exact (putF_periods1 h hw c').2
          · exact (putF_fields c' k).2.2.2.2.2.2.1 h
        rw [hz3.1, hz3.2.1, hz3.2.2]
        exact ⟨(fold_same (·.p0) l _ (fun k hk c' => (hk3 k hk c').1)).trans hz.1, (fold_same (·.p1) l _ (fun k hk c' => (hk3 k hk c').2.1)).trans hz.2.1, (fold_same (·.p2) l _ (fun k hk c' => (hk3 k hk c').2.2)).trans hz.2.2.1⟩
    exact ⟨gshape, gp.1, gp.2.1, gp.2.2, gcyc, gex⟩
  rw [cal_ext]
  rcases cal_kinds c hok with ⟨h3, he⟩ | ⟨h4, he⟩ | ⟨h12, hw⟩ | ⟨h5, hd, hm, hs, hw⟩ | ⟨h6, hd, hs, q0, q1, q2, hcy, hex⟩
  · have hE : endCal c.name c = { nrfC with name := c.name } := by unfold endCal; rw [if_pos h3]
    obtain ⟨g1, g2, g3, g4, g5, g6⟩ := gno (t3 h3).2
    have gs := gshift0 (t3 h3).1
    rw [gname, gkind, gday, gmon, gs, g1, g2, g3, g4, g5, g6, gfirst, glast, gpol, hE]
    rw [cal_ext] at he
    exact ⟨rfl, he.2.1.symm, he.2.2.1.symm, he.2.2.2.1.symm, he.2.2.2.2.1.symm, he.2.2.2.2.2.1.symm, he.2.2.2.2.2.2.1.symm, he.2.2.2.2.2.2.2.1.symm, he.2.2.2.2.2.2.2.2.1.symm, he.2.2.2.2.2.2.2.2.2.1.symm, he.2.2.2.2.2.2.2.2.2.2.1.symm, rfl, rfl, rfl⟩
  · have hE : endCal c.name c = { broadC with name := c.name } := by unfold endCal; rw [if_neg (by omega), if_pos h4]
    obtain ⟨g1, g2, g3, g4, g5, g6⟩ := gno (t4 h4).2
    have gs := gshift0 (t4 h4).1
    rw [gname, gkind, gday, gmon, gs, g1, g2, g3, g4, g5, g6, gfirst, glast, gpol, hE]
    rw [cal_ext] at he
    exact ⟨rfl, he.2.1.symm, he.2.2.1.symm, he.2.2.2.1.symm, he.2.2.2.2.1.symm, he.2.2.2.2.2.1.symm, he.2.2.2.2.2.2.1.symm, he.2.2.2.2.2.2.2.1.symm, he.2.2.2.2.2.2.2.2.1.symm, he.2.2.2.2.2.2.2.2.2.1.symm, he.2.2.2.2.2.2.2.2.2.2.1.symm, rfl, rfl, rfl⟩
  · have hE : endCal c.name c = { calZ with name := c.name, kind := c.kind, day := c.day, month := c.month } := by unfold endCal; rw [if_neg (by omega), if_neg (by omega), if_neg (by omega), if_neg (by omega)]
    obtain ⟨g1, g2, g3, g4, g5, g6⟩ := gwk (t12 h12).2 hw (by rw [hE]; exact ⟨rfl, rfl, rfl, rfl⟩)
    have gs := gshift1 (t12 h12).1
    rw [gname, gkind, gday, gmon, gs, g1, g2, g3, g4, g5, g6, gfirst, glast, gpol, hE]
    exact ⟨rfl, rfl, rfl, rfl, rfl, rfl, rfl, rfl, rfl, rfl, rfl, rfl, rfl, rfl⟩
  · have hE : endCal c.name c = { calZ with name := c.name, kind := 5, day := 7, month := 12 } := by unfold endCal; rw [if_neg (by omega), if_neg (by omega), if_pos h5]
    obtain ⟨g1, g2, g3, g4, g5, g6⟩ := gwk (t5 h5).2 hw (by rw [hE]; exact ⟨rfl, rfl, rfl, rfl⟩)
    have gs := gshift0 (t5 h5).1
    rw [gname, gkind, gday, gmon, gs, g1, g2, g3, g4, g5, g6, gfirst, glast, gpol, hE]
    exact ⟨rfl, h5.symm, hd.symm, hm.symm, hs.symm, rfl, rfl, rfl, rfl, rfl, rfl, rfl, rfl, rfl⟩
  · have hE : endCal c.name c = { calZ with name := c.name, kind := 6, shape := 5, month := c.month } := by unfold endCal; rw [if_neg (by omega), if_neg (by omega), if_neg (by omega), if_pos h6]
    obtain ⟨g1, g2, g3, g4, g5, g6⟩ := gno (t6 h6).2
    have gs := gshift1 (t6 h6).1
    rw [gname, gkind, gday, gmon, gs, g1, g2, g3, g4, g5, g6, gfirst, glast, gpol, hE]
    exact ⟨rfl, h6.symm, hd.symm, rfl, rfl, hs.symm, q0.symm, q1.symm, q2.symm, hcy.symm, hex.symm, rfl, rfl, rfl⟩
end

end Go.Proofs.YtjbniichcopnlaaGreatDoor
end

section
/- Layer 11 (field), in plain Lean: a block of a calendar's keys, in whatever order, is read as the calendar. -/
set_option linter.unusedVariables false
set_option linter.unusedSimpArgs false
set_option maxRecDepth 100000
namespace Go.Proofs.YtjbniichcopnlaaGreatDoor

theorem lists_ok : endsL.all nameL = true ∧ days.all nameL = true ∧ mons.all nameL = true ∧ pols.all nameL = true ∧ shifts.all nameL = true ∧ keysL.all nameL = true ∧ nameL b_calendar = true := by decide
theorem getD_ok {l : List Bytes} (h : l.all nameL = true) {x : Int} {n : Nat} (hn : l.length = n) (h1 : 1 ≤ x) (h2 : x ≤ n) : wordOk (wS (l.getD (x - 1).toNat [])) = true := wS_ok (nameAt h _ (by omega))
theorem checkK {k : NodeL} (hn : nameL k.name = true) (hw : k.words.all wordOk = true) (hl : k.words.length ≤ 8) (hb : k.block = false) (hk : k.kids = []) (d : Nat) : checkN d k = 0 := by
  obtain ⟨nm, p, ws, b, ks⟩ := k
  simp only [NodeL.name, NodeL.words, NodeL.block, NodeL.kids] at *
  subst hb hk
  have : ¬ 8 < ws.length := by omega
  simp only [checkN, hn, hw, this, checkL]
  simp
theorem kid_check {c : CalL} {k : NodeL} (hok : okC c = true) (h : KidOf c k) (d : Nat) : checkN d k = 0 := by
  obtain ⟨w1, w2, w3, w4, w5, w6, w7⟩ := lists_ok
  have hfit := nodeFit c hok
  have hs := kid_says c k h
  obtain ⟨k0, hk0, hn, hw, hb, hkk⟩ := h
  have hname : nameL k.name = true := List.all_eq_true.1 w6 _ (by simpa using hs.any)
  have hsv : 1602 ≤ c.first ∧ c.last ≤ 9996 ∧ c.first ≤ c.last := by
    have := hok
    unfold okC servedC at this
    simp only [Bool.and_eq_true, decide_eq_true_eq] at this
    exact ⟨this.1.1.1.1.1.1, this.1.1.1.1.1.2, this.1.1.1.1.2⟩
  rw [mem_kids] at hk0
  have hwk : standsC c.kind b_extra = true → weeksC c = true := fun hst => by
    obtain ⟨t12, t3, t4, t5, t6⟩ := stands_kinds c.kind
    rcases cal_kinds c hok with ⟨h, _⟩ | ⟨h, _⟩ | ⟨_, hw⟩ | ⟨_, _, _, _, hw⟩ | ⟨h, _⟩
    · rw [(t3 h).2] at hst; cases hst
    · rw [(t4 h).2] at hst; cases hst
    · exact hw
    · exact hw
    · rw [(t6 h).2] at hst; cases hst
  refine checkK hname ?_ ?_ hb hkk d
  · rw [hw]
    rcases hk0 with rfl | ⟨hst, rfl⟩ | ⟨hst, ⟨hc, rfl⟩ | ⟨hc, rfl⟩ | ⟨hc, rfl⟩ | rfl⟩ | rfl | rfl
    · rw [itemL_words]
      have he := getD_ok w1 (x := c.kind) rfl hfit.k1 hfit.k6
      have hm := getD_ok w3 (x := c.month) rfl hfit.mon.1 hfit.mon.2
      unfold saysC
      by_cases h12 : c.kind = 1 ∨ c.kind = 2
      · have hd := getD_ok w2 (x := c.day) rfl (hfit.day h12).1 (hfit.day h12).2
        rw [if_pos h12]
        cases standsC c.kind b_named <;> simp only [List.map_append, List.map_cons, List.map_nil, List.all_append, List.all_cons, List.all_nil, if_true, Bool.false_eq_true, if_false, Bool.and_true, Bool.and_self, he, hm, hd]
      · rw [if_neg h12]
        cases standsC c.kind b_named <;> simp only [List.map_append, List.map_cons, List.map_nil, List.all_append, List.all_cons, List.all_nil, if_true, Bool.false_eq_true, if_false, Bool.and_true, Bool.and_self, he, hm]
    · have := getD_ok w5 (x := c.shift + 1) (n := 2) rfl (by have := hfit.shf; omega) (by have := hfit.shf; omega)
      rw [show c.shift + 1 - 1 = c.shift by omega] at this
      rw [itemL_words]
      simp only [List.map_append, List.map_cons, List.map_nil, List.all_append, List.all_cons, List.all_nil, if_true, Bool.false_eq_true, if_false, Bool.and_true, Bool.and_self, this]
    · obtain ⟨_, hsh⟩ := weeks_kinds c (hwk hst)
      have hp : patOk c.p0 c.p1 c.p2 = true := by
        rcases hsh with ⟨_, h, _⟩ | ⟨h, _⟩ | ⟨h, _⟩
        · exact h
        · omega
        · omega
      have hp' : (c.p0 = 4 ∨ c.p0 = 5) ∧ (c.p1 = 4 ∨ c.p1 = 5) ∧ (c.p2 = 4 ∨ c.p2 = 5) := by
        unfold patOk at hp
        simp only [Bool.or_eq_true, Bool.and_eq_true, decide_eq_true_eq] at hp
        omega
      rw [itemL_words]; simp [wN_ok (k := c.p0) (by omega), wN_ok (k := c.p1) (by omega), wN_ok (k := c.p2) (by omega)]
    · rw [itemL_words]; decide
    · obtain ⟨_, hsh⟩ := weeks_kinds c (hwk hst)
      have hp : cycOk c.cycle = true := by
        rcases hsh with ⟨h, _⟩ | ⟨h, _⟩ | ⟨_, _, _, _, h⟩
        · omega
        · omega
        · exact h
      have hp' : c.cycle = 1 ∨ c.cycle = 2 ∨ c.cycle = 4 := by
        unfold cycOk at hp
        simp only [Bool.or_eq_true, decide_eq_true_eq] at hp
        omega
      rw [itemL_words]; simp [wN_ok (k := c.cycle) (by omega)]
    · obtain ⟨hx, _⟩ := weeks_kinds c (hwk hst)
      rw [itemL_words]; simp [wN_ok (k := c.extra) (by omega)]
    · rw [itemL_words]; simp [wN_ok (k := c.first) (by omega), wN_ok (k := c.last) (by omega)]
    · have := getD_ok w4 (x := c.policy) rfl hfit.pol.1 hfit.pol.2
      rw [itemL_words]
      simp only [List.map_append, List.map_cons, List.map_nil, List.all_append, List.all_cons, List.all_nil, if_true, Bool.false_eq_true, if_false, Bool.and_true, Bool.and_self, this]
  · rw [hw]
    rcases hk0 with rfl | ⟨hst, rfl⟩ | ⟨hst, ⟨hc, rfl⟩ | ⟨hc, rfl⟩ | ⟨hc, rfl⟩ | rfl⟩ | rfl | rfl <;> rw [itemL_words]
    · unfold saysC
      split <;> split <;> simp
    all_goals simp
theorem check_all : ∀ (l : List NodeL) (d : Nat), (∀ k ∈ l, checkN d k = 0) → checkL d l = 0
  | [], d, _ => by simp only [checkL]
  | k :: r, d, h => by
    simp only [checkL]
    rw [h k (by simp)]
    simpa using check_all r d (fun x hx => h x (by simp [hx]))
theorem nm_ok {c : CalL} (hok : okC c = true) : nameL c.name = true := by
  unfold okC at hok
  simp only [Bool.and_eq_true] at hok
  exact hok.1.2
theorem check_block {c : CalL} {l : List NodeL} (hok : okC c = true) (hk : ∀ k ∈ l, checkN 1 k = 0) (p : Int) : checkL 0 [.mk b_calendar p [wS c.name] true l] = 0 := by
  obtain ⟨w1, w2, w3, w4, w5, w6, w7⟩ := lists_ok
  have h1 := check_all l 1 hk
  simp only [checkL, checkN]
  rw [h1]
  simp [w7, wS_ok (nm_ok hok)]
theorem kid_put {c : CalL} {k : NodeL} (hok : okC c = true) (h : KidOf c k) (nm : Bytes) : KidOk nm k := by
  have hs := kid_says c k h
  have hfit := nodeFit c hok
  obtain ⟨k0, hk0, hn, hw, hb, hkk⟩ := h
  have hwk : standsC c.kind b_extra = true → weeksC c = true := fun hst => by
    obtain ⟨t12, t3, t4, t5, t6⟩ := stands_kinds c.kind
    rcases cal_kinds c hok with ⟨h, _⟩ | ⟨h, _⟩ | ⟨_, hw⟩ | ⟨_, _, _, _, hw⟩ | ⟨h, _⟩
    · rw [(t3 h).2] at hst; cases hst
    · rw [(t4 h).2] at hst; cases hst
    · exact hw
    · exact hw
    · rw [(t6 h).2] at hst; cases hst
  rw [mem_kids] at hk0
  refine ⟨hs.any, hb, ?_, ?_⟩
  · rw [hw]
    rcases hk0 with rfl | ⟨hst, rfl⟩ | ⟨hst, ⟨hc, rfl⟩ | ⟨hc, rfl⟩ | ⟨hc, rfl⟩ | rfl⟩ | rfl | rfl <;> rw [itemL_words] <;> rfl
  · rw [hn, hw]
    rcases hk0 with rfl | ⟨hst, rfl⟩ | ⟨hst, ⟨hc, rfl⟩ | ⟨hc, rfl⟩ | ⟨hc, rfl⟩ | rfl⟩ | rfl | rfl <;> rw [itemL_words, itemL_name]
    · show (endK nm _).2 = true
      rw [show ((saysC c).map wS ++ ([] : List Int).map wN) = (saysC c).map wS by simp, endK_says nm c hfit]
    · have hp := at_of shf_at (c.shift + 1) (by have := hfit.shf; omega) (by have := hfit.shf; omega)
      rw [show c.shift + 1 - 1 = c.shift by omega] at hp
      show (decide (0 < placeW shifts (wS (shifts.getD c.shift.toNat []))) && decide (1 = 1)) = true
      rw [hp]
      have := hfit.shf
      simp; omega
    · obtain ⟨_, hsh⟩ := weeks_kinds c (hwk hst)
      show patOk c.p0 c.p1 c.p2 = true
      rcases hsh with ⟨_, h, _⟩ | ⟨h, _⟩ | ⟨h, _⟩
      · exact h
      · omega
      · omega
    · rfl
    · obtain ⟨_, hsh⟩ := weeks_kinds c (hwk hst)
      show cycOk c.cycle = true
      rcases hsh with ⟨h, _⟩ | ⟨h, _⟩ | ⟨_, _, _, _, h⟩
      · omega
      · omega
      · exact h
    · obtain ⟨hx, _⟩ := weeks_kinds c (hwk hst)
      show tween c.extra 1 52 = true
      unfold tween
      simp; omega
    · rfl
    · have hp := at_of pol_at c.policy hfit.pol.1 hfit.pol.2
      show (decide (0 < placeW pols (wS (pols.getD (c.policy - 1).toNat []))) && decide (1 = 1)) = true
      rw [hp]
      have := hfit.pol
      simp; omega

end Go.Proofs.YtjbniichcopnlaaGreatDoor
end

section
/- Layer 11 (field), in plain Lean: how a block of a calendar's keys is read. -/
set_option linter.unusedVariables false
set_option linter.unusedSimpArgs false
set_option maxRecDepth 100000
namespace Go.Proofs.YtjbniichcopnlaaGreatDoor

theorem endIn_ok (nm : Bytes) (v : CalL) : ∀ (l : List NodeL) (co : Option CalL), (∀ k ∈ l, k.name = b_end → (putK k.name { calZ with name := nm } k.words).1 = v) → ((∃ k ∈ l, k.name = b_end) ∨ co = some v) → endIn nm co l = some v
  | [], co, _, h => by
    rcases h with ⟨k, hk, _⟩ | h
    · cases hk
    · exact h
  | k :: r, co, hv, h => by
    show endIn nm (if k.name = b_end then some (putK k.name { calZ with name := nm } k.words).1 else co) r = some v
    by_cases e : k.name = b_end
    · rw [if_pos e]
      exact endIn_ok nm v r _ (fun x hx => hv x (by simp [hx])) (.inr (by rw [hv k (by simp) e]))
    · rw [if_neg e]
      refine endIn_ok nm v r _ (fun x hx => hv x (by simp [hx])) ?_
      rcases h with ⟨x, hx, hn⟩ | h
      · rcases List.mem_cons.1 hx with rfl | hx
        · exact absurd hn e
        · exact .inl ⟨x, hx, hn⟩
      · exact .inr h
theorem endIn_none (nm : Bytes) : ∀ (l : List NodeL), (∀ k ∈ l, k.name ≠ b_end) → ∀ co, endIn nm co l = co
  | [], _, _ => rfl
  | k :: r, h, co => by
    show endIn nm (if k.name = b_end then some (putK k.name { calZ with name := nm } k.words).1 else co) r = co
    rw [if_neg (h k (by simp))]
    exact endIn_none nm r (fun x hx => h x (by simp [hx])) co

section
variable {c : CalL} {l : List NodeL}
theorem not_both (hof : ∀ k ∈ l, KidOf c k) : ¬ (b_periods ∈ l.map NodeL.name ∧ b_pay ∈ l.map NodeL.name) := by
  rintro ⟨h1, h2⟩
  obtain ⟨k1, hk1, e1⟩ := List.mem_map.1 h1
  obtain ⟨k2, hk2, e2⟩ := List.mem_map.1 h2
  have a2 := ((kid_says c k2 (hof k2 hk2)).pay e2).1
  rcases (kid_says c k1 (hof k1 hk1)).periods e1 with ⟨a1, _⟩ | ⟨a1, _⟩ <;> omega
theorem end_put (hok : okC c = true) (hof : ∀ k ∈ l, KidOf c k) (nm : Bytes) : ∀ k ∈ l, k.name = b_end → (putK k.name { calZ with name := nm } k.words).1 = endCal nm c := fun k hk e => by
  rw [e, (kid_says c k (hof k hk)).end_ e]
  show (endK nm _).1 = _
  rw [endK_says nm c (nodeFit c hok)]
theorem endCal_kind (nm : Bytes) (hok : okC c = true) : (endCal nm c).kind = c.kind := by
  have hf := nodeFit c hok
  unfold endCal
  by_cases h3 : c.kind = 3
  · rw [if_pos h3, h3]; rfl
  by_cases h4 : c.kind = 4
  · rw [if_neg h3, if_pos h4, h4]; rfl
  by_cases h5 : c.kind = 5
  · rw [if_neg h3, if_neg h4, if_pos h5, h5]
  by_cases h6 : c.kind = 6
  · rw [if_neg h3, if_neg h4, if_neg h5, if_pos h6, h6]
  rw [if_neg h3, if_neg h4, if_neg h5, if_neg h6]
/-- How a block of a calendar's keys is read: each key fits; what is read hangs on whether all are there. -/
theorem read_keys (hok : okC c = true) (hof : ∀ k ∈ l, KidOf c k) (hnd : (l.map NodeL.name).Nodup) (p : Int) :
    readC (.mk b_calendar p [wS c.name] true l) = if b_end ∈ l.map NodeL.name then (if missL c.kind (l.map NodeL.name) = true then ⟨calZ, p, 10⟩ else if okC (putAll (endCal c.name c) l) = true then ⟨putAll (endCal c.name c) l, 0, 0⟩ else ⟨calZ, p, 1⟩) else ⟨calZ, p, 10⟩ := by
  have hck := check_block (l := l) hok (fun k hk => kid_check hok (hof k hk) 1) p
  have hform := formed_ok c.name l [] none (fun k hk => kid_put hok (hof k hk) c.name) (by simpa using hnd)
  rw [readC_block b_calendar p [wS c.name] true l hck (by simp [wS])]
  unfold readBlock
  show (match formedL c.name [] none l with
    | .inl (p, e) => _
    | .inr none => _
    | .inr (some c) => _) = _
  rw [hform]
  by_cases he : b_end ∈ l.map NodeL.name
  · rw [if_pos he]
    obtain ⟨k, hk, e⟩ := List.mem_map.1 he
    rw [endIn_ok c.name (endCal c.name c) l none (end_put hok hof c.name) (.inl ⟨k, hk, e⟩)]
    dsimp only [NodeL.kids, NodeL.pos]
    rw [endCal_kind c.name hok, fits_ok c.kind l [] (fun k hk => (kid_says c k (hof k hk)).stands) (by simpa using not_both hof)]
    rfl
  · rw [if_neg he, endIn_none c.name l (fun k hk e => he (List.mem_map.2 ⟨k, hk, e⟩))]
    rfl
/-- Whether a key is missing, by the names that are there. -/
theorem miss_no (hall : ∀ k0 ∈ kidsC c, k0.name ∈ l.map NodeL.name) (hok : okC c = true) : missL c.kind (l.map NodeL.name) = false := by
  have hwk : standsC c.kind b_extra = true → weeksC c = true := fun hst => by
    obtain ⟨t12, t3, t4, t5, t6⟩ := stands_kinds c.kind
    rcases cal_kinds c hok with ⟨h, _⟩ | ⟨h, _⟩ | ⟨_, hw⟩ | ⟨_, _, _, _, hw⟩ | ⟨h, _⟩
    · rw [(t3 h).2] at hst; cases hst
    · rw [(t4 h).2] at hst; cases hst
    · exact hw
    · exact hw
    · rw [(t6 h).2] at hst; cases hst
  unfold missL
  rw [List.any_eq_false]
  intro x hx
  simp only [Bool.and_eq_true, Bool.not_eq_true', Bool.or_eq_false_iff, not_and, List.contains_eq_mem, decide_eq_false_iff_not, Bool.and_eq_false_iff, decide_eq_true_eq]
  intro hst hno
  simp only [List.mem_cons, List.not_mem_nil, or_false] at hx
  rcases hx with rfl | rfl | rfl | rfl | rfl
  · exact absurd (hall _ ((mem_kids c _).2 (.inr (.inl ⟨hst, rfl⟩)))) hno
  · obtain ⟨_, hsh⟩ := weeks_kinds c (hwk hst)
    rcases hsh with ⟨h, _⟩ | ⟨h, _⟩ | ⟨h, _⟩
    · exact absurd (hall _ ((mem_kids c _).2 (.inr (.inr (.inl ⟨hst, .inl ⟨h, rfl⟩⟩))))) hno
    · exact absurd (hall _ ((mem_kids c _).2 (.inr (.inr (.inl ⟨hst, .inr (.inl ⟨h, rfl⟩)⟩))))) hno
    · have := hall _ ((mem_kids c (itemL b_pay [] [c.cycle])).2 (.inr (.inr (.inl ⟨hst, .inr (.inr (.inl ⟨h, rfl⟩))⟩))))
      rw [itemL_name] at this
      simpa using this
  · exact absurd (hall _ ((mem_kids c _).2 (.inr (.inr (.inl ⟨hst, .inr (.inr (.inr rfl))⟩))))) hno
  · exact absurd (hall _ ((mem_kids c _).2 (.inr (.inr (.inr (.inl rfl)))))) hno
  · exact absurd (hall _ ((mem_kids c _).2 (.inr (.inr (.inr (.inr rfl)))))) hno
/-- With all of its keys, in whatever order, a calendar's block is read as the calendar. -/
theorem read_all (hok : okC c = true) (hof : ∀ k ∈ l, KidOf c k) (hnd : (l.map NodeL.name).Nodup) (hall : ∀ k0 ∈ kidsC c, k0.name ∈ l.map NodeL.name) (p : Int) :
    readC (.mk b_calendar p [wS c.name] true l) = ⟨c, 0, 0⟩ := by
  have hp := put_all hok hof (fun k0 h => by
    obtain ⟨k, hk, e⟩ := List.mem_map.1 (hall k0 h)
    exact ⟨k, hk, e⟩)
  have hen : b_end ∈ l.map NodeL.name := hall (itemL b_end (saysC c) []) ((mem_kids c _).2 (.inl rfl))
  rw [read_keys hok hof hnd p, if_pos hen, miss_no hall hok, hp, if_neg (by decide), if_pos hok]
theorem kids_nodup : ((kidsC c).map NodeL.name).Nodup := by
  unfold kidsC endI namedI extraI serveI shapeC
  by_cases h1 : c.shape = 1
  · cases standsC c.kind b_named <;> cases standsC c.kind b_extra <;> simp [h1, itemL, NodeL.name] <;> decide
  · by_cases h2 : c.shape = 2
    · cases standsC c.kind b_named <;> cases standsC c.kind b_extra <;> simp [h2, itemL, NodeL.name] <;> decide
    · by_cases h3 : c.shape = 3
      · cases standsC c.kind b_named <;> cases standsC c.kind b_extra <;> simp [h3, itemL, NodeL.name] <;> decide
      · cases standsC c.kind b_named <;> cases standsC c.kind b_extra <;> simp [h1, h2, h3, itemL, NodeL.name] <;> decide
theorem read_node (hok : okC c = true) : readC (nodeC c) = ⟨c, 0, 0⟩ :=
  read_all hok (fun k hk => ⟨k, hk, rfl, rfl, by
    rw [mem_kids] at hk
    rcases hk with rfl | ⟨_, rfl⟩ | ⟨_, ⟨_, rfl⟩ | ⟨_, rfl⟩ | ⟨_, rfl⟩ | rfl⟩ | rfl | rfl <;> rfl, by
    rw [mem_kids] at hk
    rcases hk with rfl | ⟨_, rfl⟩ | ⟨_, ⟨_, rfl⟩ | ⟨_, rfl⟩ | ⟨_, rfl⟩ | rfl⟩ | rfl | rfl <;> rfl⟩) kids_nodup (fun k0 h => List.mem_map.2 ⟨k0, h, rfl⟩) 0
end

end Go.Proofs.YtjbniichcopnlaaGreatDoor
end

section
/- Layer 11 (field), the law FieldRight in plain Lean. -/
set_option linter.unusedVariables false
namespace Go.Proofs.YtjbniichcopnlaaGreatDoor

/-- What may be has no fewer periods than its week that is added. -/
theorem ruled_extra (c : CalL) (h : ruledC c = true) : 0 ≤ c.extra ∧ c.extra ≤ manyC c.shape c.cycle := by
  unfold ruledC at h
  unfold fixedC at h
  by_cases h3 : c.kind = 3
  · rw [if_pos h3] at h
    have h' := of_decide_eq_true h
    have e1 : c.extra = 12 := by rw [h']; rfl
    have e2 : c.shape = 1 := by rw [h']; rfl
    rw [e1, e2]
    exact ⟨by decide, by unfold manyC; rw [if_neg (by decide), if_neg (by omega), if_pos (by omega)]; omega⟩
  rw [if_neg h3] at h
  by_cases h4 : c.kind = 4
  · rw [if_pos h4] at h
    have h' := of_decide_eq_true h
    have e1 : c.extra = 12 := by rw [h']; rfl
    have e2 : c.shape = 4 := by rw [h']; rfl
    rw [e1, e2]
    exact ⟨by decide, by unfold manyC; rw [if_neg (by decide), if_neg (by omega), if_pos (by omega)]; omega⟩
  rw [if_neg h4] at h
  have hwk : ∀ b : Bool, (b && weeksC c) = true → 0 ≤ c.extra ∧ c.extra ≤ manyC c.shape c.cycle := by
    intro b hb
    have hw : weeksC c = true := by cases b <;> simp at hb; exact hb
    unfold weeksC tween at hw
    split at hw
    · simp at hw; omega
    · split at hw
      · simp at hw; omega
      · split at hw
        · simp at hw; omega
        · simp at hw
  dsimp only at h
  split at h
  · simp at h
  · split at h
    · exact hwk _ h
    · split at h
      · exact hwk _ h
      · split at h
        · simp at h
          obtain ⟨⟨⟨⟨_, hs⟩, _⟩, _⟩, he⟩ := h
          rw [hs, he]
          exact ⟨by decide, by unfold manyC; rw [if_neg (by decide), if_neg (by omega), if_pos (by omega)]; omega⟩
        · simp at h
theorem fits_err0 (kind : Int) : ∀ (l : List NodeL) (seen : List Bytes) (p e : Int), fitsL kind seen l = some (p, e) → e ≠ 0 := by
  intro l
  induction l with
  | nil => intro seen p e h; cases h
  | cons k r ih =>
    intro seen p e h
    unfold fitsL at h
    split at h
    · cases h; decide
    · split at h
      · cases h; decide
      · exact ih _ _ _ h
/-- What a block that is read leads to. -/
theorem read_right (n : NodeL) : ((readC n).err ≠ 0 → (readC n).cal = calZ) ∧
    ((readC n).err = 0 → (readC n).at_ = 0 ∧ okC (readC n).cal = true ∧ ∃ t, n.words = [t] ∧ (readC n).cal.name = t.s) := by
  unfold readC
  by_cases h1 : checkL 0 [n] ≠ 0
  · rw [if_pos h1]; exact ⟨fun _ => rfl, fun h => by simp at h⟩
  rw [if_neg h1]
  by_cases h2 : n.name ≠ b_calendar ∨ n.block = false ∨ n.words.length ≠ 1 ∨ (n.words.headD ⟨false, 0, [], 0⟩).num = true
  · rw [if_pos h2]; exact ⟨fun _ => rfl, fun h => by simp at h⟩
  rw [if_neg h2]
  obtain ⟨t, ht⟩ : ∃ t, n.words = [t] := by
    have : n.words.length = 1 := by
      by_cases h : n.words.length = 1
      · exact h
      · exact absurd (.inr (.inr (.inl h))) h2
    match hw : n.words, this with
    | [t], _ => exact ⟨t, rfl⟩
  unfold readBlock
  rw [ht]
  dsimp only [List.headD_cons]
  split
  · next p e he =>
    have := formed_err _ _ _ _ _ _ he
    exact ⟨fun _ => rfl, fun h => by dsimp only at h; omega⟩
  · exact ⟨fun _ => rfl, fun h => by simp at h⟩
  · next c hc =>
    have hnm : c.name = t.s := formed_name _ _ _ _ _ hc (by intro d hd; cases hd)
    split
    · next p e he =>
      refine ⟨fun _ => rfl, fun h => ?_⟩
      dsimp only at h
      subst h
      exact absurd rfl (fits_err0 _ _ _ _ _ he)
    · split
      · exact ⟨fun _ => rfl, fun h => by simp at h⟩
      · split
        · next ho => exact ⟨fun h => absurd rfl h, fun _ => ⟨rfl, ho, t, rfl, by rw [putAll_name]; exact hnm⟩⟩
        · exact ⟨fun _ => rfl, fun h => by simp at h⟩

end Go.Proofs.YtjbniichcopnlaaGreatDoor
end

section
/- Two tokens compared as structs. -/
namespace Go.Proofs.YtjbniichcopnlaaGreatDoor
open Go.RowKit

theorem tok_eq_iff (a b : Tok) : a = b ↔ a.kind = b.kind ∧ a.pos = b.pos ∧ a.n = b.n ∧ a.s = b.s := by
  cases a; cases b; simp

set_option maxRecDepth 100000 in
theorem run_equalTok (W : World) (a b : Tok) : (Op.equalIn 10000 86 (.agg #[.int .i64 a.kind, .int .i64 a.pos, .int .i64 a.n, .string ⟨a.s.toArray⟩]) (.agg #[.int .i64 b.kind, .int .i64 b.pos, .int .i64 b.n, .string ⟨b.s.toArray⟩])).run Tryz.prog W = .ok (decide (a = b)) W := by
  rw [run_equalIn_agg W 9999 86 _ _ (by kernel_rfl) (by kernel_rfl)]
  simp only [tok_eq_iff]
  by_cases h1 : a.kind = b.kind <;> by_cases h2 : a.pos = b.pos <;> by_cases h3 : a.n = b.n <;> by_cases h4 : a.s = b.s <;>
    (simp [go_sem, Op.eqFields, h1, h2, h3, h4]; done)

theorem run_neqTok (W : World) (a b : Tok) : (binOp .neq 86 (.agg #[.int .i64 a.kind, .int .i64 a.pos, .int .i64 a.n, .string ⟨a.s.toArray⟩]) (.agg #[.int .i64 b.kind, .int .i64 b.pos, .int .i64 b.n, .string ⟨b.s.toArray⟩])).run Tryz.prog W = .ok (.bool (!decide (a = b))) W := by
  rw [run_neq_struct, run_equalTok]; rfl
theorem run_eqlTok (W : World) (a b : Tok) : (binOp .eql 86 (.agg #[.int .i64 a.kind, .int .i64 a.pos, .int .i64 a.n, .string ⟨a.s.toArray⟩]) (.agg #[.int .i64 b.kind, .int .i64 b.pos, .int .i64 b.n, .string ⟨b.s.toArray⟩])).run Tryz.prog W = .ok (.bool (decide (a = b))) W := by
  rw [run_eql_struct, run_equalTok]; rfl

end Go.Proofs.YtjbniichcopnlaaGreatDoor
end

section
/- Layer 8 (lex): the walk of the program's text. -/
namespace Go.Proofs.YtjbniichcopnlaaGreatDoor
open Go.RowKit

/-- A token's text, and whether it may be. -/
def textL (t : Tok) : Bytes × Bool :=
  if t.kind = 1 then (t.s, nameL t.s && decide (t.n = 0))
  else if t.kind = 2 then (Lib.itoa t.n, decide (0 ≤ t.n ∧ t.n ≤ 999999999 ∧ t.s = []))
  else if t.kind = 3 then ([123], decide (t.n = 0 ∧ t.s = []))
  else if t.kind = 4 then ([125], decide (t.n = 0 ∧ t.s = []))
  else if t.kind = 5 then ([59], decide (t.n = 0 ∧ t.s = []))
  else ([], false)

/-- The table of powers of ten, as strconv has it. -/
def Tab (w : World) : Prop := Lib.TabIs Tryz.prog w "internal/strconv.uint64pow10" .u64 Lib.pow10Tab
theorem Tab.below {w w' : World} (h : Tab w) (hb : Below w.heap.size w w') : Tab w' :=
  Joins.tab_stays (g := 2) (by kernel_rfl) h hb (Nat.le_refl _)

theorem quiet_leftX {P : Program} {f : FuncId} {args : Array Value} {w : World} {n : Nat} {v : Value}
    (h : Calls P f args (w.drewN n) fun e w' => e = .returned v ∧ w.drewN n = w') : Calls P f args (w.drewN n) fun e w'' => e = .returned v ∧ ∃ m, w'' = w.drewN m :=
  h.mono fun _ _ ⟨he, hm⟩ => ⟨he, n, hm.symm⟩
theorem quiet_add_leftX {P : Program} {f : FuncId} {args : Array Value} {w : World} {a n : Nat} {v : Value}
    (h : Calls P f args (w.drewN (a + n)) fun e w' => e = .returned v ∧ w.drewN (a + n) = w') :
    Calls P f args (w.drewN (a + n)) fun e w'' => e = .returned v ∧ ∃ m, w'' = w.drewN (a + m) :=
  h.mono fun _ _ ⟨he, hm⟩ => ⟨he, n, hm.symm⟩

theorem ret_sb {a b : ByteArray} {x y : Bool} (h : a = b) (h' : x = y) : Ending.returned (.tuple #[.string a, .bool x]) = .returned (.tuple #[.string b, .bool y]) := by rw [h, h']

theorem s_nil (s : Bytes) : s = [] ∨ s ≠ [] := by cases s <;> simp

theorem below_grow {B : Nat} {a w : World} (h : Below B a w) (hB : B ≤ w.heap.size) (k : Nat) (os : Array Obj) : Below B a (Go.Sort.grow (w.drewN k) os) :=
  h.trans ⟨rfl, rfl, rfl, by simp [Go.Sort.grow], fun i hi => by
    show (w.heap ++ os)[i]? = w.heap[i]?
    rw [Array.getElem?_append_left (by omega)]⟩

/-- strconv.Itoa: below the heap's end the world is as it was. -/
theorem itoa_any (n : Int) (h0 : -9223372036854775808 ≤ n) (h1 : n ≤ 9223372036854775807) (w : World) (ht : Tab w) :
    Calls Tryz.prog 58 #[.int .i64 n] w fun e w' => e = .returned (.string ⟨(Lib.itoa n).toArray⟩) ∧ Below w.heap.size w w' :=
  (Tryz.strconv_Itoa n h0 h1 w ht).mono fun _ _ ⟨he, k, os, hw⟩ => ⟨he, hw ▸ below_grow (Below.refl _ _) (Nat.le_refl _) k os⟩

end Go.Proofs.YtjbniichcopnlaaGreatDoor
end
