import Derived.Test.YtmiejdbpogggeaaFieldBP
/- Layer 11 (field), in plain Lean: a calendar's block is read as the calendar: the end, the other keys. -/
set_option linter.unusedVariables false
set_option maxRecDepth 100000
namespace Go.Proofs.Ytmiejdbpogggeaa

/-- What the end of a calendar says. -/
def endCal (nm : Bytes) (c : CalL) : CalL :=
  if c.kind = 3 then { nrfC with name := nm } else if c.kind = 4 then { broadC with name := nm } else if c.kind = 5 then { calZ with name := nm, kind := 5, day := 7, month := 12 }
  else if c.kind = 6 then { calZ with name := nm, kind := 6, shape := 5, month := c.month } else { calZ with name := nm, kind := c.kind, day := c.day, month := c.month }
theorem endK_says (nm : Bytes) (c : CalL) (h : NodeFit c) : endK nm ((saysC c).map wS) = (endCal nm c, true) := by
  obtain ⟨k1, k6, hday, hmon, _, _⟩ := h
  have hm := at_of mon_at c.month hmon.1 hmon.2
  have hk : c.kind = 1 ∨ c.kind = 2 ∨ c.kind = 3 ∨ c.kind = 4 ∨ c.kind = 5 ∨ c.kind = 6 := by omega
  have e3 : ∀ a b d : Bytes, ([a, b, d].map wS).getD 1 ⟨false, 0, [], 0⟩ = wS b ∧ ([a, b, d].map wS).getD 2 ⟨false, 0, [], 0⟩ = wS d ∧ ([a, b, d].map wS).headD ⟨false, 0, [], 0⟩ = wS a ∧ ([a, b, d].map wS).length = 3 := fun _ _ _ => ⟨rfl, rfl, rfl, rfl⟩
  have e2 : ∀ a b : Bytes, ([a, b].map wS).getD 1 ⟨false, 0, [], 0⟩ = wS b ∧ ([a, b].map wS).headD ⟨false, 0, [], 0⟩ = wS a ∧ ([a, b].map wS).length = 2 := fun _ _ => ⟨rfl, rfl, rfl⟩
  have e1 : ∀ a : Bytes, ([a].map wS).headD ⟨false, 0, [], 0⟩ = wS a ∧ ([a].map wS).length = 1 := fun _ => ⟨rfl, rfl⟩
  have hE := at_of end_at c.kind k1 k6
  rcases hk with hk | hk | hk | hk | hk | hk
  · have hs : saysC c = [endsL.getD (c.kind - 1).toNat [], days.getD (c.day - 1).toNat [], mons.getD (c.month - 1).toNat []] := by unfold saysC; rw [hk]; rfl
    have hd := at_of day_at c.day (hday (.inl hk)).1 (hday (.inl hk)).2
    obtain ⟨a1, a2, a3, a4⟩ := e3 (endsL.getD (c.kind - 1).toNat []) (days.getD (c.day - 1).toNat []) (mons.getD (c.month - 1).toNat [])
    rw [hs, endK_eq nm _ c.kind (by rw [a3]; exact hE)]
    unfold endB endCal fixedC
    rw [a1, a2, a4, hd, hm, hk]
    simp; omega
  · have hs : saysC c = [endsL.getD (c.kind - 1).toNat [], days.getD (c.day - 1).toNat [], mons.getD (c.month - 1).toNat []] := by unfold saysC; rw [hk]; rfl
    have hd := at_of day_at c.day (hday (.inr hk)).1 (hday (.inr hk)).2
    obtain ⟨a1, a2, a3, a4⟩ := e3 (endsL.getD (c.kind - 1).toNat []) (days.getD (c.day - 1).toNat []) (mons.getD (c.month - 1).toNat [])
    rw [hs, endK_eq nm _ c.kind (by rw [a3]; exact hE)]
    unfold endB endCal fixedC
    rw [a1, a2, a4, hd, hm, hk]
    simp; omega
  · have hs : saysC c = [endsL.getD (c.kind - 1).toNat []] := by unfold saysC; rw [hk]; rfl
    obtain ⟨a1, a2⟩ := e1 (endsL.getD (c.kind - 1).toNat [])
    rw [hs, endK_eq nm _ c.kind (by rw [a1]; exact hE)]
    unfold endB endCal fixedC
    rw [a2, hk]
    rfl
  · have hs : saysC c = [endsL.getD (c.kind - 1).toNat []] := by unfold saysC; rw [hk]; rfl
    obtain ⟨a1, a2⟩ := e1 (endsL.getD (c.kind - 1).toNat [])
    rw [hs, endK_eq nm _ c.kind (by rw [a1]; exact hE)]
    unfold endB endCal fixedC
    rw [a2, hk]
    rfl
  · have hs : saysC c = [endsL.getD (c.kind - 1).toNat []] := by unfold saysC; rw [hk]; rfl
    obtain ⟨a1, a2⟩ := e1 (endsL.getD (c.kind - 1).toNat [])
    rw [hs, endK_eq nm _ c.kind (by rw [a1]; exact hE)]
    unfold endB endCal fixedC
    rw [a2, hk]
    rfl
  · have hs : saysC c = [endsL.getD (c.kind - 1).toNat [], mons.getD (c.month - 1).toNat []] := by unfold saysC; rw [hk]; rfl
    obtain ⟨a1, a2, a3⟩ := e2 (endsL.getD (c.kind - 1).toNat []) (mons.getD (c.month - 1).toNat [])
    rw [hs, endK_eq nm _ c.kind (by rw [a2]; exact hE)]
    unfold endB endCal fixedC
    rw [a1, a3, hm, hk]
    simp; omega

theorem fold_same {α : Type} (g : CalL → α) : ∀ (l : List NodeL) (c : CalL), (∀ k ∈ l, ∀ c, g (putF c k) = g c) → g (putAll c l) = g c
  | [], c, _ => rfl
  | k :: r, c, h => by rw [putAll_cons, fold_same g r _ (fun x hx => h x (by simp [hx])), h k (by simp)]

theorem putF_named {k : NodeL} {s : Int} (h : k.name = b_named) (hw : k.words = [wS (shifts.getD s.toNat [])]) (h0 : 0 ≤ s) (h1 : s ≤ 1) (c : CalL) : (putF c k).shift = s := by
  have hp := at_of shf_at (s + 1) (by omega) (by omega)
  rw [show s + 1 - 1 = s by omega] at hp
  unfold putF
  rw [if_neg (by rw [h]; decide), h, hw]
  show placeW shifts (wS (shifts.getD s.toNat [])) - 1 = s
  rw [hp]; omega
theorem putF_periods3 {k : NodeL} {a b d : Int} (h : k.name = b_periods) (hw : k.words = [wN a, wN b, wN d]) (c : CalL) : (putF c k).shape = 1 ∧ (putF c k).p0 = a ∧ (putF c k).p1 = b ∧ (putF c k).p2 = d := by
  unfold putF
  rw [if_neg (by rw [h]; decide), h, hw]
  exact ⟨rfl, rfl, rfl, rfl⟩
theorem putF_periods1 {k : NodeL} (h : k.name = b_periods) (hw : k.words = [wN 4]) (c : CalL) : (putF c k).shape = 2 ∧ (putF c k).p0 = c.p0 ∧ (putF c k).p1 = c.p1 ∧ (putF c k).p2 = c.p2 := by
  unfold putF
  rw [if_neg (by rw [h]; decide), h, hw]
  exact ⟨rfl, rfl, rfl, rfl⟩
theorem putF_pay {k : NodeL} {a : Int} (h : k.name = b_pay) (hw : k.words = [wN a]) (c : CalL) : (putF c k).shape = 3 ∧ (putF c k).cycle = a := by
  unfold putF
  rw [if_neg (by rw [h]; decide), h, hw]
  exact ⟨rfl, rfl⟩
theorem putF_extra {k : NodeL} {a : Int} (h : k.name = b_extra) (hw : k.words = [wN a]) (c : CalL) : (putF c k).extra = a := by
  unfold putF
  rw [if_neg (by rw [h]; decide), h, hw]
  rfl
theorem putF_serve {k : NodeL} {a b : Int} (h : k.name = b_serve) (hw : k.words = [wN a, wN b]) (c : CalL) : (putF c k).first = a ∧ (putF c k).last = b := by
  unfold putF
  rw [if_neg (by rw [h]; decide), h, hw]
  exact ⟨rfl, rfl⟩
theorem putF_compare {k : NodeL} {p : Int} (h : k.name = b_compare) (hw : k.words = [wS (pols.getD (p - 1).toNat [])]) (h1 : 1 ≤ p) (h4 : p ≤ 4) (c : CalL) : (putF c k).policy = p := by
  have hp := at_of pol_at p h1 h4
  unfold putF
  rw [if_neg (by rw [h]; decide), h, hw]
  show placeW pols (wS (pols.getD (p - 1).toNat [])) = p
  exact hp

/-- What a calendar that may be is, by its kind. -/
theorem cal_kinds (c : CalL) (hok : okC c = true) :
    (c.kind = 3 ∧ c = { nrfC with name := c.name, first := c.first, last := c.last, policy := c.policy }) ∨ (c.kind = 4 ∧ c = { broadC with name := c.name, first := c.first, last := c.last, policy := c.policy }) ∨
    ((c.kind = 1 ∨ c.kind = 2) ∧ weeksC c = true) ∨ (c.kind = 5 ∧ c.day = 7 ∧ c.month = 12 ∧ c.shift = 0 ∧ weeksC c = true) ∨
    (c.kind = 6 ∧ c.day = 0 ∧ c.shape = 5 ∧ c.p0 = 0 ∧ c.p1 = 0 ∧ c.p2 = 0 ∧ c.cycle = 0 ∧ c.extra = 0) := by
  unfold okC at hok
  simp only [Bool.and_eq_true] at hok
  obtain ⟨⟨⟨_, _⟩, _⟩, hr⟩ := hok
  unfold ruledC fixedC at hr
  by_cases h3 : c.kind = 3
  · rw [if_pos h3] at hr
    exact .inl ⟨h3, of_decide_eq_true hr⟩
  rw [if_neg h3] at hr
  by_cases h4 : c.kind = 4
  · rw [if_pos h4] at hr
    exact .inr (.inl ⟨h4, of_decide_eq_true hr⟩)
  rw [if_neg h4] at hr
  dsimp only at hr
  split at hr
  · simp at hr
  · split at hr
    · next hk =>
      simp only [Bool.and_eq_true] at hr
      exact .inr (.inr (.inl ⟨hk, hr.2⟩))
    · split at hr
      · next hk =>
        simp only [Bool.and_eq_true, decide_eq_true_eq] at hr
        exact .inr (.inr (.inr (.inl ⟨hk, hr.1.1.1, hr.1.1.2, hr.1.2, hr.2⟩)))
      · split at hr
        · next hk =>
          simp only [Bool.and_eq_true, decide_eq_true_eq, patZ] at hr
          exact .inr (.inr (.inr (.inr ⟨hk, hr.1.1.1.1, hr.1.1.1.2, hr.1.1.2.1.1, hr.1.1.2.1.2, hr.1.1.2.2, hr.1.2, hr.2⟩)))
        · simp at hr
theorem weeks_kinds (c : CalL) (h : weeksC c = true) :
    (1 ≤ c.extra ∧ c.extra ≤ 52) ∧ ((c.shape = 1 ∧ patOk c.p0 c.p1 c.p2 = true ∧ c.cycle = 0) ∨ (c.shape = 2 ∧ c.p0 = 0 ∧ c.p1 = 0 ∧ c.p2 = 0 ∧ c.cycle = 0) ∨ (c.shape = 3 ∧ c.p0 = 0 ∧ c.p1 = 0 ∧ c.p2 = 0 ∧ cycOk c.cycle = true)) := by
  unfold weeksC at h
  by_cases h1 : c.shape = 1
  · rw [if_pos h1] at h
    simp only [Bool.and_eq_true, decide_eq_true_eq, tween] at h
    have hm : manyC c.shape c.cycle = 12 := by unfold manyC; rw [if_neg (by omega), if_neg (by omega), if_pos (by omega)]
    rw [hm] at h
    exact ⟨by omega, .inl ⟨h1, h.1.1, h.1.2⟩⟩
  rw [if_neg h1] at h
  by_cases h2 : c.shape = 2
  · rw [if_pos h2] at h
    simp only [Bool.and_eq_true, decide_eq_true_eq, tween, patZ] at h
    have hm : manyC c.shape c.cycle = 13 := by unfold manyC; rw [if_pos h2]
    rw [hm] at h
    exact ⟨by omega, .inr (.inl ⟨h2, h.1.1.1.1, h.1.1.1.2, h.1.1.2, h.1.2⟩)⟩
  rw [if_neg h2] at h
  by_cases h3 : c.shape = 3
  · rw [if_pos h3] at h
    simp only [Bool.and_eq_true, decide_eq_true_eq, tween, patZ] at h
    obtain ⟨⟨hz, hc⟩, he⟩ := h
    have hc' := hc
    unfold cycOk at hc'
    simp only [Bool.or_eq_true, decide_eq_true_eq] at hc'
    have hm : manyC c.shape c.cycle ≤ 52 := by
      unfold manyC
      rw [if_neg h2, if_pos ⟨h3, by omega⟩]
      rcases hc' with (h | h) | h <;> rw [h] <;> decide
    exact ⟨by omega, .inr (.inr ⟨h3, hz.1.1, hz.1.2, hz.2, hc⟩)⟩
  · rw [if_neg h3] at h; simp at h

end Go.Proofs.Ytmiejdbpogggeaa
