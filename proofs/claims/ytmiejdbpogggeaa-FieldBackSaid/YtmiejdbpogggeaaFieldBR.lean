import Derived.Test.YtmiejdbpogggeaaFieldBQ
/- Layer 11 (field), in plain Lean: the keys of a calendar's block, in whatever order, lead to the calendar. -/
set_option linter.unusedVariables false
set_option maxRecDepth 100000
namespace Go.Proofs.Ytmiejdbpogggeaa

theorem stands_kinds (k : Int) : (k = 1 ∨ k = 2 → standsC k b_named = true ∧ standsC k b_extra = true) ∧ (k = 3 → standsC k b_named = false ∧ standsC k b_extra = false) ∧ (k = 4 → standsC k b_named = false ∧ standsC k b_extra = false) ∧
    (k = 5 → standsC k b_named = false ∧ standsC k b_extra = true) ∧ (k = 6 → standsC k b_named = true ∧ standsC k b_extra = false) := by
  refine ⟨?_, ?_, ?_, ?_, ?_⟩
  · rintro (rfl | rfl) <;> decide
  · rintro rfl; decide
  · rintro rfl; decide
  · rintro rfl; decide
  · rintro rfl; decide

section
variable {c : CalL} {l : List NodeL}
theorem no_named (hof : ∀ k ∈ l, KidOf c k) (h : standsC c.kind b_named = false) : ∀ k ∈ l, k.name ≠ b_named := fun k hk e => by
  have := (kid_says c k (hof k hk)).stands
  rw [e, h] at this
  cases this
theorem no_shape (hof : ∀ k ∈ l, KidOf c k) (h : standsC c.kind b_extra = false) : ∀ k ∈ l, k.name ≠ b_periods ∧ k.name ≠ b_pay ∧ k.name ≠ b_extra := fun k hk => by
  have hs := (kid_says c k (hof k hk)).stands
  obtain ⟨s1, s2, _⟩ := stands_same c.kind
  refine ⟨fun e => ?_, fun e => ?_, fun e => ?_⟩ <;> rw [e] at hs
  · rw [s1, h] at hs; cases hs
  · rw [s2, h] at hs; cases hs
  · rw [h] at hs; cases hs

theorem put_all (hok : okC c = true) (hof : ∀ k ∈ l, KidOf c k) (hall : ∀ k0 ∈ kidsC c, ∃ k ∈ l, k.name = k0.name) : putAll (endCal c.name c) l = c := by
  have hfit := nodeFit c hok
  have hS := fun k hk => kid_says c k (hof k hk)
  obtain ⟨t12, t3, t4, t5, t6⟩ := stands_kinds c.kind
  have hin : ∀ k0, k0 ∈ kidsC c → ∃ k ∈ l, k.name = k0.name := hall
  have hserve : ∃ k ∈ l, k.name = b_serve := hin (itemL b_serve [] [c.first, c.last]) ((mem_kids c _).2 (.inr (.inr (.inr (.inl rfl)))))
  have hcomp : ∃ k ∈ l, k.name = b_compare := hin (itemL b_compare [pols.getD (c.policy - 1).toNat []] []) ((mem_kids c _).2 (.inr (.inr (.inr (.inr rfl)))))
  have gname : (putAll (endCal c.name c) l).name = (endCal c.name c).name := putAll_name _ l
  have gkind : (putAll (endCal c.name c) l).kind = (endCal c.name c).kind := fold_same (·.kind) l _ (fun k _ c => (putF_fields c k).2.1)
  have gday : (putAll (endCal c.name c) l).day = (endCal c.name c).day := fold_same (·.day) l _ (fun k _ c => (putF_fields c k).2.2.1)
  have gmon : (putAll (endCal c.name c) l).month = (endCal c.name c).month := fold_same (·.month) l _ (fun k _ c => (putF_fields c k).2.2.2.1)
  have gfirst : (putAll (endCal c.name c) l).first = c.first := fold_set (·.first) (· = b_serve) (fun c k h => ((putF_fields c k).2.2.2.2.2.2.2.2.2 h).1) _ l _ hserve (fun k hk h c' => (putF_serve h ((hS k hk).serve h) c').1)
  have glast : (putAll (endCal c.name c) l).last = c.last := fold_set (·.last) (· = b_serve) (fun c k h => ((putF_fields c k).2.2.2.2.2.2.2.2.2 h).2) _ l _ hserve (fun k hk h c' => (putF_serve h ((hS k hk).serve h) c').2)
  have gpol : (putAll (endCal c.name c) l).policy = c.policy := by
    have key : ∀ (l : List NodeL) (d : CalL), (∀ k ∈ l, keysL.contains k.name = true) → (∃ k ∈ l, k.name = b_compare) → (∀ k ∈ l, k.name = b_compare → ∀ c', (putF c' k).policy = c.policy) → (putAll d l).policy = c.policy := by
      intro l
      induction l with
      | nil => intro d _ h _; obtain ⟨k, hk, _⟩ := h; cases hk
      | cons a r ih =>
        intro d hk h hs
        rw [putAll_cons]
        by_cases hr : ∃ k ∈ r, k.name = b_compare
        · exact ih _ (fun k h => hk k (by simp [h])) hr (fun k h => hs k (by simp [h]))
        · rw [fold_same (·.policy) r _ (fun k h c' => putF_policy c' k (hk k (by simp [h])) (fun e => hr ⟨k, h, e⟩))]
          obtain ⟨k, hkm, hp⟩ := h
          rcases List.mem_cons.1 hkm with rfl | hkm
          · exact hs k (by simp) hp _
          · exact absurd ⟨k, hkm, hp⟩ hr
    exact key l _ (fun k hk => (hS k hk).any) hcomp (fun k hk h c' => putF_compare h ((hS k hk).compare h) hfit.pol.1 hfit.pol.2 c')
  have gshift1 : standsC c.kind b_named = true → (putAll (endCal c.name c) l).shift = c.shift := fun hst =>
    fold_set (·.shift) (· = b_named) (fun c k h => (putF_fields c k).2.2.2.2.1 h) _ l _ (hin (itemL b_named [shifts.getD c.shift.toNat []] []) ((mem_kids c _).2 (.inr (.inl ⟨hst, rfl⟩)))) (fun k hk h c' => putF_named h ((hS k hk).named h) hfit.shf.1 hfit.shf.2 c')
  have gshift0 : standsC c.kind b_named = false → (putAll (endCal c.name c) l).shift = (endCal c.name c).shift := fun hst =>
    fold_same (·.shift) l _ (fun k hk c' => (putF_fields c' k).2.2.2.2.1 (no_named hof hst k hk))
  have gno : standsC c.kind b_extra = false → (putAll (endCal c.name c) l).shape = (endCal c.name c).shape ∧ (putAll (endCal c.name c) l).p0 = (endCal c.name c).p0 ∧ (putAll (endCal c.name c) l).p1 = (endCal c.name c).p1 ∧ (putAll (endCal c.name c) l).p2 = (endCal c.name c).p2 ∧
      (putAll (endCal c.name c) l).cycle = (endCal c.name c).cycle ∧ (putAll (endCal c.name c) l).extra = (endCal c.name c).extra := fun hst => by
    have hn := no_shape hof hst
    exact ⟨fold_same (·.shape) l _ (fun k hk c' => (putF_fields c' k).2.2.2.2.2.1 (hn k hk).1 (hn k hk).2.1), fold_same (·.p0) l _ (fun k hk c' => ((putF_fields c' k).2.2.2.2.2.2.1 (hn k hk).1).1), fold_same (·.p1) l _ (fun k hk c' => ((putF_fields c' k).2.2.2.2.2.2.1 (hn k hk).1).2.1),
      fold_same (·.p2) l _ (fun k hk c' => ((putF_fields c' k).2.2.2.2.2.2.1 (hn k hk).1).2.2), fold_same (·.cycle) l _ (fun k hk c' => (putF_fields c' k).2.2.2.2.2.2.2.1 (hn k hk).2.1), fold_same (·.extra) l _ (fun k hk c' => (putF_fields c' k).2.2.2.2.2.2.2.2.1 (hn k hk).2.2)⟩
  have gwk : standsC c.kind b_extra = true → weeksC c = true → (endCal c.name c).p0 = 0 ∧ (endCal c.name c).p1 = 0 ∧ (endCal c.name c).p2 = 0 ∧ (endCal c.name c).cycle = 0 → (putAll (endCal c.name c) l).shape = c.shape ∧ (putAll (endCal c.name c) l).p0 = c.p0 ∧ (putAll (endCal c.name c) l).p1 = c.p1 ∧ (putAll (endCal c.name c) l).p2 = c.p2 ∧
      (putAll (endCal c.name c) l).cycle = c.cycle ∧ (putAll (endCal c.name c) l).extra = c.extra := fun hst hw hz => by
    obtain ⟨_, hsh⟩ := weeks_kinds c hw
    have gex : (putAll (endCal c.name c) l).extra = c.extra := fold_set (·.extra) (· = b_extra) (fun c k h => (putF_fields c k).2.2.2.2.2.2.2.2.1 h) _ l _ (hin (itemL b_extra [] [c.extra]) ((mem_kids c _).2 (.inr (.inr (.inl ⟨hst, .inr (.inr (.inr rfl))⟩))))) (fun k hk h c' => putF_extra h ((hS k hk).extra h) c')
    have gshape : (putAll (endCal c.name c) l).shape = c.shape := by
      refine fold_set (·.shape) (fun n => n = b_periods ∨ n = b_pay) (fun c k h => (putF_fields c k).2.2.2.2.2.1 (fun e => h (.inl e)) (fun e => h (.inr e))) _ l _ ?_ ?_
      · rcases hsh with ⟨h, _⟩ | ⟨h, _⟩ | ⟨h, _⟩
        · obtain ⟨k, hk, e⟩ := hin (itemL b_periods [] [c.p0, c.p1, c.p2]) ((mem_kids c _).2 (.inr (.inr (.inl ⟨hst, .inl ⟨h, rfl⟩⟩))))
          exact ⟨k, hk, .inl e⟩
        · obtain ⟨k, hk, e⟩ := hin (itemL b_periods [] [4]) ((mem_kids c _).2 (.inr (.inr (.inl ⟨hst, .inr (.inl ⟨h, rfl⟩)⟩))))
          exact ⟨k, hk, .inl e⟩
        · obtain ⟨k, hk, e⟩ := hin (itemL b_pay [] [c.cycle]) ((mem_kids c _).2 (.inr (.inr (.inl ⟨hst, .inr (.inr (.inl ⟨h, rfl⟩))⟩))))
          exact ⟨k, hk, .inr e⟩
      · rintro k hk (h | h) c'
        · rcases (hS k hk).periods h with ⟨hs, hw⟩ | ⟨hs, hw⟩
          · exact ((putF_periods3 h hw c').1).trans hs.symm
          · exact ((putF_periods1 h hw c').1).trans hs.symm
        · obtain ⟨hs, hw⟩ := (hS k hk).pay h
          exact ((putF_pay h hw c').1).trans hs.symm
    have gcyc : (putAll (endCal c.name c) l).cycle = c.cycle := by
      rcases hsh with ⟨h, _, h0⟩ | ⟨h, _, _, _, h0⟩ | ⟨h, _⟩
      · rw [fold_same (·.cycle) l _ (fun k hk c' => (putF_fields c' k).2.2.2.2.2.2.2.1 (fun e => by have := ((hS k hk).pay e).1; omega)), h0]; exact hz.2.2.2
      · rw [fold_same (·.cycle) l _ (fun k hk c' => (putF_fields c' k).2.2.2.2.2.2.2.1 (fun e => by have := ((hS k hk).pay e).1; omega)), h0]; exact hz.2.2.2
      · exact fold_set (·.cycle) (· = b_pay) (fun c k h => (putF_fields c k).2.2.2.2.2.2.2.1 h) _ l _ (hin (itemL b_pay [] [c.cycle]) ((mem_kids c _).2 (.inr (.inr (.inl ⟨hst, .inr (.inr (.inl ⟨h, rfl⟩))⟩))))) (fun k hk h c' => (putF_pay h ((hS k hk).pay h).2 c').2)
    have gp : (putAll (endCal c.name c) l).p0 = c.p0 ∧ (putAll (endCal c.name c) l).p1 = c.p1 ∧ (putAll (endCal c.name c) l).p2 = c.p2 := by
      by_cases h1 : c.shape = 1
      · have hex := hin (itemL b_periods [] [c.p0, c.p1, c.p2]) ((mem_kids c _).2 (.inr (.inr (.inl ⟨hst, .inl ⟨h1, rfl⟩⟩))))
        have hw3 : ∀ k ∈ l, k.name = b_periods → k.words = [wN c.p0, wN c.p1, wN c.p2] := fun k hk h => by
          rcases (hS k hk).periods h with ⟨_, hw⟩ | ⟨hs, _⟩
          · exact hw
          · omega
        exact ⟨fold_set (·.p0) (· = b_periods) (fun c k h => ((putF_fields c k).2.2.2.2.2.2.1 h).1) _ l _ hex (fun k hk h c' => (putF_periods3 h (hw3 k hk h) c').2.1),
          fold_set (·.p1) (· = b_periods) (fun c k h => ((putF_fields c k).2.2.2.2.2.2.1 h).2.1) _ l _ hex (fun k hk h c' => (putF_periods3 h (hw3 k hk h) c').2.2.1),
          fold_set (·.p2) (· = b_periods) (fun c k h => ((putF_fields c k).2.2.2.2.2.2.1 h).2.2) _ l _ hex (fun k hk h c' => (putF_periods3 h (hw3 k hk h) c').2.2.2)⟩
      · have hz3 : c.p0 = 0 ∧ c.p1 = 0 ∧ c.p2 = 0 := by
          rcases hsh with ⟨h, _⟩ | ⟨_, a, b, d, _⟩ | ⟨_, a, b, d, _⟩
          · exact absurd h h1
          · exact ⟨a, b, d⟩
          · exact ⟨a, b, d⟩
        have hk3 : ∀ k ∈ l, ∀ c', (putF c' k).p0 = c'.p0 ∧ (putF c' k).p1 = c'.p1 ∧ (putF c' k).p2 = c'.p2 := fun k hk c' => by
          by_cases h : k.name = b_periods
          · rcases (hS k hk).periods h with ⟨hs, _⟩ | ⟨_, hw⟩
            · exact absurd hs h1
            · exact (putF_periods1 h hw c').2
          · exact (putF_fields c' k).2.2.2.2.2.2.1 h
        rw [hz3.1, hz3.2.1, hz3.2.2]
        exact ⟨(fold_same (·.p0) l _ (fun k hk c' => (hk3 k hk c').1)).trans hz.1, (fold_same (·.p1) l _ (fun k hk c' => (hk3 k hk c').2.1)).trans hz.2.1, (fold_same (·.p2) l _ (fun k hk c' => (hk3 k hk c').2.2)).trans hz.2.2.1⟩
    exact ⟨gshape, gp.1, gp.2.1, gp.2.2, gcyc, gex⟩
  rw [cal_ext]
  rcases cal_kinds c hok with ⟨h3, he⟩ | ⟨h4, he⟩ | ⟨h12, hw⟩ | ⟨h5, hd, hm, hs, hw⟩ | ⟨h6, hd, hs, q0, q1, q2, hcy, hex⟩
  · have hE : endCal c.name c = { nrfC with name := c.name } := by unfold endCal; rw [if_pos h3]
    obtain ⟨g1, g2, g3, g4, g5, g6⟩ := gno (t3 h3).2
    have gs := gshift0 (t3 h3).1
    rw [gname, gkind, gday, gmon, gs, g1, g2, g3, g4, g5, g6, gfirst, glast, gpol, hE]
    rw [cal_ext] at he
    exact ⟨rfl, he.2.1.symm, he.2.2.1.symm, he.2.2.2.1.symm, he.2.2.2.2.1.symm, he.2.2.2.2.2.1.symm, he.2.2.2.2.2.2.1.symm, he.2.2.2.2.2.2.2.1.symm, he.2.2.2.2.2.2.2.2.1.symm, he.2.2.2.2.2.2.2.2.2.1.symm, he.2.2.2.2.2.2.2.2.2.2.1.symm, rfl, rfl, rfl⟩
  · have hE : endCal c.name c = { broadC with name := c.name } := by unfold endCal; rw [if_neg (by omega), if_pos h4]
    obtain ⟨g1, g2, g3, g4, g5, g6⟩ := gno (t4 h4).2
    have gs := gshift0 (t4 h4).1
    rw [gname, gkind, gday, gmon, gs, g1, g2, g3, g4, g5, g6, gfirst, glast, gpol, hE]
    rw [cal_ext] at he
    exact ⟨rfl, he.2.1.symm, he.2.2.1.symm, he.2.2.2.1.symm, he.2.2.2.2.1.symm, he.2.2.2.2.2.1.symm, he.2.2.2.2.2.2.1.symm, he.2.2.2.2.2.2.2.1.symm, he.2.2.2.2.2.2.2.2.1.symm, he.2.2.2.2.2.2.2.2.2.1.symm, he.2.2.2.2.2.2.2.2.2.2.1.symm, rfl, rfl, rfl⟩
  · have hE : endCal c.name c = { calZ with name := c.name, kind := c.kind, day := c.day, month := c.month } := by unfold endCal; rw [if_neg (by omega), if_neg (by omega), if_neg (by omega), if_neg (by omega)]
    obtain ⟨g1, g2, g3, g4, g5, g6⟩ := gwk (t12 h12).2 hw (by rw [hE]; exact ⟨rfl, rfl, rfl, rfl⟩)
    have gs := gshift1 (t12 h12).1
    rw [gname, gkind, gday, gmon, gs, g1, g2, g3, g4, g5, g6, gfirst, glast, gpol, hE]
    exact ⟨rfl, rfl, rfl, rfl, rfl, rfl, rfl, rfl, rfl, rfl, rfl, rfl, rfl, rfl⟩
  · have hE : endCal c.name c = { calZ with name := c.name, kind := 5, day := 7, month := 12 } := by unfold endCal; rw [if_neg (by omega), if_neg (by omega), if_pos h5]
    obtain ⟨g1, g2, g3, g4, g5, g6⟩ := gwk (t5 h5).2 hw (by rw [hE]; exact ⟨rfl, rfl, rfl, rfl⟩)
    have gs := gshift0 (t5 h5).1
    rw [gname, gkind, gday, gmon, gs, g1, g2, g3, g4, g5, g6, gfirst, glast, gpol, hE]
    exact ⟨rfl, h5.symm, hd.symm, hm.symm, hs.symm, rfl, rfl, rfl, rfl, rfl, rfl, rfl, rfl, rfl⟩
  · have hE : endCal c.name c = { calZ with name := c.name, kind := 6, shape := 5, month := c.month } := by unfold endCal; rw [if_neg (by omega), if_neg (by omega), if_neg (by omega), if_pos h6]
    obtain ⟨g1, g2, g3, g4, g5, g6⟩ := gno (t6 h6).2
    have gs := gshift1 (t6 h6).1
    rw [gname, gkind, gday, gmon, gs, g1, g2, g3, g4, g5, g6, gfirst, glast, gpol, hE]
    exact ⟨rfl, h6.symm, hd.symm, rfl, rfl, hs.symm, q0.symm, q1.symm, q2.symm, hcy.symm, hex.symm, rfl, rfl, rfl⟩
end

end Go.Proofs.Ytmiejdbpogggeaa
