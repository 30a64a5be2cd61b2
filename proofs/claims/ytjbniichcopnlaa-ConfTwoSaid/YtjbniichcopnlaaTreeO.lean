/- Layer 9, in plain Lean: a text with its last token left out. -/
import Derived.Test.YtjbniichcopnlaaTreeLaw
namespace Go.Proofs.Ytjbniichcopnlaa

theorem open_step : ∀ (ts : List Tok) (fs : List FrameL) (it : Option ItemL) (t : Tok) (E E' : Int), fs ≠ [] → (parseT E fs it (ts ++ [t])).err = 0 →
    parseT E' fs it ts = ⟨[], E', 5⟩ ∧ (parseT E fs it (ts ++ [t])).nodes ≠ []
  | [], fs, it, t, E, E', hne, h => by
    rw [List.nil_append] at h ⊢
    rw [parseT] at h ⊢
    cases hst : stepT fs it t with
    | bad e =>
      rw [hst] at h
      exact absurd h (step_bad0 e fs it t hst)
    | fine fs' it' =>
      rw [hst] at h
      simp only [parseT] at h ⊢
      cases it with
      | none =>
        simp only [stepT, beginT] at hst
        by_cases h1 : t.kind = 1
        · rw [if_pos h1] at hst
          injection hst with e1 e2
          subst e1 e2
          rcases fs with _ | ⟨a, _ | ⟨b, c⟩⟩ <;> simp [endT] at h
        · rw [if_neg h1] at hst
          by_cases h4 : t.kind = 4
          · rw [if_pos h4] at hst
            rcases fs with _ | ⟨a, _ | ⟨b, c⟩⟩
            · simp at hst
            · simp at hst
            · injection hst with e1 e2
              subst e1 e2
              rcases c with _ | ⟨d, c⟩
              · exact ⟨rfl, by simp [endT, FrameL.add]⟩
              · simp [endT] at h
          · rw [if_neg h4] at hst; cases hst
      | some i =>
        simp only [stepT, goT] at hst
        refine ⟨by rcases fs with _ | ⟨a, _ | ⟨b, c⟩⟩ <;> rfl, ?_⟩
        by_cases h12 : t.kind = 1 ∨ t.kind = 2
        · rw [if_pos h12] at hst
          by_cases h8 : i.words.length = 8
          · rw [if_pos h8] at hst; cases hst
          · rw [if_neg h8] at hst
            injection hst with e1 e2
            subst e1 e2
            rcases fs with _ | ⟨a, _ | ⟨b, c⟩⟩ <;> simp [endT] at h
        · rw [if_neg h12] at hst
          by_cases h5 : t.kind = 5
          · rw [if_pos h5] at hst
            rcases fs with _ | ⟨a, c⟩
            · exact absurd rfl hne
            · injection hst with e1 e2
              subst e1 e2
              rcases c with _ | ⟨d, c⟩
              · simp [endT, FrameL.add]
              · simp [endT] at h
          · rw [if_neg h5] at hst
            by_cases h3 : t.kind = 3
            · rw [if_pos h3] at hst
              by_cases h7 : fs.length = 7
              · rw [if_pos h7] at hst; cases hst
              · rw [if_neg h7] at hst
                injection hst with e1 e2
                subst e1 e2
                rcases fs with _ | ⟨a, c⟩
                · exact absurd rfl hne
                · simp [endT] at h
            · rw [if_neg h3] at hst; cases hst
  | u :: ts, fs, it, t, E, E', hne, h => by
    rw [List.cons_append, parseT] at h ⊢
    rw [parseT]
    cases hst : stepT fs it u with
    | bad e =>
      rw [hst] at h
      exact absurd h (step_bad0 e fs it u hst)
    | fine fs' it' =>
      rw [hst] at h
      simp only at h ⊢
      exact open_step ts fs' it' t E E' (step_ne hne hst) h
where
  step_ne {fs : List FrameL} {it : Option ItemL} {u : Tok} {fs' : List FrameL} {it' : Option ItemL} (hne : fs ≠ []) (h : stepT fs it u = .fine fs' it') : fs' ≠ [] := by
    cases it with
    | none =>
      simp only [stepT, beginT] at h
      split at h
      · injection h with e1 e2; subst e1; exact hne
      · split at h
        · rcases fs with _ | ⟨a, _ | ⟨b, c⟩⟩
          · cases h
          · cases h
          · injection h with e1 e2; subst e1; simp
        · cases h
    | some i =>
      simp only [stepT, goT] at h
      split at h
      · split at h
        · cases h
        · injection h with e1 e2; subst e1; exact hne
      · split at h
        · rcases fs with _ | ⟨a, c⟩
          · cases h
          · injection h with e1 e2; subst e1; simp
        · split at h
          · split at h
            · cases h
            · injection h with e1 e2; subst e1; simp
          · cases h

theorem open_law (s : Bytes) (hs : s.length ≤ 400) (he : (treeL s).err = 0) : (cutL s).err = 0 ∧ ((cutL s).toks = [] → (treeL s).nodes = []) ∧
    ∀ ts t, (cutL s).toks = ts ++ [t] → ∃ q : Nat, t.pos = (q : Int) ∧ q ≤ s.length ∧ treeL (s.take q) = ⟨[], q, 5⟩ ∧ (treeL s).nodes ≠ [] := by
  obtain ⟨h1, h2⟩ := treeL_err0 s he
  refine ⟨h1, fun h => ?_, fun ts t ht => ?_⟩
  · rw [h2, h]; rfl
  · rw [h2, ht] at he
    have e : ∀ l : Bytes, l.length ≤ 400 → cutL l = cutM false 0 0 0 l := fun l hl => by unfold cutL; rw [if_neg (by omega)]
    have hc := h1
    rw [e s hs] at hc
    have hti : (cutM false 0 0 0 s).toks[ts.length]? = some t := by rw [← e s hs, ht]; simp
    obtain ⟨q, q1, _, q3, q4⟩ := cutM_split false 0 0 0 s ts.length t hc hti
    rw [Nat.zero_add] at q1
    have h5 := q4 [] (.inr (fun c hc => by simp at hc))
    have htk : (cutM false 0 0 0 s).toks.take ts.length = ts := by rw [← e s hs, ht]; simp
    have hn : cutM false 0 (0 + q) (0 + ts.length) [] = ⟨[], 0, 0⟩ := rfl
    rw [List.append_nil, hn, htk] at h5
    have h6 : cutL (s.take q) = ⟨ts, 0, 0⟩ := by
      rw [e _ (by rw [List.length_take]; omega), h5]
      simp [CutRes.pre]
    obtain ⟨p1, p2⟩ := open_step ts [rootF] none t s.length (s.take q).length (by simp) he
    refine ⟨q, q1, q3, ?_, by rw [h2, ht]; exact p2⟩
    unfold treeL
    rw [h6]
    simp only [ne_eq, not_true_eq_false, if_false]
    rw [p1, List.length_take, Nat.min_eq_left q3]

end Go.Proofs.Ytjbniichcopnlaa
