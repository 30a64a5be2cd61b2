import Derived.Test.YtmiejdbpogggeaaFieldNp
import Derived.Test.YtmiejdbpogggeaaPkM
/- Layer 11 (field), in plain Lean: a calendar's block is read as the calendar. -/
set_option linter.unusedVariables false
set_option maxRecDepth 100000
namespace Go.Proofs.Ytmiejdbpogggeaa

theorem day_at : ∀ k : Fin 7, posL days (days.getD k.val []) = (k.val : Int) + 1 := by decide
theorem mon_at : ∀ k : Fin 12, posL mons (mons.getD k.val []) = (k.val : Int) + 1 := by decide
theorem end_at : ∀ k : Fin 6, posL endsL (endsL.getD k.val []) = (k.val : Int) + 1 := by decide
theorem pol_at : ∀ k : Fin 4, posL pols (pols.getD k.val []) = (k.val : Int) + 1 := by decide
theorem shf_at : ∀ k : Fin 2, posL shifts (shifts.getD k.val []) = (k.val : Int) + 1 := by decide
theorem at_of {l : List Bytes} {n : Nat} (h : ∀ k : Fin n, posL l (l.getD k.val []) = (k.val : Int) + 1) (x : Int) (h1 : 1 ≤ x) (h2 : x ≤ n) : placeW l (wS (l.getD (x - 1).toNat [])) = x := by
  have := h ⟨(x - 1).toNat, by omega⟩
  exact this.trans (by show ((x - 1).toNat : Int) + 1 = x; omega)
theorem names_ok : (endsL ++ days ++ mons ++ pols ++ shifts).all nameL = true := by decide
theorem nameAt {l : List Bytes} (h : l.all nameL = true) (k : Nat) (hk : k < l.length) : nameL (l.getD k []) = true := by
  rw [List.getD_eq_getElem?_getD, List.getElem?_eq_getElem hk]
  exact List.all_eq_true.1 h _ (List.getElem_mem hk)
theorem wS_ok {s : Bytes} (h : nameL s = true) : wordOk (wS s) = true := by
  unfold wordOk wS
  simp [h]
theorem wN_ok {k : Int} (h : 0 ≤ k ∧ k ≤ 999999999) : wordOk (wN k) = true := by
  unfold wordOk wN
  simp [h]

/-- A key that may be. -/
structure KidOk (nm : Bytes) (k : NodeL) : Prop where
  key : keysL.contains k.name = true
  blk : k.block = false
  wds : k.words.isEmpty = false
  put : (putK k.name { calZ with name := nm } k.words).2 = true
/-- What is known of the end so far. -/
def endIn (nm : Bytes) (co : Option CalL) (l : List NodeL) : Option CalL := l.foldl (fun c k => if k.name = b_end then some (putK k.name { calZ with name := nm } k.words).1 else c) co
theorem formed_ok (nm : Bytes) : ∀ (l : List NodeL) (seen : List Bytes) (co : Option CalL), (∀ k ∈ l, KidOk nm k) → (seen ++ l.map NodeL.name).Nodup → formedL nm seen co l = .inr (endIn nm co l)
  | [], seen, co, _, _ => rfl
  | k :: r, seen, co, hk, hn => by
    have h := hk k (by simp)
    have hns : seen.contains k.name = false := by
      rw [List.nodup_append] at hn
      cases hc : seen.contains k.name
      · rfl
      · exact absurd rfl (hn.2.2 k.name (by simpa using hc) k.name (by simp))
    rw [formed_go h.key hns (by rw [h.blk, h.wds, h.put]; rfl)]
    rw [formed_ok nm r (seen ++ [k.name]) _ (fun x hx => hk x (by simp [hx])) (by simpa using hn)]
    rfl
theorem fits_ok (kind : Int) : ∀ (l : List NodeL) (seen : List Bytes), (∀ k ∈ l, standsC kind k.name = true) → ¬ (b_periods ∈ seen ++ l.map NodeL.name ∧ b_pay ∈ seen ++ l.map NodeL.name) → fitsL kind seen l = none
  | [], seen, _, _ => rfl
  | k :: r, seen, hs, hp => by
    unfold fitsL
    rw [hs k (by simp)]
    have h2 : ¬ ((k.name = b_periods ∧ b_pay ∈ seen) ∨ (k.name = b_pay ∧ b_periods ∈ seen)) := by
      rintro (⟨h1, h2⟩ | ⟨h1, h2⟩)
      · exact hp ⟨by simp [← h1], by simp [h2]⟩
      · exact hp ⟨by simp [h2], by simp [← h1]⟩
    rw [if_neg (by decide), if_neg h2]
    exact fits_ok kind r (seen ++ [k.name]) (fun x hx => hs x (by simp [hx])) (by simpa using hp)

/-- One key put in. -/
def putF (c : CalL) (k : NodeL) : CalL := if k.name = b_end then c else (keyK k.name c k.words).1
theorem putAll_cons (c : CalL) (k : NodeL) (r : List NodeL) : putAll c (k :: r) = putAll (putF c k) r := rfl
theorem fold_keep {α : Type} (g : CalL → α) (P : Bytes → Prop) (hkeep : ∀ c k, ¬ P k.name → g (putF c k) = g c) : ∀ (l : List NodeL) (c : CalL), (∀ k ∈ l, ¬ P k.name) → g (putAll c l) = g c
  | [], c, _ => rfl
  | k :: r, c, h => by
    rw [putAll_cons, fold_keep g P hkeep r _ (fun x hx => h x (by simp [hx])), hkeep c k (h k (by simp))]
theorem fold_set {α : Type} (g : CalL → α) (P : Bytes → Prop) (hkeep : ∀ c k, ¬ P k.name → g (putF c k) = g c) (v : α) : ∀ (l : List NodeL) (c : CalL), (∃ k ∈ l, P k.name) → (∀ k ∈ l, P k.name → ∀ c, g (putF c k) = v) → g (putAll c l) = v
  | [], c, h, _ => by obtain ⟨k, hk, _⟩ := h; cases hk
  | a :: r, c, h, hs => by
    rw [putAll_cons]
    by_cases hr : ∃ k ∈ r, P k.name
    · exact fold_set g P hkeep v r _ hr (fun k hk => hs k (by simp [hk]))
    · have hn : ∀ k ∈ r, ¬ P k.name := fun k hk hp => hr ⟨k, hk, hp⟩
      rw [fold_keep g P hkeep r _ hn]
      obtain ⟨k, hk, hp⟩ := h
      rcases List.mem_cons.1 hk with rfl | hk
      · exact hs k (by simp) hp c
      · exact absurd hp (hn k hk)
theorem putF_fields (c : CalL) (k : NodeL) : (putF c k).name = c.name ∧ (putF c k).kind = c.kind ∧ (putF c k).day = c.day ∧ (putF c k).month = c.month ∧
    (k.name ≠ b_named → (putF c k).shift = c.shift) ∧ (k.name ≠ b_periods → k.name ≠ b_pay → (putF c k).shape = c.shape) ∧ (k.name ≠ b_periods → (putF c k).p0 = c.p0 ∧ (putF c k).p1 = c.p1 ∧ (putF c k).p2 = c.p2) ∧
    (k.name ≠ b_pay → (putF c k).cycle = c.cycle) ∧ (k.name ≠ b_extra → (putF c k).extra = c.extra) ∧ (k.name ≠ b_serve → (putF c k).first = c.first ∧ (putF c k).last = c.last) := by
  unfold putF
  by_cases h0 : k.name = b_end
  · rw [if_pos h0]; simp
  rw [if_neg h0]
  unfold keyK
  by_cases h1 : k.name = b_periods
  · rw [if_pos h1]
    simp only [h1]
    split
    · split
      · simp
      · split
        · simp
        · simp
    · simp
  rw [if_neg h1]
  by_cases h2 : k.name = b_named
  · rw [if_pos h2]; simp [h2]
  rw [if_neg h2]
  by_cases h3 : k.name = b_pay
  · rw [if_pos h3]; simp [h3]
  rw [if_neg h3]
  by_cases h4 : k.name = b_extra
  · rw [if_pos h4]; simp [h4]
  rw [if_neg h4]
  by_cases h5 : k.name = b_serve
  · rw [if_pos h5]
    split
    · simp [h5]
    · simp
  rw [if_neg h5]
  simp

theorem putF_policy (c : CalL) (k : NodeL) (h : keysL.contains k.name = true) (hn : k.name ≠ b_compare) : (putF c k).policy = c.policy := by
  unfold putF
  by_cases h0 : k.name = b_end
  · rw [if_pos h0]
  rw [if_neg h0]
  unfold keyK
  by_cases h1 : k.name = b_periods
  · rw [if_pos h1]
    split
    · split
      · rfl
      · split
        · rfl
        · rfl
    · rfl
  rw [if_neg h1]
  by_cases h2 : k.name = b_named
  · rw [if_pos h2]
  rw [if_neg h2]
  by_cases h3 : k.name = b_pay
  · rw [if_pos h3]
  rw [if_neg h3]
  by_cases h4 : k.name = b_extra
  · rw [if_pos h4]
  rw [if_neg h4]
  by_cases h5 : k.name = b_serve
  · rw [if_pos h5]
    split <;> rfl
  exfalso
  simp only [keysL, List.contains_cons, Bool.or_eq_true, beq_iff_eq, List.contains_nil, Bool.false_eq_true, or_false] at h
  rcases h with h | h | h | h | h | h | h
  · exact h0 h
  · exact h1 h
  · exact h2 h
  · exact h3 h
  · exact h4 h
  · exact h5 h
  · exact hn h
/-- An item of the block, up to its place. -/
def KidOf (c : CalL) (k : NodeL) : Prop := ∃ k0 ∈ kidsC c, k.name = k0.name ∧ k.words = k0.words ∧ k.block = false ∧ k.kids = []
theorem mem_kids (c : CalL) (k : NodeL) : k ∈ kidsC c ↔ k = itemL b_end (saysC c) [] ∨ (standsC c.kind b_named = true ∧ k = itemL b_named [shifts.getD c.shift.toNat []] []) ∨
    (standsC c.kind b_extra = true ∧ ((c.shape = 1 ∧ k = itemL b_periods [] [c.p0, c.p1, c.p2]) ∨ (c.shape = 2 ∧ k = itemL b_periods [] [4]) ∨ (c.shape = 3 ∧ k = itemL b_pay [] [c.cycle]) ∨ k = itemL b_extra [] [c.extra])) ∨
    k = itemL b_serve [] [c.first, c.last] ∨ k = itemL b_compare [pols.getD (c.policy - 1).toNat []] [] := by
  unfold kidsC endI namedI extraI serveI shapeC
  by_cases h1 : c.shape = 1
  · cases standsC c.kind b_named <;> cases standsC c.kind b_extra <;> simp [h1, or_assoc]
  · by_cases h2 : c.shape = 2
    · cases standsC c.kind b_named <;> cases standsC c.kind b_extra <;> simp [h2, or_assoc]
    · by_cases h3 : c.shape = 3
      · cases standsC c.kind b_named <;> cases standsC c.kind b_extra <;> simp [h3, or_assoc]
      · cases standsC c.kind b_named <;> cases standsC c.kind b_extra <;> simp [h1, h2, h3]
theorem ne_keys : b_end ≠ b_named ∧ b_end ≠ b_periods ∧ b_end ≠ b_pay ∧ b_end ≠ b_extra ∧ b_end ≠ b_serve ∧ b_end ≠ b_compare ∧ b_named ≠ b_periods ∧ b_named ≠ b_pay ∧ b_named ≠ b_extra ∧ b_named ≠ b_serve ∧ b_named ≠ b_compare ∧
    b_periods ≠ b_pay ∧ b_periods ≠ b_extra ∧ b_periods ≠ b_serve ∧ b_periods ≠ b_compare ∧ b_pay ≠ b_extra ∧ b_pay ≠ b_serve ∧ b_pay ≠ b_compare ∧ b_extra ≠ b_serve ∧ b_extra ≠ b_compare ∧ b_serve ≠ b_compare := by decide
theorem itemL_name (nm : Bytes) (a : List Bytes) (b : List Int) : (itemL nm a b).name = nm := rfl
theorem itemL_words (nm : Bytes) (a : List Bytes) (b : List Int) : (itemL nm a b).words = a.map wS ++ b.map wN := rfl
/-- What each key of the block says. -/
structure KidSays (c : CalL) (k : NodeL) : Prop where
  any : keysL.contains k.name = true
  blk : k.block = false
  stands : standsC c.kind k.name = true
  end_ : k.name = b_end → k.words = (saysC c).map wS
  named : k.name = b_named → k.words = [wS (shifts.getD c.shift.toNat [])]
  periods : k.name = b_periods → (c.shape = 1 ∧ k.words = [wN c.p0, wN c.p1, wN c.p2]) ∨ (c.shape = 2 ∧ k.words = [wN 4])
  pay : k.name = b_pay → c.shape = 3 ∧ k.words = [wN c.cycle]
  extra : k.name = b_extra → k.words = [wN c.extra]
  serve : k.name = b_serve → k.words = [wN c.first, wN c.last]
  compare : k.name = b_compare → k.words = [wS (pols.getD (c.policy - 1).toNat [])]
theorem stands_same (k : Int) : standsC k b_periods = standsC k b_extra ∧ standsC k b_pay = standsC k b_extra ∧ standsC k b_end = true ∧ standsC k b_serve = true ∧ standsC k b_compare = true := ⟨rfl, rfl, rfl, rfl, rfl⟩
theorem kid_says (c : CalL) (k : NodeL) (h : KidOf c k) : KidSays c k := by
  obtain ⟨k0, hk0, hn, hw, hb, _⟩ := h
  obtain ⟨n1, n2, n3, n4, n5, n6, n7, n8, n9, n10, n11, n12, n13, n14, n15, n16, n17, n18, n19, n20, n21⟩ := ne_keys
  obtain ⟨s1, s2, s3, s4, s5⟩ := stands_same c.kind
  rw [mem_kids] at hk0
  rcases hk0 with rfl | ⟨hs, rfl⟩ | ⟨hs, ⟨hc, rfl⟩ | ⟨hc, rfl⟩ | ⟨hc, rfl⟩ | rfl⟩ | rfl | rfl <;> (
    rw [itemL_name] at hn
    rw [itemL_words] at hw
    constructor <;> (first
      | exact hb
      | (rw [hn]; first | rfl | assumption | (rw [s1]; assumption) | (rw [s2]; assumption))
      | (intro e; rw [hn] at e; first | exact absurd e (by assumption) | exact absurd e.symm (by assumption) | exact .inl ⟨hc, hw⟩ | exact .inr ⟨hc, hw⟩ | exact ⟨hc, hw⟩ | (rw [hw]; simp; done))))

end Go.Proofs.Ytmiejdbpogggeaa
