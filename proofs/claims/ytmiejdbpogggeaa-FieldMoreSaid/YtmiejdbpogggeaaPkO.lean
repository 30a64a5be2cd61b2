import Derived.Test.YtmiejdbpogggeaaPkN
import Derived.Test.YtmiejdbpogggeaaPkM
import Derived.Test.YtmiejdbpogggeaaPkF
section
/- Layer 11 (field): Node of a calendar that may not be; Node whole. -/
set_option linter.unusedVariables false
set_option linter.unusedSimpArgs false
set_option maxRecDepth 100000
namespace Go.Proofs.Ytmiejdbpogggeaa
open Go.RowKit

set_option maxHeartbeats 4000000 in
theorem field_Node_no (c : CalL) (hok : okC c = false) (hl : c.name.length ≤ maxLen) (w : World) : Calls Try.prog 18 #[calV c] w fun e w' =>
    e = .returned (.tuple #[.agg #[.string ⟨#[]⟩, .int .i64 0, .slice none 0 0, .bool false, .slice none 0 0], .int .i64 1]) ∧ Below w.heap.size w w' := by
  have HCH := Lib.hid (fun W => field_Check c hl W)
  have hec : errC c = 1 := by unfold errC; rw [hok]; rfl
  rw [hec] at HCH
  clear hec hok hl
  obtain ⟨nm, kind, day, month, shift, shape, p0, p1, p2, cycle, extra, first, last, policy⟩ := c
  dsimp only [calV] at HCH
  dsimp only [calV]
  go_enter Try.func18, Try.ntmps18
  go_wp2_with fail
  refine (HCH.out _).mono ?_
  rintro e w1 ⟨rfl, hb1⟩
  have h2 : NodeBlk w1 (w.heap.size + 1) [] 0 (.slice none 0 0) false (.slice none 0 0) := by
    refine NodeBlk.keep (w := (w.alloc (.cells #[.string ⟨nm.toArray⟩, .int .i64 kind, .int .i64 day, .int .i64 month, .int .i64 shift, .int .i64 shape, .int .i64 p0, .int .i64 p1, .int .i64 p2, .int .i64 cycle, .int .i64 extra, .int .i64 first, .int .i64 last, .int .i64 policy] 30)).alloc (.cells #[.string ⟨#[]⟩, .int .i64 0, .slice none 0 0, .bool false, .slice none 0 0] 25)) ?_ hb1
    have := heap_alloc_new (w.alloc (.cells #[.string ⟨nm.toArray⟩, .int .i64 kind, .int .i64 day, .int .i64 month, .int .i64 shift, .int .i64 shape, .int .i64 p0, .int .i64 p1, .int .i64 p2, .int .i64 cycle, .int .i64 extra, .int .i64 first, .int .i64 last, .int .i64 policy] 30)) (.cells #[.string ⟨#[]⟩, .int .i64 0, .slice none 0 0, .bool false, .slice none 0 0] 25)
    simpa [NodeBlk] using this
  have hbw : Below w.heap.size w w1 := by
    refine Below.trans (b := (w.alloc (.cells #[.string ⟨nm.toArray⟩, .int .i64 kind, .int .i64 day, .int .i64 month, .int .i64 shift, .int .i64 shape, .int .i64 p0, .int .i64 p1, .int .i64 p2, .int .i64 cycle, .int .i64 extra, .int .i64 first, .int .i64 last, .int .i64 policy] 30)).alloc (.cells #[.string ⟨#[]⟩, .int .i64 0, .slice none 0 0, .bool false, .slice none 0 0] 25)) ?_ (hb1.mono (by simp; omega))
    (repeat (first | exact Below.refl _ _ | assumption | refine Below.setCell ?_ (by first | (simp; done) | (simp; omega) | omega) _ | refine Below.alloc ?_ (by first | (simp; done) | (simp; omega) | omega) _ | refine Below.drew ?_ | refine below_drewN ?_ _ | refine Below.trans ?_ (Below.mono (by assumption) (by first | (simp; done) | (simp; omega) | omega))))
  have q0 := Joins.unfrozen_of_block h2 0
  have q1 := Joins.unfrozen_of_block h2 1
  have q2 := Joins.unfrozen_of_block h2 2
  have q3 := Joins.unfrozen_of_block h2 3
  have q4 := Joins.unfrozen_of_block h2 4
  have p0' := Joins.cell_of_block h2 0
  have p1' := Joins.cell_of_block h2 1
  have p2' := Joins.cell_of_block h2 2
  have p3' := Joins.cell_of_block h2 3
  have p4' := Joins.cell_of_block h2 4
  have HB := Lib.hid hbw
  clear hb1 h2 hbw
  go_wp2_with fail
  refine bodyPost_ret (v := .tuple #[.agg #[.string ⟨#[]⟩, .int .i64 0, .slice none 0 0, .bool false, .slice none 0 0], .int .i64 1]) (by simp [results, Try.results18, go_sem, *]) rfl ⟨rfl, ?_⟩
  have e : w.heap.size ≤ w.heap.size + 1 := by omega
  exact ((((HB.out.setCell e _).setCell e _).setCell e _).setCell e _).setCell e _

end Go.Proofs.Ytmiejdbpogggeaa
end

section
/- Layer 11 (field), in plain Lean: a calendar's block is read as the calendar. -/
set_option linter.unusedVariables false
set_option maxRecDepth 100000
namespace Go.Proofs.Ytmiejdbpogggeaa

theorem day_at : ∀ k : Fin 7, posL days (days.getD k.val []) = (k.val : Int) + 1 := by decide
theorem mon_at : ∀ k : Fin 12, posL mons (mons.getD k.val []) = (k.val : Int) + 1 := by decide
theorem end_at : ∀ k : Fin 6, posL endsL (endsL.getD k.val []) = (k.val : Int) + 1 := by decide
theorem pol_at : ∀ k : Fin 4, posL pols (pols.getD k.val []) = (k.val : Int) + 1 := by decide
theorem shf_at : ∀ k : Fin 2, posL shifts (shifts.getD k.val []) = (k.val : Int) + 1 := by decide
theorem at_of {l : List Bytes} {n : Nat} (h : ∀ k : Fin n, posL l (l.getD k.val []) = (k.val : Int) + 1) (x : Int) (h1 : 1 ≤ x) (h2 : x ≤ n) : placeW l (wS (l.getD (x - 1).toNat [])) = x := by
  have := h ⟨(x - 1).toNat, by omega⟩
  exact this.trans (by show ((x - 1).toNat : Int) + 1 = x; omega)
theorem names_ok : (endsL ++ days ++ mons ++ pols ++ shifts).all nameL = true := by decide
theorem nameAt {l : List Bytes} (h : l.all nameL = true) (k : Nat) (hk : k < l.length) : nameL (l.getD k []) = true := by
  rw [List.getD_eq_getElem?_getD, List.getElem?_eq_getElem hk]
  exact List.all_eq_true.1 h _ (List.getElem_mem hk)
theorem wS_ok {s : Bytes} (h : nameL s = true) : wordOk (wS s) = true := by
  unfold wordOk wS
  simp [h]
theorem wN_ok {k : Int} (h : 0 ≤ k ∧ k ≤ 999999999) : wordOk (wN k) = true := by
  unfold wordOk wN
  simp [h]

/-- A key that may be. -/
structure KidOk (nm : Bytes) (k : NodeL) : Prop where
  key : keysL.contains k.name = true
  blk : k.block = false
  wds : k.words.isEmpty = false
  put : (putK k.name { calZ with name := nm } k.words).2 = true
/-- What is known of the end so far. -/
def endIn (nm : Bytes) (co : Option CalL) (l : List NodeL) : Option CalL := l.foldl (fun c k => if k.name = b_end then some (putK k.name { calZ with name := nm } k.words).1 else c) co
theorem formed_ok (nm : Bytes) : ∀ (l : List NodeL) (seen : List Bytes) (co : Option CalL), (∀ k ∈ l, KidOk nm k) → (seen ++ l.map NodeL.name).Nodup → formedL nm seen co l = .inr (endIn nm co l)
  | [], seen, co, _, _ => rfl
  | k :: r, seen, co, hk, hn => by
    have h := hk k (by simp)
    have hns : seen.contains k.name = false := by
      rw [List.nodup_append] at hn
      cases hc : seen.contains k.name
      · rfl
      · exact absurd rfl (hn.2.2 k.name (by simpa using hc) k.name (by simp))
    rw [formed_go h.key hns (by rw [h.blk, h.wds, h.put]; rfl)]
    rw [formed_ok nm r (seen ++ [k.name]) _ (fun x hx => hk x (by simp [hx])) (by simpa using hn)]
    rfl
theorem fits_ok (kind : Int) : ∀ (l : List NodeL) (seen : List Bytes), (∀ k ∈ l, standsC kind k.name = true) → ¬ (b_periods ∈ seen ++ l.map NodeL.name ∧ b_pay ∈ seen ++ l.map NodeL.name) → fitsL kind seen l = none
  | [], seen, _, _ => rfl
  | k :: r, seen, hs, hp => by
    unfold fitsL
    rw [hs k (by simp)]
    have h2 : ¬ ((k.name = b_periods ∧ b_pay ∈ seen) ∨ (k.name = b_pay ∧ b_periods ∈ seen)) := by
      rintro (⟨h1, h2⟩ | ⟨h1, h2⟩)
      · exact hp ⟨by simp [← h1], by simp [h2]⟩
      · exact hp ⟨by simp [h2], by simp [← h1]⟩
    rw [if_neg (by decide), if_neg h2]
    exact fits_ok kind r (seen ++ [k.name]) (fun x hx => hs x (by simp [hx])) (by simpa using hp)

/-- One key put in. -/
def putF (c : CalL) (k : NodeL) : CalL := if k.name = b_end then c else (keyK k.name c k.words).1
theorem putAll_cons (c : CalL) (k : NodeL) (r : List NodeL) : putAll c (k :: r) = putAll (putF c k) r := rfl
theorem fold_keep {α : Type} (g : CalL → α) (P : Bytes → Prop) (hkeep : ∀ c k, ¬ P k.name → g (putF c k) = g c) : ∀ (l : List NodeL) (c : CalL), (∀ k ∈ l, ¬ P k.name) → g (putAll c l) = g c
  | [], c, _ => rfl
  | k :: r, c, h => by
    rw [putAll_cons, fold_keep g P hkeep r _ (fun x hx => h x (by simp [hx])), hkeep c k (h k (by simp))]
theorem fold_set {α : Type} (g : CalL → α) (P : Bytes → Prop) (hkeep : ∀ c k, ¬ P k.name → g (putF c k) = g c) (v : α) : ∀ (l : List NodeL) (c : CalL), (∃ k ∈ l, P k.name) → (∀ k ∈ l, P k.name → ∀ c, g (putF c k) = v) → g (putAll c l) = v
  | [], c, h, _ => by obtain ⟨k, hk, _⟩ := h; cases hk
  | a :: r, c, h, hs => by
    rw [putAll_cons]
    by_cases hr : ∃ k ∈ r, P k.name
    · exact fold_set g P hkeep v r _ hr (fun k hk => hs k (by simp [hk]))
    · have hn : ∀ k ∈ r, ¬ P k.name := fun k hk hp => hr ⟨k, hk, hp⟩
      rw [fold_keep g P hkeep r _ hn]
      obtain ⟨k, hk, hp⟩ := h
      rcases List.mem_cons.1 hk with rfl | hk
      · exact hs k (by simp) hp c
      · exact absurd hp (hn k hk)
theorem putF_fields (c : CalL) (k : NodeL) : (putF c k).name = c.name ∧ (putF c k).kind = c.kind ∧ (putF c k).day = c.day ∧ (putF c k).month = c.month ∧
    (k.name ≠ b_named → (putF c k).shift = c.shift) ∧ (k.name ≠ b_periods → k.name ≠ b_pay → (putF c k).shape = c.shape) ∧ (k.name ≠ b_periods → (putF c k).p0 = c.p0 ∧ (putF c k).p1 = c.p1 ∧ (putF c k).p2 = c.p2) ∧
    (k.name ≠ b_pay → (putF c k).cycle = c.cycle) ∧ (k.name ≠ b_extra → (putF c k).extra = c.extra) ∧ (k.name ≠ b_serve → (putF c k).first = c.first ∧ (putF c k).last = c.last) := by
  unfold putF
  by_cases h0 : k.name = b_end
  · rw [if_pos h0]; simp
  rw [if_neg h0]
  unfold keyK
  by_cases h1 : k.name = b_periods
  · rw [if_pos h1]
    simp only [h1]
    split
    · split
      · simp
      · split
        · simp
        · simp
    · simp
  rw [if_neg h1]
  by_cases h2 : k.name = b_named
  · rw [if_pos h2]; simp [h2]
  rw [if_neg h2]
  by_cases h3 : k.name = b_pay
  · rw [if_pos h3]; simp [h3]
  rw [if_neg h3]
  by_cases h4 : k.name = b_extra
  · rw [if_pos h4]; simp [h4]
  rw [if_neg h4]
  by_cases h5 : k.name = b_serve
  · rw [if_pos h5]
    split
    · simp [h5]
    · simp
  rw [if_neg h5]
  simp

theorem putF_policy (c : CalL) (k : NodeL) (h : keysL.contains k.name = true) (hn : k.name ≠ b_compare) : (putF c k).policy = c.policy := by
  unfold putF
  by_cases h0 : k.name = b_end
  · rw [if_pos h0]
  rw [if_neg h0]
  unfold keyK
  by_cases h1 : k.name = b_periods
  · rw [if_pos h1]
    split
    · split
      · rfl
      · split
        · rfl
        · rfl
    · rfl
  rw [if_neg h1]
  by_cases h2 : k.name = b_named
  · rw [if_pos h2]
  rw [if_neg h2]
  by_cases h3 : k.name = b_pay
  · rw [if_pos h3]
  rw [if_neg h3]
  by_cases h4 : k.name = b_extra
  · rw [if_pos h4]
  rw [if_neg h4]
  by_cases h5 : k.name = b_serve
  · rw [if_pos h5]
    split <;> rfl
  exfalso
  simp only [keysL, List.contains_cons, Bool.or_eq_true, beq_iff_eq, List.contains_nil, Bool.false_eq_true, or_false] at h
  rcases h with h | h | h | h | h | h | h
  · exact h0 h
  · exact h1 h
  · exact h2 h
  · exact h3 h
  · exact h4 h
  · exact h5 h
  · exact hn h
/-- An item of the block, up to its place. -/
def KidOf (c : CalL) (k : NodeL) : Prop := ∃ k0 ∈ kidsC c, k.name = k0.name ∧ k.words = k0.words ∧ k.block = false ∧ k.kids = []
theorem mem_kids (c : CalL) (k : NodeL) : k ∈ kidsC c ↔ k = itemL b_end (saysC c) [] ∨ (standsC c.kind b_named = true ∧ k = itemL b_named [shifts.getD c.shift.toNat []] []) ∨
    (standsC c.kind b_extra = true ∧ ((c.shape = 1 ∧ k = itemL b_periods [] [c.p0, c.p1, c.p2]) ∨ (c.shape = 2 ∧ k = itemL b_periods [] [4]) ∨ (c.shape = 3 ∧ k = itemL b_pay [] [c.cycle]) ∨ k = itemL b_extra [] [c.extra])) ∨
    k = itemL b_serve [] [c.first, c.last] ∨ k = itemL b_compare [pols.getD (c.policy - 1).toNat []] [] := by
  unfold kidsC endI namedI extraI serveI shapeC
  by_cases h1 : c.shape = 1
  · cases standsC c.kind b_named <;> cases standsC c.kind b_extra <;> simp [h1, or_assoc]
  · by_cases h2 : c.shape = 2
    · cases standsC c.kind b_named <;> cases standsC c.kind b_extra <;> simp [h2, or_assoc]
    · by_cases h3 : c.shape = 3
      · cases standsC c.kind b_named <;> cases standsC c.kind b_extra <;> simp [h3, or_assoc]
      · cases standsC c.kind b_named <;> cases standsC c.kind b_extra <;> simp [h1, h2, h3]
theorem ne_keys : b_end ≠ b_named ∧ b_end ≠ b_periods ∧ b_end ≠ b_pay ∧ b_end ≠ b_extra ∧ b_end ≠ b_serve ∧ b_end ≠ b_compare ∧ b_named ≠ b_periods ∧ b_named ≠ b_pay ∧ b_named ≠ b_extra ∧ b_named ≠ b_serve ∧ b_named ≠ b_compare ∧
    b_periods ≠ b_pay ∧ b_periods ≠ b_extra ∧ b_periods ≠ b_serve ∧ b_periods ≠ b_compare ∧ b_pay ≠ b_extra ∧ b_pay ≠ b_serve ∧ b_pay ≠ b_compare ∧ b_extra ≠ b_serve ∧ b_extra ≠ b_compare ∧ b_serve ≠ b_compare := by decide
theorem itemL_name (nm : Bytes) (a : List Bytes) (b : List Int) : (itemL nm a b).name = nm := rfl
theorem itemL_words (nm : Bytes) (a : List Bytes) (b : List Int) : (itemL nm a b).words = a.map wS ++ b.map wN := rfl
/-- What each key of the block says. -/
structure KidSays (c : CalL) (k : NodeL) : Prop where
  any : keysL.contains k.name = true
  blk : k.block = false
  stands : standsC c.kind k.name = true
  end_ : k.name = b_end → k.words = (saysC c).map wS
  named : k.name = b_named → k.words = [wS (shifts.getD c.shift.toNat [])]
  periods : k.name = b_periods → (c.shape = 1 ∧ k.words = [wN c.p0, wN c.p1, wN c.p2]) ∨ (c.shape = 2 ∧ k.words = [wN 4])
  pay : k.name = b_pay → c.shape = 3 ∧ k.words = [wN c.cycle]
  extra : k.name = b_extra → k.words = [wN c.extra]
  serve : k.name = b_serve → k.words = [wN c.first, wN c.last]
  compare : k.name = b_compare → k.words = [wS (pols.getD (c.policy - 1).toNat [])]
theorem stands_same (k : Int) : standsC k b_periods = standsC k b_extra ∧ standsC k b_pay = standsC k b_extra ∧ standsC k b_end = true ∧ standsC k b_serve = true ∧ standsC k b_compare = true := ⟨rfl, rfl, rfl, rfl, rfl⟩
theorem kid_says (c : CalL) (k : NodeL) (h : KidOf c k) : KidSays c k := by
  obtain ⟨k0, hk0, hn, hw, hb, _⟩ := h
  obtain ⟨n1, n2, n3, n4, n5, n6, n7, n8, n9, n10, n11, n12, n13, n14, n15, n16, n17, n18, n19, n20, n21⟩ := ne_keys
  obtain ⟨s1, s2, s3, s4, s5⟩ := stands_same c.kind
  rw [mem_kids] at hk0
  rcases hk0 with rfl | ⟨hs, rfl⟩ | ⟨hs, ⟨hc, rfl⟩ | ⟨hc, rfl⟩ | ⟨hc, rfl⟩ | rfl⟩ | rfl | rfl <;> (
    rw [itemL_name] at hn
    rw [itemL_words] at hw
    constructor <;> (first
      | exact hb
      | (rw [hn]; first | rfl | assumption | (rw [s1]; assumption) | (rw [s2]; assumption))
      | (intro e; rw [hn] at e; first | exact absurd e (by assumption) | exact absurd e.symm (by assumption) | exact .inl ⟨hc, hw⟩ | exact .inr ⟨hc, hw⟩ | exact ⟨hc, hw⟩ | (rw [hw]; simp; done))))

end Go.Proofs.Ytmiejdbpogggeaa
end

section
/- Layer 11 (field), in plain Lean: a calendar's block is read as the calendar: the end, the other keys. -/
set_option linter.unusedVariables false
set_option maxRecDepth 100000
namespace Go.Proofs.Ytmiejdbpogggeaa

/-- What the end of a calendar says. -/
def endCal (nm : Bytes) (c : CalL) : CalL :=
  if c.kind = 3 then { nrfC with name := nm } else if c.kind = 4 then { broadC with name := nm } else if c.kind = 5 then { calZ with name := nm, kind := 5, day := 7, month := 12 }
  else if c.kind = 6 then { calZ with name := nm, kind := 6, shape := 5, month := c.month } else { calZ with name := nm, kind := c.kind, day := c.day, month := c.month }
theorem endK_says (nm : Bytes) (c : CalL) (h : NodeFit c) : endK nm ((saysC c).map wS) = (endCal nm c, true) := by
  obtain ⟨k1, k6, hday, hmon, _, _⟩ := h
  have hm := at_of mon_at c.month hmon.1 hmon.2
  have hk : c.kind = 1 ∨ c.kind = 2 ∨ c.kind = 3 ∨ c.kind = 4 ∨ c.kind = 5 ∨ c.kind = 6 := by omega
  have e3 : ∀ a b d : Bytes, ([a, b, d].map wS).getD 1 ⟨false, 0, [], 0⟩ = wS b ∧ ([a, b, d].map wS).getD 2 ⟨false, 0, [], 0⟩ = wS d ∧ ([a, b, d].map wS).headD ⟨false, 0, [], 0⟩ = wS a ∧ ([a, b, d].map wS).length = 3 := fun _ _ _ => ⟨rfl, rfl, rfl, rfl⟩
  have e2 : ∀ a b : Bytes, ([a, b].map wS).getD 1 ⟨false, 0, [], 0⟩ = wS b ∧ ([a, b].map wS).headD ⟨false, 0, [], 0⟩ = wS a ∧ ([a, b].map wS).length = 2 := fun _ _ => ⟨rfl, rfl, rfl⟩
  have e1 : ∀ a : Bytes, ([a].map wS).headD ⟨false, 0, [], 0⟩ = wS a ∧ ([a].map wS).length = 1 := fun _ => ⟨rfl, rfl⟩
  have hE := at_of end_at c.kind k1 k6
  rcases hk with hk | hk | hk | hk | hk | hk
  · have hs : saysC c = [endsL.getD (c.kind - 1).toNat [], days.getD (c.day - 1).toNat [], mons.getD (c.month - 1).toNat []] := by unfold saysC; rw [hk]; rfl
    have hd := at_of day_at c.day (hday (.inl hk)).1 (hday (.inl hk)).2
    obtain ⟨a1, a2, a3, a4⟩ := e3 (endsL.getD (c.kind - 1).toNat []) (days.getD (c.day - 1).toNat []) (mons.getD (c.month - 1).toNat [])
    rw [hs, endK_eq nm _ c.kind (by rw [a3]; exact hE)]
    unfold endB endCal fixedC
    rw [a1, a2, a4, hd, hm, hk]
    simp; omega
  · have hs : saysC c = [endsL.getD (c.kind - 1).toNat [], days.getD (c.day - 1).toNat [], mons.getD (c.month - 1).toNat []] := by unfold saysC; rw [hk]; rfl
    have hd := at_of day_at c.day (hday (.inr hk)).1 (hday (.inr hk)).2
    obtain ⟨a1, a2, a3, a4⟩ := e3 (endsL.getD (c.kind - 1).toNat []) (days.getD (c.day - 1).toNat []) (mons.getD (c.month - 1).toNat [])
    rw [hs, endK_eq nm _ c.kind (by rw [a3]; exact hE)]
    unfold endB endCal fixedC
    rw [a1, a2, a4, hd, hm, hk]
    simp; omega
  · have hs : saysC c = [endsL.getD (c.kind - 1).toNat []] := by unfold saysC; rw [hk]; rfl
    obtain ⟨a1, a2⟩ := e1 (endsL.getD (c.kind - 1).toNat [])
    rw [hs, endK_eq nm _ c.kind (by rw [a1]; exact hE)]
    unfold endB endCal fixedC
    rw [a2, hk]
    rfl
  · have hs : saysC c = [endsL.getD (c.kind - 1).toNat []] := by unfold saysC; rw [hk]; rfl
    obtain ⟨a1, a2⟩ := e1 (endsL.getD (c.kind - 1).toNat [])
    rw [hs, endK_eq nm _ c.kind (by rw [a1]; exact hE)]
    unfold endB endCal fixedC
    rw [a2, hk]
    rfl
  · have hs : saysC c = [endsL.getD (c.kind - 1).toNat []] := by unfold saysC; rw [hk]; rfl
    obtain ⟨a1, a2⟩ := e1 (endsL.getD (c.kind - 1).toNat [])
    rw [hs, endK_eq nm _ c.kind (by rw [a1]; exact hE)]
    unfold endB endCal fixedC
    rw [a2, hk]
    rfl
  · have hs : saysC c = [endsL.getD (c.kind - 1).toNat [], mons.getD (c.month - 1).toNat []] := by unfold saysC; rw [hk]; rfl
    obtain ⟨a1, a2, a3⟩ := e2 (endsL.getD (c.kind - 1).toNat []) (mons.getD (c.month - 1).toNat [])
    rw [hs, endK_eq nm _ c.kind (by rw [a2]; exact hE)]
    unfold endB endCal fixedC
    rw [a1, a3, hm, hk]
    simp; omega

theorem fold_same {α : Type} (g : CalL → α) : ∀ (l : List NodeL) (c : CalL), (∀ k ∈ l, ∀ c, g (putF c k) = g c) → g (putAll c l) = g c
  | [], c, _ => rfl
  | k :: r, c, h => by rw [putAll_cons, fold_same g r _ (fun x hx => h x (by simp [hx])), h k (by simp)]

theorem putF_named {k : NodeL} {s : Int} (h : k.name = b_named) (hw : k.words = [wS (shifts.getD s.toNat [])]) (h0 : 0 ≤ s) (h1 : s ≤ 1) (c : CalL) : (putF c k).shift = s := by
  have hp := at_of shf_at (s + 1) (by omega) (by omega)
  rw [show s + 1 - 1 = s by omega] at hp
  unfold putF
  rw [if_neg (by rw [h]; decide), h, hw]
  show placeW shifts (wS (shifts.getD s.toNat [])) - 1 = s
  rw [hp]; omega
theorem putF_periods3 {k : NodeL} {a b d : Int} (h : k.name = b_periods) (hw : k.words = [wN a, wN b, wN d]) (c : CalL) : (putF c k).shape = 1 ∧ (putF c k).p0 = a ∧ (putF c k).p1 = b ∧ (putF c k).p2 = d := by
  unfold putF
  rw [if_neg (by rw [h]; decide), h, hw]
  exact ⟨rfl, rfl, rfl, rfl⟩
theorem putF_periods1 {k : NodeL} (h : k.name = b_periods) (hw : k.words = [wN 4]) (c : CalL) : (putF c k).shape = 2 ∧ (putF c k).p0 = c.p0 ∧ (putF c k).p1 = c.p1 ∧ (putF c k).p2 = c.p2 := by
  unfold putF
  rw [if_neg (by rw [h]; decide), h, hw]
  exact ⟨rfl, rfl, rfl, rfl⟩
theorem putF_pay {k : NodeL} {a : Int} (h : k.name = b_pay) (hw : k.words = [wN a]) (c : CalL) : (putF c k).shape = 3 ∧ (putF c k).cycle = a := by
  unfold putF
  rw [if_neg (by rw [h]; decide), h, hw]
  exact ⟨rfl, rfl⟩
theorem putF_extra {k : NodeL} {a : Int} (h : k.name = b_extra) (hw : k.words = [wN a]) (c : CalL) : (putF c k).extra = a := by
  unfold putF
  rw [if_neg (by rw [h]; decide), h, hw]
  rfl
theorem putF_serve {k : NodeL} {a b : Int} (h : k.name = b_serve) (hw : k.words = [wN a, wN b]) (c : CalL) : (putF c k).first = a ∧ (putF c k).last = b := by
  unfold putF
  rw [if_neg (by rw [h]; decide), h, hw]
  exact ⟨rfl, rfl⟩
theorem putF_compare {k : NodeL} {p : Int} (h : k.name = b_compare) (hw : k.words = [wS (pols.getD (p - 1).toNat [])]) (h1 : 1 ≤ p) (h4 : p ≤ 4) (c : CalL) : (putF c k).policy = p := by
  have hp := at_of pol_at p h1 h4
  unfold putF
  rw [if_neg (by rw [h]; decide), h, hw]
  show placeW pols (wS (pols.getD (p - 1).toNat [])) = p
  exact hp

/-- What a calendar that may be is, by its kind. -/
theorem cal_kinds (c : CalL) (hok : okC c = true) :
    (c.kind = 3 ∧ c = { nrfC with name := c.name, first := c.first, last := c.last, policy := c.policy }) ∨ (c.kind = 4 ∧ c = { broadC with name := c.name, first := c.first, last := c.last, policy := c.policy }) ∨
    ((c.kind = 1 ∨ c.kind = 2) ∧ weeksC c = true) ∨ (c.kind = 5 ∧ c.day = 7 ∧ c.month = 12 ∧ c.shift = 0 ∧ weeksC c = true) ∨
    (c.kind = 6 ∧ c.day = 0 ∧ c.shape = 5 ∧ c.p0 = 0 ∧ c.p1 = 0 ∧ c.p2 = 0 ∧ c.cycle = 0 ∧ c.extra = 0) := by
  unfold okC at hok
  simp only [Bool.and_eq_true] at hok
  obtain ⟨⟨⟨_, _⟩, _⟩, hr⟩ := hok
  unfold ruledC fixedC at hr
  by_cases h3 : c.kind = 3
  · rw [if_pos h3] at hr
    exact .inl ⟨h3, of_decide_eq_true hr⟩
  rw [if_neg h3] at hr
  by_cases h4 : c.kind = 4
  · rw [if_pos h4] at hr
    exact .inr (.inl ⟨h4, of_decide_eq_true hr⟩)
  rw [if_neg h4] at hr
  dsimp only at hr
  split at hr
  · simp at hr
  · split at hr
    · next hk =>
      simp only [Bool.and_eq_true] at hr
      exact .inr (.inr (.inl ⟨hk, hr.2⟩))
    · split at hr
      · next hk =>
        simp only [Bool.and_eq_true, decide_eq_true_eq] at hr
        exact .inr (.inr (.inr (.inl ⟨hk, hr.1.1.1, hr.1.1.2, hr.1.2, hr.2⟩)))
      · split at hr
        · next hk =>
          simp only [Bool.and_eq_true, decide_eq_true_eq, patZ] at hr
          exact .inr (.inr (.inr (.inr ⟨hk, hr.1.1.1.1, hr.1.1.1.2, hr.1.1.2.1.1, hr.1.1.2.1.2, hr.1.1.2.2, hr.1.2, hr.2⟩)))
        · simp at hr
theorem weeks_kinds (c : CalL) (h : weeksC c = true) :
    (1 ≤ c.extra ∧ c.extra ≤ 52) ∧ ((c.shape = 1 ∧ patOk c.p0 c.p1 c.p2 = true ∧ c.cycle = 0) ∨ (c.shape = 2 ∧ c.p0 = 0 ∧ c.p1 = 0 ∧ c.p2 = 0 ∧ c.cycle = 0) ∨ (c.shape = 3 ∧ c.p0 = 0 ∧ c.p1 = 0 ∧ c.p2 = 0 ∧ cycOk c.cycle = true)) := by
  unfold weeksC at h
  by_cases h1 : c.shape = 1
  · rw [if_pos h1] at h
    simp only [Bool.and_eq_true, decide_eq_true_eq, tween] at h
    have hm : manyC c.shape c.cycle = 12 := by unfold manyC; rw [if_neg (by omega), if_neg (by omega), if_pos (by omega)]
    rw [hm] at h
    exact ⟨by omega, .inl ⟨h1, h.1.1, h.1.2⟩⟩
  rw [if_neg h1] at h
  by_cases h2 : c.shape = 2
  · rw [if_pos h2] at h
    simp only [Bool.and_eq_true, decide_eq_true_eq, tween, patZ] at h
    have hm : manyC c.shape c.cycle = 13 := by unfold manyC; rw [if_pos h2]
    rw [hm] at h
    exact ⟨by omega, .inr (.inl ⟨h2, h.1.1.1.1, h.1.1.1.2, h.1.1.2, h.1.2⟩)⟩
  rw [if_neg h2] at h
  by_cases h3 : c.shape = 3
  · rw [if_pos h3] at h
    simp only [Bool.and_eq_true, decide_eq_true_eq, tween, patZ] at h
    obtain ⟨⟨hz, hc⟩, he⟩ := h
    have hc' := hc
    unfold cycOk at hc'
    simp only [Bool.or_eq_true, decide_eq_true_eq] at hc'
    have hm : manyC c.shape c.cycle ≤ 52 := by
      unfold manyC
      rw [if_neg h2, if_pos ⟨h3, by omega⟩]
      rcases hc' with (h | h) | h <;> rw [h] <;> decide
    exact ⟨by omega, .inr (.inr ⟨h3, hz.1.1, hz.1.2, hz.2, hc⟩)⟩
  · rw [if_neg h3] at h; simp at h

end Go.Proofs.Ytmiejdbpogggeaa
end

section
/- Layer 11 (field), in plain Lean: the keys of a calendar's block, in whatever order, lead to the calendar. -/
set_option linter.unusedVariables false
set_option maxRecDepth 100000
namespace Go.Proofs.Ytmiejdbpogggeaa

theorem stands_kinds (k : Int) : (k = 1 ∨ k = 2 → standsC k b_named = true ∧ standsC k b_extra = true) ∧ (k = 3 → standsC k b_named = false ∧ standsC k b_extra = false) ∧ (k = 4 → standsC k b_named = false ∧ standsC k b_extra = false) ∧
    (k = 5 → standsC k b_named = false ∧ standsC k b_extra = true) ∧ (k = 6 → standsC k b_named = true ∧ standsC k b_extra = false) := by
  refine ⟨?_, ?_, ?_, ?_, ?_⟩
  · rintro (rfl | rfl) <;> decide
  · rintro rfl; decide
  · rintro rfl; decide
  · rintro rfl; decide
  · rintro rfl; decide

section
variable {c : CalL} {l : List NodeL}
theorem no_named (hof : ∀ k ∈ l, KidOf c k) (h : standsC c.kind b_named = false) : ∀ k ∈ l, k.name ≠ b_named := fun k hk e => by
  have := (kid_says c k (hof k hk)).stands
  rw [e, h] at this
  cases this
theorem no_shape (hof : ∀ k ∈ l, KidOf c k) (h : standsC c.kind b_extra = false) : ∀ k ∈ l, k.name ≠ b_periods ∧ k.name ≠ b_pay ∧ k.name ≠ b_extra := fun k hk => by
  have hs := (kid_says c k (hof k hk)).stands
  obtain ⟨s1, s2, _⟩ := stands_same c.kind
  refine ⟨fun e => ?_, fun e => ?_, fun e => ?_⟩ <;> rw [e] at hs
  · rw [s1, h] at hs; cases hs
  · rw [s2, h] at hs; cases hs
  · rw [h] at hs; cases hs

theorem put_all (hok : okC c = true) (hof : ∀ k ∈ l, KidOf c k) (hall : ∀ k0 ∈ kidsC c, ∃ k ∈ l, k.name = k0.name) : putAll (endCal c.name c) l = c := by
  have hfit := nodeFit c hok
  have hS := fun k hk => kid_says c k (hof k hk)
  obtain ⟨t12, t3, t4, t5, t6⟩ := stands_kinds c.kind
  have hin : ∀ k0, k0 ∈ kidsC c → ∃ k ∈ l, k.name = k0.name := hall
  have hserve : ∃ k ∈ l, k.name = b_serve := hin (itemL b_serve [] [c.first, c.last]) ((mem_kids c _).2 (.inr (.inr (.inr (.inl rfl)))))
  have hcomp : ∃ k ∈ l, k.name = b_compare := hin (itemL b_compare [pols.getD (c.policy - 1).toNat []] []) ((mem_kids c _).2 (.inr (.inr (.inr (.inr rfl)))))
  have gname : (putAll (endCal c.name c) l).name = (endCal c.name c).name := putAll_name _ l
  have gkind : (putAll (endCal c.name c) l).kind = (endCal c.name c).kind := fold_same (·.kind) l _ (fun k _ c => (putF_fields c k).2.1)
  have gday : (putAll (endCal c.name c) l).day = (endCal c.name c).day := fold_same (·.day) l _ (fun k _ c => (putF_fields c k).2.2.1)
  have gmon : (putAll (endCal c.name c) l).month = (endCal c.name c).month := fold_same (·.month) l _ (fun k _ c => (putF_fields c k).2.2.2.1)
  have gfirst : (putAll (endCal c.name c) l).first = c.first := fold_set (·.first) (· = b_serve) (fun c k h => ((putF_fields c k).2.2.2.2.2.2.2.2.2 h).1) _ l _ hserve (fun k hk h c' => (putF_serve h ((hS k hk).serve h) c').1)
  have glast : (putAll (endCal c.name c) l).last = c.last := fold_set (·.last) (· = b_serve) (fun c k h => ((putF_fields c k).2.2.2.2.2.2.2.2.2 h).2) _ l _ hserve (fun k hk h c' => (putF_serve h ((hS k hk).serve h) c').2)
  have gpol : (putAll (endCal c.name c) l).policy = c.policy := by
    have key : ∀ (l : List NodeL) (d : CalL), (∀ k ∈ l, keysL.contains k.name = true) → (∃ k ∈ l, k.name = b_compare) → (∀ k ∈ l, k.name = b_compare → ∀ c', (putF c' k).policy = c.policy) → (putAll d l).policy = c.policy := by
      intro l
      induction l with
      | nil => intro d _ h _; obtain ⟨k, hk, _⟩ := h; cases hk
      | cons a r ih =>
        intro d hk h hs
        rw [putAll_cons]
        by_cases hr : ∃ k ∈ r, k.name = b_compare
        · exact ih _ (fun k h => hk k (by simp [h])) hr (fun k h => hs k (by simp [h]))
        · rw [fold_same (·.policy) r _ (fun k h c' => putF_policy c' k (hk k (by simp [h])) (fun e => hr ⟨k, h, e⟩))]
          obtain ⟨k, hkm, hp⟩ := h
          rcases List.mem_cons.1 hkm with rfl | hkm
          · exact hs k (by simp) hp _
          · exact absurd ⟨k, hkm, hp⟩ hr
    exact key l _ (fun k hk => (hS k hk).any) hcomp (fun k hk h c' => putF_compare h ((hS k hk).compare h) hfit.pol.1 hfit.pol.2 c')
  have gshift1 : standsC c.kind b_named = true → (putAll (endCal c.name c) l).shift = c.shift := fun hst =>
    fold_set (·.shift) (· = b_named) (fun c k h => (putF_fields c k).2.2.2.2.1 h) _ l _ (hin (itemL b_named [shifts.getD c.shift.toNat []] []) ((mem_kids c _).2 (.inr (.inl ⟨hst, rfl⟩)))) (fun k hk h c' => putF_named h ((hS k hk).named h) hfit.shf.1 hfit.shf.2 c')
  have gshift0 : standsC c.kind b_named = false → (putAll (endCal c.name c) l).shift = (endCal c.name c).shift := fun hst =>
    fold_same (·.shift) l _ (fun k hk c' => (putF_fields c' k).2.2.2.2.1 (no_named hof hst k hk))
  have gno : standsC c.kind b_extra = false → (putAll (endCal c.name c) l).shape = (endCal c.name c).shape ∧ (putAll (endCal c.name c) l).p0 = (endCal c.name c).p0 ∧ (putAll (endCal c.name c) l).p1 = (endCal c.name c).p1 ∧ (putAll (endCal c.name c) l).p2 = (endCal c.name c).p2 ∧
      (putAll (endCal c.name c) l).cycle = (endCal c.name c).cycle ∧ (putAll (endCal c.name c) l).extra = (endCal c.name c).extra := fun hst => by
    have hn := no_shape hof hst
    exact ⟨fold_same (·.shape) l _ (fun k hk c' => (putF_fields c' k).2.2.2.2.2.1 (hn k hk).1 (hn k hk).2.1), fold_same (·.p0) l _ (fun k hk c' => ((putF_fields c' k).2.2.2.2.2.2.1 (hn k hk).1).1), fold_same (·.p1) l _ (fun k hk c' => ((putF_fields c' k).2.2.2.2.2.2.1 (hn k hk).1).2.1),
      fold_same (·.p2) l _ (fun k hk c' => ((putF_fields c' k).2.2.2.2.2.2.1 (hn k hk).1).2.2), fold_same (·.cycle) l _ (fun k hk c' => (putF_fields c' k).2.2.2.2.2.2.2.1 (hn k hk).2.1), fold_same (·.extra) l _ (fun k hk c' => (putF_fields c' k).2.2.2.2.2.2.2.2.1 (hn k hk).2.2)⟩
  have gwk : standsC c.kind b_extra = true → weeksC c = true → (endCal c.name c).p0 = 0 ∧ (endCal c.name c).p1 = 0 ∧ (endCal c.name c).p2 = 0 ∧ (endCal c.name c).cycle = 0 → (putAll (endCal c.name c) l).shape = c.shape ∧ (putAll (endCal c.name c) l).p0 = c.p0 ∧ (putAll (endCal c.name c) l).p1 = c.p1 ∧ (putAll (endCal c.name c) l).p2 = c.p2 ∧
      (putAll (endCal c.name c) l).cycle = c.cycle ∧ (putAll (endCal c.name c) l).extra = c.extra := fun hst hw hz => by
    obtain ⟨_, hsh⟩ := weeks_kinds c hw
    have gex : (putAll (endCal c.name c) l).extra = c.extra := fold_set (·.extra) (· = b_extra) (fun c k h => (putF_fields c k).2.2.2.2.2.2.2.2.1 h) _ l _ (hin (itemL b_extra [] [c.extra]) ((mem_kids c _).2 (.inr (.inr (.inl ⟨hst, .inr (.inr (.inr rfl))⟩))))) (fun k hk h c' => putF_extra h ((hS k hk).extra h) c')
    have gshape : (putAll (endCal c.name c) l).shape = c.shape := by
      refine fold_set (·.shape) (fun n => n = b_periods ∨ n = b_pay) (fun c k h => (putF_fields c k).2.2.2.2.2.1 (fun e => h (.inl e)) (fun e => h (.inr e))) _ l _ ?_ ?_
      · rcases hsh with ⟨h, _⟩ | ⟨h, _⟩ | ⟨h, _⟩
        · obtain ⟨k, hk, e⟩ := hin (itemL b_periods [] [c.p0, c.p1, c.p2]) ((mem_kids c _).2 (.inr (.inr (.inl ⟨hst, .inl ⟨h, rfl⟩⟩))))
          exact ⟨k, hk, .inl e⟩
        · obtain ⟨k, hk, e⟩ := hin (itemL b_periods [] [4]) ((mem_kids c _).2 (.inr (.inr (.inl ⟨hst, .inr (.inl ⟨h, rfl⟩)⟩))))
          exact ⟨k, hk, .inl e⟩
        · obtain ⟨k, hk, e⟩ := hin (itemL b_pay [] [c.cycle]) ((mem_kids c _).2 (.inr (.inr (.inl ⟨hst, .inr (.inr (.inl ⟨h, rfl⟩))⟩))))
          exact ⟨k, hk, .inr e⟩
      · rintro k hk (h | h) c'
        · rcases (hS k hk).periods h with ⟨hs, hw⟩ | ⟨hs, hw⟩
          · exact ((putF_periods3 h hw c').1).trans hs.symm
          · exact ((putF_periods1 h hw c').1).trans hs.symm
        · obtain ⟨hs, hw⟩ := (hS k hk).pay h
          exact ((putF_pay h hw c').1).trans hs.symm
    have gcyc : (putAll (endCal c.name c) l).cycle = c.cycle := by
      rcases hsh with ⟨h, _, h0⟩ | ⟨h, _, _, _, h0⟩ | ⟨h, _⟩
      · rw [fold_same (·.cycle) l _ (fun k hk c' => (putF_fields c' k).2.2.2.2.2.2.2.1 (fun e => by have := ((hS k hk).pay e).1; omega)), h0]; exact hz.2.2.2
      · rw [fold_same (·.cycle) l _ (fun k hk c' => (putF_fields c' k).2.2.2.2.2.2.2.1 (fun e => by have := ((hS k hk).pay e).1; omega)), h0]; exact hz.2.2.2
      · exact fold_set (·.cycle) (· = b_pay) (fun c k h => (putF_fields c k).2.2.2.2.2.2.2.1 h) _ l _ (hin (itemL b_pay [] [c.cycle]) ((mem_kids c _).2 (.inr (.inr (.inl ⟨hst, .inr (.inr (.inl ⟨h, rfl⟩))⟩))))) (fun k hk h c' => (putF_pay h ((hS k hk).pay h).2 c').2)
    have gp : (putAll (endCal c.name c) l).p0 = c.p0 ∧ (putAll (endCal c.name c) l).p1 = c.p1 ∧ (putAll (endCal c.name c) l).p2 = c.p2 := by
      by_cases h1 : c.shape = 1
      · have hex := hin (itemL b_periods [] [c.p0, c.p1, c.p2]) ((mem_kids c _).2 (.inr (.inr (.inl ⟨hst, .inl ⟨h1, rfl⟩⟩))))
        have hw3 : ∀ k ∈ l, k.name = b_periods → k.words = [wN c.p0, wN c.p1, wN c.p2] := fun k hk h => by
          rcases (hS k hk).periods h with ⟨_, hw⟩ | ⟨hs, _⟩
          · exact hw
          · omega
        exact ⟨fold_set (·.p0) (· = b_periods) (fun c k h => ((putF_fields c k).2.2.2.2.2.2.1 h).1) _ l _ hex (fun k hk h c' => (putF_periods3 h (hw3 k hk h) c').2.1),
          fold_set (·.p1) (· = b_periods) (fun c k h => ((putF_fields c k).2.2.2.2.2.2.1 h).2.1) _ l _ hex (fun k hk h c' => (putF_periods3 h (hw3 k hk h) c').2.2.1),
          fold_set (·.p2) (· = b_periods) (fun c k h => ((putF_fields c k).2.2.2.2.2.2.1 h).2.2) _ l _ hex (fun k hk h c' => (putF_periods3 h (hw3 k hk h) c').2.2.2)⟩
      · have hz3 : c.p0 = 0 ∧ c.p1 = 0 ∧ c.p2 = 0 := by
          rcases hsh with ⟨h, _⟩ | ⟨_, a, b, d, _⟩ | ⟨_, a, b, d, _⟩
          · exact absurd h h1
          · exact ⟨a, b, d⟩
          · exact ⟨a, b, d⟩
        have hk3 : ∀ k ∈ l, ∀ c', (putF c' k).p0 = c'.p0 ∧ (putF c' k).p1 = c'.p1 ∧ (putF c' k).p2 = c'.p2 := fun k hk c' => by
          by_cases h : k.name = b_periods
          · rcases (hS k hk).periods h with ⟨hs, _⟩ | ⟨_, hw⟩
            · exact absurd hs h1
            · exact (putF_periods1 h hw c').2
          · exact (putF_fields c' k).2.2.2.2.2.2.1 h
        rw [hz3.1, hz3.2.1, hz3.2.2]
        exact ⟨(fold_same (·.p0) l _ (fun k hk c' => (hk3 k hk c').1)).trans hz.1, (fold_same (·.p1) l _ (fun k hk c' => (hk3 k hk c').2.1)).trans hz.2.1, (fold_same (·.p2) l _ (fun k hk c' => (hk3 k hk c').2.2)).trans hz.2.2.1⟩
    exact ⟨gshape, gp.1, gp.2.1, gp.2.2, gcyc, gex⟩
  rw [cal_ext]
  rcases cal_kinds c hok with ⟨h3, he⟩ | ⟨h4, he⟩ | ⟨h12, hw⟩ | ⟨h5, hd, hm, hs, hw⟩ | ⟨h6, hd, hs, q0, q1, q2, hcy, hex⟩
  · have hE : endCal c.name c = { nrfC with name := c.name } := by unfold endCal; rw [if_pos h3]
    obtain ⟨g1, g2, g3, g4, g5, g6⟩ := gno (t3 h3).2
    have gs := gshift0 (t3 h3).1
    rw [gname, gkind, gday, gmon, gs, g1, g2, g3, g4, g5, g6, gfirst, glast, gpol, hE]
    rw [cal_ext] at he
    exact ⟨rfl, he.2.1.symm, he.2.2.1.symm, he.2.2.2.1.symm, he.2.2.2.2.1.symm, he.2.2.2.2.2.1.symm, he.2.2.2.2.2.2.1.symm, he.2.2.2.2.2.2.2.1.symm, he.2.2.2.2.2.2.2.2.1.symm, he.2.2.2.2.2.2.2.2.2.1.symm, he.2.2.2.2.2.2.2.2.2.2.1.symm, rfl, rfl, rfl⟩
  · have hE : endCal c.name c = { broadC with name := c.name } := by unfold endCal; rw [if_neg (by omega), if_pos h4]
    obtain ⟨g1, g2, g3, g4, g5, g6⟩ := gno (t4 h4).2
    have gs := gshift0 (t4 h4).1
    rw [gname, gkind, gday, gmon, gs, g1, g2, g3, g4, g5, g6, gfirst, glast, gpol, hE]
    rw [cal_ext] at he
    exact ⟨rfl, he.2.1.symm, he.2.2.1.symm, he.2.2.2.1.symm, he.2.2.2.2.1.symm, he.2.2.2.2.2.1.symm, he.2.2.2.2.2.2.1.symm, he.2.2.2.2.2.2.2.1.symm, he.2.2.2.2.2.2.2.2.1.symm, he.2.2.2.2.2.2.2.2.2.1.symm, he.2.2.2.2.2.2.2.2.2.2.1.symm, rfl, rfl, rfl⟩
  · have hE : endCal c.name c = { calZ with name := c.name, kind := c.kind, day := c.day, month := c.month } := by unfold endCal; rw [if_neg (by omega), if_neg (by omega), if_neg (by omega), if_neg (by omega)]
    obtain ⟨g1, g2, g3, g4, g5, g6⟩ := gwk (t12 h12).2 hw (by rw [hE]; exact ⟨rfl, rfl, rfl, rfl⟩)
    have gs := gshift1 (t12 h12).1
    rw [gname, gkind, gday, gmon, gs, g1, g2, g3, g4, g5, g6, gfirst, glast, gpol, hE]
    exact ⟨rfl, rfl, rfl, rfl, rfl, rfl, rfl, rfl, rfl, rfl, rfl, rfl, rfl, rfl⟩
  · have hE : endCal c.name c = { calZ with name := c.name, kind := 5, day := 7, month := 12 } := by unfold endCal; rw [if_neg (by omega), if_neg (by omega), if_pos h5]
    obtain ⟨g1, g2, g3, g4, g5, g6⟩ := gwk (t5 h5).2 hw (by rw [hE]; exact ⟨rfl, rfl, rfl, rfl⟩)
    have gs := gshift0 (t5 h5).1
    rw [gname, gkind, gday, gmon, gs, g1, g2, g3, g4, g5, g6, gfirst, glast, gpol, hE]
    exact ⟨rfl, h5.symm, hd.symm, hm.symm, hs.symm, rfl, rfl, rfl, rfl, rfl, rfl, rfl, rfl, rfl⟩
  · have hE : endCal c.name c = { calZ with name := c.name, kind := 6, shape := 5, month := c.month } := by unfold endCal; rw [if_neg (by omega), if_neg (by omega), if_neg (by omega), if_pos h6]
    obtain ⟨g1, g2, g3, g4, g5, g6⟩ := gno (t6 h6).2
    have gs := gshift1 (t6 h6).1
    rw [gname, gkind, gday, gmon, gs, g1, g2, g3, g4, g5, g6, gfirst, glast, gpol, hE]
    exact ⟨rfl, h6.symm, hd.symm, rfl, rfl, hs.symm, q0.symm, q1.symm, q2.symm, hcy.symm, hex.symm, rfl, rfl, rfl⟩
end

end Go.Proofs.Ytmiejdbpogggeaa
end

section
/- Layer 11 (field), in plain Lean: a block of a calendar's keys, in whatever order, is read as the calendar. -/
set_option linter.unusedVariables false
set_option linter.unusedSimpArgs false
set_option maxRecDepth 100000
namespace Go.Proofs.Ytmiejdbpogggeaa

theorem lists_ok : endsL.all nameL = true ∧ days.all nameL = true ∧ mons.all nameL = true ∧ pols.all nameL = true ∧ shifts.all nameL = true ∧ keysL.all nameL = true ∧ nameL b_calendar = true := by decide
theorem getD_ok {l : List Bytes} (h : l.all nameL = true) {x : Int} {n : Nat} (hn : l.length = n) (h1 : 1 ≤ x) (h2 : x ≤ n) : wordOk (wS (l.getD (x - 1).toNat [])) = true := wS_ok (nameAt h _ (by omega))
theorem checkK {k : NodeL} (hn : nameL k.name = true) (hw : k.words.all wordOk = true) (hl : k.words.length ≤ 8) (hb : k.block = false) (hk : k.kids = []) (d : Nat) : checkN d k = 0 := by
  obtain ⟨nm, p, ws, b, ks⟩ := k
  simp only [NodeL.name, NodeL.words, NodeL.block, NodeL.kids] at *
  subst hb hk
  have : ¬ 8 < ws.length := by omega
  simp only [checkN, hn, hw, this, checkL]
  simp
theorem kid_check {c : CalL} {k : NodeL} (hok : okC c = true) (h : KidOf c k) (d : Nat) : checkN d k = 0 := by
  obtain ⟨w1, w2, w3, w4, w5, w6, w7⟩ := lists_ok
  have hfit := nodeFit c hok
  have hs := kid_says c k h
  obtain ⟨k0, hk0, hn, hw, hb, hkk⟩ := h
  have hname : nameL k.name = true := List.all_eq_true.1 w6 _ (by simpa using hs.any)
  have hsv : 1602 ≤ c.first ∧ c.last ≤ 9996 ∧ c.first ≤ c.last := by
    have := hok
    unfold okC servedC at this
    simp only [Bool.and_eq_true, decide_eq_true_eq] at this
    exact ⟨this.1.1.1.1.1.1, this.1.1.1.1.1.2, this.1.1.1.1.2⟩
  rw [mem_kids] at hk0
  have hwk : standsC c.kind b_extra = true → weeksC c = true := fun hst => by
    obtain ⟨t12, t3, t4, t5, t6⟩ := stands_kinds c.kind
    rcases cal_kinds c hok with ⟨h, _⟩ | ⟨h, _⟩ | ⟨_, hw⟩ | ⟨_, _, _, _, hw⟩ | ⟨h, _⟩
    · rw [(t3 h).2] at hst; cases hst
    · rw [(t4 h).2] at hst; cases hst
    · exact hw
    · exact hw
    · rw [(t6 h).2] at hst; cases hst
  refine checkK hname ?_ ?_ hb hkk d
  · rw [hw]
    rcases hk0 with rfl | ⟨hst, rfl⟩ | ⟨hst, ⟨hc, rfl⟩ | ⟨hc, rfl⟩ | ⟨hc, rfl⟩ | rfl⟩ | rfl | rfl
    · rw [itemL_words]
      have he := getD_ok w1 (x := c.kind) rfl hfit.k1 hfit.k6
      have hm := getD_ok w3 (x := c.month) rfl hfit.mon.1 hfit.mon.2
      unfold saysC
      by_cases h12 : c.kind = 1 ∨ c.kind = 2
      · have hd := getD_ok w2 (x := c.day) rfl (hfit.day h12).1 (hfit.day h12).2
        rw [if_pos h12]
        cases standsC c.kind b_named <;> simp only [List.map_append, List.map_cons, List.map_nil, List.all_append, List.all_cons, List.all_nil, if_true, Bool.false_eq_true, if_false, Bool.and_true, Bool.and_self, he, hm, hd]
      · rw [if_neg h12]
        cases standsC c.kind b_named <;> simp only [List.map_append, List.map_cons, List.map_nil, List.all_append, List.all_cons, List.all_nil, if_true, Bool.false_eq_true, if_false, Bool.and_true, Bool.and_self, he, hm]
    · have := getD_ok w5 (x := c.shift + 1) (n := 2) rfl (by have := hfit.shf; omega) (by have := hfit.shf; omega)
      rw [show c.shift + 1 - 1 = c.shift by omega] at this
      rw [itemL_words]
      simp only [List.map_append, List.map_cons, List.map_nil, List.all_append, List.all_cons, List.all_nil, if_true, Bool.false_eq_true, if_false, Bool.and_true, Bool.and_self, this]
    · obtain ⟨_, hsh⟩ := weeks_kinds c (hwk hst)
      have hp : patOk c.p0 c.p1 c.p2 = true := by
        rcases hsh with ⟨_, h, _⟩ | ⟨h, _⟩ | ⟨h, _⟩
        · exact h
        · omega
        · omega
      have hp' : (c.p0 = 4 ∨ c.p0 = 5) ∧ (c.p1 = 4 ∨ c.p1 = 5) ∧ (c.p2 = 4 ∨ c.p2 = 5) := by
        unfold patOk at hp
        simp only [Bool.or_eq_true, Bool.and_eq_true, decide_eq_true_eq] at hp
        omega
      rw [itemL_words]; simp [wN_ok (k := c.p0) (by omega), wN_ok (k := c.p1) (by omega), wN_ok (k := c.p2) (by omega)]
    · rw [itemL_words]; decide
    · obtain ⟨_, hsh⟩ := weeks_kinds c (hwk hst)
      have hp : cycOk c.cycle = true := by
        rcases hsh with ⟨h, _⟩ | ⟨h, _⟩ | ⟨_, _, _, _, h⟩
        · omega
        · omega
        · exact h
      have hp' : c.cycle = 1 ∨ c.cycle = 2 ∨ c.cycle = 4 := by
        unfold cycOk at hp
        simp only [Bool.or_eq_true, decide_eq_true_eq] at hp
        omega
      rw [itemL_words]; simp [wN_ok (k := c.cycle) (by omega)]
    · obtain ⟨hx, _⟩ := weeks_kinds c (hwk hst)
      rw [itemL_words]; simp [wN_ok (k := c.extra) (by omega)]
    · rw [itemL_words]; simp [wN_ok (k := c.first) (by omega), wN_ok (k := c.last) (by omega)]
    · have := getD_ok w4 (x := c.policy) rfl hfit.pol.1 hfit.pol.2
      rw [itemL_words]
      simp only [List.map_append, List.map_cons, List.map_nil, List.all_append, List.all_cons, List.all_nil, if_true, Bool.false_eq_true, if_false, Bool.and_true, Bool.and_self, this]
  · rw [hw]
    rcases hk0 with rfl | ⟨hst, rfl⟩ | ⟨hst, ⟨hc, rfl⟩ | ⟨hc, rfl⟩ | ⟨hc, rfl⟩ | rfl⟩ | rfl | rfl <;> rw [itemL_words]
    · unfold saysC
      split <;> split <;> simp
    all_goals simp
theorem check_all : ∀ (l : List NodeL) (d : Nat), (∀ k ∈ l, checkN d k = 0) → checkL d l = 0
  | [], d, _ => by simp only [checkL]
  | k :: r, d, h => by
    simp only [checkL]
    rw [h k (by simp)]
    simpa using check_all r d (fun x hx => h x (by simp [hx]))
theorem nm_ok {c : CalL} (hok : okC c = true) : nameL c.name = true := by
  unfold okC at hok
  simp only [Bool.and_eq_true] at hok
  exact hok.1.2
theorem check_block {c : CalL} {l : List NodeL} (hok : okC c = true) (hk : ∀ k ∈ l, checkN 1 k = 0) (p : Int) : checkL 0 [.mk b_calendar p [wS c.name] true l] = 0 := by
  obtain ⟨w1, w2, w3, w4, w5, w6, w7⟩ := lists_ok
  have h1 := check_all l 1 hk
  simp only [checkL, checkN]
  rw [h1]
  simp [w7, wS_ok (nm_ok hok)]
theorem kid_put {c : CalL} {k : NodeL} (hok : okC c = true) (h : KidOf c k) (nm : Bytes) : KidOk nm k := by
  have hs := kid_says c k h
  have hfit := nodeFit c hok
  obtain ⟨k0, hk0, hn, hw, hb, hkk⟩ := h
  have hwk : standsC c.kind b_extra = true → weeksC c = true := fun hst => by
    obtain ⟨t12, t3, t4, t5, t6⟩ := stands_kinds c.kind
    rcases cal_kinds c hok with ⟨h, _⟩ | ⟨h, _⟩ | ⟨_, hw⟩ | ⟨_, _, _, _, hw⟩ | ⟨h, _⟩
    · rw [(t3 h).2] at hst; cases hst
    · rw [(t4 h).2] at hst; cases hst
    · exact hw
    · exact hw
    · rw [(t6 h).2] at hst; cases hst
  rw [mem_kids] at hk0
  refine ⟨hs.any, hb, ?_, ?_⟩
  · rw [hw]
    rcases hk0 with rfl | ⟨hst, rfl⟩ | ⟨hst, ⟨hc, rfl⟩ | ⟨hc, rfl⟩ | ⟨hc, rfl⟩ | rfl⟩ | rfl | rfl <;> rw [itemL_words] <;> rfl
  · rw [hn, hw]
    rcases hk0 with rfl | ⟨hst, rfl⟩ | ⟨hst, ⟨hc, rfl⟩ | ⟨hc, rfl⟩ | ⟨hc, rfl⟩ | rfl⟩ | rfl | rfl <;> rw [itemL_words, itemL_name]
    · show (endK nm _).2 = true
      rw [show ((saysC c).map wS ++ ([] : List Int).map wN) = (saysC c).map wS by simp, endK_says nm c hfit]
    · have hp := at_of shf_at (c.shift + 1) (by have := hfit.shf; omega) (by have := hfit.shf; omega)
      rw [show c.shift + 1 - 1 = c.shift by omega] at hp
      show (decide (0 < placeW shifts (wS (shifts.getD c.shift.toNat []))) && decide (1 = 1)) = true
      rw [hp]
      have := hfit.shf
      simp; omega
    · obtain ⟨_, hsh⟩ := weeks_kinds c (hwk hst)
      show patOk c.p0 c.p1 c.p2 = true
      rcases hsh with ⟨_, h, _⟩ | ⟨h, _⟩ | ⟨h, _⟩
      · exact h
      · omega
      · omega
    · rfl
    · obtain ⟨_, hsh⟩ := weeks_kinds c (hwk hst)
      show cycOk c.cycle = true
      rcases hsh with ⟨h, _⟩ | ⟨h, _⟩ | ⟨_, _, _, _, h⟩
      · omega
      · omega
      · exact h
    · obtain ⟨hx, _⟩ := weeks_kinds c (hwk hst)
      show tween c.extra 1 52 = true
      unfold tween
      simp; omega
    · rfl
    · have hp := at_of pol_at c.policy hfit.pol.1 hfit.pol.2
      show (decide (0 < placeW pols (wS (pols.getD (c.policy - 1).toNat []))) && decide (1 = 1)) = true
      rw [hp]
      have := hfit.pol
      simp; omega

end Go.Proofs.Ytmiejdbpogggeaa
end

section
/- Layer 11 (field), in plain Lean: how a block of a calendar's keys is read. -/
set_option linter.unusedVariables false
set_option linter.unusedSimpArgs false
set_option maxRecDepth 100000
namespace Go.Proofs.Ytmiejdbpogggeaa

theorem endIn_ok (nm : Bytes) (v : CalL) : ∀ (l : List NodeL) (co : Option CalL), (∀ k ∈ l, k.name = b_end → (putK k.name { calZ with name := nm } k.words).1 = v) → ((∃ k ∈ l, k.name = b_end) ∨ co = some v) → endIn nm co l = some v
  | [], co, _, h => by
    rcases h with ⟨k, hk, _⟩ | h
    · cases hk
    · exact h
  | k :: r, co, hv, h => by
    show endIn nm (if k.name = b_end then some (putK k.name { calZ with name := nm } k.words).1 else co) r = some v
    by_cases e : k.name = b_end
    · rw [if_pos e]
      exact endIn_ok nm v r _ (fun x hx => hv x (by simp [hx])) (.inr (by rw [hv k (by simp) e]))
    · rw [if_neg e]
      refine endIn_ok nm v r _ (fun x hx => hv x (by simp [hx])) ?_
      rcases h with ⟨x, hx, hn⟩ | h
      · rcases List.mem_cons.1 hx with rfl | hx
        · exact absurd hn e
        · exact .inl ⟨x, hx, hn⟩
      · exact .inr h
theorem endIn_none (nm : Bytes) : ∀ (l : List NodeL), (∀ k ∈ l, k.name ≠ b_end) → ∀ co, endIn nm co l = co
  | [], _, _ => rfl
  | k :: r, h, co => by
    show endIn nm (if k.name = b_end then some (putK k.name { calZ with name := nm } k.words).1 else co) r = co
    rw [if_neg (h k (by simp))]
    exact endIn_none nm r (fun x hx => h x (by simp [hx])) co

section
variable {c : CalL} {l : List NodeL}
theorem not_both (hof : ∀ k ∈ l, KidOf c k) : ¬ (b_periods ∈ l.map NodeL.name ∧ b_pay ∈ l.map NodeL.name) := by
  rintro ⟨h1, h2⟩
  obtain ⟨k1, hk1, e1⟩ := List.mem_map.1 h1
  obtain ⟨k2, hk2, e2⟩ := List.mem_map.1 h2
  have a2 := ((kid_says c k2 (hof k2 hk2)).pay e2).1
  rcases (kid_says c k1 (hof k1 hk1)).periods e1 with ⟨a1, _⟩ | ⟨a1, _⟩ <;> omega
theorem end_put (hok : okC c = true) (hof : ∀ k ∈ l, KidOf c k) (nm : Bytes) : ∀ k ∈ l, k.name = b_end → (putK k.name { calZ with name := nm } k.words).1 = endCal nm c := fun k hk e => by
  rw [e, (kid_says c k (hof k hk)).end_ e]
  show (endK nm _).1 = _
  rw [endK_says nm c (nodeFit c hok)]
theorem endCal_kind (nm : Bytes) (hok : okC c = true) : (endCal nm c).kind = c.kind := by
  have hf := nodeFit c hok
  unfold endCal
  by_cases h3 : c.kind = 3
  · rw [if_pos h3, h3]; rfl
  by_cases h4 : c.kind = 4
  · rw [if_neg h3, if_pos h4, h4]; rfl
  by_cases h5 : c.kind = 5
  · rw [if_neg h3, if_neg h4, if_pos h5, h5]
  by_cases h6 : c.kind = 6
  · rw [if_neg h3, if_neg h4, if_neg h5, if_pos h6, h6]
  rw [if_neg h3, if_neg h4, if_neg h5, if_neg h6]
/-- How a block of a calendar's keys is read: each key fits; what is read hangs on whether all are there. -/
theorem read_keys (hok : okC c = true) (hof : ∀ k ∈ l, KidOf c k) (hnd : (l.map NodeL.name).Nodup) (p : Int) :
    readC (.mk b_calendar p [wS c.name] true l) = if b_end ∈ l.map NodeL.name then (if missL c.kind (l.map NodeL.name) = true then ⟨calZ, p, 10⟩ else if okC (putAll (endCal c.name c) l) = true then ⟨putAll (endCal c.name c) l, 0, 0⟩ else ⟨calZ, p, 1⟩) else ⟨calZ, p, 10⟩ := by
  have hck := check_block (l := l) hok (fun k hk => kid_check hok (hof k hk) 1) p
  have hform := formed_ok c.name l [] none (fun k hk => kid_put hok (hof k hk) c.name) (by simpa using hnd)
  rw [readC_block b_calendar p [wS c.name] true l hck (by simp [wS])]
  unfold readBlock
  show (match formedL c.name [] none l with
    | .inl (p, e) => _
    | .inr none => _
    | .inr (some c) => _) = _
  rw [hform]
  by_cases he : b_end ∈ l.map NodeL.name
  · rw [if_pos he]
    obtain ⟨k, hk, e⟩ := List.mem_map.1 he
    rw [endIn_ok c.name (endCal c.name c) l none (end_put hok hof c.name) (.inl ⟨k, hk, e⟩)]
    dsimp only [NodeL.kids, NodeL.pos]
    rw [endCal_kind c.name hok, fits_ok c.kind l [] (fun k hk => (kid_says c k (hof k hk)).stands) (by simpa using not_both hof)]
    rfl
  · rw [if_neg he, endIn_none c.name l (fun k hk e => he (List.mem_map.2 ⟨k, hk, e⟩))]
    rfl
/-- Whether a key is missing, by the names that are there. -/
theorem miss_no (hall : ∀ k0 ∈ kidsC c, k0.name ∈ l.map NodeL.name) (hok : okC c = true) : missL c.kind (l.map NodeL.name) = false := by
  have hwk : standsC c.kind b_extra = true → weeksC c = true := fun hst => by
    obtain ⟨t12, t3, t4, t5, t6⟩ := stands_kinds c.kind
    rcases cal_kinds c hok with ⟨h, _⟩ | ⟨h, _⟩ | ⟨_, hw⟩ | ⟨_, _, _, _, hw⟩ | ⟨h, _⟩
    · rw [(t3 h).2] at hst; cases hst
    · rw [(t4 h).2] at hst; cases hst
    · exact hw
    · exact hw
    · rw [(t6 h).2] at hst; cases hst
  unfold missL
  rw [List.any_eq_false]
  intro x hx
  simp only [Bool.and_eq_true, Bool.not_eq_true', Bool.or_eq_false_iff, not_and, List.contains_eq_mem, decide_eq_false_iff_not, Bool.and_eq_false_iff, decide_eq_true_eq]
  intro hst hno
  simp only [List.mem_cons, List.not_mem_nil, or_false] at hx
  rcases hx with rfl | rfl | rfl | rfl | rfl
  · exact absurd (hall _ ((mem_kids c _).2 (.inr (.inl ⟨hst, rfl⟩)))) hno
  · obtain ⟨_, hsh⟩ := weeks_kinds c (hwk hst)
    rcases hsh with ⟨h, _⟩ | ⟨h, _⟩ | ⟨h, _⟩
    · exact absurd (hall _ ((mem_kids c _).2 (.inr (.inr (.inl ⟨hst, .inl ⟨h, rfl⟩⟩))))) hno
    · exact absurd (hall _ ((mem_kids c _).2 (.inr (.inr (.inl ⟨hst, .inr (.inl ⟨h, rfl⟩)⟩))))) hno
    · have := hall _ ((mem_kids c (itemL b_pay [] [c.cycle])).2 (.inr (.inr (.inl ⟨hst, .inr (.inr (.inl ⟨h, rfl⟩))⟩))))
      rw [itemL_name] at this
      simpa using this
  · exact absurd (hall _ ((mem_kids c _).2 (.inr (.inr (.inl ⟨hst, .inr (.inr (.inr rfl))⟩))))) hno
  · exact absurd (hall _ ((mem_kids c _).2 (.inr (.inr (.inr (.inl rfl)))))) hno
  · exact absurd (hall _ ((mem_kids c _).2 (.inr (.inr (.inr (.inr rfl)))))) hno
/-- With all of its keys, in whatever order, a calendar's block is read as the calendar. -/
theorem read_all (hok : okC c = true) (hof : ∀ k ∈ l, KidOf c k) (hnd : (l.map NodeL.name).Nodup) (hall : ∀ k0 ∈ kidsC c, k0.name ∈ l.map NodeL.name) (p : Int) :
    readC (.mk b_calendar p [wS c.name] true l) = ⟨c, 0, 0⟩ := by
  have hp := put_all hok hof (fun k0 h => by
    obtain ⟨k, hk, e⟩ := List.mem_map.1 (hall k0 h)
    exact ⟨k, hk, e⟩)
  have hen : b_end ∈ l.map NodeL.name := hall (itemL b_end (saysC c) []) ((mem_kids c _).2 (.inl rfl))
  rw [read_keys hok hof hnd p, if_pos hen, miss_no hall hok, hp, if_neg (by decide), if_pos hok]
theorem kids_nodup : ((kidsC c).map NodeL.name).Nodup := by
  unfold kidsC endI namedI extraI serveI shapeC
  by_cases h1 : c.shape = 1
  · cases standsC c.kind b_named <;> cases standsC c.kind b_extra <;> simp [h1, itemL, NodeL.name] <;> decide
  · by_cases h2 : c.shape = 2
    · cases standsC c.kind b_named <;> cases standsC c.kind b_extra <;> simp [h2, itemL, NodeL.name] <;> decide
    · by_cases h3 : c.shape = 3
      · cases standsC c.kind b_named <;> cases standsC c.kind b_extra <;> simp [h3, itemL, NodeL.name] <;> decide
      · cases standsC c.kind b_named <;> cases standsC c.kind b_extra <;> simp [h1, h2, h3, itemL, NodeL.name] <;> decide
theorem read_node (hok : okC c = true) : readC (nodeC c) = ⟨c, 0, 0⟩ :=
  read_all hok (fun k hk => ⟨k, hk, rfl, rfl, by
    rw [mem_kids] at hk
    rcases hk with rfl | ⟨_, rfl⟩ | ⟨_, ⟨_, rfl⟩ | ⟨_, rfl⟩ | ⟨_, rfl⟩ | rfl⟩ | rfl | rfl <;> rfl, by
    rw [mem_kids] at hk
    rcases hk with rfl | ⟨_, rfl⟩ | ⟨_, ⟨_, rfl⟩ | ⟨_, rfl⟩ | ⟨_, rfl⟩ | rfl⟩ | rfl | rfl <;> rfl⟩) kids_nodup (fun k0 h => List.mem_map.2 ⟨k0, h, rfl⟩) 0
end

end Go.Proofs.Ytmiejdbpogggeaa
end

section
/- Layer 11 (field): the block that Node leaves, in memory; how much it is. -/
set_option linter.unusedVariables false
set_option linter.unusedSimpArgs false
set_option maxRecDepth 100000
namespace Go.Proofs.Ytmiejdbpogggeaa
open Go.RowKit

theorem own_reads {w : World} {base size n : Nat} {e : TypeId} {v : Value} {xs : List Value} (h : w.ownsRow base e size v n xs) : ∃ A cap, v = .slice A n cap ∧ NilOk A cap ∧ ReadsM w (· < w.heap.size) size A n xs := by
  rcases h.2 with ⟨rfl, hn⟩ | ⟨g, cap, cur, rfl, hb, hg, h1, h2, h3, h4⟩
  · subst hn
    exact ⟨none, 0, rfl, fun _ => rfl, ⟨h.1, fun h => absurd h (by omega)⟩⟩
  · refine ⟨some ⟨g, 0, none⟩, cap, rfl, (fun h => by cases h), ⟨h.1, fun _ => ⟨_, rfl, (Array.getElem?_eq_some_iff.1 hg).1, fun j u hu => ?_⟩⟩⟩
    rw [add_blk0, Joins.cell_of_block hg j]
    have hj := (List.getElem?_eq_some_iff.1 hu).1
    rw [← h4] at hu hj
    rw [List.getElem?_take_of_lt (by rw [List.length_take] at hj; omega)] at hu
    simpa using hu
theorem node_laid {c : CalL} {w w' : World} {gw g cap : Nat} (hg : w'.heap[gw]? = some (.cells #[.bool false, .int .i64 0, .string ⟨c.name.toArray⟩, .int .i64 0] 40 (0, 0)))
    (ho : OwnNodes w' w.heap.size (.slice (some ⟨g, 0, none⟩) (kidsC c).length cap) (kidsC c)) :
    NodeOk w' (· < w'.heap.size) (nodeC c) [.string ⟨b_calendar.toArray⟩, .int .i64 0, .slice (some ⟨gw, 0, none⟩) 1 1, .bool true, .slice (some ⟨g, 0, none⟩) (kidsC c).length cap] := by
  obtain ⟨kcs, h1, h2⟩ := ho
  obtain ⟨A, cp, hv, hnil, hr⟩ := own_reads h1
  injection hv with e1 e2 e3
  subst e1 e3
  unfold nodeC
  simp only [NodeOk]
  refine ⟨some ⟨gw, 0, none⟩, 1, some ⟨g, 0, none⟩, cap, kcs, rfl, (fun h => by cases h), hnil, ⟨rfl, fun _ => ⟨_, rfl, (Array.getElem?_eq_some_iff.1 hg).1, fun j u hu => ?_⟩⟩, hr, NodesOk.keep (fun b h => h.2.1) (fun _ _ => rfl) _ _ h2⟩
  rw [add_blk0, Joins.cell_of_block hg j]
  simpa [WordL.cells, wS] using hu
theorem kids_plain (c : CalL) : ∀ k ∈ kidsC c, k.kids = [] ∧ k.words.length ≤ 3 := fun k hk => by
  rw [mem_kids] at hk
  rcases hk with rfl | ⟨_, rfl⟩ | ⟨_, ⟨_, rfl⟩ | ⟨_, rfl⟩ | ⟨_, rfl⟩ | rfl⟩ | rfl | rfl <;> refine ⟨rfl, ?_⟩ <;> rw [itemL_words]
  · unfold saysC
    split <;> split <;> simp
  all_goals simp
theorem kids_len (c : CalL) : (kidsC c).length ≤ 6 := by
  unfold kidsC endI namedI extraI serveI shapeC
  split <;> split <;> (try split) <;> (try split) <;> (try split) <;> simp
theorem left_plain : ∀ (l : List NodeL) (most deep : Int), 0 < deep → (∀ k ∈ l, k.kids = [] ∧ k.words.length ≤ 3) → (l.length : Int) ≤ most → leftGo most deep l = most - l.length
  | [], most, deep, _, _, _ => by simp [leftGo]
  | k :: r, most, deep, hd, hk, hm => by
    obtain ⟨h1, h2⟩ := hk k (by simp)
    simp only [List.length_cons] at hm
    push_cast at hm
    have e : leftN most deep k = most - 1 := by
      rw [leftN_eq, if_neg (by omega), h1]
      simp only [leftL]
    simp only [leftGo]
    rw [e, left_plain r (most - 1) deep hd (fun x hx => hk x (by simp [hx])) (by omega)]
    simp only [List.length_cons]
    push_cast
    omega
theorem few_node (c : CalL) : 0 ≤ leftL 60 12 [nodeC c] := by
  have hl := kids_len c
  rw [leftL_go _ _ _ (by decide)]
  simp only [leftGo]
  rw [leftN_eq, if_neg (by show ¬ ((60 : Int) < 0 ∨ 20 < 1); omega)]
  show 0 ≤ leftL (60 - 1) (12 - 1) (kidsC c)
  rw [leftL_go _ _ _ (by decide), left_plain _ _ _ (by decide) (kids_plain c) (by omega)]
  omega
theorem strs_short : ∀ l ∈ [endsL, days, mons, pols, shifts], ∀ s ∈ l, s.length ≤ 100 := by decide
theorem getD_short {l : List Bytes} (h : ∀ s ∈ l, s.length ≤ 100) (k : Nat) : (l.getD k []).length ≤ 100 := by
  rw [List.getD_eq_getElem?_getD]
  cases e : l[k]? with
  | none => simp
  | some s => exact h s (List.mem_of_getElem? e)
theorem fitNs_ofK : ∀ (l : List NodeL), (∀ n ∈ l, fitN n) → fitNs l
  | [], _ => trivial
  | n :: r, h => ⟨h n (by simp), fitNs_ofK r fun m hm => h m (by simp [hm])⟩
theorem fit_node {c : CalL} (h : c.name.length ≤ maxLen) : fitN (nodeC c) := by
  have hm : (100 : Nat) ≤ maxLen := by decide
  have hs := strs_short
  have g1 := fun k => getD_short (hs endsL (by simp)) k
  have g2 := fun k => getD_short (hs days (by simp)) k
  have g3 := fun k => getD_short (hs mons (by simp)) k
  have g4 := fun k => getD_short (hs pols (by simp)) k
  have g5 := fun k => getD_short (hs shifts (by simp)) k
  have hkey : ∀ s ∈ [b_end, b_named, b_periods, b_pay, b_extra, b_serve, b_compare, b_calendar], s.length ≤ 100 := by decide
  have hl := kids_len c
  unfold nodeC
  simp only [fitN]
  refine ⟨Nat.le_trans (hkey b_calendar (by simp)) hm, by simp [maxLen], fun t ht => ?_, by omega, fitNs_ofK _ fun k hk => ?_⟩
  · simp only [List.mem_cons, List.not_mem_nil, or_false] at ht
    rw [ht]; exact h
  · have hw := (kids_plain c k hk).2
    have hkk := (kids_plain c k hk).1
    have hwl : ∀ t ∈ k.words, t.s.length ≤ 100 := fun t ht => by
      rw [mem_kids] at hk
      rcases hk with rfl | ⟨_, rfl⟩ | ⟨_, ⟨_, rfl⟩ | ⟨_, rfl⟩ | ⟨_, rfl⟩ | rfl⟩ | rfl | rfl <;> rw [itemL_words] at ht
      · have : ∃ s, t = wS s ∧ s.length ≤ 100 := by
          obtain ⟨s, hs', rfl⟩ := List.mem_map.1 (by simpa using ht)
          refine ⟨s, rfl, ?_⟩
          unfold saysC at hs'
          simp only [List.mem_append, List.mem_cons, List.not_mem_nil, or_false] at hs'
          rcases hs' with (rfl | h2) | h3
          · exact g1 _
          · split at h2
            · simp only [List.mem_cons, List.not_mem_nil, or_false] at h2; rw [h2]; exact g2 _
            · cases h2
          · split at h3
            · simp only [List.mem_cons, List.not_mem_nil, or_false] at h3; rw [h3]; exact g3 _
            · cases h3
        obtain ⟨s, rfl, h⟩ := this
        exact h
      · simp only [List.map_cons, List.map_nil, List.append_nil, List.mem_cons, List.not_mem_nil, or_false] at ht; rw [ht]; exact g5 _
      · simp at ht; rcases ht with rfl | rfl | rfl <;> simp [wN]
      · simp at ht; rw [ht]; simp [wN]
      · simp at ht; rw [ht]; simp [wN]
      · simp at ht; rw [ht]; simp [wN]
      · simp at ht; rcases ht with rfl | rfl <;> simp [wN]
      · simp only [List.map_cons, List.map_nil, List.append_nil, List.mem_cons, List.not_mem_nil, or_false] at ht; rw [ht]; exact g4 _
    have hkn : k.name.length ≤ 100 := by
      rw [mem_kids] at hk
      rcases hk with rfl | ⟨_, rfl⟩ | ⟨_, ⟨_, rfl⟩ | ⟨_, rfl⟩ | ⟨_, rfl⟩ | rfl⟩ | rfl | rfl <;> exact hkey _ (by simp [itemL_name])
    obtain ⟨nm, p, ws, b, ks⟩ := k
    simp only [NodeL.name, NodeL.words, NodeL.kids] at hkn hwl hw hkk
    subst hkk
    simp only [fitN]
    exact ⟨by omega, by omega, fun t ht => Nat.le_trans (hwl t ht) hm, by simp, trivial⟩

end Go.Proofs.Ytmiejdbpogggeaa
end

section
/- Layer 11 (field): keys with other places, and the row that the laws lay them in. -/
set_option linter.unusedVariables false
set_option linter.unusedSimpArgs false
set_option maxRecDepth 100000
namespace Go.Proofs.Ytmiejdbpogggeaa
open Go.RowKit

/-! ### Plain -/
def atK (k : NodeL) (p : Int) : NodeL := .mk k.name p k.words k.block k.kids
def stL (i : Nat) (l : List NodeL) : List NodeL := l.mapIdx fun j k => if j < i then atK k ((j : Int) + 1) else k
def numK (l : List NodeL) : List NodeL := l.mapIdx fun j k => atK k ((j : Int) + 1)
theorem stL_len (i : Nat) (l : List NodeL) : (stL i l).length = l.length := by simp [stL]
theorem numK_len (l : List NodeL) : (numK l).length = l.length := by simp [numK]
theorem stL_zero (l : List NodeL) : stL 0 l = l := by
  refine List.ext_getElem? fun j => ?_
  unfold stL
  rw [List.getElem?_mapIdx]
  simp
theorem stL_all (l : List NodeL) : stL l.length l = numK l := by
  refine List.ext_getElem? fun j => ?_
  unfold stL numK
  rw [List.getElem?_mapIdx, List.getElem?_mapIdx]
  cases e : l[j]? with
  | none => rfl
  | some k => simp [(List.getElem?_eq_some_iff.1 e).1]
theorem stL_at (l : List NodeL) (i : Nat) : (stL i l)[i]? = l[i]? := by
  unfold stL
  rw [List.getElem?_mapIdx]
  simp
theorem stL_succ (l : List NodeL) (i : Nat) (k : NodeL) (h : l[i]? = some k) : stL (i + 1) l = (stL i l).set i (atK k ((i : Int) + 1)) := by
  refine List.ext_getElem? fun j => ?_
  rw [List.getElem?_set, stL_len]
  have hl := (List.getElem?_eq_some_iff.1 h).1
  unfold stL
  rw [List.getElem?_mapIdx, List.getElem?_mapIdx]
  by_cases e : i = j
  · subst e
    rw [if_pos rfl, if_pos hl, h]
    simp
  · rw [if_neg e]
    cases l[j]? with
    | none => rfl
    | some x =>
      by_cases hj : j < i
      · simp [hj, Nat.lt_succ_of_lt hj]
      · simp [hj, show ¬ j < i + 1 by omega]
theorem numK_get (l : List NodeL) (j : Nat) : (numK l)[j]? = (l[j]?).map fun k => atK k ((j : Int) + 1) := by
  unfold numK; rw [List.getElem?_mapIdx]
theorem numK_names (l : List NodeL) : (numK l).map NodeL.name = l.map NodeL.name := by
  refine List.ext_getElem? fun j => ?_
  rw [List.getElem?_map, List.getElem?_map, numK_get]
  cases l[j]? <;> rfl
theorem atK_of {c : CalL} {k : NodeL} (p : Int) (h : k ∈ kidsC c) : KidOf c (atK k p) := ⟨k, h, rfl, rfl, by
  rw [mem_kids] at h
  rcases h with rfl | ⟨_, rfl⟩ | ⟨_, ⟨_, rfl⟩ | ⟨_, rfl⟩ | ⟨_, rfl⟩ | rfl⟩ | rfl | rfl <;> rfl, (kids_plain c k h).1⟩
theorem numK_of {c : CalL} {k : NodeL} (h : k ∈ numK (kidsC c)) : KidOf c k := by
  obtain ⟨j, hj⟩ := List.getElem?_of_mem h
  rw [numK_get] at hj
  cases e : (kidsC c)[j]? with
  | none => rw [e] at hj; cases hj
  | some x =>
    rw [e] at hj
    injection hj with hj
    rw [← hj]
    exact atK_of _ (List.mem_of_getElem? e)
theorem kids_three (c : CalL) : 3 ≤ (kidsC c).length := by
  unfold kidsC endI serveI
  simp only [List.length_append, List.length_cons, List.length_nil]
  omega

/-! ### In memory -/
theorem NodeOk.set1 {w : World} {M : Nat → Prop} {k : NodeL} {cs : List Value} (h : NodeOk w M k cs) (p : Int) : NodeOk w M (atK k p) (cs.set 1 (.int .i64 p)) := by
  obtain ⟨nm, q, ws, b, ks⟩ := k
  simp only [NodeOk] at h
  obtain ⟨Aw, cw, Ak, ck, kcs, rfl, h2⟩ := h
  simp only [atK, NodeL.name, NodeL.words, NodeL.block, NodeL.kids, NodeOk]
  exact ⟨Aw, cw, Ak, ck, kcs, rfl, h2⟩
def blkL (k : NodeL) : NodeL := .mk k.name k.pos k.words true k.kids
theorem NodeOk.set3 {w : World} {M : Nat → Prop} {k : NodeL} {cs : List Value} (h : NodeOk w M k cs) : NodeOk w M (blkL k) (cs.set 3 (.bool true)) := by
  obtain ⟨nm, q, ws, b, ks⟩ := k
  simp only [NodeOk] at h
  obtain ⟨Aw, cw, Ak, ck, kcs, rfl, h2⟩ := h
  simp only [blkL, NodeL.name, NodeL.pos, NodeL.words, NodeL.block, NodeL.kids, NodeOk]
  exact ⟨Aw, cw, Ak, ck, kcs, rfl, h2⟩
theorem NodesOk.setCell {w : World} {M : Nat → Prop} {j : Nat} {v : Value} (hj : j < 5) : ∀ {l : List NodeL} {cs : List Value}, NodesOk w M l cs → ∀ (i : Nat) (k k' : NodeL), l[i]? = some k → (∀ row, NodeOk w M k row → NodeOk w M k' (row.set j v)) →
    NodesOk w M (l.set i k') (cs.set (i * 5 + j) v)
  | [], cs, h, i, k, k', hi, _ => by simp at hi
  | x :: r, cs, h, i, k, k', hi, hk => by
    simp only [NodesOk] at h
    obtain ⟨a, b, rfl, h2, h3⟩ := h
    have hl := h2.len
    cases i with
    | zero =>
      simp only [List.getElem?_cons_zero, Option.some.injEq] at hi
      subst hi
      rw [List.set_cons_zero, Nat.zero_mul, Nat.zero_add, List.set_append_left j v (by omega)]
      simp only [NodesOk]
      exact ⟨_, _, rfl, hk _ h2, h3⟩
    | succ i =>
      rw [List.set_cons_succ, List.set_append_right _ v (by omega), show (i + 1) * 5 + j - a.length = i * 5 + j by omega]
      simp only [NodesOk]
      exact ⟨_, _, rfl, h2, NodesOk.setCell hj h3 i k k' (by simpa using hi) hk⟩
theorem NodesOk.row {w : World} {M : Nat → Prop} : ∀ {l : List NodeL} {cs : List Value}, NodesOk w M l cs → ∀ (i : Nat) (k : NodeL), l[i]? = some k → NodeOk w M k ((cs.drop (i * 5)).take 5)
  | [], cs, h, i, k, hi => by simp at hi
  | x :: r, cs, h, i, k, hi => by
    simp only [NodesOk] at h
    obtain ⟨a, b, rfl, h2, h3⟩ := h
    have hl := h2.len
    cases i with
    | zero =>
      simp only [List.getElem?_cons_zero, Option.some.injEq] at hi
      subst hi
      rw [Nat.zero_mul, List.drop_zero, List.take_append_of_le_length (by omega), List.take_of_length_le (by omega)]
      exact h2
    | succ i =>
      have : (a ++ b).drop ((i + 1) * 5) = b.drop (i * 5) := by
        rw [List.drop_append, List.drop_of_length_le (by omega), List.nil_append]
        congr 1
        omega
      rw [this]
      exact NodesOk.row h3 i k (by simpa using hi)
theorem NodesOk.takeL {w : World} {M : Nat → Prop} : ∀ {l : List NodeL} {cs : List Value}, NodesOk w M l cs → ∀ (i : Nat), NodesOk w M (l.take i) (cs.take (i * 5)) ∧ NodesOk w M (l.drop i) (cs.drop (i * 5))
  | [], cs, h, i => by simp only [NodesOk] at h; subst h; simp [NodesOk]
  | x :: r, cs, h, 0 => by simpa [NodesOk] using h
  | x :: r, cs, h, i + 1 => by
    simp only [NodesOk] at h
    obtain ⟨a, b, rfl, h2, h3⟩ := h
    have hl := h2.len
    have e1 : (a ++ b).drop ((i + 1) * 5) = b.drop (i * 5) := by
      rw [List.drop_append, List.drop_of_length_le (by omega), List.nil_append]
      congr 1
      omega
    have e2 : (a ++ b).take ((i + 1) * 5) = a ++ b.take (i * 5) := by
      rw [List.take_append, List.take_of_length_le (by omega)]
      congr 2
      omega
    rw [e1, e2, List.take_succ_cons, List.drop_succ_cons]
    obtain ⟨i1, i2⟩ := NodesOk.takeL h3 i
    refine ⟨?_, i2⟩
    simp only [NodesOk]
    exact ⟨_, _, rfl, h2, i1⟩

theorem NodeOk.one {w : World} {M : Nat → Prop} {n : NodeL} {cs : List Value} (h : NodeOk w M n cs) : ∀ u ∈ cs, u.oneCell' = true := by
  cases n with
  | mk nm p ws b ks =>
    simp only [NodeOk] at h
    obtain ⟨_, _, _, _, _, rfl, _⟩ := h
    intro u hu
    simp only [List.mem_cons, List.not_mem_nil, or_false] at hu
    rcases hu with rfl | rfl | rfl | rfl | rfl <;> rfl
theorem NodesOk.one' {w : World} {M : Nat → Prop} : ∀ {l : List NodeL} {cs : List Value}, NodesOk w M l cs → ∀ u ∈ cs, u.oneCell' = true
  | [], cs, h => by simp only [NodesOk] at h; subst h; intro u hu; simp at hu
  | n :: r, cs, h => by
    simp only [NodesOk] at h
    obtain ⟨a, b, rfl, h1, h2⟩ := h
    intro u hu
    rcases List.mem_append.1 hu with hu | hu
    · exact h1.one u hu
    · exact NodesOk.one' h2 u hu

/-- A row of items in a block of its own; what they lead to is older. -/
def KidRow (W : World) (L B g : Nat) (l : List NodeL) : Prop := B ≤ g ∧ ∃ cur : Array Value, W.heap[g]? = some (.cells cur 25 (0, 0)) ∧ l.length * 5 ≤ cur.size ∧ NodesOk W (fun b => L ≤ b ∧ b < B) l (cur.toList.take (l.length * 5))
theorem KidRow.lt {W : World} {L B g : Nat} {l : List NodeL} (h : KidRow W L B g l) : g < W.heap.size := by
  obtain ⟨_, cur, hg, _⟩ := h
  exact (Array.getElem?_eq_some_iff.1 hg).1
theorem KidRow.of_own {W : World} {L B n g cap : Nat} {l : List NodeL} {kcs : List Value} (ho : W.ownsRow B 25 5 (.slice (some ⟨g, 0, none⟩) n cap) n kcs) (hn : n = l.length) (hk : NodesOk W (fun b => L ≤ b ∧ b < B) l kcs) : KidRow W L B g l := by
  subst hn
  rcases ho.2 with ⟨h, _⟩ | ⟨g', cap', cur, hv, hb, hg, h1, h2, h3, h4⟩
  · cases h
  · injection hv with e1 e2 e3
    injection e1 with e1
    injection e1 with e1
    subst e1
    have hlen := ho.1
    refine ⟨hb, cur, hg, ?_, by rw [h4]; exact hk⟩
    rw [← h4, List.length_take] at hlen
    simp only [Array.length_toList] at hlen
    omega
theorem KidRow.below {W W' : World} {L B g : Nat} {l : List NodeL} (h : KidRow W L B g l) (hb : Below W.heap.size W W') : KidRow W' L B g l := by
  have hl := h.lt
  obtain ⟨h0, cur, hg, h1, h2⟩ := h
  exact ⟨h0, cur, (hb.block g hl).trans hg, h1, h2.keepB (fun _ h => h) (fun b h => hb.block b (by omega))⟩
theorem KidRow.grown {W W' : World} {row : Option Nat} {L B g : Nat} {l : List NodeL} (h : KidRow W L B g l) (hb : W.grownBy W' row) (hr : ∀ b, row = some b → B ≤ b ∧ b ≠ g) : KidRow W' L B g l := by
  have hl := h.lt
  obtain ⟨h0, cur, hg, h1, h2⟩ := h
  exact ⟨h0, cur, (hb.block g hl (fun e => (hr _ e.symm).2 rfl)).trans hg, h1, h2.keepB (fun _ h => h) (fun b h => hb.block b (by omega) (fun e => by have := (hr _ e.symm).1; omega))⟩
theorem KidRow.other {W : World} {L B g : Nat} {l : List NodeL} (h : KidRow W L B g l) {a : Addr} (ha : a.block < L ∨ B ≤ a.block) (hne : a.block ≠ g) (v : Value) : KidRow (W.setCell a v) L B g l := by
  obtain ⟨h0, cur, hg, h1, h2⟩ := h
  exact ⟨h0, cur, (heap_setCell_other W a g v (fun e => hne e.symm)).trans hg, h1, h2.keepB (fun _ h => h) (fun b h => heap_setCell_other W a b v (fun e => by omega))⟩
theorem heap_set_same (W : World) (g j : Nat) (cur : Array Value) (T : TypeId) (fr : Nat × Nat) (v : Value) (h : W.heap[g]? = some (.cells cur T fr)) : (W.setCell ⟨g, j, none⟩ v).heap[g]? = some (.cells (cur.setIfInBounds j v) T fr) := by
  have hl := (Array.getElem?_eq_some_iff.1 h).1
  obtain ⟨hl', he⟩ := Array.getElem?_eq_some_iff.1 h
  simp [World.setCell, Array.getElem_modify_self, hl, he]
theorem KidRow.set {W : World} {L B g j : Nat} {l : List NodeL} {v : Value} (h : KidRow W L B g l) (i : Nat) (k k' : NodeL) (hi : l[i]? = some k) (hj : j < 5) (hk : ∀ w row, NodeOk w (fun b => L ≤ b ∧ b < B) k row → NodeOk w (fun b => L ≤ b ∧ b < B) k' (row.set j v)) :
    KidRow (W.setCell ⟨g, i * 5 + j, none⟩ v) L B g (l.set i k') := by
  obtain ⟨h0, cur, hg, h1, h2⟩ := h
  have hil := (List.getElem?_eq_some_iff.1 hi).1
  have hn : NodesOk (W.setCell ⟨g, i * 5 + j, none⟩ v) (fun b => L ≤ b ∧ b < B) l (cur.toList.take (l.length * 5)) := h2.keepB (fun _ h => h) (fun b h => heap_setCell_other W ⟨g, i * 5 + j, none⟩ b v (fun e => by have : b = g := e; omega))
  have hn2 := NodesOk.setCell (v := v) hj hn i k k' hi (hk _)
  refine ⟨h0, _, heap_set_same W g _ cur _ _ v hg, by rw [List.length_set]; simpa using h1, ?_⟩
  rw [List.length_set, Array.toList_setIfInBounds, List.take_set]
  exact hn2
theorem KidRow.cell {W : World} {L B g : Nat} {l : List NodeL} (h : KidRow W L B g l) (i : Nat) (k : NodeL) (hi : l[i]? = some k) : ∃ row, NodeOk W (fun b => L ≤ b ∧ b < B) k row ∧ ∀ j, j < 5 → W.cell? ⟨g, i * 5 + j, none⟩ = row[j]? := by
  obtain ⟨h0, cur, hg, h1, h2⟩ := h
  have hil := (List.getElem?_eq_some_iff.1 hi).1
  obtain ⟨a, ha, hc⟩ := h2.at i k hi
  refine ⟨a, ha, fun j hj => ?_⟩
  rw [← hc j hj, Joins.cell_of_block hg, List.getElem?_take_of_lt (by omega)]
  simp
theorem KidRow.unfrozen {W : World} {L B g : Nat} {l : List NodeL} (h : KidRow W L B g l) (j : Nat) : W.frozen? ⟨g, j, none⟩ = false := by
  obtain ⟨h0, cur, hg, h1, h2⟩ := h
  exact Joins.unfrozen_of_block hg j
theorem KidRow.reads {W : World} {L B g : Nat} {l : List NodeL} (h : KidRow W L B g l) : ∃ kcs, kcs.length = l.length * 5 ∧ NodesOk W (fun b => L ≤ b ∧ b < B) l kcs ∧ (∀ j u, kcs[j]? = some u → W.cell? ((⟨g, 0, none⟩ : Addr).add j) = some u) ∧ ∀ u ∈ kcs, u.oneCell' = true := by
  obtain ⟨h0, cur, hg, h1, h2⟩ := h
  refine ⟨_, h2.len, h2, fun j u hu => ?_, ?_⟩
  · rw [add_blk0, Joins.cell_of_block hg j]
    have hj := (List.getElem?_eq_some_iff.1 hu).1
    rw [h2.len] at hj
    rw [List.getElem?_take_of_lt hj] at hu
    simpa using hu
  · exact fun u hu => NodesOk.one' h2 u hu

end Go.Proofs.Ytmiejdbpogggeaa
end

section
/- Layer 11 (field), in plain Lean: a block without one of its keys, and its keys in another order. -/
set_option linter.unusedVariables false
set_option linter.unusedSimpArgs false
set_option maxRecDepth 100000
namespace Go.Proofs.Ytmiejdbpogggeaa

section
variable {c : CalL}
theorem name_inj (i j : Nat) (a b : NodeL) (hi : (kidsC c)[i]? = some a) (hj : (kidsC c)[j]? = some b) (h : a.name = b.name) : i = j := by
  have hn := kids_nodup (c := c)
  rw [List.Nodup, List.pairwise_iff_getElem] at hn
  obtain ⟨h1, e1⟩ := List.getElem?_eq_some_iff.1 hi
  obtain ⟨h2, e2⟩ := List.getElem?_eq_some_iff.1 hj
  rcases Nat.lt_trichotomy i j with hl | hl | hl
  · have := hn i j (by simpa using h1) (by simpa using h2) hl
    simp only [List.getElem_map, e1, e2] at this
    exact absurd h this
  · exact hl
  · have := hn j i (by simpa using h2) (by simpa using h1) hl
    simp only [List.getElem_map, e1, e2] at this
    exact absurd h.symm this

/-! ### One key is missing -/
theorem miss_yes {k0 : NodeL} {names : List Bytes} (hk0 : k0 ∈ kidsC c) (hne : k0.name ≠ b_end) (hno : k0.name ∉ names) (hsub : ∀ x ∈ names, ∃ k ∈ kidsC c, k.name = x) : missL c.kind names = true := by
  obtain ⟨s1, s2, s3, s4, s5⟩ := stands_same c.kind
  have hself : ∀ k ∈ kidsC c, KidSays c k := fun k hk => kid_says c k (atK_of k.pos hk |> fun h => by obtain ⟨nm, p, ws, b, ks⟩ := k; exact h)
  have hin : ∀ x, standsC c.kind x = true → (x = b_named ∨ x = b_periods ∨ x = b_extra ∨ x = b_serve ∨ x = b_compare) → x ∉ names → (x = b_periods → b_pay ∉ names) → missL c.kind names = true := fun x hs hx h1 h2 => by
    unfold missL
    rw [List.any_eq_true]
    refine ⟨x, by simpa using hx, ?_⟩
    simp only [Bool.and_eq_true, Bool.not_eq_true', Bool.or_eq_false_iff, List.contains_eq_mem, decide_eq_false_iff_not, Bool.and_eq_false_iff, decide_eq_true_eq]
    refine ⟨hs, h1, ?_⟩
    by_cases hp : x = b_periods
    · exact .inr (h2 hp)
    · exact .inl hp
  have hshape : ∀ (nm : Bytes), nm ∈ names → nm = b_pay → c.shape = 3 := fun nm hm e => by
    obtain ⟨k, hk, e2⟩ := hsub nm hm
    exact ((hself k hk).pay (e2.trans e)).1
  have hshape2 : ∀ (nm : Bytes), nm ∈ names → nm = b_periods → c.shape = 1 ∨ c.shape = 2 := fun nm hm e => by
    obtain ⟨k, hk, e2⟩ := hsub nm hm
    rcases (hself k hk).periods (e2.trans e) with h | h
    · exact .inl h.1
    · exact .inr h.1
  have hk1 := hk0
  rw [mem_kids] at hk1
  rcases hk1 with rfl | ⟨hs, rfl⟩ | ⟨hs, ⟨hc, rfl⟩ | ⟨hc, rfl⟩ | ⟨hc, rfl⟩ | rfl⟩ | rfl | rfl
  · exact absurd rfl hne
  · exact hin b_named hs (.inl rfl) hno (fun e => absurd e (by decide))
  · exact hin b_periods (s1.trans hs) (.inr (.inl rfl)) hno (fun _ hm => by have := hshape _ hm rfl; omega)
  · exact hin b_periods (s1.trans hs) (.inr (.inl rfl)) hno (fun _ hm => by have := hshape _ hm rfl; omega)
  · exact hin b_periods (s1.trans hs) (.inr (.inl rfl)) (fun hm => by have := hshape2 _ hm rfl; omega) (fun _ => hno)
  · exact hin b_extra hs (.inr (.inr (.inl rfl))) hno (fun e => absurd e (by decide))
  · exact hin b_serve s4 (.inr (.inr (.inr (.inl rfl)))) hno (fun e => absurd e (by decide))
  · exact hin b_compare s5 (.inr (.inr (.inr (.inr rfl)))) hno (fun e => absurd e (by decide))
theorem map_take_drop (l : List NodeL) (k : Nat) : ((l.take k ++ l.drop (k + 1)).map NodeL.name) = (l.map NodeL.name).take k ++ (l.map NodeL.name).drop (k + 1) := by simp
theorem nodup_less {α : Type} {l : List α} (h : l.Nodup) (k : Nat) : (l.take k ++ l.drop (k + 1)).Nodup := by
  refine List.Nodup.sublist ?_ h
  have : l.take k ++ l.drop (k + 1) = l.eraseIdx k := (List.eraseIdx_eq_take_drop_succ l k).symm
  rw [this]
  exact List.eraseIdx_sublist l k
/-- Without any of its keys a calendar's block is none: one is missing. -/
theorem read_less (hok : okC c = true) (k : Nat) (hk : k < (kidsC c).length) : readC (.mk b_calendar 100 [wS c.name] true ((numK (kidsC c)).take k ++ (numK (kidsC c)).drop (k + 1))) = ⟨calZ, 100, 10⟩ := by
  have hmem : ∀ x ∈ (numK (kidsC c)).take k ++ (numK (kidsC c)).drop (k + 1), KidOf c x := fun x hx => by
    rcases List.mem_append.1 hx with h | h
    · exact numK_of (List.mem_of_mem_take h)
    · exact numK_of (List.mem_of_mem_drop h)
  have hnm := map_take_drop (numK (kidsC c)) k
  rw [numK_names] at hnm
  have hnd := nodup_less (kids_nodup (c := c)) k
  rw [read_keys hok hmem (by rw [hnm]; exact hnd) 100, hnm]
  obtain ⟨k0, hk0⟩ : ∃ k0, (kidsC c)[k]? = some k0 := ⟨_, List.getElem?_eq_getElem hk⟩
  have hno : k0.name ∉ ((kidsC c).map NodeL.name).take k ++ ((kidsC c).map NodeL.name).drop (k + 1) := fun h => by
    rcases List.mem_append.1 h with h | h
    · obtain ⟨j, hj⟩ := List.getElem?_of_mem h
      have hjk : j < k := by
        have := (List.getElem?_eq_some_iff.1 hj).1
        rw [List.length_take] at this
        omega
      rw [List.getElem?_take_of_lt hjk, List.getElem?_map] at hj
      cases e : (kidsC c)[j]? with
      | none => rw [e] at hj; cases hj
      | some x =>
        rw [e] at hj
        injection hj with hj
        have := name_inj j k x k0 e hk0 hj
        omega
    · obtain ⟨j, hj⟩ := List.getElem?_of_mem h
      rw [List.getElem?_drop, List.getElem?_map] at hj
      cases e : (kidsC c)[k + 1 + j]? with
      | none => rw [e] at hj; cases hj
      | some x =>
        rw [e] at hj
        injection hj with hj
        have := name_inj _ k x k0 e hk0 hj
        omega
  have hsub : ∀ x ∈ ((kidsC c).map NodeL.name).take k ++ ((kidsC c).map NodeL.name).drop (k + 1), ∃ y ∈ kidsC c, y.name = x := fun x hx => by
    have : x ∈ (kidsC c).map NodeL.name := by
      rcases List.mem_append.1 hx with h | h
      · exact List.mem_of_mem_take h
      · exact List.mem_of_mem_drop h
    exact List.mem_map.1 this
  by_cases he : k0.name = b_end
  · rw [if_neg (by rw [← he]; exact hno)]
  · rw [miss_yes (List.mem_of_getElem? hk0) he hno hsub]
    split <;> rfl

/-! ### In another order -/
def sig (n k j : Nat) : Nat := (k + n - j) % n
theorem sig_eq (n k j : Nat) (hk : k < n) (hj : j < n) : sig n k j = if j ≤ k then k - j else k + n - j := by
  unfold sig
  by_cases h : j ≤ k
  · rw [if_pos h, show k + n - j = (k - j) + n by omega, Nat.add_mod_right, Nat.mod_eq_of_lt (by omega)]
  · rw [if_neg h, Nat.mod_eq_of_lt (by omega)]
theorem sig_lt (n k j : Nat) (hk : k < n) : sig n k j < n := Nat.mod_lt _ (by omega)
def pickL (l : List NodeL) (k i : Nat) : List NodeL := (List.range i).map fun j => l.getD (sig l.length k j) nodeZ
theorem pickL_len (l : List NodeL) (k i : Nat) : (pickL l k i).length = i := by simp [pickL]
theorem pickL_zero (l : List NodeL) (k : Nat) : pickL l k 0 = [] := rfl
theorem pickL_succ (l : List NodeL) (k i : Nat) : pickL l k (i + 1) = pickL l k i ++ [l.getD (sig l.length k i) nodeZ] := by
  unfold pickL
  rw [List.range_succ, List.map_append]
  rfl
theorem getD_lt (l : List NodeL) (m : Nat) (h : m < l.length) : l[m]? = some (l.getD m nodeZ) := getD_some l m nodeZ h
theorem read_turned (hok : okC c = true) (k : Nat) (hk : k < (kidsC c).length) (p : Int) : readC (.mk b_calendar p [wS c.name] true (pickL (numK (kidsC c)) k (kidsC c).length)) = ⟨c, 0, 0⟩ := by
  have hlen := numK_len (kidsC c)
  have hnum : ∀ m k0, (kidsC c)[m]? = some k0 → ((numK (kidsC c)).getD m nodeZ) = atK k0 ((m : Int) + 1) := fun m k0 h => by
    rw [List.getD_eq_getElem?_getD, numK_get, h]; rfl
  refine read_all hok (fun x hx => ?_) ?_ (fun k0 hk0 => ?_) p
  · obtain ⟨j, hj, rfl⟩ := List.mem_map.1 hx
    have hs := sig_lt (numK (kidsC c)).length k j (by rw [hlen]; exact hk)
    exact numK_of (List.mem_of_getElem? (getD_lt _ _ hs))
  · unfold pickL
    rw [List.map_map, List.Nodup, List.pairwise_map]
    refine List.Pairwise.imp_of_mem ?_ List.pairwise_lt_range
    intro a b ha hb hab he
    rw [List.mem_range] at ha hb
    rw [hlen] at he
    have ea := sig_eq (kidsC c).length k a hk ha
    have eb := sig_eq (kidsC c).length k b hk hb
    have la := sig_lt (kidsC c).length k a hk
    have lb := sig_lt (kidsC c).length k b hk
    obtain ⟨x, hx⟩ : ∃ x, (kidsC c)[sig (kidsC c).length k a]? = some x := ⟨_, List.getElem?_eq_getElem la⟩
    obtain ⟨y, hy⟩ : ∃ y, (kidsC c)[sig (kidsC c).length k b]? = some y := ⟨_, List.getElem?_eq_getElem lb⟩
    simp only [Function.comp] at he
    rw [hnum _ _ hx, hnum _ _ hy] at he
    have := name_inj _ _ x y hx hy he
    rw [ea, eb] at this
    split at this <;> split at this <;> omega
  · obtain ⟨m, hm⟩ := List.getElem?_of_mem hk0
    have hml := (List.getElem?_eq_some_iff.1 hm).1
    refine List.mem_map.2 ⟨atK k0 ((m : Int) + 1), ?_, rfl⟩
    refine List.mem_map.2 ⟨if m ≤ k then k - m else k + (kidsC c).length - m, ?_, ?_⟩
    · rw [List.mem_range]; split <;> omega
    · rw [hlen, ← hnum m k0 hm]
      congr 1
      rw [sig_eq _ k _ hk (by split <;> omega)]
      split <;> split <;> omega
end

end Go.Proofs.Ytmiejdbpogggeaa
end

section
/- Layer 11 (field), in plain Lean: a block with a key twice, with one that is none, with a block in it. -/
set_option linter.unusedVariables false
set_option linter.unusedSimpArgs false
set_option maxRecDepth 100000
namespace Go.Proofs.Ytmiejdbpogggeaa

theorem formed_pre (nm : Bytes) (r : List NodeL) : ∀ (l : List NodeL) (seen : List Bytes) (co : Option CalL), (∀ k ∈ l, KidOk nm k) → (seen ++ l.map NodeL.name).Nodup → formedL nm seen co (l ++ r) = formedL nm (seen ++ l.map NodeL.name) (endIn nm co l) r
  | [], seen, co, _, _ => by simp [endIn]
  | k :: q, seen, co, hk, hn => by
    have h := hk k (by simp)
    have hns : seen.contains k.name = false := by
      rw [List.nodup_append] at hn
      cases hc : seen.contains k.name
      · rfl
      · exact absurd rfl (hn.2.2 k.name (by simpa using hc) k.name (by simp))
    rw [List.cons_append, formed_go h.key hns (by rw [h.blk, h.wds, h.put]; rfl)]
    rw [formed_pre nm r q (seen ++ [k.name]) _ (fun x hx => hk x (by simp [hx])) (by simpa using hn)]
    rw [List.append_assoc]
    rfl
theorem formed_twice (nm : Bytes) (seen : List Bytes) (co : Option CalL) (k : NodeL) (r : List NodeL) (h1 : keysL.contains k.name = true) (h2 : k.name ∈ seen) : formedL nm seen co (k :: r) = .inl (k.pos, 9) := by
  unfold formedL
  rw [h1, if_neg (by decide), if_pos (by simpa using h2)]
theorem formed_none (nm : Bytes) (seen : List Bytes) (co : Option CalL) (k : NodeL) (r : List NodeL) (h1 : keysL.contains k.name = false) : formedL nm seen co (k :: r) = .inl (k.pos, 8) := by
  unfold formedL
  rw [h1, if_pos (by decide)]
theorem formed_block (nm : Bytes) (seen : List Bytes) (co : Option CalL) (k : NodeL) (r : List NodeL) (h1 : keysL.contains k.name = true) (h2 : k.name ∉ seen) (h3 : k.block = true) : formedL nm seen co (k :: r) = .inl (k.pos, 5) := by
  unfold formedL
  rw [h1, if_neg (by decide), if_neg (by simpa using h2), if_pos (by rw [h3]; rfl)]
theorem readC_left {nm : Bytes} {p a e : Int} {l : List NodeL} (hc : checkL 0 [.mk b_calendar p [wS nm] true l] = 0) (h : formedL nm [] none l = .inl (a, e)) : readC (.mk b_calendar p [wS nm] true l) = ⟨calZ, a, e⟩ := by
  rw [readC_block b_calendar p [wS nm] true l hc (by simp [wS])]
  unfold readBlock
  show (match formedL nm [] none l with
    | .inl (p, e) => _
    | .inr none => _
    | .inr (some c) => _) = _
  rw [h]

section
variable {c : CalL}
theorem num_put (hok : okC c = true) (l : List NodeL) (hl : ∀ k ∈ l, KidOf c k) : (∀ k ∈ l, KidOk c.name k) ∧ ∀ k ∈ l, checkN 1 k = 0 := ⟨fun k hk => kid_put hok (hl k hk) c.name, fun k hk => kid_check hok (hl k hk) 1⟩
/-- With a key twice. -/
theorem read_twice (hok : okC c = true) (m : Nat) (k : NodeL) (hm : (numK (kidsC c))[m]? = some k) : readC (.mk b_calendar 100 [wS c.name] true (numK (kidsC c) ++ [atK k 7])) = ⟨calZ, 7, 9⟩ := by
  obtain ⟨n1, n2⟩ := num_put hok (numK (kidsC c)) (fun k hk => numK_of hk)
  have hof := numK_of (c := c) (List.mem_of_getElem? hm)
  have hof7 : KidOf c (atK k 7) := by
    obtain ⟨k0, h1, h2, h3, h4, h5⟩ := hof
    exact ⟨k0, h1, h2, h3, h4, h5⟩
  refine readC_left (check_block hok (fun x hx => ?_) 100) ?_
  · rcases List.mem_append.1 hx with h | h
    · exact n2 x h
    · rw [List.mem_singleton.1 h]; exact kid_check hok hof7 1
  · rw [formed_pre c.name _ _ [] none n1 (by simpa [numK_names] using kids_nodup (c := c))]
    refine formed_twice _ _ _ (atK k 7) [] (kid_says c _ hof7).any ?_
    rw [List.nil_append]
    exact List.mem_map.2 ⟨k, List.mem_of_getElem? hm, rfl⟩
/-- With one that is none. -/
theorem read_other (hok : okC c = true) (nm : Bytes) (hn : nameL nm = true) (hk : keysL.contains nm = false) : readC (.mk b_calendar 100 [wS c.name] true (.mk nm 9 [] false [] :: numK (kidsC c))) = ⟨calZ, 9, 8⟩ := by
  obtain ⟨n1, n2⟩ := num_put hok (numK (kidsC c)) (fun k hk => numK_of hk)
  refine readC_left (check_block hok (fun x hx => ?_) 100) (formed_none _ _ _ (.mk nm 9 [] false []) _ hk)
  rcases List.mem_cons.1 hx with rfl | h
  · exact checkK (k := .mk nm 9 [] false []) hn rfl (by simp [NodeL.words]) rfl rfl 1
  · exact n2 x h
/-- With a block in it. -/
theorem read_blocked (hok : okC c = true) (m : Nat) (k : NodeL) (hm : (numK (kidsC c))[m]? = some k) : readC (.mk b_calendar 100 [wS c.name] true ((numK (kidsC c)).set m (blkL k))) = ⟨calZ, (m : Int) + 1, 5⟩ := by
  obtain ⟨n1, n2⟩ := num_put hok (numK (kidsC c)) (fun k hk => numK_of hk)
  have hof := numK_of (c := c) (List.mem_of_getElem? hm)
  have hml := (List.getElem?_eq_some_iff.1 hm).1
  have hpos : k.pos = (m : Int) + 1 := by
    rw [numK_get] at hm
    cases e : (kidsC c)[m]? with
    | none => rw [e] at hm; cases hm
    | some x => rw [e] at hm; injection hm with hm; rw [← hm]; rfl
  have hsplit : (numK (kidsC c)).set m (blkL k) = (numK (kidsC c)).take m ++ blkL k :: (numK (kidsC c)).drop (m + 1) := List.set_eq_take_append_cons_drop.trans (if_pos hml)
  have hck : checkN 1 (blkL k) = 0 := by
    have h0 := kid_check hok hof 1
    have hkk : k.kids = [] := by obtain ⟨k0, h1, h2, h3, h4, h5⟩ := hof; exact h5
    obtain ⟨nm, p, ws, b, ks⟩ := k
    simp only [NodeL.kids] at hkk
    subst hkk
    simp only [checkN, checkL, blkL, NodeL.name, NodeL.words, NodeL.kids, NodeL.pos] at h0 ⊢
    simp at h0 ⊢
    exact h0
  have hnd := kids_nodup (c := c)
  rw [← numK_names] at hnd
  have hnm : k.name ∉ ((numK (kidsC c)).take m).map NodeL.name := fun h => by
    rw [List.map_take] at h
    obtain ⟨j, hj⟩ := List.getElem?_of_mem h
    have hjm : j < m := by
      have := (List.getElem?_eq_some_iff.1 hj).1
      rw [List.length_take] at this
      omega
    rw [List.getElem?_take_of_lt hjm] at hj
    rw [List.Nodup, List.pairwise_iff_getElem] at hnd
    obtain ⟨hj1, hj2⟩ := List.getElem?_eq_some_iff.1 hj
    have := hnd j m hj1 (by simpa using hml) hjm
    rw [hj2] at this
    simp only [List.getElem_map] at this
    rw [(List.getElem?_eq_some_iff.1 hm).2] at this
    exact this rfl
  rw [hsplit, ← hpos]
  refine readC_left (check_block hok (fun x hx => ?_) 100) ?_
  · rcases List.mem_append.1 hx with h | h
    · exact n2 x (List.mem_of_mem_take h)
    · rcases List.mem_cons.1 h with rfl | h
      · exact hck
      · exact n2 x (List.mem_of_mem_drop h)
  · rw [formed_pre c.name _ _ [] none (fun x hx => n1 x (List.mem_of_mem_take hx)) (by
      rw [List.nil_append, List.map_take]
      exact hnd.sublist (List.take_sublist _ _))]
    refine formed_block _ _ _ (blkL k) _ (kid_says c k hof).any ?_ rfl
    rw [List.nil_append]
    exact hnm
end

end Go.Proofs.Ytmiejdbpogggeaa
end

section
/- Layer 11 (field), in plain Lean: a block with the end of another calendar. -/
set_option linter.unusedVariables false
set_option linter.unusedSimpArgs false
set_option maxRecDepth 100000
namespace Go.Proofs.Ytmiejdbpogggeaa

theorem fits_some (kind : Int) : ∀ (l : List NodeL) (seen : List Bytes), ¬ (b_periods ∈ seen ++ l.map NodeL.name ∧ b_pay ∈ seen ++ l.map NodeL.name) → fitsL kind seen l = none ∧ (∀ k ∈ l, standsC kind k.name = true) ∨ ∃ k ∈ l, standsC kind k.name = false ∧ fitsL kind seen l = some (k.pos, 8)
  | [], seen, _ => .inl ⟨rfl, by simp⟩
  | k :: r, seen, hp => by
    unfold fitsL
    have h2 : ¬ ((k.name = b_periods ∧ b_pay ∈ seen) ∨ (k.name = b_pay ∧ b_periods ∈ seen)) := by
      rintro (⟨h1, h2⟩ | ⟨h1, h2⟩)
      · exact hp ⟨by simp [← h1], by simp [h2]⟩
      · exact hp ⟨by simp [h2], by simp [← h1]⟩
    cases hs : standsC kind k.name
    · right
      exact ⟨k, by simp, hs, by rw [if_pos (by decide)]⟩
    · rw [if_neg (by decide), if_neg h2]
      rcases fits_some kind r (seen ++ [k.name]) (by simpa using hp) with ⟨h, ha⟩ | ⟨x, hx, hxs, h⟩
      · left
        refine ⟨h, fun y hy => ?_⟩
        rcases List.mem_cons.1 hy with rfl | hy
        · exact hs
        · exact ha y hy
      · exact .inr ⟨x, by simp [hx], hxs, h⟩

section
variable {c d : CalL} {l : List NodeL}
theorem put_first (hok : okC c = true) (hof : ∀ k ∈ l, KidOf c k) (hall : ∃ k ∈ l, k.name = b_serve) (x : CalL) : (putAll x l).first = c.first :=
  fold_set (·.first) (· = b_serve) (fun c k h => ((putF_fields c k).2.2.2.2.2.2.2.2.2 h).1) _ l _ hall (fun k hk h c' => (putF_serve h ((kid_says c k (hof k hk)).serve h) c').1)
theorem put_policy (hok : okC c = true) (hof : ∀ k ∈ l, KidOf c k) (hall : ∃ k ∈ l, k.name = b_compare) (x : CalL) : (putAll x l).policy = c.policy := by
  have hfit := nodeFit c hok
  have key : ∀ (l : List NodeL) (d : CalL), (∀ k ∈ l, keysL.contains k.name = true) → (∃ k ∈ l, k.name = b_compare) → (∀ k ∈ l, k.name = b_compare → ∀ c', (putF c' k).policy = c.policy) → (putAll d l).policy = c.policy := by
    intro l
    induction l with
    | nil => intro d _ h _; obtain ⟨k, hk, _⟩ := h; cases hk
    | cons a r ih =>
      intro d hk h hs
      rw [putAll_cons]
      by_cases hr : ∃ k ∈ r, k.name = b_compare
      · exact ih _ (fun k h => hk k (by simp [h])) hr (fun k h => hs k (by simp [h]))
      · rw [fold_same (·.policy) r _ (fun k h c' => putF_policy c' k (hk k (by simp [h])) (fun e => hr ⟨k, h, e⟩))]
        obtain ⟨k, hkm, hp⟩ := h
        rcases List.mem_cons.1 hkm with rfl | hkm
        · exact hs k (by simp) hp _
        · exact absurd ⟨k, hkm, hp⟩ hr
  exact key l _ (fun k hk => (kid_says c k (hof k hk)).any) hall (fun k hk h c' => putF_compare h ((kid_says c k (hof k hk)).compare h) hfit.pol.1 hfit.pol.2 c')

/-- How many keys a calendar has. -/
theorem kids_many (hok : okC c = true) : (kidsC c).length = 3 + (if standsC c.kind b_named then 1 else 0) + (if standsC c.kind b_extra then 2 else 0) := by
  have hwk : standsC c.kind b_extra = true → weeksC c = true := fun hst => by
    obtain ⟨t12, t3, t4, t5, t6⟩ := stands_kinds c.kind
    rcases cal_kinds c hok with ⟨h, _⟩ | ⟨h, _⟩ | ⟨_, hw⟩ | ⟨_, _, _, _, hw⟩ | ⟨h, _⟩
    · rw [(t3 h).2] at hst; cases hst
    · rw [(t4 h).2] at hst; cases hst
    · exact hw
    · exact hw
    · rw [(t6 h).2] at hst; cases hst
  unfold kidsC endI namedI extraI serveI
  cases hn : standsC c.kind b_named <;> cases he : standsC c.kind b_extra
  · simp
  · obtain ⟨_, hsh⟩ := weeks_kinds c (hwk he)
    unfold shapeC
    rcases hsh with ⟨h, _⟩ | ⟨h, _⟩ | ⟨h, _⟩ <;> simp [h]
  · simp
  · obtain ⟨_, hsh⟩ := weeks_kinds c (hwk he)
    unfold shapeC
    rcases hsh with ⟨h, _⟩ | ⟨h, _⟩ | ⟨h, _⟩ <;> simp [h]
theorem endCal_is (nm : Bytes) (hok : okC d = true) : (endCal nm d).name = nm ∧ (endCal nm d).kind = d.kind ∧ (endCal nm d).day = d.day ∧ (endCal nm d).month = d.month := by
  unfold endCal
  rcases cal_kinds d hok with ⟨h, e⟩ | ⟨h, e⟩ | ⟨h, _⟩ | ⟨h, h1, h2, _⟩ | ⟨h, h1, _⟩
  · rw [if_pos h]
    exact ⟨rfl, h.symm, by rw [e], by rw [e]⟩
  · rw [if_neg (by omega), if_pos h]
    exact ⟨rfl, h.symm, by rw [e], by rw [e]⟩
  · rw [if_neg (by omega), if_neg (by omega), if_neg (by omega), if_neg (by omega)]
    exact ⟨rfl, rfl, rfl, rfl⟩
  · rw [if_neg (by omega), if_neg (by omega), if_pos h]
    exact ⟨rfl, h.symm, h1.symm, h2.symm⟩
  · rw [if_neg (by omega), if_neg (by omega), if_neg (by omega), if_pos h]
    exact ⟨rfl, h.symm, h1.symm, rfl⟩

/-- What the law says of the answer. -/
def EndsSay (c d : CalL) (r : CalR) : Prop :=
  (r.err = 0 ∧ r.at_ = 0 ∧ r.cal.kind = d.kind ∧ r.cal.day = d.day ∧ r.cal.month = d.month ∧ r.cal.first = c.first ∧ r.cal.policy = c.policy ∧ r.cal.name = c.name ∧ (kidsC d).length ≤ (kidsC c).length) ∨
  (r.cal = calZ ∧ ((r.err = 8 ∧ 2 ≤ r.at_ ∧ r.at_ ≤ 6) ∨ ((r.err = 10 ∨ r.err = 1) ∧ r.at_ = 100)))
def endL (d : CalL) : NodeL := atK (itemL b_end (saysC d) []) 1
theorem ite_say {c d : CalL} {p q : Prop} [Decidable p] [Decidable q] {x y z : CalR} (h1 : p → EndsSay c d x) (h2 : ¬ p → q → EndsSay c d y) (h3 : ¬ p → ¬ q → EndsSay c d z) : EndsSay c d (if p then x else if q then y else z) := by
  by_cases hp : p
  · rw [if_pos hp]; exact h1 hp
  · rw [if_neg hp]
    by_cases hq : q
    · rw [if_pos hq]; exact h2 hp hq
    · rw [if_neg hq]; exact h3 hp hq
theorem kids_head (c : CalL) : kidsC c = itemL b_end (saysC c) [] :: (kidsC c).drop 1 := by
  unfold kidsC endI
  rfl
theorem num_head (c : CalL) : (numK (kidsC c))[0]? = some (endL c) := by
  rw [numK_get, kids_head]
  rfl
theorem read_ended (hc : okC c = true) (hd : okC d = true) : EndsSay c d (readC (.mk b_calendar 100 [wS c.name] true ((numK (kidsC c)).set 0 (endL d)))) := by
  have hl0 : (numK (kidsC c)).set 0 (endL d) = endL d :: (numK (kidsC c)).drop 1 := by
    have h3 := kids_three c
    rw [← numK_len] at h3
    cases e : numK (kidsC c) with
    | nil => rw [e] at h3; simp at h3
    | cons a r => rfl
  rw [hl0]
  have hcons : numK (kidsC c) = endL c :: (numK (kidsC c)).drop 1 := by
    have h3 := num_head c
    cases e : numK (kidsC c) with
    | nil => rw [e] at h3; cases h3
    | cons a r => rw [e] at h3; injection h3 with h3; rw [h3]; rfl
  have hnames : (endL d :: (numK (kidsC c)).drop 1).map NodeL.name = (kidsC c).map NodeL.name := by
    have e := congrArg (List.map NodeL.name) hcons
    rw [numK_names] at e
    rw [e]; rfl
  have hnd := kids_nodup (c := c)
  have hof : ∀ k ∈ (numK (kidsC c)).drop 1, KidOf c k := fun k hk => numK_of (List.mem_of_mem_drop hk)
  have hoe : KidOf d (endL d) := atK_of 1 (by rw [kids_head]; simp)
  have hpos : ∀ k ∈ (numK (kidsC c)).drop 1, 2 ≤ k.pos ∧ k.pos ≤ 6 := fun k hk => by
    obtain ⟨j, hj⟩ := List.getElem?_of_mem hk
    rw [List.getElem?_drop, numK_get] at hj
    cases e : (kidsC c)[1 + j]? with
    | none => rw [e] at hj; cases hj
    | some x =>
      rw [e] at hj
      injection hj with hj
      have h6 := kids_len c
      have := (List.getElem?_eq_some_iff.1 e).1
      rw [← hj]
      show 2 ≤ (((1 + j : Nat) : Int) + 1) ∧ (((1 + j : Nat) : Int) + 1) ≤ 6
      omega
  have hnoe : ∀ k ∈ (numK (kidsC c)).drop 1, k.name ≠ b_end := fun k hk e => by
    rw [← hnames] at hnd
    rw [List.map_cons, List.nodup_cons] at hnd
    exact hnd.1 (List.mem_map.2 ⟨k, hk, e⟩)
  have hput : ∀ k ∈ endL d :: (numK (kidsC c)).drop 1, KidOk c.name k := fun k hk => by
    rcases List.mem_cons.1 hk with rfl | hk
    · exact kid_put hd hoe c.name
    · exact kid_put hc (hof k hk) c.name
  have hck := check_block (c := c) (l := endL d :: (numK (kidsC c)).drop 1) hc (fun k hk => by
    rcases List.mem_cons.1 hk with rfl | hk
    · exact kid_check hd hoe 1
    · exact kid_check hc (hof k hk) 1) 100
  have hform := formed_ok c.name (endL d :: (numK (kidsC c)).drop 1) [] none hput (by rw [List.nil_append, hnames]; exact hnd)
  have hendv : ∀ k ∈ endL d :: (numK (kidsC c)).drop 1, k.name = b_end → (putK k.name { calZ with name := c.name } k.words).1 = endCal c.name d := fun k hk e => by
    rcases List.mem_cons.1 hk with rfl | hk
    · exact end_put (l := [endL d]) hd (fun x hx => by rw [List.mem_singleton.1 hx]; exact hoe) c.name _ (by simp) e
    · exact absurd e (hnoe k hk)
  rw [endIn_ok c.name (endCal c.name d) _ none hendv (.inl ⟨endL d, by simp, rfl⟩)] at hform
  obtain ⟨gn, gk, gd, gm⟩ := endCal_is (d := d) c.name hd
  have hnb : ¬ (b_periods ∈ [] ++ (endL d :: (numK (kidsC c)).drop 1).map NodeL.name ∧ b_pay ∈ [] ++ (endL d :: (numK (kidsC c)).drop 1).map NodeL.name) := by
    have := not_both (c := c) (l := numK (kidsC c)) (fun k hk => numK_of hk)
    rw [List.nil_append, hnames, ← numK_names]
    exact this
  have hrd := readC_block b_calendar 100 [wS c.name] true (endL d :: (numK (kidsC c)).drop 1) hck (by simp [wS])
  rw [hrd]
  unfold readBlock
  show EndsSay c d (match formedL c.name [] none (endL d :: (numK (kidsC c)).drop 1) with
    | .inl (p, e) => _
    | .inr none => _
    | .inr (some c) => _)
  rw [hform]
  dsimp only [NodeL.kids, NodeL.pos]
  rw [gk]
  rcases fits_some d.kind _ [] hnb with ⟨hf, hst⟩ | ⟨k, hk, hks, hf⟩
  · rw [hf]
    dsimp only
    refine ite_say (fun _ => .inr ⟨rfl, .inr ⟨.inl rfl, rfl⟩⟩) (fun hms0 hoc => ?_) (fun _ _ => .inr ⟨rfl, .inr ⟨.inr rfl, rfl⟩⟩)
    · have hms : missL d.kind ((endL d :: (numK (kidsC c)).drop 1).map NodeL.name) = false := by simpa using hms0
      · left
        have hkid : ∀ k0 ∈ kidsC c, k0.name ≠ b_end → ∃ k ∈ (numK (kidsC c)).drop 1, k.name = k0.name := fun k0 hk0 hne => by
          have hm : k0.name ∈ (endL d :: (numK (kidsC c)).drop 1).map NodeL.name := by rw [hnames]; exact List.mem_map.2 ⟨k0, hk0, rfl⟩
          rw [List.map_cons] at hm
          rcases List.mem_cons.1 hm with h | h
          · exact absurd h hne
          · exact List.mem_map.1 h
        have e0 : putAll (endCal c.name d) (endL d :: (numK (kidsC c)).drop 1) = putAll (endCal c.name d) ((numK (kidsC c)).drop 1) := rfl
        refine ⟨rfl, rfl, ?_, ?_, ?_, ?_, ?_, ?_, ?_⟩
        · exact (fold_same (·.kind) _ _ (fun k _ c => (putF_fields c k).2.1)).trans gk
        · exact (fold_same (·.day) _ _ (fun k _ c => (putF_fields c k).2.2.1)).trans gd
        · exact (fold_same (·.month) _ _ (fun k _ c => (putF_fields c k).2.2.2.1)).trans gm
        · exact put_first hc hof (hkid (itemL b_serve [] [c.first, c.last]) ((mem_kids c _).2 (.inr (.inr (.inr (.inl rfl))))) (by rw [itemL_name]; decide)) _
        · exact put_policy hc hof (hkid (itemL b_compare [pols.getD (c.policy - 1).toNat []] []) ((mem_kids c _).2 (.inr (.inr (.inr (.inr rfl))))) (by rw [itemL_name]; decide)) _
        · exact (putAll_name _ _).trans gn
        · rw [kids_many hc, kids_many hd]
          have hhas : ∀ x, standsC d.kind x = true → (x = b_named ∨ x = b_extra) → x ∈ (kidsC c).map NodeL.name := fun x hx hor => by
            rw [hnames] at hms
            unfold missL at hms
            rw [List.any_eq_false] at hms
            have := hms x (by rcases hor with rfl | rfl <;> simp)
            have hnp : x ≠ b_periods := by rcases hor with rfl | rfl <;> decide
            simp only [hx, Bool.true_and, Bool.not_eq_true', List.contains_eq_mem] at this
            simpa [hnp] using this
          have hcs : ∀ x, x ∈ (kidsC c).map NodeL.name → standsC c.kind x = true := fun x hx => by
            rw [← numK_names] at hx
            obtain ⟨k, hk, e⟩ := List.mem_map.1 hx
            rw [← e]
            exact (kid_says c k (numK_of hk)).stands
          have h1 : standsC d.kind b_named = true → standsC c.kind b_named = true := fun h => hcs _ (hhas _ h (.inl rfl))
          have h2 : standsC d.kind b_extra = true → standsC c.kind b_extra = true := fun h => hcs _ (hhas _ h (.inr rfl))
          cases a1 : standsC d.kind b_named <;> cases a2 : standsC d.kind b_extra
          · simp; omega
          · rw [h2 a2]; simp
          · rw [h1 a1]; simp
          · rw [h1 a1, h2 a2]; simp
  · rw [hf]
    dsimp only
    right
    refine ⟨rfl, .inl ⟨rfl, ?_⟩⟩
    rcases List.mem_cons.1 hk with rfl | hk
    · have := (stands_same d.kind).2.2.1
      rw [show (endL d).name = b_end from rfl, this] at hks
      cases hks
    · exact hpos k hk
end

end Go.Proofs.Ytmiejdbpogggeaa
end
