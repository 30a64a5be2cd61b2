import Derived.Test.YtmiejdbpogggeaaFieldBR
/- Layer 11 (field), in plain Lean: a block of a calendar's keys, in whatever order, is read as the calendar. -/
set_option linter.unusedVariables false
set_option linter.unusedSimpArgs false
set_option maxRecDepth 100000
namespace Go.Proofs.Ytmiejdbpogggeaa

theorem lists_ok : endsL.all nameL = true ∧ days.all nameL = true ∧ mons.all nameL = true ∧ pols.all nameL = true ∧ shifts.all nameL = true ∧ keysL.all nameL = true ∧ nameL b_calendar = true := by decide
theorem getD_ok {l : List Bytes} (h : l.all nameL = true) {x : Int} {n : Nat} (hn : l.length = n) (h1 : 1 ≤ x) (h2 : x ≤ n) : wordOk (wS (l.getD (x - 1).toNat [])) = true := wS_ok (nameAt h _ (by omega))
theorem checkK {k : NodeL} (hn : nameL k.name = true) (hw : k.words.all wordOk = true) (hl : k.words.length ≤ 8) (hb : k.block = false) (hk : k.kids = []) (d : Nat) : checkN d k = 0 := by
  obtain ⟨nm, p, ws, b, ks⟩ := k
  simp only [NodeL.name, NodeL.words, NodeL.block, NodeL.kids] at *
  subst hb hk
  have : ¬ 8 < ws.length := by omega
  simp only [checkN, hn, hw, this, checkL]
  simp
theorem kid_check {c : CalL} {k : NodeL} (hok : okC c = true) (h : KidOf c k) (d : Nat) : checkN d k = 0 := by
  obtain ⟨w1, w2, w3, w4, w5, w6, w7⟩ := lists_ok
  have hfit := nodeFit c hok
  have hs := kid_says c k h
  obtain ⟨k0, hk0, hn, hw, hb, hkk⟩ := h
  have hname : nameL k.name = true := List.all_eq_true.1 w6 _ (by simpa using hs.any)
  have hsv : 1602 ≤ c.first ∧ c.last ≤ 9996 ∧ c.first ≤ c.last := by
    have := hok
    unfold okC servedC at this
    simp only [Bool.and_eq_true, decide_eq_true_eq] at this
    exact ⟨this.1.1.1.1.1.1, this.1.1.1.1.1.2, this.1.1.1.1.2⟩
  rw [mem_kids] at hk0
  have hwk : standsC c.kind b_extra = true → weeksC c = true := fun hst => by
    obtain ⟨t12, t3, t4, t5, t6⟩ := stands_kinds c.kind
    rcases cal_kinds c hok with ⟨h, _⟩ | ⟨h, _⟩ | ⟨_, hw⟩ | ⟨_, _, _, _, hw⟩ | ⟨h, _⟩
    · rw [(t3 h).2] at hst; cases hst
    · rw [(t4 h).2] at hst; cases hst
    · exact hw
    · exact hw
    · rw [(t6 h).2] at hst; cases hst
  refine checkK hname ?_ ?_ hb hkk d
  · rw [hw]
    rcases hk0 with rfl | ⟨hst, rfl⟩ | ⟨hst, ⟨hc, rfl⟩ | ⟨hc, rfl⟩ | ⟨hc, rfl⟩ | rfl⟩ | rfl | rfl
    · rw [itemL_words]
      have he := getD_ok w1 (x := c.kind) rfl hfit.k1 hfit.k6
      have hm := getD_ok w3 (x := c.month) rfl hfit.mon.1 hfit.mon.2
      unfold saysC
      by_cases h12 : c.kind = 1 ∨ c.kind = 2
      · have hd := getD_ok w2 (x := c.day) rfl (hfit.day h12).1 (hfit.day h12).2
        rw [if_pos h12]
        cases standsC c.kind b_named <;> simp only [List.map_append, List.map_cons, List.map_nil, List.all_append, List.all_cons, List.all_nil, if_true, Bool.false_eq_true, if_false, Bool.and_true, Bool.and_self, he, hm, hd]
      · rw [if_neg h12]
        cases standsC c.kind b_named <;> simp only [List.map_append, List.map_cons, List.map_nil, List.all_append, List.all_cons, List.all_nil, if_true, Bool.false_eq_true, if_false, Bool.and_true, Bool.and_self, he, hm]
    · have := getD_ok w5 (x := c.shift + 1) (n := 2) rfl (by have := hfit.shf; omega) (by have := hfit.shf; omega)
      rw [show c.shift + 1 - 1 = c.shift by omega] at this
      rw [itemL_words]
      simp only [List.map_append, List.map_cons, List.map_nil, List.all_append, List.all_cons, List.all_nil, if_true, Bool.false_eq_true, if_false, Bool.and_true, Bool.and_self, this]
    · obtain ⟨_, hsh⟩ := weeks_kinds c (hwk hst)
      have hp : patOk c.p0 c.p1 c.p2 = true := by
        rcases hsh with ⟨_, h, _⟩ | ⟨h, _⟩ | ⟨h, _⟩
        · exact h
        · omega
        · omega
      have hp' : (c.p0 = 4 ∨ c.p0 = 5) ∧ (c.p1 = 4 ∨ c.p1 = 5) ∧ (c.p2 = 4 ∨ c.p2 = 5) := by
        unfold patOk at hp
        simp only [Bool.or_eq_true, Bool.and_eq_true, decide_eq_true_eq] at hp
        omega
      rw [itemL_words]; simp [wN_ok (k := c.p0) (by omega), wN_ok (k := c.p1) (by omega), wN_ok (k := c.p2) (by omega)]
    · rw [itemL_words]; decide
    · obtain ⟨_, hsh⟩ := weeks_kinds c (hwk hst)
      have hp : cycOk c.cycle = true := by
        rcases hsh with ⟨h, _⟩ | ⟨h, _⟩ | ⟨_, _, _, _, h⟩
        · omega
        · omega
        · exact h
      have hp' : c.cycle = 1 ∨ c.cycle = 2 ∨ c.cycle = 4 := by
        unfold cycOk at hp
        simp only [Bool.or_eq_true, decide_eq_true_eq] at hp
        omega
      rw [itemL_words]; simp [wN_ok (k := c.cycle) (by omega)]
    · obtain ⟨hx, _⟩ := weeks_kinds c (hwk hst)
      rw [itemL_words]; simp [wN_ok (k := c.extra) (by omega)]
    · rw [itemL_words]; simp [wN_ok (k := c.first) (by omega), wN_ok (k := c.last) (by omega)]
    · have := getD_ok w4 (x := c.policy) rfl hfit.pol.1 hfit.pol.2
      rw [itemL_words]
      simp only [List.map_append, List.map_cons, List.map_nil, List.all_append, List.all_cons, List.all_nil, if_true, Bool.false_eq_true, if_false, Bool.and_true, Bool.and_self, this]
  · rw [hw]
    rcases hk0 with rfl | ⟨hst, rfl⟩ | ⟨hst, ⟨hc, rfl⟩ | ⟨hc, rfl⟩ | ⟨hc, rfl⟩ | rfl⟩ | rfl | rfl <;> rw [itemL_words]
    · unfold saysC
      split <;> split <;> simp
    all_goals simp
theorem check_all : ∀ (l : List NodeL) (d : Nat), (∀ k ∈ l, checkN d k = 0) → checkL d l = 0
  | [], d, _ => by simp only [checkL]
  | k :: r, d, h => by
    simp only [checkL]
    rw [h k (by simp)]
    simpa using check_all r d (fun x hx => h x (by simp [hx]))
theorem nm_ok {c : CalL} (hok : okC c = true) : nameL c.name = true := by
  unfold okC at hok
  simp only [Bool.and_eq_true] at hok
  exact hok.1.2
theorem check_block {c : CalL} {l : List NodeL} (hok : okC c = true) (hk : ∀ k ∈ l, checkN 1 k = 0) (p : Int) : checkL 0 [.mk b_calendar p [wS c.name] true l] = 0 := by
  obtain ⟨w1, w2, w3, w4, w5, w6, w7⟩ := lists_ok
  have h1 := check_all l 1 hk
  simp only [checkL, checkN]
  rw [h1]
  simp [w7, wS_ok (nm_ok hok)]
theorem kid_put {c : CalL} {k : NodeL} (hok : okC c = true) (h : KidOf c k) (nm : Bytes) : KidOk nm k := by
  have hs := kid_says c k h
  have hfit := nodeFit c hok
  obtain ⟨k0, hk0, hn, hw, hb, hkk⟩ := h
  have hwk : standsC c.kind b_extra = true → weeksC c = true := fun hst => by
    obtain ⟨t12, t3, t4, t5, t6⟩ := stands_kinds c.kind
    rcases cal_kinds c hok with ⟨h, _⟩ | ⟨h, _⟩ | ⟨_, hw⟩ | ⟨_, _, _, _, hw⟩ | ⟨h, _⟩
    · rw [(t3 h).2] at hst; cases hst
    · rw [(t4 h).2] at hst; cases hst
    · exact hw
    · exact hw
    · rw [(t6 h).2] at hst; cases hst
  rw [mem_kids] at hk0
  refine ⟨hs.any, hb, ?_, ?_⟩
  · rw [hw]
    rcases hk0 with rfl | ⟨hst, rfl⟩ | ⟨hst, ⟨hc, rfl⟩ | ⟨hc, rfl⟩ | ⟨hc, rfl⟩ | rfl⟩ | rfl | rfl <;> rw [itemL_words] <;> rfl
  · rw [hn, hw]
    rcases hk0 with rfl | ⟨hst, rfl⟩ | ⟨hst, ⟨hc, rfl⟩ | ⟨hc, rfl⟩ | ⟨hc, rfl⟩ | rfl⟩ | rfl | rfl <;> rw [itemL_words, itemL_name]
    · show (endK nm _).2 = true
      rw [show ((saysC c).map wS ++ ([] : List Int).map wN) = (saysC c).map wS by simp, endK_says nm c hfit]
    · have hp := at_of shf_at (c.shift + 1) (by have := hfit.shf; omega) (by have := hfit.shf; omega)
      rw [show c.shift + 1 - 1 = c.shift by omega] at hp
      show (decide (0 < placeW shifts (wS (shifts.getD c.shift.toNat []))) && decide (1 = 1)) = true
      rw [hp]
      have := hfit.shf
      simp; omega
    · obtain ⟨_, hsh⟩ := weeks_kinds c (hwk hst)
      show patOk c.p0 c.p1 c.p2 = true
      rcases hsh with ⟨_, h, _⟩ | ⟨h, _⟩ | ⟨h, _⟩
      · exact h
      · omega
      · omega
    · rfl
    · obtain ⟨_, hsh⟩ := weeks_kinds c (hwk hst)
      show cycOk c.cycle = true
      rcases hsh with ⟨h, _⟩ | ⟨h, _⟩ | ⟨_, _, _, _, h⟩
      · omega
      · omega
      · exact h
    · obtain ⟨hx, _⟩ := weeks_kinds c (hwk hst)
      show tween c.extra 1 52 = true
      unfold tween
      simp; omega
    · rfl
    · have hp := at_of pol_at c.policy hfit.pol.1 hfit.pol.2
      show (decide (0 < placeW pols (wS (pols.getD (c.policy - 1).toNat []))) && decide (1 = 1)) = true
      rw [hp]
      have := hfit.pol
      simp; omega

end Go.Proofs.Ytmiejdbpogggeaa
