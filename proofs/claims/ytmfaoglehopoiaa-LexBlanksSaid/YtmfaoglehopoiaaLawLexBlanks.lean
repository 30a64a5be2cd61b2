/- The law LexBlanks walked: it answers true at every two texts, and number. -/
import Derived.Test.YtmfaoglehopoiaaLawLexAhead
import Derived.Test.YtmfaoglehopoiaaAppend
import Derived.Deep.RegionWith
namespace Go.Proofs.Ytmfaoglehopoiaa
open Go.RowKit

def Tok.bare (t : Tok) : Tok := { t with pos := 0 }

theorem sameTok_bare (a b : Tok) : sameTok a b = decide (a.bare = b.bare) := by
  unfold sameTok Tok.bare
  rw [decide_eq_decide]
  simp

theorem sameL_bare : ∀ (l m : List Tok), sameL l m = decide (l.map Tok.bare = m.map Tok.bare)
  | [], [] => by simp [sameL]
  | [], b :: m => by simp [sameL]
  | a :: l, [] => by simp [sameL]
  | a :: l, b :: m => by
    rw [sameL, sameTok_bare, sameL_bare l m, List.map_cons, List.map_cons]
    simp only [List.cons.injEq]
    rw [Bool.decide_and]

theorem shift_bare (d : Nat) (r : CutRes) : (r.shift d).toks.map Tok.bare = r.toks.map Tok.bare := by
  unfold CutRes.shift
  rw [List.map_map]
  rfl

/-- Blanks, and a remark, put in ahead of a token. -/
theorem blanks_law (l : Bytes) (i : Nat) (t : Tok) (hl : l.length ≤ 200) (he : (cutL l).err = 0) (ht : (cutL l).toks[i]? = some t) :
    ∃ q : Nat, t.pos = q ∧ q ≤ l.length ∧ (cutL (l.take q ++ ([32, 35, 32, 123, 59, 10, 9] ++ l.drop q))).err = 0 ∧
      sameL (cutL (l.take q ++ ([32, 35, 32, 123, 59, 10, 9] ++ l.drop q))).toks (cutL l).toks = true := by
  have e : cutL l = cutM false 0 0 0 l := by unfold cutL; rw [if_neg (by omega)]
  rw [e] at he ht ⊢
  obtain ⟨q, h1, _, h3, h4⟩ := cutM_split false 0 0 0 l i t he ht
  rw [Nat.zero_add] at h1
  refine ⟨q, h1, h3, ?_⟩
  have e2 : cutL (l.take q ++ ([32, 35, 32, 123, 59, 10, 9] ++ l.drop q)) = cutM false 0 0 0 (l.take q ++ ([32, 35, 32, 123, 59, 10, 9] ++ l.drop q)) := by
    unfold cutL; rw [if_neg (by simp; omega)]
  have h5 := h4 (l.drop q) (.inl rfl)
  rw [List.take_append_drop] at h5
  have h6 := h4 ([32, 35, 32, 123, 59, 10, 9] ++ l.drop q) (.inr (fun c hc => by simp at hc; subst hc; rfl))
  have h7 : ∀ (p cnt : Nat) (v : Bytes), cutM false 0 p cnt ([32, 35, 32, 123, 59, 10, 9] ++ v) = cutM false 0 (p + 7) cnt v := fun p cnt v => rfl
  rw [h7, Nat.zero_add, Nat.zero_add, cutM_shift 7] at h6
  rw [Nat.zero_add, Nat.zero_add] at h5
  rw [e2, h6]
  have herr : (cutM false 0 q i (l.drop q)).err = 0 := by
    rw [h5] at he; unfold CutRes.pre at he
    split at he
    · assumption
    · exact he
  have hs : ((cutM false 0 q i (l.drop q)).shift 7).err = 0 := herr
  unfold CutRes.pre
  rw [if_pos hs]
  refine ⟨rfl, ?_⟩
  rw [sameL_bare, decide_eq_true_eq, List.map_append, shift_bare]
  have h8 : (cutM false 0 0 0 l).toks = (cutM false 0 0 0 l).toks.take i ++ (cutM false 0 q i (l.drop q)).toks := by
    have := congrArg CutRes.toks h5
    unfold CutRes.pre at this
    rw [if_pos herr] at this
    exact this
  conv => rhs; rw [h8]
  rw [List.map_append]

/-- Two texts, one behind the other. -/
theorem two_law (l t : Bytes) (hl : l.length ≤ 200) (ht : t.length ≤ 200) (he : (cutL l).err = 0) (hf : (cutL t).err = 0) :
    (cutL (l ++ 10 :: t)).err = 0 ∧ sameL (cutL (l ++ 10 :: t)).toks ((cutL l).toks ++ (cutL t).toks) = true := by
  have e : cutL l = cutM false 0 0 0 l := by unfold cutL; rw [if_neg (by omega)]
  have e2 : cutL t = cutM false 0 0 0 t := by unfold cutL; rw [if_neg (by omega)]
  have e3 : cutL (l ++ 10 :: t) = cutM false 0 0 0 (l ++ 10 :: t) := by unfold cutL; rw [if_neg (by simp; omega)]
  have hlen := cutM_len false 0 0 0 l
  rw [e] at he ⊢
  rw [e2] at hf ⊢
  rw [e3, cutM_app false 0 0 0 l t (Nat.zero_le _), if_pos he, Nat.zero_add, Nat.zero_add]
  have h1 : cutM false 0 (l.length + 1) (cutM false 0 0 0 l).toks.length t = (cutM false 0 0 0 t).shift (l.length + 1) := by
    rw [cutM_cnt false 0 (l.length + 1) _ 0 t (by omega) (by omega)]
    have := cutM_shift (l.length + 1) false 0 0 0 t
    rwa [Nat.zero_add] at this
  rw [h1]
  have hs : ((cutM false 0 0 0 t).shift (l.length + 1)).err = 0 := hf
  unfold CutRes.pre
  rw [if_pos hs]
  refine ⟨rfl, ?_⟩
  rw [sameL_bare, decide_eq_true_eq, List.map_append, List.map_append, shift_bare]

theorem err_toks (l : Bytes) (h : (cutL l).err ≠ 0) : (cutL l).toks = [] := by
  unfold cutL at h ⊢
  split
  · rfl
  · rename_i hn
    rw [if_neg hn] at h
    exact (cutM_err _ _ _ _ _).2 h

theorem ba_ins (s : ByteArray) (q : Nat) : (s.extract 0 q ++ (ByteArray.mk #[32, 35, 32, 123, 59, 10, 9]) ++ s.extract q s.size).data.toList = s.data.toList.take q ++ ([32, 35, 32, 123, 59, 10, 9] ++ s.data.toList.drop q) := by
  rw [← ba_to, ← ba_from]
  simp [ByteArray.data_append]

theorem cells_one (l : List Tok) : ∀ u ∈ l.flatMap Tok.cells, u.oneCell' = true := by
  intro u hu
  obtain ⟨t, _, ht⟩ := List.mem_flatMap.1 hu
  simp only [Tok.cells, List.mem_cons, List.not_mem_nil, or_false] at ht
  rcases ht with rfl | rfl | rfl | rfl <;> rfl

theorem below_drew' {w w' : World} (h : Below w.drew.heap.size w.drew w') : Below w.heap.size w w' := ⟨h.os, h.tape, h.output, h.size, h.block⟩
theorem own_nil {w : World} {base : Nat} {e : TypeId} {size n c : Nat} {xs : List Value} (h : w.ownsRow base e size (.slice none n c) n xs) : c = 0 := by
  rcases h.2 with ⟨h, _⟩ | ⟨g, cap, cur, h, _⟩
  · cases h; rfl
  · cases h

set_option maxRecDepth 100000 in
set_option maxHeartbeats 2000000 in
theorem walk_LexBlanks (s t : ByteArray) (x : Int) (hs : s.size ≤ maxLen) (ht : t.size ≤ maxLen) (hx : (Lit.int .u8 x).wf = true) (w : World) :
    Calls Try.prog 3 #[.string s, .string t, .int .u8 x] w fun e w' => e = .returned (.bool true) ∧ Below w.heap.size w w' := by
  have hs' := hs
  have ht' := ht
  unfold maxLen at hs' ht'
  have hx0 : 0 ≤ x ∧ x ≤ 255 := by
    simp [Lit.wf, IntKind.min, IntKind.max, IntKind.signed, IntKind.bits] at hx
    omega
  clear hx
  by_cases hbig : 200 < s.size
  · go_enter Try.func3, Try.ntmps3
    go_wp2_with fail
    refine (law8_live w).mono ?_
    rintro e w1 ⟨rfl, hb1⟩
    go_wp2_with fail
    go_ret
    exact ⟨rfl, hb1⟩
  by_cases hbig2 : 200 < t.size
  · go_enter Try.func3, Try.ntmps3
    go_wp2_with fail
    refine (law8_live w).mono ?_
    rintro e w1 ⟨rfl, hb1⟩
    go_wp2_with fail
    go_ret
    exact ⟨rfl, hb1⟩
  have hc := fun w => lex_Cut s w hs
  have hct := fun w => lex_Cut t w ht
  have hlen := cutL_len s.data.toList
  have hlent := cutL_len t.data.toList
  rw [ba_len] at hlen hlent
  by_cases hE : (cutL s.data.toList).err ≠ 0
  · have hnil := err_toks _ hE
    generalize cutL s.data.toList = R at *
    generalize cutL t.data.toList = R2 at *
    obtain ⟨toks, p, er⟩ := R
    obtain ⟨toks2, p2, er2⟩ := R2
    simp only at hE hnil
    subst hnil
    have he0 : (er != 0) = true := by simpa using hE
    have HC := Lib.hid hc
    have HCT := Lib.hid hct
    clear hc hct hE
    go_enter Try.func3, Try.ntmps3
    go_wp2_with fail
    refine (law8_live w).mono ?_
    rintro e w1 ⟨rfl, hb1⟩
    go_wp2_with fail
    refine (HC.out w1).mono ?_
    rintro e w2 ⟨v, rfl, hown, hb2⟩
    obtain ⟨A, c, rfl, _⟩ := own_form hown
    go_wp2_with fail
    refine (HCT.out w2).mono ?_
    rintro e w3 ⟨v2, rfl, hown2, hb3⟩
    go_wp2_with fail
    go_ret
    have hz1 := hb1.size
    have hz2 := hb2.size
    exact ⟨rfl, (hb1.trans (hb2.mono hz1)).trans (hb3.mono (by omega))⟩
  have hE0 : (cutL s.data.toList).err = 0 := by simpa using hE
  clear hE
  obtain ⟨xn, rfl⟩ := Int.eq_ofNat_of_zero_le hx0.1
  have hins := blanks_law s.data.toList
  have htwo := two_law s.data.toList t.data.toList (by rw [ba_len]; omega) (by rw [ba_len]; omega) hE0
  have hnil2 := err_toks t.data.toList
  have hcins := fun q (hq : q ≤ s.size) w => lex_Cut (s.extract 0 q ++ ⟨#[32, 35, 32, 123, 59, 10, 9]⟩ ++ s.extract q s.size) w (by rw [← ba_len, ba_ins]; unfold maxLen; simp; omega)
  simp only [ba_ins] at hcins
  have hctwo := fun w => lex_Cut (s ++ ⟨#[10]⟩ ++ t) w (by rw [ba_eol_size]; unfold maxLen; omega)
  rw [ba_eol] at hctwo
  have hl4 : (cutL (s.data.toList ++ 10 :: t.data.toList)).toks.length ≤ 1000 := Nat.le_trans (cutL_len _) (by simp; omega)
  by_cases h0 : (cutL s.data.toList).toks = []
  · generalize cutL s.data.toList = R at *
    generalize cutL t.data.toList = R2 at *
    generalize cutL (s.data.toList ++ 10 :: t.data.toList) = R4 at *
    obtain ⟨toks, p, er⟩ := R
    obtain ⟨toks2, p2, er2⟩ := R2
    obtain ⟨toks4, p4, er4⟩ := R4
    simp only at hE0 h0 hlen hlent htwo hnil2 hl4
    subst hE0
    have hl0 : toks.length < 1 := by rw [h0]; exact Nat.one_pos
    clear h0
    have HC := Lib.hid hc
    have HCT := Lib.hid hct
    have HC4 := Lib.hid hctwo
    have HTWO := Lib.hid htwo
    have HN2 := Lib.hid hnil2
    clear hc hct hctwo htwo hnil2 hins hcins
    go_enter Try.func3, Try.ntmps3
    go_wp2_with fail
    refine (law8_live w).mono ?_
    rintro e w1 ⟨rfl, hb1⟩
    go_wp2_with fail
    refine (HC.out w1).mono ?_
    rintro e w2 ⟨v, rfl, hown, hb2⟩
    obtain ⟨A, c, rfl, hnc⟩ := own_form hown
    have hr := Reads.of_own hown
    go_wp2_with fail
    refine (HCT.out w2).mono ?_
    rintro e w3 ⟨v2, rfl, hown2, hb3⟩
    obtain ⟨A2, c2, rfl, hnc2⟩ := own_form hown2
    have hr3 := hr.below hb3
    have hz1 := hb1.size
    have hz2 := hb2.size
    have hz3 := hb3.size
    by_cases hF : er2 = 0
    · obtain ⟨h40, h4s⟩ := HTWO.out hF
      subst hF
      subst h40
      have H4S := Lib.hid h4s
      clear h4s
      go_wp2_with fail
      refine (HC4.out _).mono ?_
      rintro e w7 ⟨v4, rfl, hown4, hb7⟩
      obtain ⟨A4, c4, rfl, hnc4⟩ := own_form hown4
      have hz7 := hb7.size
      obtain ⟨i0, hi0, hj0, hj1, hj2⟩ := info_parts info_tok
      have hra : Reads w7 w2.heap.size 4 A toks.length (toks.flatMap Tok.cells) := hr3.below (hb7.mono (by omega))
      have hrb : Reads w7 w3.heap.size 4 A2 toks2.length (toks2.flatMap Tok.cells) := (Reads.of_own hown2).below (hb7.mono (by omega))
      obtain ⟨va, w8, hrun8, hown8, hg8⟩ := run_append_reads (P := Try.prog) (w := w7) w7.heap.size 23 23 28 i0 _ 4 40 Try.underlying23 hi0 hj0 hj1 hj2 rfl (by decide) (.slice none 0 0) 0 [] (World.ownsRow_nil _ _ _ _) _ toks.length c _ _ hra (fun h => own_nil (h ▸ hown)) (cells_one _) (by unfold maxLen; omega) (by omega) (Nat.le_refl _)
      have hb8 : Below w7.heap.size w7 w8 := below_own (Below.refl _ _) hg8 (Nat.le_refl _) (World.ownsRow_nil w7 w7.heap.size 0 0) (Nat.le_refl _)
      have hz8 := hb8.size
      obtain ⟨vb, w9, hrun9, hown9, hg9⟩ := run_append_reads (P := Try.prog) (w := w8) w7.heap.size 23 23 28 i0 _ 4 40 Try.underlying23 hi0 hj0 hj1 hj2 rfl (by decide) va (0 + toks.length) _ hown8 _ toks2.length c2 _ _ (hrb.below (hb8.mono (by omega))) (fun h => own_nil (h ▸ hown2)) (cells_one _) (by unfold maxLen; omega) (by omega) hz8
      have hb9 : Below w7.heap.size w8 w9 := below_own (Below.refl _ _) hg9 hz8 hown8 (Nat.le_refl _)
      have hz9 := hb9.size
      rw [List.nil_append, ← List.flatMap_append] at hown9
      have hn9 : 0 + toks.length + toks2.length = (toks ++ toks2).length := by rw [List.length_append]; omega
      rw [hn9] at hown9
      obtain ⟨A9, c9, rfl, hnc9⟩ := own_form hown9
      have hsm := ref8_Same A4 A9 c4 c9 toks4 (toks ++ toks2) w9 (((Reads.of_own hown4).below (hb8.trans hb9)).more (by omega)) (Reads.of_own hown9) (by unfold maxLen; omega)
      rw [H4S.out] at hsm
      simp only [List.length_append] at hsm
      have HSM := Lib.hid hsm
      clear hsm hn9 hj0 hj1 hj2
      go_wp2_with (first | (at_builtin; refine wpList_append_run _ _ _ rfl (by rfl) _ _ rfl rfl _ rfl _ _ hrun8 ?_) | (at_builtin; refine wpList_append_run _ _ _ rfl (by rfl) _ _ rfl rfl _ rfl _ _ hrun9 ?_))
      refine HSM.out.mono ?_
      rintro e w10 ⟨rfl, hb10⟩
      go_wp2
      go_ret
      exact ⟨rfl, (((((hb1.trans (hb2.mono hz1)).trans (hb3.mono (by omega))).trans (hb7.mono (by omega))).trans (hb8.mono (by omega))).trans (hb9.mono (by omega))).trans (hb10.mono (by omega))⟩
    · have hn2 := HN2.out hF
      subst hn2
      have hF0 : (er2 != 0) = true := by simpa using hF
      clear hF
      go_wp2_with fail
      go_ret
      exact ⟨rfl, (hb1.trans (hb2.mono hz1)).trans (hb3.mono (by omega))⟩
  · obtain ⟨i, hi⟩ : ∃ i, i = xn % (cutL s.data.toList).toks.length := ⟨_, rfl⟩
    have hpos : 0 < (cutL s.data.toList).toks.length := List.length_pos_iff.2 h0
    have hil : i < (cutL s.data.toList).toks.length := by rw [hi]; exact Nat.mod_lt _ hpos
    obtain ⟨tk, htk⟩ : ∃ tk, (cutL s.data.toList).toks[i]? = some tk := ⟨_, List.getElem?_eq_getElem hil⟩
    obtain ⟨q, hq1, hq2, hq3, hq4⟩ := hins i tk (by rw [ba_len]; omega) hE0 htk
    rw [ba_len] at hq2
    have hci := hcins q hq2
    have hl3 : (cutL (s.data.toList.take q ++ ([32, 35, 32, 123, 59, 10, 9] ++ s.data.toList.drop q))).toks.length ≤ 1000 := Nat.le_trans (cutL_len _) (by simp; omega)
    generalize cutL (s.data.toList.take q ++ ([32, 35, 32, 123, 59, 10, 9] ++ s.data.toList.drop q)) = R3 at *
    clear hins hcins h0
    generalize cutL s.data.toList = R at *
    generalize cutL t.data.toList = R2 at *
    generalize cutL (s.data.toList ++ 10 :: t.data.toList) = R4 at *
    obtain ⟨toks, p, er⟩ := R
    obtain ⟨toks2, p2, er2⟩ := R2
    obtain ⟨toks3, p3, er3⟩ := R3
    obtain ⟨toks4, p4, er4⟩ := R4
    simp only at hE0 hpos hil htk hq3 hq4 hlen hlent htwo hnil2 hl3 hl4
    subst hE0
    subst hq3
    have HC := Lib.hid hc
    have HCT := Lib.hid hct
    have HCI := Lib.hid hci
    have HC4 := Lib.hid hctwo
    have HTWO := Lib.hid htwo
    have HN2 := Lib.hid hnil2
    have HQ := Lib.hid hq1
    have HQ4 := Lib.hid hq4
    have HTK := Lib.hid htk
    have HI := Lib.hid hi
    clear hc hct hci hctwo htwo hnil2 hq1 hq4 htk hi
    go_enter Try.func3, Try.ntmps3
    go_wp2_with fail
    refine (law8_live w).mono ?_
    rintro e w1 ⟨rfl, hb1⟩
    go_wp2_with fail
    refine (HC.out w1).mono ?_
    rintro e w2 ⟨v, rfl, hown, hb2⟩
    obtain ⟨A, c, rfl, hnc⟩ := own_form hown
    have hr := Reads.of_own hown
    go_wp2_with fail
    refine (HCT.out w2).mono ?_
    rintro e w3 ⟨v2, rfl, hown2, hb3⟩
    obtain ⟨A2, c2, rfl, hnc2⟩ := own_form hown2
    have hr3 := hr.below hb3
    obtain ⟨ad, hA, hadb, k0, k1, k2, k3⟩ := tok_cells hr3 i tk HTK.out
    subst hA
    rw [HQ.out, HI.out] at k1
    rw [HI.out] at hil
    clear k0 k2 k3
    go_wp2_with fail
    have hqb1 : ¬ 9223372036854775807 < q + 7 := by omega
    have hqb2 : ¬ 9223372036854775807 < q + 7 + (s.size - q) := by omega
    go_region_with (go_at_call 8; refine (HCI.out _).mono ?_; rintro e w5 ⟨v3, rfl, hown3, hb5⟩)
    go_wp2_with fail
    obtain ⟨A3, c3, rfl, hnc3⟩ := own_form hown3
    have hr3' := Reads.of_own hown3
    have hz1 := hb1.size
    have hz2 := hb2.size
    have hz3 := hb3.size
    have hz5 := hb5.size
    have hr5 : Reads w5 w2.heap.size 4 (some ad) toks.length (toks.flatMap Tok.cells) := hr3.drew.below (hb5.mono hz3)
    have hz5' : w3.heap.size ≤ w5.heap.size := hz5
    refine (ref8_Same A3 (some ad) c3 c toks3 toks w5 hr3' (hr5.more (by omega)) (by unfold maxLen; omega)).mono ?_
    rintro e w6 ⟨rfl, hb6⟩
    rw [HQ4.out]
    have hz6 := hb6.size
    by_cases hF : er2 = 0
    · obtain ⟨h40, h4s⟩ := HTWO.out hF
      subst hF
      subst h40
      have H4S := Lib.hid h4s
      clear h4s
      go_wp2_with fail
      refine (HC4.out _).mono ?_
      rintro e w7 ⟨v4, rfl, hown4, hb7⟩
      obtain ⟨A4, c4, rfl, hnc4⟩ := own_form hown4
      have hz7 := hb7.size
      obtain ⟨i0, hi0, hj0, hj1, hj2⟩ := info_parts info_tok
      have hra : Reads w7 w2.heap.size 4 (some ad) toks.length (toks.flatMap Tok.cells) := (hr5.below (hb6.mono (by omega))).below (hb7.mono (by omega))
      have hrb : Reads w7 w3.heap.size 4 A2 toks2.length (toks2.flatMap Tok.cells) := (((Reads.of_own hown2).drew.below (hb5.mono (Nat.le_refl _))).below (hb6.mono (by omega))).below (hb7.mono (by omega))
      obtain ⟨va, w8, hrun8, hown8, hg8⟩ := run_append_reads (P := Try.prog) (w := w7) w7.heap.size 23 23 28 i0 _ 4 40 Try.underlying23 hi0 hj0 hj1 hj2 rfl (by decide) (.slice none 0 0) 0 [] (World.ownsRow_nil _ _ _ _) _ toks.length c _ _ hra (fun h => own_nil (h ▸ hown)) (cells_one _) (by unfold maxLen; omega) (by omega) (Nat.le_refl _)
      have hb8 : Below w7.heap.size w7 w8 := below_own (Below.refl _ _) hg8 (Nat.le_refl _) (World.ownsRow_nil w7 w7.heap.size 0 0) (Nat.le_refl _)
      have hz8 := hb8.size
      obtain ⟨vb, w9, hrun9, hown9, hg9⟩ := run_append_reads (P := Try.prog) (w := w8) w7.heap.size 23 23 28 i0 _ 4 40 Try.underlying23 hi0 hj0 hj1 hj2 rfl (by decide) va (0 + toks.length) _ hown8 _ toks2.length c2 _ _ (hrb.below (hb8.mono (by omega))) (fun h => own_nil (h ▸ hown2)) (cells_one _) (by unfold maxLen; omega) (by omega) hz8
      have hb9 : Below w7.heap.size w8 w9 := below_own (Below.refl _ _) hg9 hz8 hown8 (Nat.le_refl _)
      have hz9 := hb9.size
      rw [List.nil_append, ← List.flatMap_append] at hown9
      have hn9 : 0 + toks.length + toks2.length = (toks ++ toks2).length := by rw [List.length_append]; omega
      rw [hn9] at hown9
      obtain ⟨A9, c9, rfl, hnc9⟩ := own_form hown9
      have hsm := ref8_Same A4 A9 c4 c9 toks4 (toks ++ toks2) w9 (((Reads.of_own hown4).below (hb8.trans hb9)).more (by omega)) (Reads.of_own hown9) (by unfold maxLen; omega)
      rw [H4S.out] at hsm
      simp only [List.length_append] at hsm
      have HSM := Lib.hid hsm
      clear hsm hn9 hj0 hj1 hj2
      go_wp2_with (first | (at_builtin; refine wpList_append_run _ _ _ rfl (by rfl) _ _ rfl rfl _ rfl _ _ hrun8 ?_) | (at_builtin; refine wpList_append_run _ _ _ rfl (by rfl) _ _ rfl rfl _ rfl _ _ hrun9 ?_))
      refine HSM.out.mono ?_
      rintro e w10 ⟨rfl, hb10⟩
      go_wp2
      go_ret
      exact ⟨rfl, (((((((hb1.trans (hb2.mono hz1)).trans (hb3.mono (by omega))).trans ((below_drew' hb5).mono (by omega))).trans (hb6.mono (by omega))).trans (hb7.mono (by omega))).trans (hb8.mono (by omega))).trans (hb9.mono (by omega))).trans (hb10.mono (by omega))⟩
    · have hn2 := HN2.out hF
      subst hn2
      have hF0 : (er2 != 0) = true := by simpa using hF
      clear hF
      go_wp2_with fail
      go_ret
      exact ⟨rfl, (((hb1.trans (hb2.mono hz1)).trans (hb3.mono (by omega))).trans ((below_drew' hb5).mono (by omega))).trans (hb6.mono (by omega))⟩

end Go.Proofs.Ytmfaoglehopoiaa
