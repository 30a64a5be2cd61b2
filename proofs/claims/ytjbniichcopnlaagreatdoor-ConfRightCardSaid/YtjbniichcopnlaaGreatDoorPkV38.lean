import Derived.Test.YtjbniichcopnlaaGreatDoorLayW
import Derived.Test.YtjbniichcopnlaaGreatDoorPkV37
import Derived.Test.YtjbniichcopnlaaGreatDoorTreeG2
import Derived.Test.YtjbniichcopnlaaGreatDoorPkV33
import Derived.Test.YtjbniichcopnlaaGreatDoorPkV10
import Derived.BigQuiet
import Derived.Deep.QuietTactic
section
/- Layer 10 (layout): the walks of Print and Canon. -/
set_option linter.unusedVariables false
set_option linter.unusedSimpArgs false
namespace Go.Proofs.YtjbniichcopnlaaGreatDoor
open Go.RowKit

/-! ### How long what is written is -/
theorem wordB_len (w : WordL) (h : wordOk w = true) : (wordB w).length ≤ 16 := by
  obtain ⟨h1, _⟩ := word_text w h
  have := text_len (wordT w) (by rw [h1])
  rwa [h1] at this
theorem joinTail_words (ws : List WordL) (h : ws.all wordOk = true) : (Lib.joinTail [32] (ws.map wordB)).length ≤ 17 * ws.length := by
  have := joinTail_len (ws.map wordB) (fun x hx => by
    obtain ⟨w, hw, rfl⟩ := List.mem_map.1 hx
    exact wordB_len w (List.all_eq_true.1 h w hw))
  rwa [List.length_map] at this
mutual
theorem printN_small : ∀ (n : NodeL) (d : Nat), checkN d n = 0 → d ≤ 6 → (printN d n).length ≤ 60 * cntN n
  | .mk nm p ws b ks, d, h, hd => by
    obtain ⟨h1, h2⟩ := check_head d nm p ws b ks h
    obtain ⟨h3, _, h5, h6⟩ := check_parts d nm p ws b ks h
    have hn := name16 nm h2
    have hw := joinTail_words ws h1
    have hj : (Lib.join (nm :: ws.map wordB) [32]).length = nm.length + (Lib.joinTail [32] (ws.map wordB)).length := by rw [Lib.join_cons, List.length_append]
    cases b
    · simp only [printN, Bool.false_eq_true, if_false, line_len, hj, cntN, List.length_cons, List.length_nil]
      omega
    · have hk := printL_small ks (d + 1) h6 (by have := h5 rfl; omega)
      simp only [printN, if_true, List.length_append, line_len, hj, cntN, List.length_cons, List.length_nil, Lib.join_nil]
      omega
theorem printL_small : ∀ (l : List NodeL) (d : Nat), checkL d l = 0 → d ≤ 6 → (printL d l).length ≤ 60 * cntL l
  | [], d, _, _ => by simp [printL]
  | n :: r, d, h, hd => by
    obtain ⟨h1, h2⟩ := checkL_cons d n r h
    have a1 := printN_small n d h1 hd
    have a2 := printL_small r d h2 hd
    simp only [printL, List.length_append, cntL]
    omega
end
theorem flat_small : ∀ l : List NodeL, (flatL l).length ≤ 3 * cntL l
  | [] => Nat.le_refl _
  | .mk nm p ws b ks :: r => by
    have h1 := flat_small ks
    have h2 := flat_small r
    simp only [cntL, cntN, flatL, flatN, List.length_append, List.length_cons, List.length_map]
    cases b <;> simp <;> omega

/-! ### Few items are written in few bytes -/
mutual
theorem left_ndN : ∀ (n : NodeL) (most deep : Int), -1 ≤ most → 0 ≤ leftN most deep n → (ndN n : Int) + leftN most deep n ≤ most
  | .mk nm p ws b ks, most, deep, h, h0 => by
    simp only [leftN] at h0 ⊢
    by_cases hc : most < 0 ∨ 20 < ws.length
    · rw [if_pos hc] at h0; omega
    · rw [if_neg hc] at h0 ⊢
      have := left_ndL ks (most - 1) (deep - 1) (by omega) h0
      simp only [ndN]; omega
theorem left_ndL : ∀ (l : List NodeL) (most deep : Int), -1 ≤ most → 0 ≤ leftL most deep l → (ndL l : Int) + leftL most deep l ≤ most
  | [], most, deep, h, h0 => by simp only [leftL, ndL] at h0 ⊢; omega
  | n :: r, most, deep, h, h0 => by
    simp only [leftL] at h0 ⊢
    by_cases hd : deep = 0
    · rw [if_pos hd] at h0; omega
    · rw [if_neg hd] at h0 ⊢
      exact left_ndG (n :: r) most deep h h0
theorem left_ndG : ∀ (l : List NodeL) (most deep : Int), -1 ≤ most → 0 ≤ leftGo most deep l → (ndL l : Int) + leftGo most deep l ≤ most
  | [], most, deep, h, h0 => by simp only [leftGo, ndL] at h0 ⊢; omega
  | n :: r, most, deep, h, h0 => by
    simp only [leftGo] at h0 ⊢
    obtain ⟨a1, a2, a3⟩ := left_geN n most deep h
    have h2 := left_ndG r (leftN most deep n) deep a1 h0
    have h3 : 0 ≤ leftN most deep n := by have : (0 : Int) ≤ ndL r := by omega
                                          omega
    have h1 := left_ndN n most deep h h3
    simp only [ndL]; omega
end
mutual
theorem printN_nd : ∀ (n : NodeL) (d : Nat), checkN d n = 0 → d ≤ 6 → (printN d n).length ≤ 190 * ndN n ∧ (flatN n).length ≤ 12 * ndN n
  | .mk nm p ws b ks, d, h, hd => by
    obtain ⟨h1, h2⟩ := check_head d nm p ws b ks h
    obtain ⟨h3, _, h5, h6⟩ := check_parts d nm p ws b ks h
    have hn := name16 nm h2
    have hw := joinTail_words ws h1
    have hj : (Lib.join (nm :: ws.map wordB) [32]).length = nm.length + (Lib.joinTail [32] (ws.map wordB)).length := by rw [Lib.join_cons, List.length_append]
    cases b
    · simp only [printN, flatN, Bool.false_eq_true, if_false, line_len, hj, ndN, List.length_cons, List.length_nil, List.length_append, List.length_map]
      omega
    · have hk := printL_nd ks (d + 1) h6 (by have := h5 rfl; omega)
      simp only [printN, flatN, if_true, List.length_append, line_len, hj, ndN, List.length_cons, List.length_nil, Lib.join_nil, List.length_map]
      omega
theorem printL_nd : ∀ (l : List NodeL) (d : Nat), checkL d l = 0 → d ≤ 6 → (printL d l).length ≤ 190 * ndL l ∧ (flatL l).length ≤ 12 * ndL l
  | [], d, _, _ => by simp [printL, flatL]
  | n :: r, d, h, hd => by
    obtain ⟨h1, h2⟩ := checkL_cons d n r h
    have a1 := printN_nd n d h1 hd
    have a2 := printL_nd r d h2 hd
    simp only [printL, flatL, List.length_append, ndL]
    omega
end
/-- Of few items Print tells Check's error, or the text. -/
theorem few_lay (l : List NodeL) (m : Nat) (hm : m ≤ 300) (h : ndL l ≤ m) : (layL l).2 = checkL 0 l ∧ ((layL l).2 ≠ 0 → (layL l).1 = []) ∧ ((layL l).2 = 0 → layL l = (printL 0 l, 0)) := by
  unfold layL
  by_cases hc : checkL 0 l = 0
  · obtain ⟨a1, a2⟩ := printL_nd l 0 hc (by omega)
    rw [if_neg (by simp [hc]), if_neg (by omega)]
    exact ⟨hc.symm, fun h => absurd rfl h, fun _ => rfl⟩
  · rw [if_pos hc]
    exact ⟨rfl, fun _ => rfl, fun h => absurd h hc⟩

theorem sheet_new (w : World) (B : Nat) (hB : B ≤ w.heap.size) : IsSheet B w.heap.size (Lib.byteCells []) 0 (w.alloc (.cells #[.pointer none, .slice none 0 0, .int .i64 0] 68)) :=
  Or.inl ⟨hB, .slice none 0 0, heap_alloc_new w _, World.ownsRow_nil _ _ _ _, by simp [Value.ownBlock]⟩

set_option maxRecDepth 100000 in
set_option maxHeartbeats 2000000 in
theorem layout_Print (l : List NodeL) (A : Option Addr) (c : Nat) (w : World) (hsm : cntL l ≤ 100000) (hok : ROk w w.heap.size A l) (hfit : fitNs l) (ht : Tab w) (hs : SpaceTab w)
    (hg1 : 0 < w.heap.size) (hg2 : 2 < w.heap.size) :
    Calls Tryz.prog 18 #[.slice A l.length c] w fun e w' => e = .returned (.tuple #[.string ⟨(layL l).1.toArray⟩, .int .i64 (layL l).2]) ∧ Below w.heap.size w w' := by
  have HC := Lib.hid (tree_CheckG l A c w w.heap.size hsm (Nat.le_refl _) hok hfit)
  have HOK := Lib.hid hok
  have HT := Lib.hid ht
  have HS := Lib.hid hs
  clear hfit hok ht hs
  by_cases hck : checkL 0 l = 0
  · have hps := printL_small l 0 hck (by omega)
    have hfs := flat_small l
    have HCK := Lib.hid hck
    rw [hck] at HC
    have HLY := Lib.hid (show layL l = if 8192 < (flatL l).length ∨ 65536 < (printL 0 l).length then ([], 6) else (printL 0 l, 0) by unfold layL; rw [if_neg (by simp [hck])])
    clear hck
    go_enter Tryz.func18, Tryz.ntmps18
    go_wp2_with fail
    refine HC.out.mono ?_
    rintro e1 w1 ⟨rfl, hb1⟩
    have hz1 := hb1.size
    have HB1 := Lib.hid hb1
    clear hb1
    go_wp2_with fail
    have hbW := HB1.out.alloc hz1 (.cells #[.pointer none, .slice none 0 0, .int .i64 0] 68)
    have hwk := layout_walk w1.heap.size w.heap.size (cntL l + 1) l 0 [] 0 A c (w1.alloc (.cells #[.pointer none, .slice none 0 0, .int .i64 0] 68)) (by omega) hsm (by omega) HCK.out (by simp; omega)
      (HOK.out.below hbW) (sheet_new w1 w.heap.size hz1) hg1 hg2 (HT.out.belowB hbW hg2) (HS.out.belowB hbW hg1) (by rw [List.nil_append]; omega) (by omega) (by omega)
    rw [List.nil_append, Int.zero_add] at hwk
    have HWK := Lib.hid hwk
    have HBW := Lib.hid hbW
    clear hwk hbW
    refine HWK.out.mono ?_
    rintro e2 w2 hl
    have hb2 := HBW.out.trans hl.2.2.1
    have hsh := hl.2.1
    obtain ⟨rfl, _⟩ := hl
    obtain ⟨q2, _⟩ := hsh.cell2
    have HL := Lib.hid (sheet_Len hsh)
    rw [Lib.byteCells_length] at HL
    have HST := Lib.hid (sheet_String (printL 0 l) hsh hb2.size)
    have HB2 := Lib.hid hb2
    clear hb2 hsh hps
    by_cases h8 : 8192 < (flatL l).length
    · have HR := Lib.hid (show layL l = ([], 6) by rw [HLY.out, if_pos (Or.inl h8)])
      have h8' : (8192 : Int) < (flatL l).length := by omega
      go_wp2_with fail
      go_ret2
      exact ⟨by rw [HR.out]; rfl, HB2.out⟩
    · have h8' : ¬ (8192 : Int) < (flatL l).length := by omega
      by_cases h6 : 65536 < (printL 0 l).length
      · have HR := Lib.hid (show layL l = ([], 6) by rw [HLY.out, if_pos (Or.inr h6)])
        have h6' : (65536 : Int) < (printL 0 l).length := by omega
        go_wp2_with (go_at_call 36; refine HL.out.mono ?_; rintro e3 w3 ⟨rfl, rfl⟩)
        go_ret2
        exact ⟨by rw [HR.out]; rfl, HB2.out⟩
      · have HR := Lib.hid (show layL l = (printL 0 l, 0) by rw [HLY.out, if_neg (by omega)])
        have h6' : ¬ (65536 : Int) < (printL 0 l).length := by omega
        go_wp2_with (first | (go_at_call 36; refine HL.out.mono ?_; rintro e3 w3 ⟨rfl, rfl⟩) | (go_at_call 37; refine HST.out.mono ?_; rintro e4 w4 ⟨rfl, hb4⟩))
        go_ret2
        exact ⟨by rw [HR.out]; rfl, HB2.out.trans hb4⟩
  · have HR := Lib.hid (show layL l = ([], checkL 0 l) by unfold layL; rw [if_pos hck])
    have hne : (checkL 0 l == 0) = false := beq_false_of_ne hck
    generalize checkL 0 l = x at *
    have HX := Lib.hid hck
    clear hck
    go_enter Tryz.func18, Tryz.ntmps18
    go_wp2_with fail
    refine HC.out.mono ?_
    rintro e1 w1 ⟨rfl, hb1⟩
    have HB1 := Lib.hid hb1
    clear hb1
    go_wp2_with fail
    go_ret2
    exact ⟨by rw [HR.out]; rfl, HB1.out⟩

theorem ROk.of_post {w w' : World} {A : Option Addr} {l : List NodeL} {kcs : List Value} (h1 : ReadsM w' (fun b => w.heap.size ≤ b ∧ b < w'.heap.size) 5 A l.length kcs) (h2 : NodesOk w' (fun b => w.heap.size ≤ b ∧ b < w'.heap.size) l kcs) : ROk w' w'.heap.size A l := ROk.of_parse h1 h2

/-- What the items of a text are: few, and with short texts. -/
theorem fit_of_checkW : ∀ ws : List WordL, ws.all wordOk = true → ∀ t ∈ ws, t.s.length ≤ maxLen
  | ws, h, t, ht => by
    have := List.all_eq_true.1 h t ht
    obtain ⟨nu, n, s, p⟩ := t
    unfold wordOk at this
    unfold maxLen
    cases nu
    · simp only [Bool.false_eq_true, if_false, Bool.and_eq_true, decide_eq_true_eq] at this
      have := name16 s this.2
      simp only; omega
    · simp only [if_true, Bool.and_eq_true, decide_eq_true_eq] at this
      obtain ⟨⟨rfl, _⟩, _⟩ := this
      simp
mutual
theorem fit_of_checkN : ∀ (n : NodeL) (d : Nat), checkN d n = 0 → cntN n ≤ 100000 → fitN n
  | .mk nm p ws b ks, d, h, hc => by
    obtain ⟨h1, h2⟩ := check_head d nm p ws b ks h
    obtain ⟨h3, h4, _, h6⟩ := check_parts d nm p ws b ks h
    simp only [cntN] at hc
    have h7 := fit_of_checkL ks (d + 1) h6 (by omega)
    have h8 := name16 nm h2
    have h9 := cntL_len ks
    refine ⟨by unfold maxLen; omega, by unfold maxLen; omega, fit_of_checkW ws h1, by unfold maxLen; omega, h7⟩
theorem fit_of_checkL : ∀ (l : List NodeL) (d : Nat), checkL d l = 0 → cntL l ≤ 100000 → fitNs l
  | [], _, _, _ => trivial
  | n :: r, d, h, hc => by
    obtain ⟨h1, h2⟩ := checkL_cons d n r h
    simp only [cntL] at hc
    exact ⟨fit_of_checkN n d h1 (by omega), fit_of_checkL r d h2 (by omega)⟩
end

set_option maxRecDepth 100000 in
theorem layout_Canon (s : ByteArray) (w : World) (hs : s.data.toList.length ≤ 100000) (hcn : (treeL s.data.toList).err = 0 → checkL 0 (treeL s.data.toList).nodes = 0 ∧ cntL (treeL s.data.toList).nodes ≤ 100000) (ht : Tab w) (hsp : SpaceTab w)
    (hg1 : 0 < w.heap.size) (hg2 : 2 < w.heap.size) :
    Calls Tryz.prog 12 #[.string s] w fun e w' => e = .returned (.tuple #[.string ⟨(canonL s.data.toList).1.toArray⟩, .int .i64 (canonL s.data.toList).2.1, .int .i64 (canonL s.data.toList).2.2]) ∧ Below w.heap.size w w' := by
  have HP := Lib.hid (tree_Parse s w (by unfold maxLen; rw [ba_len] at hs; omega))
  have HCN := Lib.hid hcn
  have HT := Lib.hid ht
  have HS := Lib.hid hsp
  have hcl : canonL s.data.toList = if (treeL s.data.toList).err ≠ 0 then ([], (treeL s.data.toList).pos, (treeL s.data.toList).err) else ((layL (treeL s.data.toList).nodes).1, 0, (layL (treeL s.data.toList).nodes).2) := rfl
  have HCL := Lib.hid hcl
  clear hcn ht hsp hcl hs
  generalize canonL s.data.toList = C at *
  generalize treeL s.data.toList = R at *
  obtain ⟨nds, pos, err⟩ := R
  simp only at HCN HCL
  by_cases he : err = 0
  · subst he
    have HL := Lib.hid (show C = ((layL nds).1, 0, (layL nds).2) by rw [HCL.out, if_neg (by simp)])
    obtain ⟨hck, hcnt⟩ := HCN.out rfl
    have HF := Lib.hid (fit_of_checkL nds 0 hck hcnt)
    clear hck
    go_enter Tryz.func12, Tryz.ntmps12
    go_wp2_with fail
    refine HP.out.mono ?_
    rintro e1 w1 ⟨A, c, kcs, rfl, _, hr, hn, hb1⟩
    have hz := hb1.size
    have HPR := Lib.hid (layout_Print nds A c w1 hcnt (ROk.of_parse hr hn) HF.out (HT.out.below hb1) (HS.out.below hb1) (by omega) (by omega))
    have HB1 := Lib.hid hb1
    clear hr hn hb1
    go_wp2_with fail
    refine HPR.out.mono ?_
    rintro e2 w2 ⟨rfl, hb2⟩
    have HB2 := Lib.hid (HB1.out.trans (hb2.mono hz))
    clear hb2
    go_wp2_with fail
    go_ret3
    exact ⟨by rw [HL.out]; rfl, HB2.out⟩
  · have HL := Lib.hid (show C = ([], pos, err) by rw [HCL.out, if_pos he])
    have hne : (err == 0) = false := beq_false_of_ne he
    have HE := Lib.hid he
    clear he
    go_enter Tryz.func12, Tryz.ntmps12
    go_wp2_with fail
    refine HP.out.mono ?_
    rintro e1 w1 ⟨A, c, kcs, rfl, _, hr, hn, hb1⟩
    have HB1 := Lib.hid hb1
    clear hr hn hb1
    go_wp2_with fail
    go_ret3
    exact ⟨by rw [HL.out]; rfl, HB1.out⟩

end Go.Proofs.YtjbniichcopnlaaGreatDoor
end

section
/- Layer 8, the reference: the walk of Same; the laws' live. -/
namespace Go.Proofs.YtjbniichcopnlaaGreatDoor
open Go.RowKit

/-- What Same asks of two tokens. -/
def sameTok (a b : Tok) : Bool := decide (a.kind = b.kind ∧ a.n = b.n ∧ a.s = b.s)
def sameL : List Tok → List Tok → Bool
  | [], [] => true
  | a :: l, b :: m => sameTok a b && sameL l m
  | _, _ => false

theorem sameTok_eq (a b : Tok) : sameTok a b = decide (Tok.mk a.kind b.pos a.n a.s = b) := by
  unfold sameTok
  rw [decide_eq_decide, tok_eq_iff]
  simp

theorem sameL_len : ∀ (l m : List Tok), sameL l m = true → l.length = m.length
  | [], [], _ => rfl
  | a :: l, b :: m, h => by
    simp only [sameL, Bool.and_eq_true] at h
    simp [sameL_len l m h.2]
  | [], b :: m, h => by simp [sameL] at h
  | a :: l, [], h => by simp [sameL] at h

theorem sameL_step : ∀ (l m : List Tok) (k : Nat) (a b : Tok), l[k]? = some a → m[k]? = some b → sameL (l.drop k) (m.drop k) = (sameTok a b && sameL (l.drop (k + 1)) (m.drop (k + 1))) := by
  intro l m k a b ha hb
  have h1 := (List.getElem?_eq_some_iff.1 ha)
  have h2 := (List.getElem?_eq_some_iff.1 hb)
  obtain ⟨h1, rfl⟩ := h1
  obtain ⟨h2, rfl⟩ := h2
  rw [List.drop_eq_getElem_cons h1, List.drop_eq_getElem_cons h2]
  rfl

end Go.Proofs.YtjbniichcopnlaaGreatDoor
end

section
/- Layer 10 (layout), the laws: what their walks share; live. -/
set_option linter.unusedVariables false
set_option linter.unusedSimpArgs false
namespace Go.Proofs.YtjbniichcopnlaaGreatDoor
open Go.RowKit

theorem tab_lt {P : Program} {w : World} {n : String} {k : IntKind} {zs : List Int} {g : Nat} (hg : P.globalNamed n = some g) (h : Lib.TabIs P w n k zs) : g < w.heap.size := by
  unfold Lib.TabIs World.var? at h
  rw [hg] at h
  simp only [Option.bind_some] at h
  rcases Nat.lt_or_ge g w.heap.size with h1 | h1
  · exact h1
  · rw [Array.getElem?_eq_none h1] at h
    cases h
theorem Tab.lt {w : World} (h : Tab w) : 2 < w.heap.size := tab_lt (by kernel_rfl) h
theorem SpaceTab.lt {w : World} (h : SpaceTab w) : 0 < w.heap.size := tab_lt (by kernel_rfl) h

mutual
theorem cnt_zN : ∀ (n : NodeL), cntN (zN n) = cntN n
  | .mk nm p ws b ks => by simp only [zN, cntN, List.length_map, cnt_z ks]
theorem cnt_z : ∀ (l : List NodeL), cntL (zNs l) = cntL l
  | [] => rfl
  | n :: r => by simp only [zNs, cntL, cnt_zN n, cnt_z r]
end
mutual
theorem nd_zN : ∀ (n : NodeL), ndN (zN n) = ndN n
  | .mk nm p ws b ks => by simp only [zN, ndN, nd_z ks]
theorem nd_z : ∀ (l : List NodeL), ndL (zNs l) = ndL l
  | [] => rfl
  | n :: r => by simp only [zNs, ndL, nd_zN n, nd_z r]
end
theorem sameL_eq : ∀ l m : List Tok, l.map Tok.bare0 = m.map Tok.bare0 → sameL l m = true
  | [], [], _ => rfl
  | [], _ :: _, h => by simp at h
  | _ :: _, [], h => by simp at h
  | a :: l, b :: m, h => by
    simp only [List.map_cons, List.cons.injEq] at h
    rw [sameL, sameL_eq l m h.2]
    obtain ⟨a1, a2, a3, a4⟩ := a
    obtain ⟨b1, b2, b3, b4⟩ := b
    have h1 := h.1
    simp only [Tok.bare0, Tok.mk.injEq] at h1
    obtain ⟨rfl, _, rfl, rfl⟩ := h1
    simp [sameTok]
theorem canon_err (s : Bytes) (h : (canonL s).2.2 ≠ 0) : (canonL s).1 = [] := by
  unfold canonL at h ⊢
  by_cases he : (treeL s).err ≠ 0
  · rw [if_pos he]
  · rw [if_neg he] at h ⊢
    simp only at h ⊢
    unfold layL at h ⊢
    by_cases hc : checkL 0 (treeL s).nodes ≠ 0
    · rw [if_pos hc]
    · rw [if_neg hc] at h ⊢
      by_cases hl : 8192 < (flatL (treeL s).nodes).length ∨ 65536 < (printL 0 (treeL s).nodes).length
      · rw [if_pos hl]
      · rw [if_neg hl] at h; exact absurd rfl h
theorem canon_in (s : Bytes) (hs : s.length ≤ 400) : (treeL s).err = 0 → checkL 0 (treeL s).nodes = 0 ∧ cntL (treeL s).nodes ≤ 100000 := fun he => by
  obtain ⟨h1, _, _, h4⟩ := right_law s hs he
  exact ⟨h1, by omega⟩
/-- What was written anew is read, and is small. -/
theorem canon_out (s : Bytes) (hs : s.length ≤ 400) (h : (canonL s).2.2 = 0) :
    (canonL s).1.length ≤ 65536 ∧ ((treeL (canonL s).1).err = 0 → checkL 0 (treeL (canonL s).1).nodes = 0 ∧ cntL (treeL (canonL s).1).nodes ≤ 100000) := by
  unfold canonL at h ⊢
  by_cases he : (treeL s).err ≠ 0
  · rw [if_pos he] at h; exact absurd h he
  rw [if_neg he] at h ⊢
  simp only at h ⊢
  obtain ⟨h1, h2, h3, h4⟩ := lay_ok _ h
  obtain ⟨p1, p2, p3⟩ := print_tree _ h
  obtain ⟨_, _, _, r4⟩ := right_law s hs (by simpa using he)
  refine ⟨by rw [h4]; exact h3, fun _ => ⟨?_, ?_⟩⟩
  · rw [← check_z, p3, check_z]; exact h1
  · rw [← cnt_z, p3, cnt_z]; omega

theorem cut_err_nil (s : Bytes) (h : (cutL s).err ≠ 0) : (cutL s).toks = [] := by
  unfold cutL at h ⊢
  by_cases hl : s.length > 65536
  · rw [if_pos hl]
  · rw [if_neg hl] at h ⊢
    exact (cutM_err false 0 0 0 s).2 h
theorem ROk.wide {w : World} {B B' : Nat} {A : Option Addr} {l : List NodeL} (h : ROk w B A l) (hB : B ≤ B') : ROk w B' A l := by
  obtain ⟨cs, h1, h2⟩ := h
  exact ⟨cs, h1.keep (fun _ h => Nat.lt_of_lt_of_le h hB) (fun _ _ => rfl), NodesOk.keep (fun _ h => Nat.lt_of_lt_of_le h hB) (fun _ _ => rfl) _ _ h2⟩

theorem live_tree10 : treeL [97, 32, 49, 123, 98, 59, 125] = ⟨[.mk [97] 0 [⟨true, 1, [], 2⟩] true [.mk [98] 4 [] false []]], 0, 0⟩ := by kernel_rfl
theorem live_canon : canonL [97, 32, 49, 123, 98, 59, 125] = ([97, 32, 49, 32, 123, 10, 32, 32, 98, 59, 10, 125, 10], 0, 0) := by
  unfold canonL
  rw [live_tree10]
  simp [layL, checkL, checkN, wordOk, nameL, isLetter, isInner, flatL, flatN, printL, printN, lineB, wordB, Lib.itoa, Lib.decDigits_one, Lib.join_cons, Lib.join_nil, Lib.joinTail, List.replicate_succ, wordT]

end Go.Proofs.YtjbniichcopnlaaGreatDoor
end
