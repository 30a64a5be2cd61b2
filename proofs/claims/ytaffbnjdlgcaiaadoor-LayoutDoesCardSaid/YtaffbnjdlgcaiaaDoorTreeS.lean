/- Layer 9 (tree): the walk of Same. -/
import Derived.Test.YtaffbnjdlgcaiaaDoorTreeR1
set_option linter.unusedVariables false
set_option linter.unusedSimpArgs false
namespace Go.Proofs.YtaffbnjdlgcaiaaDoor
open Go.RowKit

def wordV (t : WordL) : Value := .agg #[.bool t.num, .int .i64 t.n, .string ⟨t.s.toArray⟩, .int .i64 t.pos]
theorem same_word (v u : WordL) (w : World) :
    Calls Tryd.prog 38 #[wordV v, wordV u] w fun e w' => e = .returned (.bool (sameW v u)) ∧ Below w.heap.size w w' := by
  obtain ⟨n1, a1, s1, p1⟩ := v
  obtain ⟨n2, a2, s2, p2⟩ := u
  unfold wordV sameW
  dsimp only
  have hB : Below w.heap.size w ((w.alloc (.cells #[.bool n1, .int .i64 a1, .string ⟨s1.toArray⟩, .int .i64 p1] 75)).alloc (.cells #[.bool n2, .int .i64 a2, .string ⟨s2.toArray⟩, .int .i64 p2] 75)) := ((Below.refl _ _).alloc (Nat.le_refl _) _).alloc (by simp) _
  have HB := Lib.hid hB
  clear hB
  cases h1 : (n1 == n2)
  · have hr : (false && decide (a1 = a2) && decide (s1 = s2)) = false := by simp
    rw [hr]
    go_enter Tryd.func38, Tryd.ntmps38
    go_wp2
    go_ret
    exact ⟨rfl, HB.out⟩
  · by_cases h2 : a1 = a2
    · have h2' : (a1 == a2) = true := by simpa using h2
      by_cases h3 : s1 = s2
      · have h3' : (s1 == s2) = true := by simpa using h3
        have hr : (true && decide (a1 = a2) && decide (s1 = s2)) = true := by simp [h2, h3]
        rw [hr]
        clear h2 h3
        go_enter Tryd.func38, Tryd.ntmps38
        go_wp2
        go_ret
        exact ⟨rfl, HB.out⟩
      · have h3' : (s1 == s2) = false := by simpa using h3
        have hr : (true && decide (a1 = a2) && decide (s1 = s2)) = false := by simp [h3]
        rw [hr]
        clear h2 h3
        go_enter Tryd.func38, Tryd.ntmps38
        go_wp2
        go_ret
        exact ⟨rfl, HB.out⟩
    · have h2' : (a1 == a2) = false := by simpa using h2
      have hr : (true && decide (a1 = a2) && decide (s1 = s2)) = false := by simp [h2]
      rw [hr]
      clear h2
      go_enter Tryd.func38, Tryd.ntmps38
      go_wp2
      go_ret
      exact ⟨rfl, HB.out⟩

theorem sameWs_len : ∀ (l m : List WordL), l.length ≠ m.length → sameWs l m = false
  | [], [], h => absurd rfl h
  | [], _ :: _, _ => rfl
  | _ :: _, [], _ => rfl
  | a :: l, b :: m, h => by
    rw [sameWs, sameWs_len l m (by simpa using h)]; simp
theorem sameWs_step : ∀ (l m : List WordL) (k : Nat) (a b : WordL), l[k]? = some a → m[k]? = some b → sameWs (l.drop k) (m.drop k) = (sameW a b && sameWs (l.drop (k + 1)) (m.drop (k + 1)))
  | [], _, k, a, b, h, _ => by simp at h
  | _ :: _, [], k, a, b, _, h => by simp at h
  | x :: l, y :: m, 0, a, b, h1, h2 => by
    simp only [List.getElem?_cons_zero, Option.some.injEq] at h1 h2
    subst h1 h2
    simp [sameWs]
  | x :: l, y :: m, k + 1, a, b, h1, h2 => by
    simpa using sameWs_step l m k a b (by simpa using h1) (by simpa using h2)

set_option maxHeartbeats 2000000 in
theorem same_words (l m : List WordL) (hl : l.length ≤ 100000) (A A' : Option Addr) (c c' : Nat) (w : World) (B : Nat) (hB : B ≤ w.heap.size) (h1 : ReadsM w (· < B) 4 A l.length (l.flatMap WordL.cells)) (h2 : ReadsM w (· < B) 4 A' m.length (m.flatMap WordL.cells)) :
    Calls Tryd.prog 37 #[.slice A l.length c, .slice A' m.length c', .func (.func 38) #[] #[]] w fun e w' => e = .returned (.bool (sameWs l m)) ∧ Below w.heap.size w w' := by
  by_cases hlen : l.length = m.length
  · have hne : ((l.length : Int) != (m.length : Int)) = false := by rw [bne_eq_false_iff_eq]; omega
    have H1 := Lib.hid h1
    have H2 := Lib.hid h2
    have HL := Lib.hid hlen
    clear h1 h2 hlen
    go_enter Tryd.func37, Tryd.ntmps37
    go_wp2_with fail
    go_loopw [17] (fun i wr => ∃ k : Nat, k ≤ l.length ∧ i = .int .i64 k ∧ Below w.heap.size w wr ∧ sameWs l m = sameWs (l.drop k) (m.drop k)) (fun i _ => l.length - (intOf i).toNat)
    case atStart => exact ⟨0, Nat.zero_le _, rfl, Below.refl _ _, by simp⟩
    case round =>
      obtain ⟨k, hk, rfl, hb, hs⟩ := hrel
      have hbs := hb.size
      by_cases hlt : k < l.length
      · have hlt' : k < m.length := by have := HL.out; omega
        obtain ⟨x, hx⟩ : ∃ x, l[k]? = some x := ⟨_, List.getElem?_eq_getElem hlt⟩
        obtain ⟨y, hy⟩ : ∃ y, m[k]? = some y := ⟨_, List.getElem?_eq_getElem hlt'⟩
        have hk' : ∀ p : Addr, p.block < B → wr.cell? p = w.cell? p := fun p hp => hb.cell (by omega)
        obtain ⟨ad, rfl, had, d0, d1, d2, d3⟩ := word_cells (H1.out.keep (fun _ h => h) hk') k x hx
        obtain ⟨ae, rfl, hae, e0, e1, e2, e3⟩ := word_cells (H2.out.keep (fun _ h => h) hk') k y hy
        rw [sameWs_step l m k x y hx hy] at hs
        have HS := Lib.hid hs
        have HW := Lib.hid (fun W => show Calls Tryd.prog 38 #[.agg #[.bool x.num, .int .i64 x.n, .string ⟨x.s.toArray⟩, .int .i64 x.pos], .agg #[.bool y.num, .int .i64 y.n, .string ⟨y.s.toArray⟩, .int .i64 y.pos]] W fun e w' => e = .returned (.bool (sameW x y)) ∧ Below W.heap.size W w' from same_word x y W)
        have HB := Lib.hid hb
        have lk : (k : Int) < l.length := by omega
        have lk2 : (k : Int) < m.length := by omega
        have lk0 : (0 : Int) ≤ k := by omega
        have w1f : IntKind.i64.wrap ((k : Int) + 1) = (k : Int) + 1 := by rw [IntKind.wrap_i64]; omega
        have hne1 : ad.block ≠ wr.heap.size := by omega
        have hne2 : ae.block ≠ wr.heap.size := by omega
        have hlad : ad.block < wr.heap.size := by omega
        have hlae : ae.block < wr.heap.size := by omega
        have hal : ∀ (o : Obj) (b f : Nat) (v : Value), b < wr.heap.size → wr.cell? ⟨b, f, none⟩ = some v → (wr.alloc o).cell? ⟨b, f, none⟩ = some v := fun o b f v hb h => (World.cell?_alloc_lt _ _ _ hb).trans h
        have g0 := (World.cell?_alloc_lt wr (.cells #[.bool x.num, .int .i64 x.n, .string ⟨x.s.toArray⟩, .int .i64 x.pos] 75) (ae.add (k * 4)) (by rw [block_of_add]; exact hlae)).trans e0
        have g1 := (World.cell?_alloc_lt wr (.cells #[.bool x.num, .int .i64 x.n, .string ⟨x.s.toArray⟩, .int .i64 x.pos] 75) ⟨(ae.add (k * 4)).block, (ae.add (k * 4)).off + 1, none⟩ (by show (ae.add (k * 4)).block < _; rw [block_of_add]; exact hlae)).trans e1
        have g2 := (World.cell?_alloc_lt wr (.cells #[.bool x.num, .int .i64 x.n, .string ⟨x.s.toArray⟩, .int .i64 x.pos] 75) ⟨(ae.add (k * 4)).block, (ae.add (k * 4)).off + 2, none⟩ (by show (ae.add (k * 4)).block < _; rw [block_of_add]; exact hlae)).trans e2
        have g3 := (World.cell?_alloc_lt wr (.cells #[.bool x.num, .int .i64 x.n, .string ⟨x.s.toArray⟩, .int .i64 x.pos] 75) ⟨(ae.add (k * 4)).block, (ae.add (k * 4)).off + 3, none⟩ (by show (ae.add (k * 4)).block < _; rw [block_of_add]; exact hlae)).trans e3
        clear hk' hs hb hal
        go_wp2_with fail
        refine (HW.out _).mono ?_
        rintro e w2 ⟨rfl, hb2⟩
        have hb3 : Below w.heap.size w w2 := HB.out.trans ((((Below.refl wr.heap.size wr).alloc (Nat.le_refl _) _).alloc (by simp) _ |>.trans (hb2.mono (by simp; omega))).mono hbs)
        have HB3 := Lib.hid hb3
        clear hb2 hb3
        cases hsw : sameW x y
        · have hs2 : sameWs l m = false := by rw [HS.out, hsw]; rfl
          have HS2 := Lib.hid hs2
          clear hs2
          go_wp2_with fail
          go_ret
          exact ⟨by rw [HS2.out]; rfl, HB3.out⟩
        · have hs2 : sameWs l m = sameWs (l.drop (k + 1)) (m.drop (k + 1)) := by rw [HS.out, hsw]; rfl
          have HS2 := Lib.hid hs2
          clear hs2
          go_wp2_with fail
          exact ⟨⟨k + 1, by omega, by go_num, HB3.out, HS2.out⟩, by simp [intOf]; omega⟩
      · have hkl : k = l.length := by omega
        have hs2 : sameWs l m = true := by
          rw [hs, List.drop_eq_nil_of_le (by omega), List.drop_eq_nil_of_le (by have := HL.out; omega)]; rfl
        have HS2 := Lib.hid hs2
        have lk : ¬ (k : Int) < l.length := by omega
        clear hs hs2
        go_wp2_with fail
        go_ret
        exact ⟨by rw [HS2.out]; rfl, hb⟩
  · have hne : ((l.length : Int) != (m.length : Int)) = true := by rw [bne_iff_ne]; omega
    have HS2 := Lib.hid (sameWs_len l m hlen)
    clear hlen
    go_enter Tryd.func37, Tryd.ntmps37
    go_wp2_with fail
    go_ret
    exact ⟨by rw [HS2.out]; rfl, Below.refl _ _⟩

mutual
/-- No item has more than twenty words. -/
def fewN : NodeL → Bool
  | .mk _ _ ws _ ks => decide (ws.length ≤ 20) && fewNs ks
def fewNs : List NodeL → Bool
  | [] => true
  | n :: r => fewN n && fewNs r
end
mutual
theorem few_of_checkN : ∀ (n : NodeL) (d : Nat), checkN d n = 0 → fewN n = true
  | .mk nm p ws b ks, d, h => by
    rw [checkN] at h
    split at h
    · simp at h
    rename_i h1
    split at h
    · simp at h
    have hk := few_of_checkL ks (d + 1) h
    simp only [Bool.or_eq_true, decide_eq_true_eq, not_or] at h1
    simp only [fewN, hk, Bool.and_true, decide_eq_true_eq]
    omega
theorem few_of_checkL : ∀ (l : List NodeL) (d : Nat), checkL d l = 0 → fewNs l = true
  | [], d, _ => rfl
  | n :: r, d, h => by
    obtain ⟨h1, h2⟩ := checkL_cons d _ _ h
    simp only [fewNs, few_of_checkN n d h1, few_of_checkL r d h2, Bool.and_self]
end
theorem few_at : ∀ (l : List NodeL) (k : Nat) (n : NodeL), fewNs l = true → l[k]? = some n → n.words.length ≤ 20 ∧ fewNs n.kids = true
  | [], k, n, _, h => by simp at h
  | x :: r, 0, n, h, hk => by
    simp only [List.getElem?_cons_zero, Option.some.injEq] at hk
    subst hk
    obtain ⟨nm, p, ws, b, ks⟩ := x
    simp only [fewNs, fewN, Bool.and_eq_true, decide_eq_true_eq] at h
    exact h.1
  | x :: r, k + 1, n, h, hk => by
    simp only [fewNs, Bool.and_eq_true] at h
    exact few_at r k n h.2 (by simpa using hk)
theorem sameN_eq (x y : NodeL) : sameN x y = (sameWs x.words y.words && decide (x.name = y.name) && (x.block == y.block) && sameNs x.kids y.kids) := by
  obtain ⟨a, b, c, d, e⟩ := x
  obtain ⟨a', b', c', d', e'⟩ := y
  rfl
theorem sameNs_len : ∀ (l m : List NodeL), l.length ≠ m.length → sameNs l m = false
  | [], [], h => absurd rfl h
  | [], _ :: _, _ => rfl
  | _ :: _, [], _ => rfl
  | a :: l, b :: m, h => by
    rw [sameNs, sameNs_len l m (by simpa using h)]; simp
theorem sameNs_step : ∀ (l m : List NodeL) (k : Nat) (a b : NodeL), l[k]? = some a → m[k]? = some b → sameNs (l.drop k) (m.drop k) = (sameN a b && sameNs (l.drop (k + 1)) (m.drop (k + 1)))
  | [], _, k, a, b, h, _ => by simp at h
  | _ :: _, [], k, a, b, _, h => by simp at h
  | x :: l, y :: m, 0, a, b, h1, h2 => by
    simp only [List.getElem?_cons_zero, Option.some.injEq] at h1 h2
    subst h1 h2
    simp [sameNs]
  | x :: l, y :: m, k + 1, a, b, h1, h2 => by
    simpa using sameNs_step l m k a b (by simpa using h1) (by simpa using h2)

def SameTo (N : Nat) : Prop := ∀ (l m : List NodeL) (A A' : Option Addr) (c c' : Nat) (w : World) (B : Nat), cntL l < N → cntL l ≤ 100000 → fewNs l = true → B ≤ w.heap.size → ROk w B A l → ROk w B A' m →
    Calls Tryd.prog 20 #[.slice A l.length c, .slice A' m.length c'] w fun e w' => e = .returned (.bool (sameNs l m)) ∧ Below w.heap.size w w'

set_option maxRecDepth 100000 in
set_option maxHeartbeats 2000000 in
theorem same_node (N : Nat) (ih : SameTo N) (x y : NodeL) (Aw Ak Aw' Ak' : Option Addr) (cw ck cw' ck' : Nat) (w : World) (B : Nat) (hN : cntL x.kids < N) (hsm : cntL x.kids ≤ 100000) (hwl : x.words.length ≤ 20) (hfk : fewNs x.kids = true) (hB : B ≤ w.heap.size)
    (hw : ReadsM w (· < B) 4 Aw x.words.length (x.words.flatMap WordL.cells)) (hw' : ReadsM w (· < B) 4 Aw' y.words.length (y.words.flatMap WordL.cells)) (hk : ROk w B Ak x.kids) (hk' : ROk w B Ak' y.kids) :
    Calls Tryd.prog 36 #[.agg #[.string ⟨x.name.toArray⟩, .int .i64 x.pos, .slice Aw x.words.length cw, .bool x.block, .slice Ak x.kids.length ck], .agg #[.string ⟨y.name.toArray⟩, .int .i64 y.pos, .slice Aw' y.words.length cw', .bool y.block, .slice Ak' y.kids.length ck']] w fun e w' => e = .returned (.bool (sameN x y)) ∧ Below w.heap.size w w' := by
  obtain ⟨o, ho⟩ : ∃ o : Obj, o = (.cells #[.string ⟨x.name.toArray⟩, .int .i64 x.pos, .slice Aw x.words.length cw, .bool x.block, .slice Ak x.kids.length ck] 38) := ⟨_, rfl⟩
  obtain ⟨o', ho'⟩ : ∃ o : Obj, o = (.cells #[.string ⟨y.name.toArray⟩, .int .i64 y.pos, .slice Aw' y.words.length cw', .bool y.block, .slice Ak' y.kids.length ck'] 38) := ⟨_, rfl⟩
  have hBW : Below w.heap.size w ((w.alloc o).alloc o') := ((Below.refl _ _).alloc (Nat.le_refl _) _).alloc (by simp) _
  have hkeep : ∀ p : Addr, p.block < B → ((w.alloc o).alloc o').cell? p = w.cell? p := fun p hp => hBW.cell (by omega)
  have HW := Lib.hid (same_words x.words y.words (by omega) Aw Aw' cw cw' ((w.alloc o).alloc o') B (by simp; omega) (hw.keep (fun _ h => h) hkeep) (hw'.keep (fun _ h => h) hkeep))
  have HK := Lib.hid (hk.below (hBW.mono hB))
  have HK' := Lib.hid (hk'.below (hBW.mono hB))
  have hb1 : ((w.alloc o).alloc o').heap[w.heap.size]? = some o := by
    rw [show ((w.alloc o).alloc o').heap[w.heap.size]? = (w.alloc o).heap[w.heap.size]? from Go.heap_alloc_old (w.alloc o) o' (by simp)]
    exact heap_alloc_new w o
  have hb2 : ((w.alloc o).alloc o').heap[w.heap.size + 1]? = some o' := by
    have := heap_alloc_new (w.alloc o) o'
    simpa using this
  have HB1 := Lib.hid hb1
  have HB2 := Lib.hid hb2
  have HBW := Lib.hid hBW
  subst ho ho'
  clear hw hw' hk hk' hkeep hb1 hb2 hBW
  rw [sameN_eq]
  have HIH := Lib.hid ih
  clear ih
  go_enter Tryd.func36, Tryd.ntmps36
  go_wp2_with fail
  refine HW.out.mono ?_
  rintro e w2 ⟨rfl, hb2⟩
  have hx : w2.heap[w.heap.size]? = _ := (hb2.block _ (by simp; omega)).trans HB1.out
  have hy : w2.heap[w.heap.size + 1]? = _ := (hb2.block _ (by simp)).trans HB2.out
  have x0 := Joins.cell_of_block hx 0
  have x3 := Joins.cell_of_block hx 3
  have x4 := Joins.cell_of_block hx 4
  have y0 := Joins.cell_of_block hy 0
  have y3 := Joins.cell_of_block hy 3
  have y4 := Joins.cell_of_block hy 4
  have HB2' := Lib.hid (HBW.out.trans (hb2.mono (by simp; omega)))
  have hBw2 : B ≤ w2.heap.size := by have := hb2.size; simp at this; omega
  have HK2 := Lib.hid (HK.out.below (hb2.mono (by simp; omega)))
  have HK2' := Lib.hid (HK'.out.below (hb2.mono (by simp; omega)))
  clear hx hy hb2 HK HK' HBW HB1 HB2 HW
  cases hsw : sameWs x.words y.words
  · have HR := Lib.hid (show (sameWs x.words y.words && decide (x.name = y.name) && (x.block == y.block) && sameNs x.kids y.kids) = false by simp [hsw])
    clear hsw
    go_wp2_with fail
    go_ret
    exact ⟨by rw [HR.out]; rfl, HB2'.out⟩
  · by_cases hnm : x.name = y.name
    · have hnm' : (x.name == y.name) = true := by simpa using hnm
      cases hbl : (x.block == y.block)
      · have HR := Lib.hid (show (sameWs x.words y.words && decide (x.name = y.name) && (x.block == y.block) && sameNs x.kids y.kids) = false by simp [hbl])
        clear hnm hsw
        go_wp2_with fail
        go_ret
        exact ⟨by rw [HR.out]; rfl, HB2'.out⟩
      · have HR := Lib.hid (show (sameWs x.words y.words && decide (x.name = y.name) && (x.block == y.block) && sameNs x.kids y.kids) = sameNs x.kids y.kids by simp [hnm, hsw, hbl])
        have HI := Lib.hid (HIH.out x.kids y.kids Ak Ak' ck ck' w2 B hN hsm hfk hBw2 HK2.out HK2'.out)
        clear hnm HIH
        go_wp2_with fail
        refine HI.out.mono ?_
        rintro e w3 ⟨rfl, hb3⟩
        have HB3 := Lib.hid (HB2'.out.trans (hb3.mono HB2'.out.size))
        clear hb3
        go_wp2_with fail
        go_ret
        exact ⟨by rw [HR.out]; rfl, HB3.out⟩
    · have hnm' : (x.name == y.name) = false := by simpa using hnm
      have HR := Lib.hid (show (sameWs x.words y.words && decide (x.name = y.name) && (x.block == y.block) && sameNs x.kids y.kids) = false by simp [hnm])
      clear hnm hsw
      go_wp2_with fail
      go_ret
      exact ⟨by rw [HR.out]; rfl, HB2'.out⟩

set_option maxRecDepth 100000 in
set_option maxHeartbeats 4000000 in
theorem same_nodes (N : Nat) (ih : SameTo N) (l m : List NodeL) (A A' : Option Addr) (c c' : Nat) (w : World) (B : Nat) (hN : cntL l < N + 1) (hsm : cntL l ≤ 100000) (hfew : fewNs l = true) (hB : B ≤ w.heap.size) (h1 : ROk w B A l) (h2 : ROk w B A' m) :
    Calls Tryd.prog 35 #[.slice A l.length c, .slice A' m.length c', .func (.func 36) #[] #[]] w fun e w' => e = .returned (.bool (sameNs l m)) ∧ Below w.heap.size w w' := by
  have hl := cntL_len l
  by_cases hlen : l.length = m.length
  · have hne : ((l.length : Int) != (m.length : Int)) = false := by rw [bne_eq_false_iff_eq]; omega
    have H1 := Lib.hid h1
    have H2 := Lib.hid h2
    have HL := Lib.hid hlen
    have HIH := Lib.hid ih
    have HF := Lib.hid hfew
    clear h1 h2 hlen ih hfew
    go_enter Tryd.func35, Tryd.ntmps35
    go_wp2_with fail
    go_loopw [17] (fun i wr => ∃ k : Nat, k ≤ l.length ∧ i = .int .i64 k ∧ Below w.heap.size w wr ∧ sameNs l m = sameNs (l.drop k) (m.drop k)) (fun i _ => l.length - (intOf i).toNat)
    case atStart => exact ⟨0, Nat.zero_le _, rfl, Below.refl _ _, by simp⟩
    case round =>
      obtain ⟨k, hk, rfl, hb, hs⟩ := hrel
      have hbs := hb.size
      by_cases hlt : k < l.length
      · have hlt' : k < m.length := by have := HL.out; omega
        obtain ⟨x, hx⟩ : ∃ x, l[k]? = some x := ⟨_, List.getElem?_eq_getElem hlt⟩
        obtain ⟨y, hy⟩ : ∃ y, m[k]? = some y := ⟨_, List.getElem?_eq_getElem hlt'⟩
        obtain ⟨ad, Aw, cw, Ak, ck, rfl, had, d0, d1, d2, d3, d4, hw, hkk⟩ := (H1.out.below (hb.mono hB)).at k x hx
        obtain ⟨ae, Aw', cw', Ak', ck', rfl, hae, e0, e1, e2, e3, e4, hw', hkk'⟩ := (H2.out.below (hb.mono hB)).at k y hy
        rw [sameNs_step l m k x y hx hy] at hs
        obtain ⟨f1, f2⟩ := few_at l k x HF.out hx
        have hc1 := cntL_take_mem l k x hx
        have hc2 := cntN_eq x
        obtain ⟨o, ho⟩ : ∃ o : Obj, o = (.cells #[.string ⟨x.name.toArray⟩, .int .i64 x.pos, .slice Aw x.words.length cw, .bool x.block, .slice Ak x.kids.length ck] 38) := ⟨_, rfl⟩
        obtain ⟨o', ho'⟩ : ∃ o' : Obj, o' = (.cells #[.string ⟨y.name.toArray⟩, .int .i64 y.pos, .slice Aw' y.words.length cw', .bool y.block, .slice Ak' y.kids.length ck'] 38) := ⟨_, rfl⟩
        have hBW : Below B wr ((wr.alloc o).alloc o') := ((Below.refl _ _).alloc (by omega) _).alloc (by simp; omega) _
        have hkeep : ∀ p : Addr, p.block < B → ((wr.alloc o).alloc o').cell? p = wr.cell? p := fun p hp => hBW.cell (by omega)
        have HW := Lib.hid (same_node N HIH.out x y Aw Ak Aw' Ak' cw ck cw' ck' ((wr.alloc o).alloc o') B (by omega) (by omega) f1 f2 (by simp; omega) (hw.keep (fun _ h => h) hkeep) (hw'.keep (fun _ h => h) hkeep) (hkk.below hBW) (hkk'.below hBW))
        have HS := Lib.hid hs
        have HB := Lib.hid hb
        have lk : (k : Int) < l.length := by omega
        have lk2 : (k : Int) < m.length := by omega
        have lk0 : (0 : Int) ≤ k := by omega
        have w1f : IntKind.i64.wrap ((k : Int) + 1) = (k : Int) + 1 := by rw [IntKind.wrap_i64]; omega
        have hlae : ae.block < wr.heap.size := by omega
        have hlad : ad.block < wr.heap.size := by omega
        have hne1 : ad.block ≠ wr.heap.size := by omega
        have hne2 : ae.block ≠ wr.heap.size := by omega
        have g0 := (World.cell?_alloc_lt wr o (ae.add (k * 5)) (by rw [block_of_add]; exact hlae)).trans e0
        have g1 := (World.cell?_alloc_lt wr o ⟨(ae.add (k * 5)).block, (ae.add (k * 5)).off + 1, none⟩ (by show (ae.add (k * 5)).block < _; rw [block_of_add]; exact hlae)).trans e1
        have g2 := (World.cell?_alloc_lt wr o ⟨(ae.add (k * 5)).block, (ae.add (k * 5)).off + 2, none⟩ (by show (ae.add (k * 5)).block < _; rw [block_of_add]; exact hlae)).trans e2
        have g3 := (World.cell?_alloc_lt wr o ⟨(ae.add (k * 5)).block, (ae.add (k * 5)).off + 3, none⟩ (by show (ae.add (k * 5)).block < _; rw [block_of_add]; exact hlae)).trans e3
        have g4 := (World.cell?_alloc_lt wr o ⟨(ae.add (k * 5)).block, (ae.add (k * 5)).off + 4, none⟩ (by show (ae.add (k * 5)).block < _; rw [block_of_add]; exact hlae)).trans e4
        subst ho ho'
        have HBW := Lib.hid hBW
        clear hkeep hs hb hw hw' hkk hkk' f1 f2 hBW hc1 hc2
        go_wp2_with fail
        refine HW.out.mono ?_
        rintro e w2 ⟨rfl, hb2⟩
        have hb3 : Below w.heap.size w w2 := HB.out.trans ((((Below.refl wr.heap.size wr).alloc (Nat.le_refl _) _).alloc (by simp) _ |>.trans (hb2.mono (by simp; omega))).mono hbs)
        have HB3 := Lib.hid hb3
        clear hb2 hb3 HBW HW
        cases hsw : sameN x y
        · have hs2 : sameNs l m = false := by rw [HS.out, hsw]; rfl
          have HS2 := Lib.hid hs2
          clear hs2
          go_wp2_with fail
          go_ret
          exact ⟨by rw [HS2.out]; rfl, HB3.out⟩
        · have hs2 : sameNs l m = sameNs (l.drop (k + 1)) (m.drop (k + 1)) := by rw [HS.out, hsw]; rfl
          have HS2 := Lib.hid hs2
          clear hs2
          go_wp2_with fail
          exact ⟨⟨k + 1, by omega, by go_num, HB3.out, HS2.out⟩, by simp [intOf]; omega⟩
      · have hkl : k = l.length := by omega
        have hs2 : sameNs l m = true := by
          rw [hs, List.drop_eq_nil_of_le (by omega), List.drop_eq_nil_of_le (by have := HL.out; omega)]; rfl
        have HS2 := Lib.hid hs2
        have lk : ¬ (k : Int) < l.length := by omega
        clear hs hs2
        go_wp2_with fail
        go_ret
        exact ⟨by rw [HS2.out]; rfl, hb⟩
  · have hne : ((l.length : Int) != (m.length : Int)) = true := by rw [bne_iff_ne]; omega
    have HS2 := Lib.hid (sameNs_len l m hlen)
    clear hlen ih h1 h2
    go_enter Tryd.func35, Tryd.ntmps35
    go_wp2_with fail
    go_ret
    exact ⟨by rw [HS2.out]; rfl, Below.refl _ _⟩

theorem same_to : ∀ N, SameTo N
  | 0 => fun l m A A' c c' w B h => by omega
  | N + 1 => fun l m A A' c c' w B hN hsm hf hB h1 h2 => by
    have H := Lib.hid (same_nodes N (same_to N) l m A A' c c' w B hN hsm hf hB h1 h2)
    clear h1 h2 hf
    go_enter Tryd.func20, Tryd.ntmps20
    go_wp2_with fail
    refine H.out.mono ?_
    rintro e w1 ⟨rfl, hb1⟩
    go_wp2
    go_ret
    exact ⟨rfl, hb1⟩
/-- Same tells whether items are the same. -/
theorem tree_Same (l m : List NodeL) (A A' : Option Addr) (c c' : Nat) (w : World) (B : Nat) (hsm : cntL l ≤ 100000) (hf : fewNs l = true) (hB : B ≤ w.heap.size) (h1 : ROk w B A l) (h2 : ROk w B A' m) :
    Calls Tryd.prog 20 #[.slice A l.length c, .slice A' m.length c'] w fun e w' => e = .returned (.bool (sameNs l m)) ∧ Below w.heap.size w w' :=
  same_to (cntL l + 1) l m A A' c c' w B (by omega) hsm hf hB h1 h2

end Go.Proofs.YtaffbnjdlgcaiaaDoor
