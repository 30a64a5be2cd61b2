import Derived.Test.YtmiejdbpogggeaaFieldMw
import Derived.Deep.DeepCutAuto
/- The law FieldMore walked: it answers true at any calendar, any number, and any text. -/
set_option linter.unusedVariables false
set_option linter.unusedSimpArgs false
set_option maxRecDepth 100000
namespace Go.Proofs.Ytmiejdbpogggeaa
open Go.RowKit

theorem lname_at (s : Bytes) (h : s.length ≤ maxLen) (W : World) : Calls Try.prog 17 #[.string ⟨s.toArray⟩] W fun e w' => e = .returned (.bool (nameL s)) ∧ W = w' :=
  lex_Name ⟨s.toArray⟩ W (by show s.toArray.size ≤ _; rw [List.size_toArray]; exact h)
theorem more_first {w w2 : World} {bc nm : Bytes} {kn : List NodeL} {g gw B N cap : Nat} (hb : Below w.heap.size w w2) (hrw : ReadsM w2 (fun b => 0 ≤ b ∧ b < B) 4 (some ⟨gw, 0, none⟩) 1 (wS nm).cells) (hrow : KidRow w2 0 B g kn) :
    MoreI w bc nm kn g gw B w2.heap.size (.slice (some ⟨g, 0, none⟩) N cap) (w2.alloc (.cells #[.string ⟨bc.toArray⟩, .int .i64 100, .slice (some ⟨gw, 0, none⟩) 1 1, .bool true, .slice (some ⟨g, 0, none⟩) N cap] 25)) := by
  have hgl := hrow.lt
  have hBg := hrow.1
  have hba := below_cal w2 (.cells #[.string ⟨bc.toArray⟩, .int .i64 100, .slice (some ⟨gw, 0, none⟩) 1 1, .bool true, .slice (some ⟨g, 0, none⟩) N cap] 25)
  exact ⟨hb.trans (hba.mono hb.size), heap_alloc_new w2 _, hrw.keep (fun _ h => h) (fun q hq => hba.cell (by have := hq.2; omega)), hrow.below hba, by omega, hb.size, hgl⟩

theorem news_at {w1 : World} {b : Nat} {cs : List Value} {T : TypeId} (h : w1.heap[b]? = some (.cells cs.toArray T (0, 0))) (hl : cs.length = 5) : Reads w1 (b + 1) 5 (some ⟨b, 0, none⟩) 1 cs :=
  ⟨by omega, fun _ => ⟨_, rfl, Nat.lt_succ_self _, fun j u hu => World.news_of_block (w := w1) (cs := cs.toArray) h j u (by simpa using hu)⟩⟩
theorem news_plain (wr : World) (cs : List Value) (T : TypeId) (hl : cs.length = 5) : Reads (wr.alloc (.cells cs.toArray T)) (wr.heap.size + 1) 5 (some ⟨wr.heap.size, 0, none⟩) 1 cs := news_at (heap_alloc_new wr _) hl
theorem wpList_behind {w W : World} {ops : Array Oper} {rest : List Oper} {o : Oper} {a : Act} {Q : Exit → Act → World → Prop} (hgd : o.guard = none) (s x : Operand)
    (ho : o.op = .call { callee := .builtin .append, args := #[s, x], argTypes := #[23, 23] }) {g N cap H : Nat} {kcs row : List Value} (hs : a.eval s = .slice (some ⟨H, 0, none⟩) 1 1) (hx : a.eval x = .slice (some ⟨g, 0, none⟩) N cap)
    (hw : w = W.alloc (.cells row.toArray 25)) (hH : W.heap.size = H) (hrow : row.length = 5) (hkl : kcs.length = N * 5) (hnews : ∀ j u, kcs[j]? = some u → W.cell? ((⟨g, 0, none⟩ : Addr).add j) = some u) (hgl : g < W.heap.size) (hone : ∀ u ∈ kcs, u.oneCell' = true) (hrow1 : ∀ u ∈ row, u.oneCell' = true) (hpos : 0 < N) (hN : N ≤ 50)
    (h : ∀ g5 cap5 w', w'.ownsRow H 25 5 (.slice (some ⟨g5, 0, none⟩) (1 + N) cap5) (1 + N) (row ++ kcs) → Below H W w' → wpList Try.prog ops Q rest (a.put o.dst (.slice (some ⟨g5, 0, none⟩) (1 + N) cap5)) w') : wpList Try.prog ops Q (o :: rest) a w := by
  obtain ⟨j0, hj0, hy0, hy1, hy2⟩ := info_parts info_nodeN
  subst hH hw
  have hba := below_cal W (.cells row.toArray 25)
  have hown : (W.alloc (.cells row.toArray 25)).ownsRow W.heap.size 25 5 (.slice (some ⟨W.heap.size, 0, none⟩) 1 1) 1 row :=
    ⟨by omega, .inr ⟨W.heap.size, 1, _, rfl, Nat.le_refl _, heap_alloc_new W _, Nat.le_refl _, by decide, by simp [hrow], by simp [hrow, List.take_of_length_le]⟩⟩
  refine wpList_append_lies _ hgd s x _ ho W.heap.size 25 j0 _ 5 80 Try.underlying23 hj0 hy0 hy1 hy2 rfl (by decide) _ 1 row hs hown ⟨g, 0, none⟩ N cap kcs hx hkl (fun j u hu => (hba.cell (by rw [block_of_add]; exact hgl)).trans (hnews j u hu)) hone hpos (by unfold maxLen; omega) (by omega) (by simp) _ rfl ?_
  intro g' cap' w' ho' hgr hat hlt
  exact h g' cap' w' ho' (hba.grown hgr (by simp) (fun k hk => (hown.lt k hk).1))
theorem more_last {w w10 : World} {bc nm : Bytes} {kn : List NodeL} {g gw B bn r9 N cap9 k : Nat} {kv : Value} {kk : NodeL} (hm : MoreI w bc nm kn g gw B bn kv w10) (hrow : KidRow w10 0 B r9 kn) (hlt : bn < r9) (hkk : kn[k]? = some kk) (hN : kn.length = N) :
    MoreI w bc nm kn g gw B bn (.slice (some ⟨r9, 0, none⟩) N cap9) ((w10.setCell ⟨bn, 4, none⟩ (.slice (some ⟨r9, 0, none⟩) N cap9)).setCell ⟨r9, k * 5 + 3, none⟩ (.bool true)) ∧
    NodeOk ((w10.setCell ⟨bn, 4, none⟩ (.slice (some ⟨r9, 0, none⟩) N cap9)).setCell ⟨r9, k * 5 + 3, none⟩ (.bool true)) (· < ((w10.setCell ⟨bn, 4, none⟩ (.slice (some ⟨r9, 0, none⟩) N cap9)).setCell ⟨r9, k * 5 + 3, none⟩ (.bool true)).heap.size) (.mk bc 100 [wS nm] true (kn.set k (blkL kk)))
      [.string ⟨bc.toArray⟩, .int .i64 100, .slice (some ⟨gw, 0, none⟩) 1 1, .bool true, .slice (some ⟨r9, 0, none⟩) N cap9] := by
  have hn := hm.nums
  have m2 := (hm.kids (.slice (some ⟨r9, 0, none⟩) N cap9)).other (p := ⟨r9, k * 5 + 3, none⟩) (by show bn < r9; exact hlt) (.bool true)
  have row2 := (hrow.other (a := ⟨bn, 4, none⟩) (.inr hn.1) (by show bn ≠ r9; omega) (.slice (some ⟨r9, 0, none⟩) N cap9)).set k kk (blkL kk) (j := 3) (v := .bool true) hkk (by decide) (fun _ _ h => h.set3)
  exact ⟨m2, m2.node row2 (by rw [List.length_set, hN])⟩
def keysM : List Bytes := [b_end, b_named, b_periods, b_pay, b_extra, b_serve, b_compare]
theorem keysM_at (j : Nat) (h : j < 7) : (#[Value.string ⟨#[101, 110, 100]⟩, .string ⟨#[110, 97, 109, 101, 100]⟩, .string ⟨#[112, 101, 114, 105, 111, 100, 115]⟩, .string ⟨#[112, 97, 121]⟩, .string ⟨#[101, 120, 116, 114, 97]⟩, .string ⟨#[115, 101, 114, 118, 101]⟩, .string ⟨#[99, 111, 109, 112, 97, 114, 101]⟩] : Array Value)[j]? = some (.string ⟨(keysM.getD j []).toArray⟩) := by
  have : j = 0 ∨ j = 1 ∨ j = 2 ∨ j = 3 ∨ j = 4 ∨ j = 5 ∨ j = 6 := by omega
  rcases this with rfl | rfl | rfl | rfl | rfl | rfl | rfl <;> rfl
theorem keysM_none {key : Bytes} (h : ∀ m, m < 7 → keysM.getD m [] ≠ key) : keysL.contains key = false := by
  have h0 : b_end ≠ key := h 0 (by decide)
  have h1 : b_named ≠ key := h 1 (by decide)
  have h2 : b_periods ≠ key := h 2 (by decide)
  have h3 : b_pay ≠ key := h 3 (by decide)
  have h4 : b_extra ≠ key := h 4 (by decide)
  have h5 : b_serve ≠ key := h 5 (by decide)
  have h6 : b_compare ≠ key := h 6 (by decide)
  rw [List.contains_eq_mem, decide_eq_false_iff_not]
  intro hm
  have hm' : key ∈ [b_end, b_periods, b_named, b_pay, b_extra, b_serve, b_compare] := hm
  simp only [List.mem_cons, List.not_mem_nil, or_false] at hm'
  rcases hm' with e | e | e | e | e | e | e
  · exact h0 e.symm
  · exact h2 e.symm
  · exact h1 e.symm
  · exact h3 e.symm
  · exact h4 e.symm
  · exact h5 e.symm
  · exact h6 e.symm
theorem more_own {W1 w1 : World} {row : List Value} {T : TypeId} {v1 : Value} {n : Nat} {xs : List Value} (hown : w1.ownsRow W1.heap.size 25 5 v1 n xs) (hgr : ((W1.alloc (.cells row.toArray T)).drew).grownBy w1 none) :
    w1.ownsRow W1.heap.size 25 5 v1 n xs ∧ Below W1.heap.size W1 w1 ∧ w1.heap[W1.heap.size]? = some (.cells row.toArray T (0, 0)) := by
  have hba : Below W1.heap.size W1 (W1.alloc (.cells row.toArray T)).drew := Below.drew (below_cal W1 _)
  have hz : ((W1.alloc (.cells row.toArray T)).drew).heap.size = W1.heap.size + 1 := by show (W1.alloc _).heap.size = _; simp
  have hb : Below (W1.heap.size + 1) (W1.alloc (.cells row.toArray T)).drew w1 := (Below.refl _ _).grown hgr (by omega) (fun k hk => by cases hk)
  exact ⟨hown, hba.trans (hb.mono (by omega)), (hb.block W1.heap.size (by omega)).trans (heap_alloc_new W1 _)⟩
set_option maxHeartbeats 16000000 in
theorem walk_FieldMore (c : CalL) (u : Int) (s : ByteArray) (w : World) (hl : c.name.length ≤ maxLen) (wu : (Lit.int .u8 u).wf = true) (hs : s.size ≤ maxLen) :
    Calls Try.prog 8 #[calV c, .int .u8 u, .string s] w fun e w' => e = .returned (.bool true) ∧ Below w.heap.size w w' := by
  obtain ⟨key, rfl⟩ : ∃ key : Bytes, s = ⟨key.toArray⟩ := ⟨s.data.toList, by cases s; simp⟩
  replace hs : key.length ≤ maxLen := by simpa [ByteArray.size] using hs
  have HB0 := Lib.hid (below_cal w (calOb c))
  have HX0 := Lib.hid (heap_alloc_new w (calOb c))
  have HCH := Lib.hid (fun W => field_Check c hl W)
  have hu : 0 ≤ u ∧ u < 256 := by
    have := wf_u8f wu
    omega
  unfold calOb at HB0 HX0
  by_cases hbig : (100 : Int) < c.name.length ∨ (100 : Int) < key.length
  · have hbb : ((100 : Int) < c.name.length) ∨ ((c.name.length : Int) ≤ 100 ∧ (100 : Int) < key.length) := by
      by_cases h : (100 : Int) < c.name.length
      · exact .inl h
      · rcases hbig with h1 | h1
        · exact absurd h1 h
        · exact .inr ⟨by omega, h1⟩
    obtain ⟨nm, kind, day, month, shift, shape, p0, p1, p2, cycle, extra, first, last, policy⟩ := c
    dsimp only at HX0 HB0 hbb
    dsimp only [calV]
    clear HCH hbig hl hs
    rcases hbb with hb' | ⟨hb0, hb'⟩ <;> (
      go_enter Try.func8, Try.ntmps8
      go_wp2_with fail
      refine (law11_live _).mono ?_
      rintro e w1 ⟨rfl, hb1⟩
      have HB1 := Lib.hid (HB0.out.trans (hb1.mono HB0.out.size))
      have e0 := Joins.cell_of_block ((hb1.block w.heap.size (by simp)).trans HX0.out) 0
      clear hb1
      go_wp2_with fail
      go_ret
      exact ⟨rfl, HB1.out⟩)
  have hbc : (c.name.length : Int) ≤ 100 := by
    have h : ¬ (100 : Int) < c.name.length := fun h => hbig (.inl h)
    omega
  have hbd : (key.length : Int) ≤ 100 := by
    have h : ¬ (100 : Int) < key.length := fun h => hbig (.inr h)
    omega
  clear hbig
  cases hok : okC c
  · have HNO := Lib.hid (fun W => field_block_no c hok hl W)
    have hec : errC c = 1 := by unfold errC; rw [hok]; rfl
    rw [hec] at HCH
    obtain ⟨nm, kind, day, month, shift, shape, p0, p1, p2, cycle, extra, first, last, policy⟩ := c
    dsimp only at hbc HX0 HB0
    dsimp only [calV] at HCH HNO
    dsimp only [calV]
    clear hok hec hl
    go_enter Try.func8, Try.ntmps8
    go_wp2_with fail
    refine (law11_live _).mono ?_
    rintro e w1 ⟨rfl, hb1⟩
    have HB1 := Lib.hid (HB0.out.trans (hb1.mono HB0.out.size))
    have y1 := (hb1.block w.heap.size (by simp)).trans HX0.out
    have HY1 := Lib.hid y1
    have g0 := Joins.cell_of_block y1 0; have g1 := Joins.cell_of_block y1 1; have g2 := Joins.cell_of_block y1 2; have g3 := Joins.cell_of_block y1 3; have g4 := Joins.cell_of_block y1 4; have g5 := Joins.cell_of_block y1 5; have g6 := Joins.cell_of_block y1 6; have g7 := Joins.cell_of_block y1 7; have g8 := Joins.cell_of_block y1 8; have g9 := Joins.cell_of_block y1 9; have g10 := Joins.cell_of_block y1 10; have g11 := Joins.cell_of_block y1 11; have g12 := Joins.cell_of_block y1 12; have g13 := Joins.cell_of_block y1 13
    have hl1 := (Array.getElem?_eq_some_iff.1 y1).1
    clear hb1 y1
    go_wp2_with fail
    refine (HNO.out _).mono ?_
    rintro e w2 ⟨rfl, hb2⟩
    have HB2 := Lib.hid (HB1.out.trans (hb2.mono HB1.out.size))
    have y2 := (hb2.block w.heap.size hl1).trans HY1.out
    have HY2 := Lib.hid y2
    have hl2 := (Array.getElem?_eq_some_iff.1 y2).1
    clear g0 g1 g2 g3 g4 g5 g6 g7 g8 g9 g10 g11 g12 g13 hb2
    have g0 := Joins.cell_of_block y2 0; have g1 := Joins.cell_of_block y2 1; have g2 := Joins.cell_of_block y2 2; have g3 := Joins.cell_of_block y2 3; have g4 := Joins.cell_of_block y2 4; have g5 := Joins.cell_of_block y2 5; have g6 := Joins.cell_of_block y2 6; have g7 := Joins.cell_of_block y2 7; have g8 := Joins.cell_of_block y2 8; have g9 := Joins.cell_of_block y2 9; have g10 := Joins.cell_of_block y2 10; have g11 := Joins.cell_of_block y2 11; have g12 := Joins.cell_of_block y2 12; have g13 := Joins.cell_of_block y2 13
    clear y2
    go_wp2_with fail
    refine (HCH.out _).mono ?_
    rintro e w3 ⟨rfl, hb3⟩
    have hba := below_alloc1 HB2.out (.cells #[.string ⟨#[]⟩, .int .i64 0, .slice none 0 0, .bool false, .slice none 0 0] 25)
    have HB3 := Lib.hid (hba.trans (hb3.mono hba.size))
    clear hb3 hba
    go_wp2_with fail
    go_ret
    exact ⟨rfl, HB3.out⟩
  · have HBK := Lib.hid (fun W => field_block_ok c hok hl W)
    unfold BlockPost at HBK
    have h3 := kids_three c
    have h6 := kids_len c
    obtain ⟨k, hk⟩ : ∃ k : Nat, k = u.toNat % (kidsC c).length := ⟨_, rfl⟩
    have hkl : k < (kidsC c).length := by rw [hk]; exact Nat.mod_lt _ (by omega)
    have hknl : (numK (kidsC c)).length = (kidsC c).length := numK_len _
    obtain ⟨kk, hkk⟩ : ∃ kk, (numK (kidsC c))[k]? = some kk := ⟨_, List.getElem?_eq_getElem (by rw [hknl]; exact hkl)⟩
    have hof := numK_of (List.mem_of_getElem? hkk)
    have hfit : ∀ x ∈ numK (kidsC c), fitN x ∧ cntN x ≤ 4 := fun x hx => kid_fit hl (numK_of hx)
    have hf7 : fitN (atK kk 7) ∧ cntN (atK kk 7) ≤ 4 := kid_fit hl (by obtain ⟨k0, h1, h2, h3, h4, h5⟩ := hof; exact ⟨k0, h1, h2, h3, h4, h5⟩)
    have hfb : fitN (blkL kk) ∧ cntN (blkL kk) ≤ 4 := by
      obtain ⟨f1, f2⟩ := kid_fit hl hof
      obtain ⟨a1, a2, a3, a4, a5⟩ := kk
      exact ⟨f1, f2⟩
    have HR1 := Lib.hid (fun W cs h => block_call (r := ⟨calZ, 7, 9⟩) hl (by rw [List.length_append, hknl]; simp; omega) (fun x hx => by
      rcases List.mem_append.1 hx with h | h
      · exact hfit x h
      · rw [List.mem_singleton.1 h]; exact hf7) (read_twice hok k kk hkk) W cs h)
    have HR2 := fun (hn : nameL key = true) (hkey : keysL.contains key = false) => Lib.hid (fun W cs h => block_call (r := ⟨calZ, 9, 8⟩) hl (by rw [List.length_cons, hknl]; omega) (fun x hx => by
      rcases List.mem_cons.1 hx with rfl | h
      · refine ⟨?_, by simp [cntN, cntL]⟩
        simp only [fitN]
        exact ⟨hs, by simp, by simp, by simp, trivial⟩
      · exact hfit x h) (read_other hok key hn hkey) W cs h)
    have HR3 := Lib.hid (fun W cs h => block_call (r := ⟨calZ, (k : Int) + 1, 5⟩) hl (by rw [List.length_set, hknl]; omega) (fun x hx => by
      rcases List.mem_or_eq_of_mem_set hx with h | h
      · exact hfit x h
      · rw [h]; exact hfb) (read_blocked hok k kk hkk) W cs h)
    generalize numK (kidsC c) = kn at *
    generalize b_calendar = bc at *
    obtain ⟨N, hN⟩ : ∃ N, (kidsC c).length = N := ⟨_, rfl⟩
    rw [hN] at hk hkl h3 h6 hknl
    have HNN := Lib.hid hN
    rw [hN] at HBK
    have hrem : Int.tmod u (N : Int) = (k : Int) := by
      rw [hk, Int.natCast_emod]
      rw [Int.tmod_eq_emod_of_nonneg hu.1]
      congr 1
      omega
    have hNn : ¬ N = 0 := by omega
    have hkN : (k : Int) < N := by omega
    have hk0 : (0 : Int) ≤ k := by omega
    have hN1 : N ≤ 6 := h6
    have HK := Lib.hid (And.intro hknl (And.intro h3 (And.intro h6 hkl)))
    have HKK := Lib.hid hkk
    have HLN := Lib.hid (fun W => lname_at key hs W)
    generalize hnb : nameL key = nb at HLN HR2
    clear hnb
    clear hN hok hk h3 h6 hknl hfit hf7 hfb hof hkk
    obtain ⟨nm, kind, day, month, shift, shape, p0, p1, p2, cycle, extra, first, last, policy⟩ := c
    dsimp only at hbc HX0 HB0 HR1 HR2 HR3 HBK
    dsimp only [calV, calZ] at HBK HR1 HR2 HR3
    dsimp only [calV]
    clear hl wu HCH HNN
    go_enter Try.func8, Try.ntmps8
    go_wp2_with fail
    refine (law11_live _).mono ?_
    rintro e w1 ⟨rfl, hb1⟩
    have HB1 := Lib.hid (HB0.out.trans (hb1.mono HB0.out.size))
    have y1 := (hb1.block w.heap.size (by simp)).trans HX0.out
    have g0 := Joins.cell_of_block y1 0; have g1 := Joins.cell_of_block y1 1; have g2 := Joins.cell_of_block y1 2; have g3 := Joins.cell_of_block y1 3; have g4 := Joins.cell_of_block y1 4; have g5 := Joins.cell_of_block y1 5; have g6 := Joins.cell_of_block y1 6; have g7 := Joins.cell_of_block y1 7; have g8 := Joins.cell_of_block y1 8; have g9 := Joins.cell_of_block y1 9; have g10 := Joins.cell_of_block y1 10; have g11 := Joins.cell_of_block y1 11; have g12 := Joins.cell_of_block y1 12; have g13 := Joins.cell_of_block y1 13
    have hl1 := (Array.getElem?_eq_some_iff.1 y1).1
    clear hb1 y1
    go_wp2_with fail
    refine (HBK.out _).mono ?_
    rintro e w2 ⟨gw, g, cap, B, rfl, hcap, hB, hrw, hrow, hb2⟩
    have HMI := Lib.hid (more_first (N := N) (cap := cap) (bc := bc) (HB1.out.trans (hb2.mono HB1.out.size)) hrw hrow)
    have hgl := hrow.lt
    clear g0 g1 g2 g3 g4 g5 g6 g7 g8 g9 g10 g11 g12 g13 hb2 hB hrw hrow
    obtain ⟨row, hr1, hr2⟩ := HMI.out.row.cell k kk HKK.out
    obtain ⟨s0, s1, A2, n2, a2, s3, A4, n4, a4, rfl⟩ := row5z hr1
    have c0 : (w2.alloc (.cells #[.string ⟨bc.toArray⟩, .int .i64 100, .slice (some ⟨gw, 0, none⟩) 1 1, .bool true, .slice (some ⟨g, 0, none⟩) N cap] 25)).cell? ⟨g, k * 5, none⟩ = some (.string s0) := hr2 0 (by decide)
    have c1 : (w2.alloc (.cells #[.string ⟨bc.toArray⟩, .int .i64 100, .slice (some ⟨gw, 0, none⟩) 1 1, .bool true, .slice (some ⟨g, 0, none⟩) N cap] 25)).cell? ⟨g, k * 5 + 1, none⟩ = some (.int .i64 s1) := hr2 1 (by decide)
    have c2 : (w2.alloc (.cells #[.string ⟨bc.toArray⟩, .int .i64 100, .slice (some ⟨gw, 0, none⟩) 1 1, .bool true, .slice (some ⟨g, 0, none⟩) N cap] 25)).cell? ⟨g, k * 5 + 2, none⟩ = some (.slice A2 n2 a2) := hr2 2 (by decide)
    have c3 : (w2.alloc (.cells #[.string ⟨bc.toArray⟩, .int .i64 100, .slice (some ⟨gw, 0, none⟩) 1 1, .bool true, .slice (some ⟨g, 0, none⟩) N cap] 25)).cell? ⟨g, k * 5 + 3, none⟩ = some (.bool s3) := hr2 3 (by decide)
    have c4 : (w2.alloc (.cells #[.string ⟨bc.toArray⟩, .int .i64 100, .slice (some ⟨gw, 0, none⟩) 1 1, .bool true, .slice (some ⟨g, 0, none⟩) N cap] 25)).cell? ⟨g, k * 5 + 4, none⟩ = some (.slice A4 n4 a4) := hr2 4 (by decide)
    have HR7 := Lib.hid (show NodeOk _ _ (atK kk 7) [.string s0, .int .i64 7, .slice A2 n2 a2, .bool s3, .slice A4 n4 a4] from hr1.set1 7)
    clear hr1 hr2
    go_upto_region 11 with fail
    have hza : (w2.alloc (.cells #[.string ⟨bc.toArray⟩, .int .i64 100, .slice (some ⟨gw, 0, none⟩) 1 1, .bool true, .slice (some ⟨g, 0, none⟩) N cap] 25)).heap.size = w2.heap.size + 1 := by simp
    generalize hbn : w2.heap.size = bn at *
    generalize w2.alloc _ = wa at *
    have HM1 := Lib.hid (HMI.out.keep (below_cal wa (.cells #[.string s0, .int .i64 7, .slice A2 n2 a2, .bool s3, .slice A4 n4 a4] 25)))
    have HR7a := Lib.hid (HR7.out.moved (S := bn + 1) (W' := wa.alloc (.cells #[.string s0, .int .i64 7, .slice A2 n2 a2, .bool s3, .slice A4 n4 a4] 25)) ((below_cal wa _).mono HMI.out.blk.lt) (Nat.le_succ_of_le HMI.out.nums.1))
    have ht := heap_alloc_new wa (.cells #[.string s0, .int .i64 7, .slice A2 n2 a2, .bool s3, .slice A4 n4 a4] 25)
    clear HMI HR7 c0 c1 c2 c3 c4 hbn
    have hzt : (wa.alloc (.cells #[.string s0, .int .i64 7, .slice A2 n2 a2, .bool s3, .slice A4 n4 a4] 25)).heap.size = wa.heap.size + 1 := by simp
    generalize wa.alloc _ = W1 at *
    rw [hza] at ht hzt
    have htl : bn + 1 < W1.heap.size := by omega
    clear hza
    go_cut [9] (fun s9 wx => s9 = .slice (some ⟨g, 0, none⟩) N cap ∧ ∃ g3 cp3, MoreI w bc nm kn g gw B bn (.slice (some ⟨g3, 0, none⟩) (N + 1) cp3) wx ∧
      NodeOk wx (· < wx.heap.size) (.mk bc 100 [wS nm] true (kn ++ [atK kk 7])) [.string ⟨bc.toArray⟩, .int .i64 100, .slice (some ⟨gw, 0, none⟩) 1 1, .bool true, .slice (some ⟨g3, 0, none⟩) (N + 1) cp3])
    case first =>
      have c0 : W1.cell? ⟨bn + 1, 0, none⟩ = some (.string s0) := Joins.cell_of_block ht 0
      have c1 : W1.cell? ⟨bn + 1, 1, none⟩ = some (.int .i64 7) := Joins.cell_of_block ht 1
      have c2 : W1.cell? ⟨bn + 1, 2, none⟩ = some (.slice A2 n2 a2) := Joins.cell_of_block ht 2
      have c3 : W1.cell? ⟨bn + 1, 3, none⟩ = some (.bool s3) := Joins.cell_of_block ht 3
      have c4 : W1.cell? ⟨bn + 1, 4, none⟩ = some (.slice A4 n4 a4) := Joins.cell_of_block ht 4
      have x4 : W1.cell? ⟨bn, 4, none⟩ = some (.slice (some ⟨g, 0, none⟩) N cap) := Joins.cell_of_block HM1.out.blk 4
      have y4 : W1.frozen? ⟨bn, 4, none⟩ = false := Joins.unfrozen_of_block HM1.out.blk 4
      have hbl : bn < W1.heap.size := HM1.out.blk.lt
      obtain ⟨kcs, hkl5, hkn, hkc, hk1⟩ := HM1.out.row.reads
      have hgl1 := HM1.out.row.lt
      have r1 : Reads W1 W1.heap.size 5 (some ⟨g, 0, none⟩) N kcs := ⟨by rw [hkl5, HK.out.1], fun _ => ⟨_, rfl, hgl1, hkc⟩⟩
      have ho7 : ∀ u ∈ [Value.string s0, .int .i64 7, .slice A2 n2 a2, .bool s3, .slice A4 n4 a4], u.oneCell' = true := NodeOk.one HR7a.out
      have HKN := Lib.hid hkn
      have h100 : 0 + N ≤ 100 := by omega
      have h101 : 0 + N + 1 ≤ 100 := by omega
      clear hkl5 hkn hkc hgl1 ht hzt
      have hn1 : 0 + N + 1 = N + 1 := by omega
      have hnz : 0 < N + 1 := by omega
      go_region_law (first
        | (refine step_cat (by rfl) _ _ (by rfl) W1.heap.size (.slice none 0 0) 0 [] (by rfl) (World.ownsRow_nil _ _ _ _) (some ⟨g, 0, none⟩) N cap W1.heap.size kcs (by rfl) (reads_below r1 (Below.drew (Below.refl _ _))) (fun h => by cases h) hk1 h100 (Nat.le_refl _) ?_; intro v1 w1 hown1 hgr1; go_loud (have hb1 : Below W1.heap.size W1 w1 := (Below.drew (Below.refl _ _)).grown hgr1 (Nat.le_refl _) (fun k hk => by cases hk)); go_loud (have c0' := (hb1.cell (p := ⟨bn + 1, 0, none⟩) htl).trans c0); have c1' := (hb1.cell (p := ⟨bn + 1, 1, none⟩) htl).trans c1; have c2' := (hb1.cell (p := ⟨bn + 1, 2, none⟩) htl).trans c2; have c3' := (hb1.cell (p := ⟨bn + 1, 3, none⟩) htl).trans c3; have c4' := (hb1.cell (p := ⟨bn + 1, 4, none⟩) htl).trans c4; go_loud (have HO1A := Lib.hid (And.intro hown1 hb1)); have hs1 := hb1.size; clear hown1 hgr1 hb1)
        | ((refine step_cat (by rfl) _ _ (by rfl) W1.heap.size (.slice none 0 0) 0 [] (by rfl) (World.ownsRow_nil _ _ _ _) (some ⟨g, 0, none⟩) N cap W1.heap.size kcs (by rfl) (reads_below r1 (Below.drew (below_cal W1 _))) (fun h => by cases h) hk1 h100 (below_cal W1 _).size ?_); intro v1 w1 hown1 hgr1; go_loud (have HO1B := Lib.hid (more_own hown1 hgr1)); clear hown1 hgr1)
        | (have hq := HO1A; go_loud (refine step_cat (by rfl) _ _ (by rfl) W1.heap.size v1 (0 + N) ([] ++ kcs) (by rfl) (HO1A.out.1.alloc _) (some ⟨w1.heap.size, 0, none⟩) 1 1 (w1.heap.size + 1) [.string s0, .int .i64 7, .slice A2 n2 a2, .bool s3, .slice A4 n4 a4] (by rfl) (news_plain w1 _ _ rfl) (fun h => by cases h) ho7 h101 (Nat.le_trans hs1 (below_cal w1 _).size) ?_); intro v3 w3 hown3 hgr3; go_loud (have hb3 : Below W1.heap.size W1 w3 := (HO1A.out.2.alloc hs1 _).grown hgr3 (Nat.le_trans hs1 (below_cal w1 _).size) (fun k hk => (HO1A.out.1.lt k hk).1)); go_loud (have x4'' := (hb3.cell (p := ⟨bn, 4, none⟩) hbl).trans x4); go_loud (have y4'' := (hb3.frozen (p := ⟨bn, 4, none⟩) hbl).trans y4); go_loud (rw [hn1] at hown3); go_loud (obtain ⟨g3, cp3, rfl, hg3a, hg3b⟩ := own_head hown3 hnz); have HO3 := Lib.hid (And.intro hown3 hb3); clear hown3 hgr3 hb3 hq)
        | (have hq := HO1B; go_loud (refine step_cat (by rfl) _ _ (by rfl) W1.heap.size v1 (0 + N) ([] ++ kcs) (by rfl) HO1B.out.1 (some ⟨W1.heap.size, 0, none⟩) 1 1 (W1.heap.size + 1) [.string s0, .int .i64 7, .slice A2 n2 a2, .bool s3, .slice A4 n4 a4] (by rfl) (news_at HO1B.out.2.2 rfl) (fun h => by cases h) ho7 h101 HO1B.out.2.1.size ?_); intro v3 w3 hown3 hgr3; go_loud (have hb3 : Below W1.heap.size W1 w3 := HO1B.out.2.1.grown hgr3 HO1B.out.2.1.size (fun k hk => (HO1B.out.1.lt k hk).1)); go_loud (have x4'' := (hb3.cell (p := ⟨bn, 4, none⟩) hbl).trans x4); go_loud (have y4'' := (hb3.frozen (p := ⟨bn, 4, none⟩) hbl).trans y4); go_loud (rw [hn1] at hown3); go_loud (obtain ⟨g3, cp3, rfl, hg3a, hg3b⟩ := own_head hown3 hnz); have HO3 := Lib.hid (And.intro hown3 hb3); clear hown3 hgr3 hb3 hq)
        | fail)
      all_goals (
        go_wp2_with fail
        go_meet
        refine ⟨rfl, g3, cp3, HM1.out.put HO3.out.2 HO3.out.1 (Nat.le_refl _) ?_ (by rw [List.length_append, HK.out.1]; rfl)⟩
        rw [List.nil_append]
        exact NodesOk.append (l := kn) (m := [atK kk 7]) (HKN.out.moved HO3.out.2 (Nat.le_trans HM1.out.nums.1 (Nat.le_of_lt hbl))) (NodesOk.one (HR7a.out.moved HO3.out.2 (Nat.le_trans HM1.out.nums.1 (Nat.le_of_lt hbl)))))
    case rest =>
    obtain ⟨rfl, g3, cp3, hm, hnode⟩ := hcut
    have HM := Lib.hid hm
    have HND := Lib.hid hnode
    have z0 := Joins.cell_of_block hm.blk 0
    have z1 := Joins.cell_of_block hm.blk 1
    have z2 := Joins.cell_of_block hm.blk 2
    have z3 := Joins.cell_of_block hm.blk 3
    have z4 := Joins.cell_of_block hm.blk 4
    clear hm hnode HM1 HR7a
    go_wp2_with fail
    refine (HR1.out _ _ HND.out).mono ?_
    rintro e w4 ⟨rfl, hb4⟩
    have HM5 := Lib.hid ((HM.out.keep hb4).keep (below_cal w4 (.cells #[.string ⟨#[]⟩, .int .i64 0, .int .i64 0, .int .i64 0, .int .i64 0, .int .i64 0, .int .i64 0, .int .i64 0, .int .i64 0, .int .i64 0, .int .i64 0, .int .i64 0, .int .i64 0, .int .i64 0] 30)))
    clear z0 z1 z2 z3 z4 hb4 HND HM HR1
    go_wp2_with fail
    refine (HLN.out _).mono ?_
    rintro e w5 ⟨rfl, rfl⟩
    generalize w4.alloc _ = w5 at *
    cases nb
    · go_wp2_with fail
      go_ret
      exact ⟨rfl, HM5.out.below⟩
    · have HM6 := Lib.hid (HM5.out.keep (below_cal w5 (.cells #[.string ⟨#[101, 110, 100]⟩, .string ⟨#[110, 97, 109, 101, 100]⟩, .string ⟨#[112, 101, 114, 105, 111, 100, 115]⟩, .string ⟨#[112, 97, 121]⟩, .string ⟨#[101, 120, 116, 114, 97]⟩, .string ⟨#[115, 101, 114, 118, 101]⟩, .string ⟨#[99, 111, 109, 112, 97, 114, 101]⟩] 9)))
      have HNS := Lib.hid (heap_alloc_new w5 (.cells #[.string ⟨#[101, 110, 100]⟩, .string ⟨#[110, 97, 109, 101, 100]⟩, .string ⟨#[112, 101, 114, 105, 111, 100, 115]⟩, .string ⟨#[112, 97, 121]⟩, .string ⟨#[101, 120, 116, 114, 97]⟩, .string ⟨#[115, 101, 114, 118, 101]⟩, .string ⟨#[99, 111, 109, 112, 97, 114, 101]⟩] 9))
      go_wp2_with fail
      generalize w5.alloc _ = W6 at *
      generalize w5.heap.size = sn at *
      go_loop [75] (fun i => ∃ j : Nat, j ≤ 7 ∧ i = .int .i64 j ∧ ∀ m, m < j → keysM.getD m [] ≠ key) (fun i => 7 - (intOf i).toNat)
      case atStart => exact ⟨0, by decide, rfl, fun m h => absurd h (by omega)⟩
      case round =>
        obtain ⟨j, hj7, rfl, hno⟩ := hrel
        by_cases hlt : j < 7
        · have hc : W6.cell? ⟨sn, j, none⟩ = some (.string ⟨(keysM.getD j []).toArray⟩) := (Joins.cell_of_block HNS.out j).trans (keysM_at j hlt)
          have lk : (j : Int) < 7 := by omega
          have lk0 : (0 : Int) ≤ j := by omega
          have w1f := wrap_small j (by omega)
          generalize hkj : keysM.getD j [] = kj at *
          have HNO := Lib.hid hno
          have HKJ := Lib.hid hkj
          clear hno hkj
          by_cases e : key = kj
          · have he : (key == kj) = true := by rw [e]; simp
            clear e
            go_wp2_with fail
            go_ret
            exact ⟨rfl, HM6.out.below⟩
          · have he : (key == kj) = false := beq_false_of_ne e
            have HE := Lib.hid e
            clear e
            go_wp2_with fail
            refine ⟨⟨j + 1, by omega, by go_num, fun m h => ?_⟩, by simp [intOf]; omega⟩
            by_cases hm : m = j
            · rw [hm, HKJ.out]; exact fun e => HE.out e.symm
            · exact HNO.out m (by omega)
        · have hj : j = 7 := by omega
          subst hj
          have hkey := keysM_none hno
          have HR2' := HR2 (by trivial) hkey
          clear HR2 hno
          have lk : ¬ ((7 : Nat) : Int) < 7 := by omega
          obtain ⟨kcs, hkl5, hkn, hkc, hk1⟩ := HM6.out.row.reads
          have hgl6 := HM6.out.row.lt
          have hNp : 0 < N := by omega
          have hN50 : N ≤ 50 := by omega
          rw [HK.out.1] at hkl5
          have HKN := Lib.hid hkn
          have r6 : ∀ u ∈ [Value.string ⟨key.toArray⟩, .int .i64 9, .slice none 0 0, .bool false, .slice none 0 0], u.oneCell' = true := NodeOk.one (new_node W6 (fun _ => True) key 9)
          clear hkn
          go_wp2_with (first
            | (at_builtin; go_loud (refine wpList_behind rfl _ _ rfl (W := W6) (H := W6.heap.size) (row := [.string ⟨key.toArray⟩, .int .i64 9, .slice none 0 0, .bool false, .slice none 0 0]) rfl rfl rfl rfl rfl hkl5 hkc hgl6 hk1 r6 hNp hN50 ?_); intro g5 cap5 w7 hown7 hb7; go_loud (have hm7 := HM6.out.keep hb7); go_loud (have hp7 := Lib.hid (HM6.out.put hb7 hown7 (Nat.le_refl _) (NodesOk.append (l := [.mk key 9 [] false []]) (NodesOk.one (new_node w7 _ key 9)) (HKN.out.moved hb7 (Nat.le_trans HM6.out.nums.1 (Nat.le_of_lt HM6.out.blk.lt)))) (by simp [HK.out.1]; omega))); have x0 := Joins.cell_of_block hm7.blk 0; have x1 := Joins.cell_of_block hm7.blk 1; have x2 := Joins.cell_of_block hm7.blk 2; have x3 := Joins.cell_of_block hm7.blk 3; have x4 := Joins.cell_of_block hm7.blk 4; have y4 := Joins.unfrozen_of_block hm7.blk 4; clear hm7 hown7 hb7)
            | fail)
          refine (HR2'.out _ _ hp7.out.2).mono ?_
          rintro e w8 ⟨rfl, hb8⟩
          have HM9 := Lib.hid ((hp7.out.1.keep hb8).keep (below_cal w8 (.cells #[.string ⟨#[]⟩, .int .i64 0, .int .i64 0, .int .i64 0, .int .i64 0, .int .i64 0, .int .i64 0, .int .i64 0, .int .i64 0, .int .i64 0, .int .i64 0, .int .i64 0, .int .i64 0, .int .i64 0] 30)))
          clear x0 x1 x2 x3 x4 y4 hb8 hp7 HR2' HKN hkl5 hkc hk1 hgl6 r6 HM6 HNS
          have hz9 : (w8.alloc (.cells #[.string ⟨#[]⟩, .int .i64 0, .int .i64 0, .int .i64 0, .int .i64 0, .int .i64 0, .int .i64 0, .int .i64 0, .int .i64 0, .int .i64 0, .int .i64 0, .int .i64 0, .int .i64 0, .int .i64 0] 30)).heap.size = w8.heap.size + 1 := by simp
          obtain ⟨kcs9, hkl9, hkn9, hkc9, hk19⟩ := HM9.out.row.reads
          have HKN9 := Lib.hid (And.intro hkl9 (And.intro hkn9 (And.intro hkc9 hz9)))
          have hl9 : kcs9.length = N * 5 := by rw [hkl9, HK.out.1]
          have hB9 : B ≤ (w8.alloc (.cells #[.string ⟨#[]⟩, .int .i64 0, .int .i64 0, .int .i64 0, .int .i64 0, .int .i64 0, .int .i64 0, .int .i64 0, .int .i64 0, .int .i64 0, .int .i64 0, .int .i64 0, .int .i64 0, .int .i64 0] 30)).heap.size := Nat.le_trans HM9.out.nums.1 (Nat.le_of_lt HM9.out.blk.lt)
          have hN100 : N ≤ 100 := by omega
          have hbr : bn < w8.heap.size + 1 := by rw [← hz9]; exact HM9.out.blk.lt
          have hbr2 : ¬ (bn = w8.heap.size + 1) := by omega
          have hbr3 : ¬ (w8.heap.size + 1 = bn) := by omega
          have wk := wrap_small k (by omega)
          clear hkl9 hkn9 hkc9 hz9
          go_wp2_with (first
            | (at_builtin; go_loud (refine wpList_copy rfl _ _ rfl rfl (l := kn) rfl HK.out.1.symm hl9 HKN9.out.2.2.1 hNp hN100 0 B HKN9.out.2.1 hB9 (w8.heap.size + 1) HKN9.out.2.2.2 ?_); intro cap9 w10 hcap9 hrow10 hb10 hlt10; go_loud (have hm10 := HM9.out.keep hb10); have x0 := Joins.cell_of_block hm10.blk 0; have x1 := Joins.cell_of_block hm10.blk 1; have x2 := Joins.cell_of_block hm10.blk 2; have x3 := Joins.cell_of_block hm10.blk 3; have x4 := Joins.cell_of_block hm10.blk 4; have y4 := Joins.unfrozen_of_block hm10.blk 4; go_loud (obtain ⟨row10, hra, hrb⟩ := hrow10.cell k kk HKK.out); go_loud (obtain ⟨t0, t1, t2, t3, t4, t5, t6, t7, t8, rfl⟩ := row5z hra); go_loud (have v3 : w10.cell? ⟨w8.heap.size + 1, k * 5 + 3, none⟩ = some (.bool t5) := hrb 3 (by decide)); have f3 := hrow10.unfrozen (k * 5 + 3); go_loud (have HL := Lib.hid (more_last (N := N) (cap9 := cap9) hm10 hrow10 hbr HKK.out HK.out.1)); clear hm10 hrow10 hb10 hra hrb)
            | fail)
          refine (HR3.out _ _ HL.out.2).mono ?_
          rintro e w11 ⟨rfl, hb11⟩
          have HB11 := Lib.hid (HL.out.1.below.trans (hb11.mono HL.out.1.below.size))
          clear hb11
          go_wp2_with fail
          go_ret
          exact ⟨rfl, HB11.out⟩

end Go.Proofs.Ytmiejdbpogggeaa
