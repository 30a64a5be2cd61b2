/- Layer 9, the law's own function: flat, the tokens of items. -/
import Derived.Test.YtmblooibnmahnaaTreeR2
import Derived.Test.YtmblooibnmahnaaAppend
set_option linter.unusedVariables false
set_option linter.unusedSimpArgs false
namespace Go.Proofs.Ytmblooibnmahnaa
open Go.RowKit

theorem flat_cnt : ∀ l : List NodeL, (flatL l).length ≤ 3 * cntL l
  | [] => Nat.le_refl _
  | .mk nm p ws b ks :: r => by
    have h1 := flat_cnt ks
    have h2 := flat_cnt r
    simp only [cntL, cntN, flatL, flatN, List.length_append, List.length_cons, List.length_map]
    cases b <;> simp <;> omega
theorem flatL_take (l : List NodeL) (k : Nat) (n : NodeL) (h : l[k]? = some n) : flatL (l.take (k + 1)) = flatL (l.take k) ++ flatN n := by
  induction l generalizing k with
  | nil => simp at h
  | cons x r ih =>
    cases k with
    | zero =>
      simp only [List.getElem?_cons_zero, Option.some.injEq] at h
      subst h
      simp [flatL]
    | succ k =>
      have := ih k (by simpa using h)
      simp only [List.take_succ_cons, flatL, this, List.append_assoc]
theorem flatN_eq (n : NodeL) : flatN n = ⟨1, 0, 0, n.name⟩ :: (n.words.map wordT ++ (if n.block then ⟨3, 0, 0, []⟩ :: (flatL n.kids ++ [⟨4, 0, 0, []⟩]) else [⟨5, 0, 0, []⟩])) := by obtain ⟨nm, p, ws, b, ks⟩ := n; cases b <;> simp [flatN, NodeL.name, NodeL.words, NodeL.block, NodeL.kids]
theorem toks_one' (l : List Tok) : ∀ u ∈ l.flatMap Tok.cells, u.oneCell' = true := by
  intro u hu
  obtain ⟨t, _, h⟩ := List.mem_flatMap.1 hu
  simp only [Tok.cells, List.mem_cons, List.not_mem_nil, or_false] at h
  rcases h with rfl | rfl | rfl | rfl <;> rfl

theorem own_nil' {w : World} {base : Nat} {e : TypeId} {size n c : Nat} {xs : List Value} (h : w.ownsRow base e size (.slice none n c) n xs) : c = 0 := by
  rcases h.2 with ⟨hv, _⟩ | ⟨g, cap, cur, hv, _⟩
  · cases hv; rfl
  · cases hv
theorem ROk.cells {w w' : World} {B : Nat} {A : Option Addr} {l : List NodeL} (h : ROk w B A l) (hk : ∀ p : Addr, p.block < B → w'.cell? p = w.cell? p) : ROk w' B A l := by
  obtain ⟨cs, h1, h2⟩ := h
  exact ⟨cs, h1.keep (fun _ h => h) hk, NodesOk.keep (fun _ h => h) hk _ _ h2⟩
theorem own_glue {w : World} {base : Nat} {v : Value} {a b : List Tok} (h : w.ownsRow base 36 4 v (a.length + b.length) (a.flatMap Tok.cells ++ b.flatMap Tok.cells)) : OwnToks w base v (a ++ b) := by
  unfold OwnToks
  rw [List.length_append, List.flatMap_append]
  exact h
/-- While an item is put out: the tokens so far, and the item's own block. -/
structure FS (w : World) (b1 : Nat) (nc : Array Value) (wr : World) (v : Value) (acc : List Tok) : Prop where
  own : OwnToks wr w.heap.size v acc
  below : Below w.heap.size w wr
  blk : wr.heap[b1]? = some (.cells nc 41 (0, 0))
theorem FS.ne {w : World} {b1 : Nat} {nc : Array Value} {wr : World} {v : Value} {acc : List Tok} (h : FS w b1 nc wr v acc) : some b1 ≠ v.ownBlock := by
  intro e
  rcases h.own.2 with ⟨hv, _⟩ | ⟨g, cap, cur, hv, _, hh, _⟩
  · rw [hv] at e; cases e
  · rw [hv] at e
    simp only [Value.ownBlock, Option.some.injEq] at e
    subst e
    rw [h.blk] at hh
    simp at hh
theorem FS.next {w : World} {b1 : Nat} {nc : Array Value} {wr w2 : World} {v : Value} {acc : List Tok} (h : FS w b1 nc wr v acc) (hb : Below wr.heap.size wr w2) : FS w b1 nc w2 v acc :=
  ⟨own_below h.own hb, h.below.trans (hb.mono h.below.size), (hb.block _ (Array.getElem?_eq_some_iff.1 h.blk).1).trans h.blk⟩
theorem FS.grown {w : World} {b1 : Nat} {nc : Array Value} {wr w3 : World} {v v' : Value} {acc news : List Tok} (h : FS w b1 nc wr v acc) (ho : OwnToks w3 w.heap.size v' (acc ++ news)) (hg : wr.grownBy w3 v.ownBlock) : FS w b1 nc w3 v' (acc ++ news) :=
  ⟨ho, below_own h.below hg h.below.size h.own (Nat.le_refl _), (hg.block b1 (Array.getElem?_eq_some_iff.1 h.blk).1 h.ne).trans h.blk⟩
theorem FS.app {w : World} {b1 : Nat} {nc : Array Value} {wr w3 : World} {v v' : Value} {acc : List Tok} {t : Tok} {o : Obj} (h : FS w b1 nc wr v acc)
    (ho : w3.ownsRow w.heap.size 36 4 v' (acc.length + 1) (acc.flatMap Tok.cells ++ t.cells)) (hg : (wr.alloc o).grownBy w3 v.ownBlock) : FS w b1 nc w3 v' (acc ++ [t]) := by
  refine FS.grown (h.next ((Below.refl wr.heap.size wr).alloc (Nat.le_refl _) o)) ?_ hg
  unfold OwnToks
  rw [List.length_append, List.flatMap_append]
  simpa using ho

set_option maxRecDepth 100000 in
set_option maxHeartbeats 8000000 in
theorem law9_flat : ∀ (N : Nat) (l : List NodeL) (A : Option Addr) (c : Nat) (w : World) (B : Nat), cntL l < N → cntL l ≤ 100000 → B ≤ w.heap.size → ROk w B A l →
    Calls Try.prog 17 #[.slice A l.length c] w fun e w' => ∃ v, e = .returned v ∧ OwnToks w' w.heap.size v (flatL l) ∧ Below w.heap.size w w' := by
  obtain ⟨i0, hi, hz0, hz1, hz2⟩ := info_parts info_tok
  intro N
  induction N with
  | zero => intro l A c w B h; omega
  | succ N ih =>
    intro l A c w B hN hsm hB hok
    have hlen := cntL_len l
    have HOK := Lib.hid hok
    have HIH := Lib.hid ih
    clear ih hok
    go_enter Try.func17, Try.ntmps17
    go_wp2_with fail
    go_loopw [3, 10] (fun v i wr => ∃ k : Nat, k ≤ l.length ∧ i = .int .i64 k ∧ OwnToks wr w.heap.size v (flatL (l.take k)) ∧ Below w.heap.size w wr) (fun _ i _ => l.length - (intOf i).toNat)
    case atStart => exact ⟨0, Nat.zero_le _, rfl, World.ownsRow_nil _ _ _ _, Below.refl _ _⟩
    case round =>
      obtain ⟨k, hk, rfl, hown, hb⟩ := hrel
      obtain ⟨wo, hwo⟩ : ∃ wo, wo = wr := ⟨_, rfl⟩
      subst hwo
      by_cases hlt : k < l.length
      · obtain ⟨n, hn⟩ : ∃ n, l[k]? = some n := ⟨_, List.getElem?_eq_getElem hlt⟩
        obtain ⟨ad, Aw, cw, Ak, ck, hA, hadB, c0, c1, c2, c3, c4, hw, hkk⟩ := (HOK.out.below (hb.mono hB)).at k n hn
        subst hA
        have hc1 := cntL_take_mem l k n hn
        have hc2 := cntN_eq n
        have hc3 := flat_cnt (l.take k)
        have hc4 := flat_cnt n.kids
        have hft := flatL_take l k n hn
        rw [flatN_eq] at hft
        have hbs := hb.size
        -- ROUND
        obtain ⟨A0, cp0, rfl, hnc0⟩ := own_form hown
        have hfs0 : FS w wo.heap.size #[.string ⟨n.name.toArray⟩, .int .i64 n.pos, .slice Aw n.words.length cw, .bool n.block, .slice Ak n.kids.length ck] (wo.alloc (.cells #[.string ⟨n.name.toArray⟩, .int .i64 n.pos, .slice Aw n.words.length cw, .bool n.block, .slice Ak n.kids.length ck] 41)) (.slice A0 (flatL (l.take k)).length cp0) (flatL (l.take k)) :=
          ⟨own_below hown ((Below.refl _ _).alloc (Nat.le_refl _) _), hb.alloc hbs _, heap_alloc_new wo _⟩
        have HW := Lib.hid hw
        have HKK := Lib.hid hkk
        have HBW := Lib.hid hb
        have HFT := Lib.hid hft
        have lk : (k : Int) < l.length := by omega
        have lk0 : (0 : Int) ≤ k := by omega
        have w1f : IntKind.i64.wrap ((k : Int) + 1) = (k : Int) + 1 := by rw [IntKind.wrap_i64]; omega
        have hl3 : (flatL (l.take k)).length ≤ 300000 := by have := cntL_take l k; omega
        clear hft hown hb hw hkk
        obtain ⟨acc, hacc⟩ : ∃ acc, acc = flatL (l.take k) := ⟨_, rfl⟩
        rw [← hacc] at hfs0 hl3
        rw [← hacc]
        have HACC := Lib.hid hacc
        have HFS0 := Lib.hid hfs0
        have ho0 : World.ownsRow _ _ _ _ _ _ _ := hfs0.own
        clear hacc hfs0
        go_wp2_with (first | (at_builtin; refine wpList_append_own _ rfl _ _ 29 rfl w.heap.size 36 i0 _ 4 40 Try.underlying29 hi hz0 hz1 hz2 rfl (by decide) _ _ _ rfl (ho0.alloc _) ⟨wo.heap.size + 1, 0, none⟩ 1 1 [.int .i64 1, .int .i64 0, .int .i64 0, .string ⟨n.name.toArray⟩] rfl rfl (cells_new _ [.int .i64 1, .int .i64 0, .int .i64 0, .string ⟨n.name.toArray⟩] _ _ (by simp)) (fun x hx => toks_one' [⟨1, 0, 0, n.name⟩] x (by simpa [Tok.cells] using hx)) (by unfold maxLen; omega) (by omega) (by simp; omega) ?_; intro v1 w3 ho_v1 hg_v1 _; have hfs1 := FS.app (t := ⟨1, 0, 0, n.name⟩) HFS0.out ho_v1 hg_v1; have e2 := Joins.cell_of_block hfs1.blk 2; clear ho_v1 hg_v1))
        have HFS1 := Lib.hid hfs1
        clear hfs1 ho0 e2
        go_loopw [3, 23] (fun v i wq => ∃ j : Nat, j ≤ n.words.length ∧ i = .int .i64 j ∧ FS w wo.heap.size #[.string ⟨n.name.toArray⟩, .int .i64 n.pos, .slice Aw n.words.length cw, .bool n.block, .slice Ak n.kids.length ck] wq v (acc ++ [⟨1, 0, 0, n.name⟩] ++ (n.words.take j).map wordT)) (fun _ i _ => n.words.length - (intOf i).toNat)
        case atStart => exact ⟨0, Nat.zero_le _, rfl, by simpa using HFS1.out⟩
        case round =>
          obtain ⟨j, hj, rfl, hfs⟩ := hrel
          obtain ⟨accw, haccw⟩ : ∃ a, a = acc ++ [⟨1, 0, 0, n.name⟩] ++ (n.words.take j).map wordT := ⟨_, rfl⟩
          have hlw : accw.length ≤ 400001 := by
            rw [haccw]; simp only [List.length_append, List.length_map, List.length_singleton, List.length_take]; omega
          rw [← haccw] at hfs
          obtain ⟨A1, cp1, rfl, hnc1⟩ := own_form hfs.own
          have hqs := hfs.below.size
          by_cases hlt2 : j < n.words.length
          · obtain ⟨t, ht⟩ : ∃ t, n.words[j]? = some t := ⟨_, List.getElem?_eq_getElem hlt2⟩
            have hk' : ∀ p : Addr, p.block < B → wr.cell? p = wo.cell? p := fun p hp => (hfs.below.cell (by omega)).trans (HBW.out.cell (by omega)).symm
            obtain ⟨aw, rfl, _, d0, d1, d2, d3⟩ := word_cells (HW.out.keep (fun _ h => h) hk') j t ht
            have hfw := hfs.next ((Below.refl wr.heap.size wr).alloc (Nat.le_refl _) (.cells #[.bool t.num, .int .i64 t.n, .string ⟨t.s.toArray⟩, .int .i64 t.pos] 43))
            have ho1 : World.ownsRow _ _ _ _ _ _ _ := hfw.own
            have lj : (j : Int) < n.words.length := by omega
            have lj0 : (0 : Int) ≤ j := by omega
            have w2f : IntKind.i64.wrap ((j : Int) + 1) = (j : Int) + 1 := by rw [IntKind.wrap_i64]; omega
            have HAW := Lib.hid haccw
            clear hk' hfs haccw
            cases hnum : t.num
            · have hwt : wordT t = ⟨1, 0, 0, t.s⟩ := by unfold wordT; rw [hnum]; rfl
              have hww : wr.alloc (.cells #[.bool t.num, .int .i64 t.n, .string ⟨t.s.toArray⟩, .int .i64 t.pos] 43) = wr.alloc (.cells #[.bool false, .int .i64 t.n, .string ⟨t.s.toArray⟩, .int .i64 t.pos] 43) := by rw [hnum]
              rw [hww] at hfw ho1
              rw [hnum] at d0
              go_wp2_with (first | (at_builtin; refine wpList_append_own _ rfl _ _ 29 rfl w.heap.size 36 i0 _ 4 40 Try.underlying29 hi hz0 hz1 hz2 rfl (by decide) _ _ _ rfl (ho1.alloc _) ⟨wr.heap.size + 1, 0, none⟩ 1 1 [.int .i64 1, .int .i64 0, .int .i64 0, .string ⟨t.s.toArray⟩] rfl rfl (cells_new _ [.int .i64 1, .int .i64 0, .int .i64 0, .string ⟨t.s.toArray⟩] _ _ (by simp)) (fun x hx => toks_one' [⟨1, 0, 0, t.s⟩] x (by simpa [Tok.cells] using hx)) (by unfold maxLen; omega) (by omega) (by simp; omega) ?_; intro v2 w4 ho_v2 hg_v2 _; have hfs2 := FS.app (t := ⟨1, 0, 0, t.s⟩) hfw ho_v2 hg_v2; clear ho_v2 hg_v2))
              refine ⟨⟨j + 1, by omega, by go_num, ?_⟩, by simp [intOf]; omega⟩
              rw [List.take_add_one, ht]
              simp only [Option.toList_some, List.map_append, List.map_cons, List.map_nil, hwt]
              rw [← List.append_assoc, ← HAW.out]
              exact hfs2
            · have hwt : wordT t = ⟨2, 0, t.n, []⟩ := by unfold wordT; rw [hnum]; rfl
              have hww : wr.alloc (.cells #[.bool t.num, .int .i64 t.n, .string ⟨t.s.toArray⟩, .int .i64 t.pos] 43) = wr.alloc (.cells #[.bool true, .int .i64 t.n, .string ⟨t.s.toArray⟩, .int .i64 t.pos] 43) := by rw [hnum]
              rw [hww] at hfw ho1
              rw [hnum] at d0
              go_wp2_with (first | (at_builtin; refine wpList_append_own _ rfl _ _ 29 rfl w.heap.size 36 i0 _ 4 40 Try.underlying29 hi hz0 hz1 hz2 rfl (by decide) _ _ _ rfl (ho1.alloc _) ⟨wr.heap.size + 1, 0, none⟩ 1 1 [.int .i64 2, .int .i64 0, .int .i64 t.n, .string ⟨#[]⟩] rfl rfl (cells_new _ [.int .i64 2, .int .i64 0, .int .i64 t.n, .string ⟨#[]⟩] _ _ (by simp)) (fun x hx => toks_one' [⟨2, 0, t.n, []⟩] x (by simpa [Tok.cells] using hx)) (by unfold maxLen; omega) (by omega) (by simp; omega) ?_; intro v2 w4 ho_v2 hg_v2 _; have hfs2 := FS.app (t := ⟨2, 0, t.n, []⟩) hfw ho_v2 hg_v2; clear ho_v2 hg_v2))
              refine ⟨⟨j + 1, by omega, by go_num, ?_⟩, by simp [intOf]; omega⟩
              rw [List.take_add_one, ht]
              simp only [Option.toList_some, List.map_append, List.map_cons, List.map_nil, hwt]
              rw [← List.append_assoc, ← HAW.out]
              exact hfs2
          · have hjl : j = n.words.length := by omega
            have hat : accw = acc ++ [⟨1, 0, 0, n.name⟩] ++ n.words.map wordT := by rw [haccw, hjl, List.take_length]
            have HAT := Lib.hid hat
            have lj : ¬ (j : Int) < n.words.length := by omega
            have e3 := Joins.cell_of_block hfs.blk 3
            have ho2 : World.ownsRow _ _ _ _ _ _ _ := hfs.own
            have HFS := Lib.hid hfs
            clear haccw hat hfs
            cases hnb : n.block
            · have hfin : flatL (l.take (k + 1)) = accw ++ [⟨5, 0, 0, []⟩] := by
                rw [HFT.out, HAT.out, HACC.out, hnb]
                simp
              have HFIN := Lib.hid hfin
              clear hfin
              rw [hnb] at e3
              have hfsx := HFS.out
              go_wp2_with (first | (at_builtin; refine wpList_append_own _ rfl _ _ 29 rfl w.heap.size 36 i0 _ 4 40 Try.underlying29 hi hz0 hz1 hz2 rfl (by decide) _ _ _ rfl (ho2.alloc _) ⟨wr.heap.size, 0, none⟩ 1 1 [.int .i64 5, .int .i64 0, .int .i64 0, .string ⟨#[]⟩] rfl rfl (cells_new _ [.int .i64 5, .int .i64 0, .int .i64 0, .string ⟨#[]⟩] _ _ (by simp)) (fun x hx => toks_one' [⟨5, 0, 0, []⟩] x (by simpa [Tok.cells] using hx)) (by unfold maxLen; omega) (by omega) (by simp; omega) ?_; intro v5 w5 ho_v5 hg_v5 _; have hfs5 := FS.app (t := ⟨5, 0, 0, []⟩) HFS.out ho_v5 hg_v5; clear ho_v5 hg_v5))
              exact ⟨⟨k + 1, by omega, by go_num, by rw [HFIN.out]; exact hfs5.own, hfs5.below⟩, by simp [intOf]; omega⟩
            · have hfin : flatL (l.take (k + 1)) = accw ++ [⟨3, 0, 0, []⟩] ++ flatL n.kids ++ [⟨4, 0, 0, []⟩] := by
                rw [HFT.out, HAT.out, HACC.out, hnb]
                simp
              have HFIN := Lib.hid hfin
              clear hfin
              rw [hnb] at e3
              go_wp2_with (first | (at_builtin; refine wpList_append_own _ rfl _ _ 29 rfl w.heap.size 36 i0 _ 4 40 Try.underlying29 hi hz0 hz1 hz2 rfl (by decide) _ _ _ rfl (ho2.alloc _) ⟨wr.heap.size, 0, none⟩ 1 1 [.int .i64 3, .int .i64 0, .int .i64 0, .string ⟨#[]⟩] rfl rfl (cells_new _ [.int .i64 3, .int .i64 0, .int .i64 0, .string ⟨#[]⟩] _ _ (by simp)) (fun x hx => toks_one' [⟨3, 0, 0, []⟩] x (by simpa [Tok.cells] using hx)) (by unfold maxLen; omega) (by omega) (by simp; omega) ?_; intro v5 w5 ho_v5 hg_v5 _; have hfs5 := FS.app (t := ⟨3, 0, 0, []⟩) HFS.out ho_v5 hg_v5; have e4 := Joins.cell_of_block hfs5.blk 4; clear ho_v5 hg_v5))
              have hk5 : ∀ p : Addr, p.block < B → w5.cell? p = wo.cell? p := fun p hp => (hfs5.below.cell (by omega)).trans (HBW.out.cell (by omega)).symm
              refine (HIH.out n.kids Ak ck w5 B (by omega) (by omega) (by have := hfs5.below.size; omega) (HKK.out.cells hk5)).mono ?_
              rintro e w6 ⟨v2, rfl, hown2, hb6⟩
              obtain ⟨A2, c2, rfl, hnc2⟩ := own_form hown2
              have hfs6 := hfs5.next hb6
              have hlk : (flatL n.kids).length ≤ 300000 := by omega
              obtain ⟨va, w7, hrun7, hown7, hg7⟩ := run_append_reads (P := Try.prog) (w := w6) w.heap.size 29 29 36 i0 _ 4 40 Try.underlying29 hi hz0 hz1 hz2 rfl (by decide) v5 _ _ hfs6.own A2 (flatL n.kids).length c2 w6.heap.size _ (Reads.of_own hown2)
                (fun h => own_nil' (h ▸ hown2)) (toks_one' _) (by simp only [List.length_append, List.length_singleton]; unfold maxLen; omega) (by simp only [List.length_append, List.length_singleton]; omega) (by have := hfs6.below.size; omega)
              have hfs7 : FS w wo.heap.size #[.string ⟨n.name.toArray⟩, .int .i64 n.pos, .slice Aw n.words.length cw, .bool n.block, .slice Ak n.kids.length ck] w7 va (accw ++ [⟨3, 0, 0, []⟩] ++ flatL n.kids) := by
                exact FS.grown hfs6 (own_glue hown7) hg7
              have ho7 : World.ownsRow _ _ _ _ _ _ _ := hfs7.own
              have hl7 : (accw ++ ([⟨3, 0, 0, []⟩] : List Tok) ++ flatL n.kids).length ≤ 800000 := by simp only [List.length_append, List.length_singleton]; omega
              have HFS7 := Lib.hid hfs7
              have hs7 := hfs7.below.size
              obtain ⟨a7, ha7⟩ : ∃ a, a = accw ++ ([⟨3, 0, 0, []⟩] : List Tok) ++ flatL n.kids := ⟨_, rfl⟩
              rw [← ha7] at ho7 hl7 HFS7
              have HA7 := Lib.hid ha7
              clear ha7
              clear hown2 hb6 hown7 hg7 hfs6 hfs5 hk5 hfs7 e4 e3
              go_wp2_with (first | (at_builtin; refine wpList_append_run _ _ _ rfl (by rfl) _ _ rfl rfl _ rfl _ _ hrun7 ?_) | (at_builtin; refine wpList_append_own _ rfl _ _ 29 rfl w.heap.size 36 i0 _ 4 40 Try.underlying29 hi hz0 hz1 hz2 rfl (by decide) _ _ _ rfl (ho7.alloc _) ⟨w7.heap.size, 0, none⟩ 1 1 [.int .i64 4, .int .i64 0, .int .i64 0, .string ⟨#[]⟩] rfl rfl (cells_new _ [.int .i64 4, .int .i64 0, .int .i64 0, .string ⟨#[]⟩] _ _ (by simp)) (fun x hx => toks_one' [⟨4, 0, 0, []⟩] x (by simpa [Tok.cells] using hx)) (by unfold maxLen; omega) (by omega) (by simp; omega) ?_; intro v8 w8 ho_v8 hg_v8 _; have hfs8 := FS.app (t := ⟨4, 0, 0, []⟩) HFS7.out ho_v8 hg_v8; clear ho_v8 hg_v8))
              exact ⟨⟨k + 1, by omega, by go_num, by rw [HFIN.out, ← HA7.out]; exact hfs8.own, hfs8.below⟩, by simp [intOf]; omega⟩
        -- END ROUND
      · have hkl : k = l.length := by omega
        have HD := Lib.hid (show flatL (l.take k) = flatL l by rw [hkl, List.take_length])
        have lk : ¬ (k : Int) < l.length := by omega
        rw [HD.out] at hown
        go_wp2_with fail
        go_ret
        exact ⟨_, rfl, hown, hb⟩

end Go.Proofs.Ytmblooibnmahnaa
