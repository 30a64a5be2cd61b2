/- The law StampForm: its walk. -/
import Derived.Test.YtbeciinkecmbaaaDoorStampQ
import Derived.Test.YtbeciinkecmbaaaDoorStampO
import Derived.BigRegion
import Derived.Deep.RegionHeldLaw
import Derived.Deep.RegionLaw
import Derived.Deep.AppendLies
set_option linter.unusedVariables false
namespace Go.Proofs.YtbeciinkecmbaaaDoor
open Go.RowKit

theorem parseD_short (t : ByteArray) (h : t.size ≠ 10) : parseD t.data.toList = (0, 5) := by
  unfold parseD
  cases hl : likeF formD t.data.toList
  · rfl
  · have := likeF_len _ _ hl
    rw [ba_len] at this
    exact absurd this h
/-- A byte turned to none that fits: it is no day's text. -/
theorem like_set : ∀ (f L : Bytes) (k : Nat) (b : UInt8), likeF f L = true → isDigit b = false → L[k]? ≠ some b → k < L.length → likeF f (L.take k ++ b :: L.drop (k + 1)) = false
  | [], [], k, _, _, _, _, hk => absurd hk (by simp)
  | [], _ :: _, _, _, h, _, _, _ => by simp [likeF] at h
  | _ :: _, [], _, _, h, _, _, _ => by simp [likeF] at h
  | f :: fs, c :: cs, 0, b, h, hb, hn, _ => by
    simp only [likeF, Bool.and_eq_true] at h
    simp only [List.take_zero, List.nil_append, List.drop_succ_cons, List.drop_zero, likeF]
    by_cases h35 : f = 35
    · rw [if_pos h35, hb]; rfl
    · rw [if_neg h35] at h ⊢
      have hcf : c = f := by simpa using h.1
      have hbc : ¬ b = f := fun e => hn (by rw [e, ← hcf]; rfl)
      rw [decide_eq_false hbc]; rfl
  | f :: fs, c :: cs, k + 1, b, h, hb, hn, hk => by
    simp only [likeF, Bool.and_eq_true] at h
    have ih := like_set fs cs k b h.2 hb (by simpa using hn) (by simpa using hk)
    simp only [List.take_succ_cons, List.cons_append, List.drop_succ_cons, likeF, ih, Bool.and_false]

theorem wf_u8 {x : Int} (h : (Lit.int .u8 x).wf = true) : 0 ≤ x ∧ x ≤ 255 := by
  simp only [Lit.wf, Bool.and_eq_true, decide_eq_true_eq] at h
  have e1 : IntKind.u8.min = 0 := rfl
  have e2 : IntKind.u8.max = 255 := by decide
  omega
theorem conv_one (w : World) (b : UInt8) : (convert 27 9 (.slice (some ⟨w.heap.size, 0, none⟩) 1 1)).run Tryd.prog (w.alloc (.cells #[.int .u8 (b.toNat : Int)] 5)) =
    .ok (.string ⟨#[b]⟩) (w.alloc (.cells #[.int .u8 (b.toNat : Int)] 5)) := by
  refine run_convert_bytes_back _ _ _ _ ⟨w.heap.size, 0, none⟩ 1 [b] Tryd.underlying27 (by kernel_rfl) (by kernel_rfl) ?_
  intro j hj
  simp at hj
  subst hj
  simp [Addr.add]

theorem own_strs {w : World} {base g n cap : Nat} {e : TypeId} {l : List ByteArray} {xs : List Value} (h : w.ownsRow base e 1 (.slice (some ⟨g, 0, none⟩) n cap) n xs) (hx : xs = l.map Value.string) (j : Nat) (t : ByteArray) (hj : l[j]? = some t) : w.cell? ⟨g, j, none⟩ = some (.string t) := by
  have hl := h.1
  rw [hx, List.length_map] at hl
  have hlt := (List.getElem?_eq_some_iff.1 hj).1
  rw [h.cellAt j (by omega), hx, List.getElem?_map, hj]; rfl
theorem info_str : (Tryd.prog.info? 9).map (fun i => (i.zero, i.size, i.bytes)) = some (some (.string ⟨#[]⟩), 1, 16) := by kernel_rfl
theorem one_at (s : ByteArray) (K : Nat) (hK : K < s.size) (c : UInt8) (h : s.data.toList[K]? = some c) : (s.extract K (K + 1)).toList = [c] := by
  rw [ba_toList, ba_extract]
  rw [ba_get? s K hK] at h
  injection h with h
  rw [ba_take_snoc s K hK, List.drop_append_of_le_length (by simp; omega), List.drop_eq_nil_of_le (by simp; omega), h]; rfl
theorem turned (s : ByteArray) (K : Nat) (c : UInt8) (h10 : s.size = 10) (hK : K < 10) (hl : likeF formD s.data.toList = true) (hd : ¬ isDigit c = true) (hne : (![c] == (s.extract K (K + 1)).toList) = true) :
    parseD (s.extract 0 K ++ ⟨#[c]⟩ ++ s.extract (K + 1) 10).data.toList = (0, 5) := by
  have hn : s.data.toList[K]? ≠ some c := fun h => by
    rw [one_at s K (by omega) c h] at hne; simp at hne
  have hs := like_set formD s.data.toList K c hl (by simpa using hd) hn (by rw [ba_len]; omega)
  have e : (s.extract 0 K ++ ⟨#[c]⟩ ++ s.extract (K + 1) 10).data.toList = s.data.toList.take K ++ c :: s.data.toList.drop (K + 1) := by
    have e1 := ba_to s K
    have e2 := ba_from s (K + 1)
    rw [h10] at e2
    simp only [ByteArray.data_append, Array.toList_append, e1, e2, List.append_assoc]
    rfl
  rw [e]
  unfold parseD
  rw [hs]; rfl

set_option maxRecDepth 100000 in
set_option maxHeartbeats 4000000 in
theorem walk_StampForm (w : World) (ht : Tab w) (a : Int) (_wa : (Lit.int .i64 a).wf = true) (at_ : Int) (wat : (Lit.int .u8 at_).wf = true) (b : Int) (wb : (Lit.int .u8 b).wf = true) :
    Calls Tryd.prog 4 #[.int .i64 a, .int .u8 at_, .int .u8 b] w fun e w' => e = .returned (.bool true) ∧ Below w.heap.size w w' := by
  have HV := Lib.hid (law7_live w ht)
  have HT := Lib.hid (fun W (hb : Below w.heap.size w W) => ht.below hb)
  clear ht
  by_cases ha : 0 ≤ a ∧ a < 3068037
  · have HA := Lib.hid (fun W hW => stamp_Print_ok a ha.1 ha.2 W hW)
    obtain ⟨hat0, hat1⟩ := wf_u8 wat
    obtain ⟨hb0, hb1⟩ := wf_u8 wb
    obtain ⟨n, rfl⟩ := Int.eq_ofNat_of_zero_le hat0
    obtain ⟨c, rfl⟩ : ∃ c : UInt8, b = (c.toNat : Int) := ⟨UInt8.ofNat b.toNat, by simp; omega⟩
    have hcv := fun W => conv_one W c
    clear ha wat wb _wa hb0 hb1
    go_enter Tryd.func4, Tryd.ntmps4
    go_wp2_with fail
    refine HV.out.mono ?_
    rintro e w1 ⟨rfl, hb1⟩
    go_wp2_with fail
    refine (HA.out _ (HT.out _ hb1)).mono ?_
    rintro e w2 ⟨⟨y, m, d, hv, hn, rfl⟩, hb2⟩
    have hB2 := hb1.trans (hb2.mono hb1.size)
    have hlik := dText_like y m d
    have hlen := dText_len y m d
    obtain ⟨s, hs⟩ : ∃ s : ByteArray, s = ⟨(dText y m d).toArray⟩ := ⟨_, rfl⟩
    have hsd : s.data.toList = dText y m d := by rw [hs]
    rw [← hs]
    rw [← hsd] at hlik hlen
    rw [ba_len] at hlen
    clear hv hn hs hsd hb1 hb2
    go_wp2_with fail
    have hWB : Below w.heap.size w (w2.alloc (.cells #[.int .u8 (c.toNat : Int)] 5)) := hB2.alloc hB2.size _
    obtain ⟨K, hK, hK10⟩ : ∃ K : Nat, (n : Int) % 10 = (K : Int) ∧ K < 10 := ⟨n % 10, by omega, by omega⟩
    rw [hK]
    clear hK hcv hB2
    generalize w2.alloc (.cells #[.int .u8 (c.toNat : Int)] 5) = W at *
    have z1 : (s.extract 0 K).size = K := by rw [ByteArray.size_extract]; omega
    have z2 : (s.extract (K + 1) 10).size = 9 - K := by rw [ByteArray.size_extract]; omega
    have z3 : (s.extract K 10).size = 10 - K := by rw [ByteArray.size_extract]; omega
    have z4 : (ByteArray.mk #[c]).size = 1 := rfl
    have p1 := parseD_short (s.extract 0 K ++ s.extract (K + 1) 10) (by rw [ByteArray.size_append]; omega)
    have p2 := parseD_short (s.extract 0 K ++ ⟨#[c]⟩ ++ s.extract K 10) (by rw [ByteArray.size_append, ByteArray.size_append, z4]; omega)
    have p3 := parseD_short (s ++ ⟨#[c]⟩) (by rw [ByteArray.size_append, z4]; omega)
    have p4 := parseD_short (⟨#[c]⟩ ++ s) (by rw [ByteArray.size_append, z4]; omega)
    have y1 : (s.extract 0 K ++ s.extract (K + 1) 10).size ≤ 100 := by rw [ByteArray.size_append]; omega
    have y2 : (s.extract 0 K ++ ⟨#[c]⟩ ++ s.extract K 10).size ≤ 100 := by rw [ByteArray.size_append, ByteArray.size_append, z4]; omega
    have y3 : (s ++ ⟨#[c]⟩).size ≤ 100 := by rw [ByteArray.size_append, z4]; omega
    have y4 : (⟨#[c]⟩ ++ s).size ≤ 100 := by rw [ByteArray.size_append, z4]; omega
    have HP4 := Lib.hid (show ∀ t ∈ [s.extract 0 K ++ s.extract (K + 1) 10, s.extract 0 K ++ ⟨#[c]⟩ ++ s.extract K 10, s ++ ⟨#[c]⟩, ⟨#[c]⟩ ++ s], t.size ≤ 100 ∧ parseD t.data.toList = (0, 5) by
      intro t ht
      simp only [List.mem_cons, List.not_mem_nil, or_false] at ht
      rcases ht with rfl | rfl | rfl | rfl
      · exact ⟨y1, p1⟩
      · exact ⟨y2, p2⟩
      · exact ⟨y3, p3⟩
      · exact ⟨y4, p4⟩)
    clear p1 p2 p3 p4 y1 y2 y3 y4
    go_region
    have hown := World.ownsRow_lit (base := W.heap.size) (e := 9) (size := 1) W #[.string (s.extract 0 K ++ s.extract (K + 1) 10), .string (s.extract 0 K ++ ⟨#[c]⟩ ++ s.extract K 10), .string (s ++ ⟨#[c]⟩), .string (⟨#[c]⟩ ++ s)] 4 (Nat.le_refl _) (by decide) rfl
    have HO := Lib.hid hown
    obtain ⟨i0, hi, hz0, hz1, hz2⟩ := info_parts info_str
    have HLK := Lib.hid hlik
    clear hlik
    have HZ := Lib.hid (And.intro z1 z2)
    have hBW : Below w.heap.size w (W.alloc (.cells #[.string (s.extract 0 K ++ s.extract (K + 1) 10), .string (s.extract 0 K ++ ⟨#[c]⟩ ++ s.extract K 10), .string (s ++ ⟨#[c]⟩), .string (⟨#[c]⟩ ++ s)] 9)) := hWB.alloc hWB.size _
    have hsW : (W.alloc (.cells #[.string (s.extract 0 K ++ s.extract (K + 1) 10), .string (s.extract 0 K ++ ⟨#[c]⟩ ++ s.extract K 10), .string (s ++ ⟨#[c]⟩), .string (⟨#[c]⟩ ++ s)] 9)).heap.size = W.heap.size + 1 := by simp
    generalize W.alloc (.cells #[.string (s.extract 0 K ++ s.extract (K + 1) 10), .string (s.extract 0 K ++ ⟨#[c]⟩ ++ s.extract K 10), .string (s ++ ⟨#[c]⟩), .string (⟨#[c]⟩ ++ s)] 9) = V at *
    have hcase : ((c.toNat : Int) < 48 ∨ ¬ ((c.toNat : Int) < 48) ∧ 57 < (c.toNat : Int)) ∧ ¬ isDigit c = true ∨ (¬ ((c.toNat : Int) < 48) ∧ ¬ (57 < (c.toNat : Int))) := by
      by_cases hdig : isDigit c = true
      · right; have := (isDigit_iff c).1 hdig; omega
      · left; refine ⟨?_, hdig⟩
        by_cases h4 : (c.toNat : Int) < 48
        · exact .inl h4
        · refine .inr ⟨h4, ?_⟩
          by_cases h5 : 57 < (c.toNat : Int)
          · exact h5
          · exact absurd ((isDigit_iff c).2 (by omega)) hdig
    rcases hcase with ⟨h48 | ⟨h48, h57⟩, hdig⟩ | ⟨h48, h57⟩
    · have HDIG := Lib.hid hdig
      clear hdig
      go_wp2_with fail
      · rename_i hne
        have p5 := turned s K c hlen hK10 HLK.out HDIG.out hne
        clear hown
        have hWs := hWB.size
        have hVs : V.drew.heap.size = W.heap.size + 1 := hsW
        have hOV := World.ownsRow.drew HO.out
        have hVB : Below w.heap.size w V.drew := hBW.drew
        generalize V.drew = V1 at *
        have b1 : (K : Int) ≤ 10 := by omega
        have b2 : (K : Int) + 1 ≤ 10 := by omega
        have b8 : ¬ (9223372036854775807 < K + 1) := by omega
        have b9 : ¬ (9223372036854775807 < K + 1 + (9 - K)) := by omega
        have b6 : IntKind.i64.wrap ((K : Int) + 1) = (K : Int) + 1 := by rw [IntKind.wrap_i64]; omega
        have b5 : (0 : Int) ≤ (K : Int) + 1 := by omega
        have hX1 : ((V1.alloc (.cells #[.string (s.extract 0 K ++ ⟨#[c]⟩ ++ s.extract (K + 1) 10)] 9)).drew).heap[W.heap.size + 1]? = some (.cells #[.string (s.extract 0 K ++ ⟨#[c]⟩ ++ s.extract (K + 1) 10)] 9 (0, 0)) := by rw [← hVs]; exact heap_alloc_new V1 _
        have hX2 := World.ownsRow.drew (hOV.alloc (.cells #[.string (s.extract 0 K ++ ⟨#[c]⟩ ++ s.extract (K + 1) 10)] 9))
        have hX3 : W.heap.size ≤ ((V1.alloc (.cells #[.string (s.extract 0 K ++ ⟨#[c]⟩ ++ s.extract (K + 1) 10)] 9)).drew).heap.size := by simp [World.drew]; omega
        have hX4 : Below w.heap.size w ((V1.alloc (.cells #[.string (s.extract 0 K ++ ⟨#[c]⟩ ++ s.extract (K + 1) 10)] 9)).drew) := (hVB.alloc (by omega) _).drew
        have hX5 : ∀ x ∈ [Value.string (s.extract 0 K ++ ⟨#[c]⟩ ++ s.extract (K + 1) 10)], x.oneCell' = true := fun x hx => by simp at hx; subst hx; rfl
        have hX6 := World.news_of_block hX1
        have hX7 : ∀ k, (Value.slice (some ⟨W.heap.size, 0, none⟩) 4 4).ownBlock = some k → w.heap.size ≤ k := fun k hk => by
          have : W.heap.size = k := by simpa [Value.ownBlock] using hk
          omega
        have hX8 : w.heap.size ≤ ((V1.alloc (.cells #[.string (s.extract 0 K ++ ⟨#[c]⟩ ++ s.extract (K + 1) 10)] 9)).drew).heap.size := by simp [World.drew]; omega
        have X9 : ([Value.string (s.extract 0 K ++ ⟨#[c]⟩ ++ s.extract (K + 1) 10)] : List Value).length = 1 * 1 := rfl
        have X14 := Lib.hid (show (s.extract 0 K ++ ⟨#[c]⟩ ++ s.extract (K + 1) 10).size ≤ 100 by rw [ByteArray.size_append, ByteArray.size_append, z1, z2, z4]; omega)
        have X10 : (Value.string ⟨#[]⟩).cells.size = 1 := rfl
        have X11 : 0 < 1 := by decide
        have X12 : 4 + 1 ≤ maxLen := by decide
        have X13 : (4 + 1) * 16 ≤ 140737488355328 := by decide
        have X1 := Lib.hid hX1
        have X2 := Lib.hid hX2
        have X3 := Lib.hid hX3
        have X4 := Lib.hid hX4
        have X5 := Lib.hid hX5
        have X6 := Lib.hid hX6
        have X7 := Lib.hid hX7
        have X8 := Lib.hid hX8
        clear hX1 hX2 hX3 hX4 hX5 hX6 hX7 hX8 hOV
        go_region_held_law (fun _ => True) (trivial)
          (first
            | (with_reducible refine step_append_lies ((V1.alloc (.cells #[.string (s.extract 0 K ++ ⟨#[c]⟩ ++ s.extract (K + 1) 10)] 9)).drew) rfl (.tmp 73) (.tmp 84) 28 rfl W.heap.size 9 i0 _ 1 16 Tryd.underlying28 hi hz0 hz1 hz2 X10 X11 _ 4 _ (by simp [Act.eval]; done) X2.out ⟨W.heap.size + 1, 0, none⟩ 1 1 [.string (s.extract 0 K ++ ⟨#[c]⟩ ++ s.extract (K + 1) 10)] (by simp [Act.eval]; done) X9 X6.out X5.out X11 X12 X13 X3.out _ rfl ?_; intro g cap w5 hown5 hgrow5 hat5 hlt5))
        obtain ⟨l, hl⟩ : ∃ l : List ByteArray, l = [s.extract 0 K ++ s.extract (K + 1) 10, s.extract 0 K ++ ⟨#[c]⟩ ++ s.extract K 10, s ++ ⟨#[c]⟩, ⟨#[c]⟩ ++ s] ++ [s.extract 0 K ++ ⟨#[c]⟩ ++ s.extract (K + 1) 10] := ⟨_, rfl⟩
        have HPZ := Lib.hid (show ∀ t ∈ l, t.size ≤ 100 ∧ parseD t.data.toList = (0, 5) by
          intro t ht
          rw [hl] at ht
          rcases List.mem_append.1 ht with h | h
          · exact HP4.out t h
          · obtain rfl := List.mem_singleton.1 h
            exact ⟨X14.out, p5⟩)
        have HC := Lib.hid (fun j t (h : l[j]? = some t) => show w5.cell? ⟨g, j, none⟩ = some (.string t) from own_strs (l := l) hown5 (by rw [hl]; rfl) j t h)
        have HG := Lib.hid hlt5
        have hB5 : Below w.heap.size w w5 := X4.out.grown hgrow5 X8.out X7.out
        replace hl : l.length = 5 := by rw [hl]; rfl
        clear hown5 hgrow5 hat5 hlt5 b1 b2 b5 b6 b8 b9 p5
        clear hlen hK10
        go_wp2_with fail
        go_loopw [88] (fun i wr => ∃ k : Nat, k ≤ 5 ∧ i = .int .i64 k ∧ Below (w5).heap.size (w5) wr) (fun i _ => 5 - (intOf i).toNat)
        case atStart => exact ⟨0, by omega, rfl, Below.refl _ _⟩
        case round =>
          obtain ⟨k, hk, rfl, hB⟩ := hrel
          have hBT := Lib.hid (Below.trans hB5 (hB.mono (Below.size hB5)))
          by_cases hlt : k < 5
          · obtain ⟨t, ht⟩ : ∃ t, l[k]? = some t := ⟨_, List.getElem?_eq_getElem (by omega)⟩
            have hc := (hB.cell (p := ⟨g, k, none⟩) HG.out).trans (HC.out k t ht)
            have hp := HPZ.out t (List.mem_of_getElem? ht)
            have hps := Lib.hid hp
            have hlt' : (k : Int) < 5 := by omega
            clear ht hp hl
            go_wp2_with fail
            refine (stamp_Parse t _ (by have := hps.out.1; unfold maxLen; omega)).mono ?_
            rintro e w' ⟨rfl, hb⟩
            rw [hps.out.2]
            go_wp2
            refine ⟨⟨k + 1, by omega, by go_num, hB.trans (hb.mono hB.size)⟩, by simp [intOf]; omega⟩
          · have hlt' : ¬ (k : Int) < 5 := by omega
            go_wp2
            go_ret
            exact ⟨rfl, hBT.out⟩
      · clear hown
        have hBV : Below w.heap.size w V.drew := hBW.drew
        have HG := Lib.hid (show W.heap.size < V.drew.heap.size by show W.heap.size < V.heap.size; omega)
        obtain ⟨l, hl⟩ : ∃ l : List ByteArray, l = [s.extract 0 K ++ s.extract (K + 1) 10, s.extract 0 K ++ ⟨#[c]⟩ ++ s.extract K 10, s ++ ⟨#[c]⟩, ⟨#[c]⟩ ++ s] := ⟨_, rfl⟩
        rw [← hl] at HP4
        have HPZ := HP4
        have HC := Lib.hid (fun j t (h : l[j]? = some t) => show V.drew.cell? ⟨W.heap.size, j, none⟩ = some (.string t) from own_strs (l := l) HO.out (by rw [hl]; rfl) j t h)
        replace hl : l.length = 4 := by rw [hl]; rfl
        clear hlen hK10
        go_wp2_with fail
        go_loopw [88] (fun i wr => ∃ k : Nat, k ≤ 4 ∧ i = .int .i64 k ∧ Below (V.drew).heap.size (V.drew) wr) (fun i _ => 4 - (intOf i).toNat)
        case atStart => exact ⟨0, by omega, rfl, Below.refl _ _⟩
        case round =>
          obtain ⟨k, hk, rfl, hB⟩ := hrel
          have hBT := Lib.hid (Below.trans hBV (hB.mono (Below.size hBV)))
          by_cases hlt : k < 4
          · obtain ⟨t, ht⟩ : ∃ t, l[k]? = some t := ⟨_, List.getElem?_eq_getElem (by omega)⟩
            have hc := (hB.cell (p := ⟨W.heap.size, k, none⟩) HG.out).trans (HC.out k t ht)
            have hp := HPZ.out t (List.mem_of_getElem? ht)
            have hps := Lib.hid hp
            have hlt' : (k : Int) < 4 := by omega
            clear ht hp hl
            go_wp2_with fail
            refine (stamp_Parse t _ (by have := hps.out.1; unfold maxLen; omega)).mono ?_
            rintro e w' ⟨rfl, hb⟩
            rw [hps.out.2]
            go_wp2
            refine ⟨⟨k + 1, by omega, by go_num, hB.trans (hb.mono hB.size)⟩, by simp [intOf]; omega⟩
          · have hlt' : ¬ (k : Int) < 4 := by omega
            go_wp2
            go_ret
            exact ⟨rfl, hBT.out⟩
    · have HDIG := Lib.hid hdig
      clear hdig
      go_wp2_with fail
      · rename_i hne
        have p5 := turned s K c hlen hK10 HLK.out HDIG.out hne
        clear hown
        have hWs := hWB.size
        have hVs : V.drew.heap.size = W.heap.size + 1 := hsW
        have hOV := World.ownsRow.drew HO.out
        have hVB : Below w.heap.size w V.drew := hBW.drew
        generalize V.drew = V1 at *
        have b1 : (K : Int) ≤ 10 := by omega
        have b2 : (K : Int) + 1 ≤ 10 := by omega
        have b8 : ¬ (9223372036854775807 < K + 1) := by omega
        have b9 : ¬ (9223372036854775807 < K + 1 + (9 - K)) := by omega
        have b6 : IntKind.i64.wrap ((K : Int) + 1) = (K : Int) + 1 := by rw [IntKind.wrap_i64]; omega
        have b5 : (0 : Int) ≤ (K : Int) + 1 := by omega
        have hX1 : ((V1.alloc (.cells #[.string (s.extract 0 K ++ ⟨#[c]⟩ ++ s.extract (K + 1) 10)] 9)).drew).heap[W.heap.size + 1]? = some (.cells #[.string (s.extract 0 K ++ ⟨#[c]⟩ ++ s.extract (K + 1) 10)] 9 (0, 0)) := by rw [← hVs]; exact heap_alloc_new V1 _
        have hX2 := World.ownsRow.drew (hOV.alloc (.cells #[.string (s.extract 0 K ++ ⟨#[c]⟩ ++ s.extract (K + 1) 10)] 9))
        have hX3 : W.heap.size ≤ ((V1.alloc (.cells #[.string (s.extract 0 K ++ ⟨#[c]⟩ ++ s.extract (K + 1) 10)] 9)).drew).heap.size := by simp [World.drew]; omega
        have hX4 : Below w.heap.size w ((V1.alloc (.cells #[.string (s.extract 0 K ++ ⟨#[c]⟩ ++ s.extract (K + 1) 10)] 9)).drew) := (hVB.alloc (by omega) _).drew
        have hX5 : ∀ x ∈ [Value.string (s.extract 0 K ++ ⟨#[c]⟩ ++ s.extract (K + 1) 10)], x.oneCell' = true := fun x hx => by simp at hx; subst hx; rfl
        have hX6 := World.news_of_block hX1
        have hX7 : ∀ k, (Value.slice (some ⟨W.heap.size, 0, none⟩) 4 4).ownBlock = some k → w.heap.size ≤ k := fun k hk => by
          have : W.heap.size = k := by simpa [Value.ownBlock] using hk
          omega
        have hX8 : w.heap.size ≤ ((V1.alloc (.cells #[.string (s.extract 0 K ++ ⟨#[c]⟩ ++ s.extract (K + 1) 10)] 9)).drew).heap.size := by simp [World.drew]; omega
        have X9 : ([Value.string (s.extract 0 K ++ ⟨#[c]⟩ ++ s.extract (K + 1) 10)] : List Value).length = 1 * 1 := rfl
        have X14 := Lib.hid (show (s.extract 0 K ++ ⟨#[c]⟩ ++ s.extract (K + 1) 10).size ≤ 100 by rw [ByteArray.size_append, ByteArray.size_append, z1, z2, z4]; omega)
        have X10 : (Value.string ⟨#[]⟩).cells.size = 1 := rfl
        have X11 : 0 < 1 := by decide
        have X12 : 4 + 1 ≤ maxLen := by decide
        have X13 : (4 + 1) * 16 ≤ 140737488355328 := by decide
        have X1 := Lib.hid hX1
        have X2 := Lib.hid hX2
        have X3 := Lib.hid hX3
        have X4 := Lib.hid hX4
        have X5 := Lib.hid hX5
        have X6 := Lib.hid hX6
        have X7 := Lib.hid hX7
        have X8 := Lib.hid hX8
        clear hX1 hX2 hX3 hX4 hX5 hX6 hX7 hX8 hOV
        go_region_held_law (fun _ => True) (trivial)
          (first
            | (with_reducible refine step_append_lies ((V1.alloc (.cells #[.string (s.extract 0 K ++ ⟨#[c]⟩ ++ s.extract (K + 1) 10)] 9)).drew) rfl (.tmp 73) (.tmp 84) 28 rfl W.heap.size 9 i0 _ 1 16 Tryd.underlying28 hi hz0 hz1 hz2 X10 X11 _ 4 _ (by simp [Act.eval]; done) X2.out ⟨W.heap.size + 1, 0, none⟩ 1 1 [.string (s.extract 0 K ++ ⟨#[c]⟩ ++ s.extract (K + 1) 10)] (by simp [Act.eval]; done) X9 X6.out X5.out X11 X12 X13 X3.out _ rfl ?_; intro g cap w5 hown5 hgrow5 hat5 hlt5))
        obtain ⟨l, hl⟩ : ∃ l : List ByteArray, l = [s.extract 0 K ++ s.extract (K + 1) 10, s.extract 0 K ++ ⟨#[c]⟩ ++ s.extract K 10, s ++ ⟨#[c]⟩, ⟨#[c]⟩ ++ s] ++ [s.extract 0 K ++ ⟨#[c]⟩ ++ s.extract (K + 1) 10] := ⟨_, rfl⟩
        have HPZ := Lib.hid (show ∀ t ∈ l, t.size ≤ 100 ∧ parseD t.data.toList = (0, 5) by
          intro t ht
          rw [hl] at ht
          rcases List.mem_append.1 ht with h | h
          · exact HP4.out t h
          · obtain rfl := List.mem_singleton.1 h
            exact ⟨X14.out, p5⟩)
        have HC := Lib.hid (fun j t (h : l[j]? = some t) => show w5.cell? ⟨g, j, none⟩ = some (.string t) from own_strs (l := l) hown5 (by rw [hl]; rfl) j t h)
        have HG := Lib.hid hlt5
        have hB5 : Below w.heap.size w w5 := X4.out.grown hgrow5 X8.out X7.out
        replace hl : l.length = 5 := by rw [hl]; rfl
        clear hown5 hgrow5 hat5 hlt5 b1 b2 b5 b6 b8 b9 p5
        clear hlen hK10
        go_wp2_with fail
        go_loopw [88] (fun i wr => ∃ k : Nat, k ≤ 5 ∧ i = .int .i64 k ∧ Below (w5).heap.size (w5) wr) (fun i _ => 5 - (intOf i).toNat)
        case atStart => exact ⟨0, by omega, rfl, Below.refl _ _⟩
        case round =>
          obtain ⟨k, hk, rfl, hB⟩ := hrel
          have hBT := Lib.hid (Below.trans hB5 (hB.mono (Below.size hB5)))
          by_cases hlt : k < 5
          · obtain ⟨t, ht⟩ : ∃ t, l[k]? = some t := ⟨_, List.getElem?_eq_getElem (by omega)⟩
            have hc := (hB.cell (p := ⟨g, k, none⟩) HG.out).trans (HC.out k t ht)
            have hp := HPZ.out t (List.mem_of_getElem? ht)
            have hps := Lib.hid hp
            have hlt' : (k : Int) < 5 := by omega
            clear ht hp hl
            go_wp2_with fail
            refine (stamp_Parse t _ (by have := hps.out.1; unfold maxLen; omega)).mono ?_
            rintro e w' ⟨rfl, hb⟩
            rw [hps.out.2]
            go_wp2
            refine ⟨⟨k + 1, by omega, by go_num, hB.trans (hb.mono hB.size)⟩, by simp [intOf]; omega⟩
          · have hlt' : ¬ (k : Int) < 5 := by omega
            go_wp2
            go_ret
            exact ⟨rfl, hBT.out⟩
      · clear hown
        have hBV : Below w.heap.size w V.drew := hBW.drew
        have HG := Lib.hid (show W.heap.size < V.drew.heap.size by show W.heap.size < V.heap.size; omega)
        obtain ⟨l, hl⟩ : ∃ l : List ByteArray, l = [s.extract 0 K ++ s.extract (K + 1) 10, s.extract 0 K ++ ⟨#[c]⟩ ++ s.extract K 10, s ++ ⟨#[c]⟩, ⟨#[c]⟩ ++ s] := ⟨_, rfl⟩
        rw [← hl] at HP4
        have HPZ := HP4
        have HC := Lib.hid (fun j t (h : l[j]? = some t) => show V.drew.cell? ⟨W.heap.size, j, none⟩ = some (.string t) from own_strs (l := l) HO.out (by rw [hl]; rfl) j t h)
        replace hl : l.length = 4 := by rw [hl]; rfl
        clear hlen hK10
        go_wp2_with fail
        go_loopw [88] (fun i wr => ∃ k : Nat, k ≤ 4 ∧ i = .int .i64 k ∧ Below (V.drew).heap.size (V.drew) wr) (fun i _ => 4 - (intOf i).toNat)
        case atStart => exact ⟨0, by omega, rfl, Below.refl _ _⟩
        case round =>
          obtain ⟨k, hk, rfl, hB⟩ := hrel
          have hBT := Lib.hid (Below.trans hBV (hB.mono (Below.size hBV)))
          by_cases hlt : k < 4
          · obtain ⟨t, ht⟩ : ∃ t, l[k]? = some t := ⟨_, List.getElem?_eq_getElem (by omega)⟩
            have hc := (hB.cell (p := ⟨W.heap.size, k, none⟩) HG.out).trans (HC.out k t ht)
            have hp := HPZ.out t (List.mem_of_getElem? ht)
            have hps := Lib.hid hp
            have hlt' : (k : Int) < 4 := by omega
            clear ht hp hl
            go_wp2_with fail
            refine (stamp_Parse t _ (by have := hps.out.1; unfold maxLen; omega)).mono ?_
            rintro e w' ⟨rfl, hb⟩
            rw [hps.out.2]
            go_wp2
            refine ⟨⟨k + 1, by omega, by go_num, hB.trans (hb.mono hB.size)⟩, by simp [intOf]; omega⟩
          · have hlt' : ¬ (k : Int) < 4 := by omega
            go_wp2
            go_ret
            exact ⟨rfl, hBT.out⟩
    · clear hown
      have hBV : Below w.heap.size w V.drew := hBW.drew
      have HG := Lib.hid (show W.heap.size < V.drew.heap.size by show W.heap.size < V.heap.size; omega)
      obtain ⟨l, hl⟩ : ∃ l : List ByteArray, l = [s.extract 0 K ++ s.extract (K + 1) 10, s.extract 0 K ++ ⟨#[c]⟩ ++ s.extract K 10, s ++ ⟨#[c]⟩, ⟨#[c]⟩ ++ s] := ⟨_, rfl⟩
      rw [← hl] at HP4
      have HPZ := HP4
      have HC := Lib.hid (fun j t (h : l[j]? = some t) => show V.drew.cell? ⟨W.heap.size, j, none⟩ = some (.string t) from own_strs (l := l) HO.out (by rw [hl]; rfl) j t h)
      replace hl : l.length = 4 := by rw [hl]; rfl
      clear hlen hK10
      go_wp2_with fail
      go_loopw [88] (fun i wr => ∃ k : Nat, k ≤ 4 ∧ i = .int .i64 k ∧ Below (V.drew).heap.size (V.drew) wr) (fun i _ => 4 - (intOf i).toNat)
      case atStart => exact ⟨0, by omega, rfl, Below.refl _ _⟩
      case round =>
        obtain ⟨k, hk, rfl, hB⟩ := hrel
        have hBT := Lib.hid (Below.trans hBV (hB.mono (Below.size hBV)))
        by_cases hlt : k < 4
        · obtain ⟨t, ht⟩ : ∃ t, l[k]? = some t := ⟨_, List.getElem?_eq_getElem (by omega)⟩
          have hc := (hB.cell (p := ⟨W.heap.size, k, none⟩) HG.out).trans (HC.out k t ht)
          have hp := HPZ.out t (List.mem_of_getElem? ht)
          have hps := Lib.hid hp
          have hlt' : (k : Int) < 4 := by omega
          clear ht hp hl
          go_wp2_with fail
          refine (stamp_Parse t _ (by have := hps.out.1; unfold maxLen; omega)).mono ?_
          rintro e w' ⟨rfl, hb⟩
          rw [hps.out.2]
          go_wp2
          refine ⟨⟨k + 1, by omega, by go_num, hB.trans (hb.mono hB.size)⟩, by simp [intOf]; omega⟩
        · have hlt' : ¬ (k : Int) < 4 := by omega
          go_wp2
          go_ret
          exact ⟨rfl, hBT.out⟩
  · have HN := Lib.hid (fun W => stamp_Print_no a (out_of a ha) W)
    clear ha
    go_enter Tryd.func4, Tryd.ntmps4
    go_wp2_with fail
    refine HV.out.mono ?_
    rintro e w1 ⟨rfl, hb1⟩
    go_wp2_with fail
    refine (HN.out _).mono ?_
    rintro e w2 ⟨rfl, hb2⟩
    have hB2 := hb1.trans (hb2.mono hb1.size)
    go_wp2
    go_ret
    exact ⟨rfl, hB2⟩

end Go.Proofs.YtbeciinkecmbaaaDoor
