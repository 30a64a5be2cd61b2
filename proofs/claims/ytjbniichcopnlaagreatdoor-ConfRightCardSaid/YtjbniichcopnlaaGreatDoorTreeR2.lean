import Derived.Test.YtjbniichcopnlaaGreatDoorPkV12
/- Layer 9 (tree): the walk of Check, where items may be. -/
set_option linter.unusedVariables false
set_option linter.unusedSimpArgs false
namespace Go.Proofs.YtjbniichcopnlaaGreatDoor
open Go.RowKit

theorem name16 (s : Bytes) (h : nameL s = true) : s.length ≤ 16 := by
  unfold nameL at h
  cases s with
  | nil => simp
  | cons c r => simp only [Bool.and_eq_true, decide_eq_true_eq] at h; exact h.1.1
theorem name_at (s : Bytes) (h : nameL s = true) (W : World) : Calls Tryz.prog 39 #[.string ⟨s.toArray⟩] W fun e w' => e = .returned (.bool true) ∧ W = w' := by
  have hl := name16 s h
  have := lex_Name ⟨s.toArray⟩ W (by unfold maxLen; show s.toArray.size ≤ _; rw [List.size_toArray]; omega)
  rw [show (ByteArray.mk s.toArray).data.toList = s from rfl, h] at this
  exact this
theorem tree_worded (t : WordL) (ht : wordOk t = true) (w : World) :
    Calls Tryz.prog 87 #[.agg #[.bool t.num, .int .i64 t.n, .string ⟨t.s.toArray⟩, .int .i64 t.pos]] w fun e w' => e = .returned (.bool true) ∧ Below w.heap.size w w' := by
  obtain ⟨num, n, s, pos⟩ := t
  dsimp only
  unfold wordOk at ht
  have hbW : Below w.heap.size w (w.alloc (.cells #[.bool num, .int .i64 n, .string ⟨s.toArray⟩, .int .i64 pos] 61)) := (Below.refl _ _).alloc (Nat.le_refl _) _
  have HB := Lib.hid hbW
  clear hbW
  cases num
  · simp only [Bool.false_eq_true, if_false, Bool.and_eq_true, decide_eq_true_eq] at ht
    obtain ⟨rfl, hn⟩ := ht
    have HN := Lib.hid (name_at s hn)
    go_enter Tryz.func87, Tryz.ntmps87
    go_wp2_with fail
    refine (HN.out _).mono ?_
    rintro e w1 ⟨rfl, rfl⟩
    go_wp2
    go_ret
    exact ⟨rfl, HB.out⟩
  · simp only [if_true, Bool.and_eq_true, decide_eq_true_eq] at ht
    obtain ⟨⟨rfl, h0⟩, h1⟩ := ht
    go_enter Tryz.func87, Tryz.ntmps87
    go_wp2
    go_ret
    exact ⟨rfl, HB.out⟩

theorem tree_within1 (t : WordL) (ht : wordOk t = true) (w : World) :
    Calls Tryz.prog 86 #[.agg #[.bool t.num, .int .i64 t.n, .string ⟨t.s.toArray⟩, .int .i64 t.pos]] w fun e w' => e = .returned (.bool false) ∧ Below w.heap.size w w' := by
  have HW := Lib.hid (tree_worded t ht)
  clear ht
  go_enter Tryz.func86, Tryz.ntmps86
  go_wp2_with fail
  refine (HW.out _).mono ?_
  rintro e w1 ⟨rfl, hb1⟩
  have hB : Below w.heap.size w w1 := ((Below.refl _ _).alloc (Nat.le_refl _) _).trans (hb1.mono (by simp))
  go_wp2
  go_ret
  exact ⟨rfl, hB⟩

set_option maxHeartbeats 1000000 in
theorem words_index (ws : List WordL) (hall : ws.all wordOk = true) (hlen : ws.length ≤ 8) (A : Option Addr) (c : Nat) (w : World) (B : Nat) (hB : B ≤ w.heap.size) (hr : ReadsM w (· < B) 4 A ws.length (ws.flatMap WordL.cells)) :
    Calls Tryz.prog 109 #[.slice A ws.length c, .func (.func 86) #[] #[]] w fun e w' => e = .returned (.int .i64 (-1)) ∧ Below w.heap.size w w' := by
  have HR := Lib.hid hr
  have HALL := Lib.hid hall
  clear hr hall
  go_enter Tryz.func109, Tryz.ntmps109
  go_wp2_with fail
  go_loopw [8] (fun i wr => ∃ k : Nat, k ≤ ws.length ∧ i = .int .i64 k ∧ Below w.heap.size w wr) (fun i _ => ws.length - (intOf i).toNat)
  case atStart => exact ⟨0, Nat.zero_le _, rfl, Below.refl _ _⟩
  case round =>
    obtain ⟨k, hk, rfl, hb⟩ := hrel
    have hbs := hb.size
    by_cases hlt : k < ws.length
    · obtain ⟨t, ht⟩ : ∃ t, ws[k]? = some t := ⟨_, List.getElem?_eq_getElem hlt⟩
      have hk' : ∀ p : Addr, p.block < B → wr.cell? p = w.cell? p := fun p hp => hb.cell (by omega)
      obtain ⟨ad, rfl, _, d0, d1, d2, d3⟩ := word_cells (HR.out.keep (fun _ h => h) hk') k t ht
      have hok : wordOk t = true := List.all_eq_true.1 HALL.out t (List.mem_of_getElem? ht)
      have HW := Lib.hid (tree_within1 t hok)
      have HB := Lib.hid hb
      have lk : (k : Int) < ws.length := by omega
      have lk0 : (0 : Int) ≤ k := by omega
      have w1f : IntKind.i64.wrap ((k : Int) + 1) = (k : Int) + 1 := by rw [IntKind.wrap_i64]; omega
      clear hk' hok hb
      go_wp2_with fail
      refine (HW.out _).mono ?_
      rintro e w2 ⟨rfl, hb2⟩
      have HB2 := Lib.hid (HB.out.trans (hb2.mono hbs))
      clear hb2
      go_wp2_with fail
      exact ⟨⟨k + 1, by omega, by go_num, HB2.out⟩, by simp [intOf]; omega⟩
    · have lk : ¬ (k : Int) < ws.length := by omega
      go_wp2_with fail
      go_ret
      exact ⟨rfl, hb⟩
theorem words_contains (ws : List WordL) (hall : ws.all wordOk = true) (hlen : ws.length ≤ 8) (A : Option Addr) (c : Nat) (w : World) (B : Nat) (hB : B ≤ w.heap.size) (hr : ReadsM w (· < B) 4 A ws.length (ws.flatMap WordL.cells)) :
    Calls Tryz.prog 85 #[.slice A ws.length c, .func (.func 86) #[] #[]] w fun e w' => e = .returned (.bool false) ∧ Below w.heap.size w w' := by
  have H := Lib.hid (words_index ws hall hlen A c w B hB hr)
  clear hr hall
  go_enter Tryz.func85, Tryz.ntmps85
  go_wp2_with fail
  refine H.out.mono ?_
  rintro e w1 ⟨rfl, hb1⟩
  go_wp2
  go_ret
  exact ⟨rfl, hb1⟩

set_option maxRecDepth 100000 in
set_option maxHeartbeats 4000000 in
theorem tree_within : ∀ (N : Nat) (l : List NodeL) (A : Option Addr) (c : Nat) (w : World) (B d : Nat), cntL l < N → cntL l ≤ 100000 → B ≤ w.heap.size → ROk w B A l → d + N ≤ 200000 → (checkL d l = 0) →
    Calls Tryz.prog 57 #[.slice A l.length c, .int .i64 d] w fun e w' => e = .returned (.int .i64 0) ∧ Below w.heap.size w w' := by
  intro N
  induction N with
  | zero => intro l A c w B d h; omega
  | succ N ih =>
    intro l A c w B d hN hsm hB hok hd100 hchk
    have hlen := cntL_len l
    have HOK := Lib.hid hok
    have HIH := Lib.hid ih
    have HCK := Lib.hid hchk
    clear ih hok hchk
    go_enter Tryz.func57, Tryz.ntmps57
    go_wp2_with fail
    go_loopw [11] (fun i wr => ∃ k : Nat, k ≤ l.length ∧ i = .int .i64 k ∧ Below w.heap.size w wr) (fun i _ => l.length - (intOf i).toNat)
    case atStart => exact ⟨0, Nat.zero_le _, rfl, Below.refl _ _⟩
    case round =>
      obtain ⟨k, hk, rfl, hb⟩ := hrel
      have hbs := hb.size
      by_cases hlt : k < l.length
      · obtain ⟨n, hn⟩ : ∃ n, l[k]? = some n := ⟨_, List.getElem?_eq_getElem hlt⟩
        obtain ⟨ad, Aw, cw, Ak, ck, hA, hadB, c0, c1, c2, c3, c4, hw, hkk⟩ := (HOK.out.below (hb.mono hB)).at k n hn
        subst hA
        obtain ⟨p1, p2, p3, p4, p5, p6⟩ := check_at l d k n HCK.out hn
        have hc1 := cntL_take_mem l k n hn
        have hc2 := cntN_eq n
        have HNM := Lib.hid (name_at n.name p3)
        have hblk := heap_alloc_new wr (.cells #[.string ⟨n.name.toArray⟩, .int .i64 n.pos, .slice Aw n.words.length cw, .bool n.block, .slice Ak n.kids.length ck] 44)
        have HBLK := Lib.hid hblk
        have hW := (Below.refl wr.heap.size wr).alloc (Nat.le_refl _) (.cells #[.string ⟨n.name.toArray⟩, .int .i64 n.pos, .slice Aw n.words.length cw, .bool n.block, .slice Ak n.kids.length ck] 44)
        have HW := Lib.hid hW
        have HWC := Lib.hid (words_contains n.words p2 p1 Aw cw _ B (by simp; omega) (hw.keep (w' := wr.alloc (.cells #[.string ⟨n.name.toArray⟩, .int .i64 n.pos, .slice Aw n.words.length cw, .bool n.block, .slice Ak n.kids.length ck] 44)) (fun _ h => h) (fun p hp => hW.cell (by omega))))
        have HKK := Lib.hid hkk
        have HB := Lib.hid hb
        have H5 := Lib.hid p5
        have H4 := Lib.hid p4
        have H6 := Lib.hid p6
        have lk : (k : Int) < l.length := by omega
        have lk0 : (0 : Int) ≤ k := by omega
        have w1f : IntKind.i64.wrap ((k : Int) + 1) = (k : Int) + 1 := by rw [IntKind.wrap_i64]; omega
        have w2f : IntKind.i64.wrap ((d : Int) + 1) = (d : Int) + 1 := by rw [IntKind.wrap_i64]; omega
        have hw8 : ¬ (8 < (n.words.length : Int)) := by omega
        clear p1 p2 p3 p4 p5 p6 hblk hW hw hkk hb
        go_wp2_with fail
        refine HWC.out.mono ?_
        rintro e w2 ⟨rfl, hb2⟩
        have hlt2 : wr.heap.size < w2.heap.size := by have := hb2.size; simp at this; omega
        have hblk2 : w2.heap[wr.heap.size]? = _ := (hb2.block _ (by simp)).trans HBLK.out
        have e0 := Joins.cell_of_block hblk2 0
        have e2 := Joins.cell_of_block hblk2 2
        have e3 := Joins.cell_of_block hblk2 3
        have e4 := Joins.cell_of_block hblk2 4
        have hb3 : Below w.heap.size w w2 := HB.out.trans ((HW.out.trans (hb2.mono (by simp))).mono hbs)
        have hb32 : Below B wr w2 := (HW.out.trans (hb2.mono (by simp))).mono (by omega)
        have HB3 := Lib.hid hb3
        have HKK3 := Lib.hid (HKK.out.below hb32)
        clear hb2 hb3 hb32 hblk2
        go_wp2_with fail
        refine (HNM.out _).mono ?_
        rintro e w3 ⟨rfl, rfl⟩
        have HB4 := HB3
        have hB4 : B ≤ w2.heap.size := by omega
        cases hnb : n.block with
        | false =>
          have hk0 := H4.out hnb
          rw [hnb] at e3
          rw [hk0] at e4 HKK3
          simp only [List.length_nil] at e4
          have HI := Lib.hid (HIH.out [] Ak ck w2 B (d + 1) (by simp only [cntL]; omega) (by simp [cntL]) hB4 HKK3.out (by omega) rfl)
          simp only [List.length_nil] at HI
          have HI2 := Lib.hid (show Calls Tryz.prog 57 #[.slice Ak 0 ck, .int .i64 ((d : Int) + 1)] w2 fun e w' => e = .returned (.int .i64 0) ∧ Below w2.heap.size w2 w' from HI.out)
          clear HI
          go_wp2_with fail
          refine HI2.out.mono ?_
          rintro e w5 ⟨rfl, hb5⟩
          have HB5 := Lib.hid (HB4.out.trans (hb5.mono HB4.out.size))
          clear hb5
          go_wp2_with fail
          exact ⟨⟨k + 1, by omega, by go_num, HB5.out⟩, by simp [intOf]; omega⟩
        | true =>
          have hd6 : ((d : Int) == 6) = false := beq_false_of_ne (by have := H5.out hnb; omega)
          rw [hnb] at e3
          have HI := Lib.hid (HIH.out n.kids Ak ck w2 B (d + 1) (by omega) (by omega) hB4 HKK3.out (by omega) H6.out)
          have HI2 := Lib.hid (show Calls Tryz.prog 57 #[.slice Ak n.kids.length ck, .int .i64 ((d : Int) + 1)] w2 fun e w' => e = .returned (.int .i64 0) ∧ Below w2.heap.size w2 w' from HI.out)
          clear HI
          go_wp2_with fail
          refine HI2.out.mono ?_
          rintro e w5 ⟨rfl, hb5⟩
          have HB5 := Lib.hid (HB4.out.trans (hb5.mono HB4.out.size))
          clear hb5
          go_wp2_with fail
          exact ⟨⟨k + 1, by omega, by go_num, HB5.out⟩, by simp [intOf]; omega⟩
      · have lk : ¬ (k : Int) < l.length := by omega
        go_wp2_with fail
        go_ret
        exact ⟨rfl, hb⟩

theorem tree_Check (l : List NodeL) (A : Option Addr) (c : Nat) (w : World) (B : Nat) (hsm : cntL l ≤ 100000) (hB : B ≤ w.heap.size) (hok : ROk w B A l) (hchk : checkL 0 l = 0) :
    Calls Tryz.prog 33 #[.slice A l.length c] w fun e w' => e = .returned (.int .i64 0) ∧ Below w.heap.size w w' := by
  have H := Lib.hid (tree_within (cntL l + 1) l A c w B 0 (by omega) hsm hB hok (by omega) hchk)
  clear hok hchk
  go_enter Tryz.func33, Tryz.ntmps33
  go_wp2_with fail
  refine H.out.mono ?_
  rintro e w1 ⟨rfl, hb1⟩
  go_wp2
  go_ret
  exact ⟨rfl, hb1⟩
end Go.Proofs.YtjbniichcopnlaaGreatDoor
