import Derived.Test.YtmiejdbpogggeaaPkF
import Derived.Test.YtmiejdbpogggeaaRef8A
/- Layer 9 (tree): the reference's Check, over any items. -/
set_option linter.unusedVariables false
set_option linter.unusedSimpArgs false
namespace Go.Proofs.Ytmiejdbpogggeaa
open Go.RowKit

theorem rname_atG (s : Bytes) (h : s.length ≤ maxLen) (W : World) : Calls Try.prog 53 #[.string ⟨s.toArray⟩] W fun e w' => e = .returned (.bool (nameL s)) ∧ W = w' :=
  ref8_Name ⟨s.toArray⟩ W (by show s.toArray.size ≤ _; rw [List.size_toArray]; exact h)
def wordE (t : WordL) : Int := if wordOk t then 0 else 1

theorem ref9_word (t : WordL) (ht : t.s.length ≤ maxLen) (w : World) :
    Calls Try.prog 85 #[.agg #[.bool t.num, .int .i64 t.n, .string ⟨t.s.toArray⟩, .int .i64 t.pos]] w fun e w' => e = .returned (.int .i64 (wordE t)) ∧ Below w.heap.size w w' := by
  obtain ⟨num, n, s, pos⟩ := t
  dsimp only at ht ⊢
  have hbW : Below w.heap.size w (w.alloc (.cells #[.bool num, .int .i64 n, .string ⟨s.toArray⟩, .int .i64 pos] 40)) := (Below.refl _ _).alloc (Nat.le_refl _) _
  have HB := Lib.hid hbW
  have HN := Lib.hid (rname_atG s ht)
  clear hbW ht
  cases num
  · have hr : wordOk ⟨false, n, s, pos⟩ = (decide (n = 0) && nameL s) := rfl
    by_cases hn : n = 0
    · subst hn
      rw [decide_eq_true rfl, Bool.true_and] at hr
      cases hnm : nameL s
      · have he : wordE ⟨false, 0, s, pos⟩ = 1 := by unfold wordE; rw [hr, hnm]; rfl
        rw [he]
        rw [hnm] at HN
        clear he hnm hr
        go_enter Try.func85, Try.ntmps85
        go_wp2_with fail
        refine (HN.out _).mono ?_
        rintro e w1 ⟨rfl, rfl⟩
        go_wp2_with fail
        go_ret
        exact ⟨rfl, HB.out⟩
      · have he : wordE ⟨false, 0, s, pos⟩ = 0 := by unfold wordE; rw [hr, hnm]; rfl
        rw [he]
        rw [hnm] at HN
        clear he hnm hr
        go_enter Try.func85, Try.ntmps85
        go_wp2_with fail
        refine (HN.out _).mono ?_
        rintro e w1 ⟨rfl, rfl⟩
        go_wp2_with fail
        go_ret
        exact ⟨rfl, HB.out⟩
    · rw [decide_eq_false hn, Bool.false_and] at hr
      have he : wordE ⟨false, n, s, pos⟩ = 1 := by unfold wordE; rw [hr]; rfl
      rw [he]
      have hn' : (n == 0) = false := by simpa using hn
      clear hn HN he hr
      go_enter Try.func85, Try.ntmps85
      go_wp2_with fail
      go_ret
      exact ⟨rfl, HB.out⟩
  · have hr : wordOk ⟨true, n, s, pos⟩ = (decide (s = []) && decide (0 ≤ n) && decide (n ≤ 999999999)) := rfl
    clear HN
    by_cases hs : s = []
    · subst hs
      by_cases h0 : 0 ≤ n
      · by_cases h9 : n ≤ 999999999
        · have he : wordE ⟨true, n, [], pos⟩ = 0 := by unfold wordE; rw [hr]; simp [h0, h9]
          rw [he]
          clear he hr
          go_enter Try.func85, Try.ntmps85
          go_wp2_with fail
          go_ret
          exact ⟨rfl, HB.out⟩
        · have he : wordE ⟨true, n, [], pos⟩ = 1 := by unfold wordE; rw [hr]; simp [h0, h9]
          rw [he]
          clear he hr
          go_enter Try.func85, Try.ntmps85
          go_wp2_with fail
          go_ret
          exact ⟨rfl, HB.out⟩
      · have he : wordE ⟨true, n, [], pos⟩ = 1 := by unfold wordE; rw [hr]; simp [h0]
        rw [he]
        clear he hr
        go_enter Try.func85, Try.ntmps85
        go_wp2_with fail
        go_ret
        exact ⟨rfl, HB.out⟩
    · have he : wordE ⟨true, n, s, pos⟩ = 1 := by unfold wordE; rw [hr]; simp [hs]
      rw [he]
      have hs' : (s == []) = false := by simpa using hs
      clear he hr hs
      go_enter Try.func85, Try.ntmps85
      go_wp2_with fail
      go_ret
      exact ⟨rfl, HB.out⟩

theorem all_drop (ws : List WordL) (k : Nat) (t : WordL) (h : ws[k]? = some t) : (ws.drop k).all wordOk = (wordOk t && (ws.drop (k + 1)).all wordOk) := by
  obtain ⟨hk, rfl⟩ := List.getElem?_eq_some_iff.1 h
  rw [List.drop_eq_getElem_cons hk, List.all_cons]

set_option maxRecDepth 100000 in
set_option maxHeartbeats 4000000 in
theorem ref9_check : ∀ (N : Nat) (l : List NodeL) (A : Option Addr) (c : Nat) (w : World) (B d : Nat), cntL l < N → cntL l ≤ 100000 → B ≤ w.heap.size → ROk w B A l → d + N ≤ 200000 → fitNs l →
    Calls Try.prog 68 #[.slice A l.length c, .int .i64 d] w fun e w' => e = .returned (.int .i64 (checkL d l)) ∧ Below w.heap.size w w' := by
  intro N
  induction N with
  | zero => intro l A c w B d h; omega
  | succ N ih =>
    intro l A c w B d hN hsm hB hok hd100 hfit
    have hlen := cntL_len l
    have HOK := Lib.hid hok
    have HIH := Lib.hid ih
    have HFIT := Lib.hid hfit
    clear ih hok hfit
    go_enter Try.func68, Try.ntmps68
    go_wp2_with fail
    go_loopw [13] (fun i wr => ∃ k : Nat, k ≤ l.length ∧ i = .int .i64 k ∧ Below w.heap.size w wr ∧ checkL d l = checkL d (l.drop k)) (fun i _ => l.length - (intOf i).toNat)
    case atStart => exact ⟨0, Nat.zero_le _, rfl, Below.refl _ _, by simp⟩
    case round =>
      obtain ⟨k, hk, rfl, hb, hs⟩ := hrel
      have hbs := hb.size
      by_cases hlt : k < l.length
      · obtain ⟨n, hn⟩ : ∃ n, l[k]? = some n := ⟨_, List.getElem?_eq_getElem hlt⟩
        obtain ⟨ad, Aw, cw, Ak, ck, hA, hadB, c0, c1, c2, c3, c4, hw, hkk⟩ := (HOK.out.below (hb.mono hB)).at k n hn
        subst hA
        obtain ⟨f1, f2, f3, f4, f5⟩ := fit_parts n (fit_at l k n HFIT.out hn)
        have hc1 := cntL_take_mem l k n hn
        have hc2 := cntN_eq n
        have hst := checkL_step l k d n hn
        rw [checkN_eq] at hst
        have HNM := Lib.hid (rname_atG n.name f1)
        obtain ⟨wa, hwa⟩ : ∃ wa, wa = wr.alloc (.cells #[.string ⟨n.name.toArray⟩, .int .i64 n.pos, .slice Aw n.words.length cw, .bool n.block, .slice Ak n.kids.length ck] 25) := ⟨_, rfl⟩
        have hblk := heap_alloc_new wr (.cells #[.string ⟨n.name.toArray⟩, .int .i64 n.pos, .slice Aw n.words.length cw, .bool n.block, .slice Ak n.kids.length ck] 25)
        have hW := (Below.refl wr.heap.size wr).alloc (Nat.le_refl _) (.cells #[.string ⟨n.name.toArray⟩, .int .i64 n.pos, .slice Aw n.words.length cw, .bool n.block, .slice Ak n.kids.length ck] 25)
        have hsz : (wr.alloc (.cells #[.string ⟨n.name.toArray⟩, .int .i64 n.pos, .slice Aw n.words.length cw, .bool n.block, .slice Ak n.kids.length ck] 25)).heap.size = wr.heap.size + 1 := by simp
        have HWA := Lib.hid hwa
        rw [← hwa] at hblk hW hsz
        have HW := Lib.hid hW
        have HRD := Lib.hid (hw.keep (w' := wa) (fun _ h => h) (fun p hp => hW.cell (by omega)))
        have HKK := Lib.hid (hkk.below (hW.mono (by omega)))
        have HB := Lib.hid (hb.trans (hW.mono hbs))
        have HF5 := Lib.hid f5
        have HF3 := Lib.hid f3
        have HBLK := Lib.hid hblk
        have lk : (k : Int) < l.length := by omega
        have lk0 : (0 : Int) ≤ k := by omega
        have w1f : IntKind.i64.wrap ((k : Int) + 1) = (k : Int) + 1 := by rw [IntKind.wrap_i64]; omega
        have w2f : IntKind.i64.wrap ((d : Int) + 1) = (d : Int) + 1 := by rw [IntKind.wrap_i64]; omega
        have HS := Lib.hid hs
        have HST := Lib.hid hst
        cases hnm : nameL n.name
        · have HR := Lib.hid (show checkL d l = 1 by rw [HS.out, HST.out, hnm]; simp)
          rw [hnm] at HNM
          have HB' := HB
          rw [hwa] at HB'
          clear HST HS hW hw hkk hb f1 f2 f3 f4 f5 hs hst hwa hblk hsz
          go_wp2_with fail
          refine (HNM.out _).mono ?_
          rintro e w3 ⟨rfl, rfl⟩
          go_wp2_with fail
          go_ret
          exact ⟨by rw [HR.out]; rfl, HB'.out⟩
        rw [hnm] at HNM
        have HNM1 := Lib.hid hnm
        by_cases hw8 : 8 < n.words.length
        · have HR := Lib.hid (show checkL d l = 1 by rw [HS.out, HST.out]; simp [hw8])
          have hw8' : (8 : Int) < n.words.length := by omega
          have HB' := HB
          rw [hwa] at HB'
          clear HST HS hW hw hkk hb f1 f2 f3 f4 f5 hs hst hwa hblk hsz hw8
          go_wp2_with fail
          refine (HNM.out _).mono ?_
          rintro e w3 ⟨rfl, rfl⟩
          go_wp2_with fail
          go_ret
          exact ⟨by rw [HR.out]; rfl, HB'.out⟩
        have hw8' : ¬ (8 : Int) < n.words.length := by omega
        clear hW hw hkk hb f1 f2 f3 f4 f5 hs hst hblk
        obtain ⟨wo, hwo⟩ : ∃ wo, wo = wr := ⟨_, rfl⟩
        subst hwo
        go_wp2_with fail
        refine (HNM.out _).mono ?_
        rintro e w3 ⟨rfl, rfl⟩
        go_wp2_with fail
        rw [← hwa]
        have hwz : w.heap.size ≤ wa.heap.size := by omega
        clear HWA hwa c0 c1 c2 c3 c4 hnm
        go_loopw [30] (fun i wr => ∃ j : Nat, j ≤ n.words.length ∧ i = .int .i64 j ∧ Below wa.heap.size wa wr ∧ n.words.all wordOk = (n.words.drop j).all wordOk) (fun i _ => n.words.length - (intOf i).toNat)
        case atStart => exact ⟨0, Nat.zero_le _, rfl, Below.refl _ _, by simp⟩
        case round =>
          obtain ⟨j, hj, rfl, hb2, ha2⟩ := hrel
          have hbs2 := hb2.size
          by_cases hjt : j < n.words.length
          · obtain ⟨t, ht⟩ : ∃ t, n.words[j]? = some t := ⟨_, List.getElem?_eq_getElem hjt⟩
            have hk' : ∀ p : Addr, p.block < B → wr.cell? p = wa.cell? p := fun p hp => hb2.cell (by omega)
            obtain ⟨bd, rfl, hbd, d0, d1, d2, d3⟩ := word_cells (HRD.out.keep (fun _ h => h) hk') j t ht
            have HWD := Lib.hid (ref9_word t (HF3.out t (List.mem_of_getElem? ht)))
            rw [all_drop n.words j t ht] at ha2
            have HB2 := Lib.hid hb2
            have lj : (j : Int) < n.words.length := by omega
            have lj0 : (0 : Int) ≤ j := by omega
            have w3f : IntKind.i64.wrap ((j : Int) + 1) = (j : Int) + 1 := by rw [IntKind.wrap_i64]; omega
            unfold wordE at HWD
            cases hwk : wordOk t
            · rw [hwk, Bool.false_and] at ha2
              rw [hwk, if_neg (by simp)] at HWD
              have HR := Lib.hid (show checkL d l = 1 by rw [HS.out, HST.out, ha2]; simp)
              clear hk' hb2 ha2 hwk HST HS
              go_wp2_with fail
              refine (HWD.out _).mono ?_
              rintro e w5 ⟨rfl, hb5⟩
              have hb6 : Below w.heap.size w w5 := HB.out.trans ((HB2.out.trans (((Below.refl wr.heap.size wr).alloc (Nat.le_refl _) _ |>.trans (hb5.mono (by simp))).mono hbs2)).mono hwz)
              have HB6 := Lib.hid hb6
              clear hb5 hb6
              go_wp2_with fail
              go_ret
              exact ⟨by rw [HR.out]; rfl, HB6.out⟩
            · rw [hwk, Bool.true_and] at ha2
              rw [hwk, if_pos rfl] at HWD
              have HA2 := Lib.hid ha2
              clear hk' hb2 ha2 hwk
              go_wp2_with fail
              refine (HWD.out _).mono ?_
              rintro e w5 ⟨rfl, hb5⟩
              have hb6 : Below wa.heap.size wa w5 := HB2.out.trans (((Below.refl wr.heap.size wr).alloc (Nat.le_refl _) _ |>.trans (hb5.mono (by simp))).mono hbs2)
              have HB6 := Lib.hid hb6
              clear hb5 hb6
              go_wp2_with fail
              exact ⟨⟨j + 1, by omega, by go_num, HB6.out, HA2.out⟩, by simp [intOf]; omega⟩
          · have hall : n.words.all wordOk = true := by rw [ha2, List.drop_eq_nil_of_le (by omega)]; rfl
            have lj : ¬ (j : Int) < n.words.length := by omega
            have hblk2 : wr.heap[wo.heap.size]? = _ := (hb2.block _ (by omega)).trans HBLK.out
            have e3 := Joins.cell_of_block hblk2 3
            have e4 := Joins.cell_of_block hblk2 4
            have HB3 := Lib.hid (HB.out.trans (hb2.mono hwz))
            have HKK3 := Lib.hid (HKK.out.below (hb2.mono (by omega)))
            have hB4 : B ≤ wr.heap.size := by omega
            clear hb2 ha2 hblk2
            cases hbl : n.block
            · rw [hbl] at e3
              by_cases hk0 : 0 < n.kids.length
              · have HR := Lib.hid (show checkL d l = 1 by rw [HS.out, HST.out, hbl]; simp [hk0])
                have hk0' : (0 : Int) < n.kids.length := by omega
                clear HST HS hw8 hall
                go_wp2_with fail
                go_ret
                exact ⟨by rw [HR.out]; rfl, HB3.out⟩
              · have hkn : n.kids = [] := List.eq_nil_of_length_eq_zero (by omega)
                have HR := Lib.hid (show checkL d l = checkL d (l.drop (k + 1)) by rw [HS.out, HST.out, hall, HNM1.out, hbl, hkn]; simp [hw8, checkL_nil])
                have HI := Lib.hid (HIH.out [] Ak ck wr B (d + 1) (by simp only [cntL]; omega) (by simp only [cntL]; omega) hB4 (by have := HKK3.out; rw [hkn] at this; exact this) (by omega) (by simp only [fitNs]))
                rw [checkL_nil] at HI
                have HI2 := Lib.hid (show Calls Try.prog 68 #[.slice Ak 0 ck, .int .i64 ((d : Int) + 1)] wr fun e w' => e = .returned (.int .i64 0) ∧ Below wr.heap.size wr w' from HI.out)
                rw [hkn] at e4
                simp only [List.length_nil] at e4
                clear HST HS hw8 HI hall
                go_wp2_with fail
                refine HI2.out.mono ?_
                rintro e w5 ⟨rfl, hb5⟩
                have HB5 := Lib.hid (HB3.out.trans (hb5.mono HB3.out.size))
                clear hb5
                go_wp2_with fail
                exact ⟨⟨k + 1, by omega, by go_num, HB5.out, HR.out⟩, by simp [intOf]; omega⟩
            · rw [hbl] at e3
              by_cases hd6 : d = 6
              · have HR := Lib.hid (show checkL d l = 7 by rw [HS.out, HST.out, hall, HNM1.out, hbl]; simp [hw8, hd6])
                have hd6' : ((d : Int) == 6) = true := by simp [hd6]
                clear HST HS hw8 hd6 hall
                go_wp2_with fail
                go_ret
                exact ⟨by rw [HR.out]; rfl, HB3.out⟩
              · have hd6' : ((d : Int) == 6) = false := beq_false_of_ne (by omega)
                have HR := Lib.hid (show checkL d l = if checkL (d + 1) n.kids ≠ 0 then checkL (d + 1) n.kids else checkL d (l.drop (k + 1)) by rw [HS.out, HST.out, hall, HNM1.out, hbl]; simp [hw8, hd6])
                have HI := Lib.hid (HIH.out n.kids Ak ck wr B (d + 1) (by omega) (by omega) hB4 HKK3.out (by omega) HF5.out)
                have HI2 := Lib.hid (show Calls Try.prog 68 #[.slice Ak n.kids.length ck, .int .i64 ((d : Int) + 1)] wr fun e w' => e = .returned (.int .i64 (checkL (d + 1) n.kids)) ∧ Below wr.heap.size wr w' from HI.out)
                clear HST HS hw8 HI hd6 hall
                generalize checkL (d + 1) n.kids = y at *
                by_cases hy : y = 0
                · subst hy
                  rw [if_neg (by simp)] at HR
                  go_wp2_with fail
                  refine HI2.out.mono ?_
                  rintro e w5 ⟨rfl, hb5⟩
                  have HB5 := Lib.hid (HB3.out.trans (hb5.mono HB3.out.size))
                  clear hb5
                  go_wp2_with fail
                  exact ⟨⟨k + 1, by omega, by go_num, HB5.out, HR.out⟩, by simp [intOf]; omega⟩
                · rw [if_pos hy] at HR
                  have hy' : (y != 0) = true := by simpa using hy
                  clear hy
                  go_wp2_with fail
                  refine HI2.out.mono ?_
                  rintro e w5 ⟨rfl, hb5⟩
                  have HB5 := Lib.hid (HB3.out.trans (hb5.mono HB3.out.size))
                  clear hb5
                  go_wp2_with fail
                  go_ret
                  exact ⟨by rw [HR.out]; rfl, HB5.out⟩
      · have lk : ¬ (k : Int) < l.length := by omega
        have hs2 : checkL d l = 0 := by rw [hs, List.drop_eq_nil_of_le (by omega), checkL_nil]
        have HS2 := Lib.hid hs2
        clear hs hs2
        go_wp2_with fail
        go_ret
        exact ⟨by rw [HS2.out]; rfl, hb⟩

theorem ref9_Check (l : List NodeL) (A : Option Addr) (c : Nat) (w : World) (B : Nat) (hsm : cntL l ≤ 100000) (hB : B ≤ w.heap.size) (hok : ROk w B A l) (hfit : fitNs l) :
    Calls Try.prog 31 #[.slice A l.length c] w fun e w' => e = .returned (.int .i64 (checkL 0 l)) ∧ Below w.heap.size w w' := by
  have H := Lib.hid (ref9_check (cntL l + 1) l A c w B 0 (by omega) hsm hB hok (by omega) hfit)
  clear hok hfit
  go_enter Try.func31, Try.ntmps31
  go_wp2_with fail
  refine H.out.mono ?_
  rintro e w1 ⟨rfl, hb1⟩
  go_wp2
  go_ret
  exact ⟨rfl, hb1⟩

end Go.Proofs.Ytmiejdbpogggeaa
