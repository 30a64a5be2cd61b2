/- Layer 8, the laws: the walk of LexPlaces. -/
import Derived.Test.YtmfaoglehopoiaaDoorLawLexBack
import Derived.IntWalk
namespace Go.Proofs.YtmfaoglehopoiaaDoor
open Go.RowKit

theorem flat_one (t : Tok) : [t].flatMap Tok.cells = t.cells := by simp

/-- Join of one token that lies in a block. -/
theorem join_of_one (t : Tok) (g : Nat) (W : World) (hg : g < W.heap.size) (hc : ∀ j u, t.cells[j]? = some u → W.cell? ((⟨g, 0, none⟩ : Addr).add j) = some u) (hT : Tab W) (h : (textL t).2 = true) :
    Calls Tryd.prog 7 #[.slice (some ⟨g, 0, none⟩) 1 1] W fun e w' => e = .returned (.tuple #[.string ⟨(textL t).1.toArray⟩, .int .i64 0]) ∧ Below W.heap.size W w' := by
  have := lex_Join (some ⟨g, 0, none⟩) 1 [t] W ⟨by simp [Tok.cells], fun _ => ⟨_, rfl, hg, by rw [flat_one]; exact hc⟩⟩ hT (by unfold maxLen; simp) (fits_join (by simpa using h))
  rw [join_one_tok t h] at this
  exact this

theorem ba_piece (s : ByteArray) (p : Nat) (U : Bytes) (h : (s.data.toList.drop p).take U.length = U) : s.extract p (p + U.length) = ⟨U.toArray⟩ := by
  apply ba_ext
  rw [ba_extract, ba_mk, List.drop_take, Nat.add_sub_cancel_left, h]

set_option maxRecDepth 100000 in
set_option maxHeartbeats 4000000 in
theorem walk_LexPlaces (w : World) (ht : Tab w) (s : ByteArray) (hs : s.size ≤ maxLen) :
    Calls Tryd.prog 5 #[.string s] w fun e w' => e = .returned (.bool true) ∧ Below w.heap.size w w' := by
  have HV := Lib.hid (law8_live w)
  have HT := Lib.hid (fun W (hb : Below w.heap.size w W) => ht.below hb)
  have hs' := hs
  unfold maxLen at hs'
  clear ht
  by_cases hbig : 400 < s.size
  · clear HT
    go_enter Tryd.func5, Tryd.ntmps5
    go_wp2_with fail
    refine HV.out.mono ?_
    rintro e w1 ⟨rfl, hb1⟩
    go_wp2_with fail
    go_ret
    exact ⟨rfl, hb1⟩
  have hc := fun W => lex_Cut s W hs
  have hlen := cutL_len s.data.toList
  rw [ba_len] at hlen
  have hnil := cut_err_pos s.data.toList (by rw [ba_len]; omega)
  rw [ba_len] at hnil
  have hpl := cut_placed s.data.toList (by rw [ba_len]; omega)
  generalize cutL s.data.toList = R at *
  obtain ⟨toks, p, er⟩ := R
  simp only at *
  have HC := Lib.hid hc
  clear hc
  by_cases hF : er = 0
  · subst hF
    have HP := Lib.hid (hpl rfl)
    clear hpl hnil
    go_enter Tryd.func5, Tryd.ntmps5
    go_wp2_with fail
    refine HV.out.mono ?_
    rintro e w1 ⟨rfl, hb1⟩
    go_wp2_with fail
    refine (HC.out w1).mono ?_
    rintro e w5 ⟨v, rfl, hown, hb5⟩
    obtain ⟨A5, c5, rfl, hnc5⟩ := own_form hown
    have hbY := hb1.trans (hb5.mono hb1.size)
    have hrd := Reads.of_own hown
    clear hown hb1 hb5 HC HV
    go_wp2_with fail
    go_loopw [6, 40] (fun e i wr => ∃ k E : Nat, k ≤ toks.length ∧ i = .int .i64 k ∧ e = .int .i64 E ∧ E ≤ s.size ∧ Below w5.heap.size w5 wr ∧ placed s.data.toList E (toks.drop k)) (fun _ i _ => toks.length - (intOf i).toNat)
    case atStart => exact ⟨0, 0, Nat.zero_le _, rfl, rfl, Nat.zero_le _, Below.refl _ _, HP.out⟩
    case round =>
      obtain ⟨k, E, hk, rfl, rfl, hE, hB, hpl⟩ := hrel
      have hbs := hB.size
      have hbW := hbY.trans (hB.mono hbY.size)
      by_cases hlt : k < toks.length
      · obtain ⟨t, ha⟩ : ∃ t, toks[k]? = some t := ⟨_, List.getElem?_eq_getElem hlt⟩
        rw [List.drop_eq_getElem_cons hlt] at hpl
        have hta : toks[k] = t := by rw [List.getElem?_eq_getElem hlt] at ha; exact Option.some.inj ha
        rw [hta] at hpl
        obtain ⟨hok, q, hq, hEq, hqU, hUq, hfr, hnx⟩ := hpl
        obtain ⟨ad, hA1, hb1, p0, p1, p2, p3⟩ := tok_cells (hrd.below hB) k t ha
        subst hA1
        rw [ba_len] at hqU
        have hpc := ba_piece s q _ hUq
        have HJ := Lib.hid (fun W g hg hc hT => join_of_one t g W hg hc hT hok)
        have HNX := Lib.hid hnx
        have hfl := law8_free (s.extract E q) (hs := by simp; unfold maxLen; omega)
        rw [ba_extract, hfr] at hfl
        have HFL := Lib.hid hfl
        clear ha hta hok hnx hfl hfr hUq
        generalize hU : (textL t).1 = U at *
        clear hU
        obtain ⟨K, P, N, S⟩ := t
        simp only at hq p0 p1 p2 p3
        subst hq
        go_wp2_with fail
        refine (HJ.out _ (wr.heap.size + 1) (by simp) (fun j u h => cells_new _ [.int .i64 K, .int .i64 q, .int .i64 N, .string ⟨S.toArray⟩] _ _ (by simp) j u h) (HT.out _ ((hbW.alloc hbW.size _).alloc (by simp; have := hbW.size; omega) _))).mono ?_
        rintro e w6 ⟨rfl, hb6⟩
        have q1 := hb6.cell (p := ⟨wr.heap.size, 1, none⟩) (by simp <;> omega)
        simp at q1
        have hz6 := hb6.size
        simp at hz6
        have hb6' : Below w5.heap.size w5 w6 := (((hB.alloc hbs _).alloc (by simp; omega) _).trans (hb6.mono (by simp; omega)))
        clear hb6 HJ
        go_wp2_with fail
        refine (HFL.out _).mono ?_
        rintro e w' ⟨rfl, rfl⟩
        go_wp2
        go_roundw
        case rel => exact ⟨k + 1, q + U.length, by omega, by go_num, by go_num, hqU, hb6', HNX.out⟩
        case measure => simp [intOf]; omega
      · obtain rfl : k = toks.length := by omega
        have hfr : freeL false (s.data.toList.drop E) = true := by
          rw [List.drop_eq_nil_of_le (Nat.le_refl _)] at hpl; exact hpl
        have hfl := law8_free (s.extract E s.size) (hs := by simp; unfold maxLen; omega)
        rw [ba_from, hfr] at hfl
        have HFL := Lib.hid hfl
        clear hfl hfr hpl
        go_wp2_with fail
        refine (HFL.out _).mono ?_
        rintro e w' ⟨rfl, rfl⟩
        go_wp2
        go_ret
        exact ⟨rfl, hbW⟩
  · have hF0 : (er != 0) = true := by simpa using hF
    obtain ⟨hn, hp⟩ := hnil hF
    subst hn
    have hmx : decide ((p : Int) < max (s.size : Int) 1) = true := decide_eq_true (by omega)
    clear hF hpl HT
    go_enter Tryd.func5, Tryd.ntmps5
    go_wp2_with fail
    refine HV.out.mono ?_
    rintro e w1 ⟨rfl, hb1⟩
    go_wp2_with fail
    refine (HC.out w1).mono ?_
    rintro e w5 ⟨v, rfl, hown, hb5⟩
    obtain ⟨A5, c5, rfl, hnc5⟩ := own_form hown
    have hbY := hb1.trans (hb5.mono hb1.size)
    go_wp2_with fail
    go_ret
    exact ⟨ret_bool (by first | rfl | (simp; done) | (simp; omega)), hbY⟩

end Go.Proofs.YtmfaoglehopoiaaDoor
