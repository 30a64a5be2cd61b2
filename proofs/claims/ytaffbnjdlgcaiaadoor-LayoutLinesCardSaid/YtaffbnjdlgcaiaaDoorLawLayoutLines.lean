/- The law LayoutLines walked: it answers true at every text. -/
import Derived.Test.YtaffbnjdlgcaiaaDoorLayD
import Derived.Test.YtaffbnjdlgcaiaaDoorLayS
import Derived.LoopTactic
set_option linter.unusedVariables false
set_option linter.unusedSimpArgs false
namespace Go.Proofs.YtaffbnjdlgcaiaaDoor
open Go.RowKit

theorem clean_drop : ∀ (u : Bytes) (k : Nat), clean u → clean (u.drop k)
  | u, 0, h => h
  | [], k + 1, h => h
  | [c], k + 1, h => by simp [clean]
  | c :: d :: r, k + 1, h => clean_drop (d :: r) k h.2.2.2
/-- The bytes of a line, one by one. -/
theorem line_bytes (S : ByteArray) (mg : Nat) (u : Bytes) (hS : S.data.toList = List.replicate mg 32 ++ u) (hu : bodyOk u) :
    S.size = mg + u.length ∧ mg < S.size ∧ (∀ k (h : k < S.size), k < mg → (S[k].toNat : Int) = 32) ∧ (∀ (h : mg < S.size), ((S[mg].toNat : Int) == 32) = false) ∧
    (∀ k (h : k < S.size) (h' : k + 1 < S.size), mg ≤ k → ((((S[k].toNat : Int) == 32) = true ∧ ((S[k + 1].toNat : Int) == 32) = false) ∨ ((S[k].toNat : Int) == 32) = false) ∧ ((S[k].toNat : Int) == 9) = false ∧ ((S[k].toNat : Int) == 35) = false) := by
  have hsz : S.size = mg + u.length := by rw [← ba_len, hS, List.length_append, List.length_replicate]
  obtain ⟨hc, ⟨c0, r0, hu0, hc0⟩, _⟩ := hu
  have hul : 0 < u.length := by rw [hu0]; simp
  have hget : ∀ k (h : k < S.size), mg ≤ k → u[k - mg]? = some S[k] := by
    intro k h hk
    rw [← ba_get? S k h, hS, List.getElem?_append_right (by simpa using hk)]
    simp
  have hint : ∀ (a b : UInt8), a ≠ b → ((a.toNat : Int) == (b.toNat : Int)) = false := by
    intro a b h
    refine beq_false_of_ne (fun e => h (UInt8.toNat_inj.1 (by omega)))
  refine ⟨hsz, by omega, fun k h hk => ?_, fun h => ?_, fun k h h' hk => ?_⟩
  · have : (S.data.toList)[k]? = some 32 := by
      rw [hS, List.getElem?_append_left (by simpa using hk), List.getElem?_replicate, if_pos hk]
    rw [ba_get? S k h] at this
    have := Option.some.inj this
    rw [this]; rfl
  · have h1 := hget mg h (Nat.le_refl _)
    rw [Nat.sub_self, hu0] at h1
    have := Option.some.inj h1
    rw [← this]
    exact hint c0 32 hc0
  · have h1 := hget k h hk
    have h2 := hget (k + 1) h' (by omega)
    have hd := clean_drop u (k - mg) hc
    have hlt : k - mg < u.length := by omega
    have hlt2 : k - mg + 1 < u.length := by omega
    rw [List.drop_eq_getElem_cons hlt, List.drop_eq_getElem_cons hlt2] at hd
    rw [List.getElem?_eq_getElem hlt] at h1
    rw [show k + 1 - mg = k - mg + 1 by omega, List.getElem?_eq_getElem hlt2] at h2
    rw [Option.some.inj h1, Option.some.inj h2] at hd
    obtain ⟨q1, q2, q3, _⟩ := hd
    refine ⟨?_, hint _ 9 q2, hint _ 35 q3⟩
    by_cases h32 : S[k] = 32
    · exact Or.inl ⟨by rw [h32]; rfl, hint _ 32 (fun e => q1 ⟨h32, e⟩)⟩
    · exact Or.inr (hint _ 32 h32)
theorem line_last (S : ByteArray) (mg : Nat) (u : Bytes) (last : UInt8) (hS : S.data.toList = List.replicate mg 32 ++ u) (hl : u.getLast? = some last) (h : S.size - 1 < S.size) : S[S.size - 1] = last := by
  have h1 : S.data.toList.getLast? = some last := by rw [hS, List.getLast?_append, hl]; rfl
  rw [List.getLast?_eq_getElem?, ba_len, ba_get? S (S.size - 1) h] at h1
  exact Option.some.inj h1

theorem ba_push (S T : ByteArray) (q : Nat) (h : q < T.size) : (S ++ T.extract q (q + 1)).data.toList = S.data.toList ++ [T[q]] := by
  rw [ByteArray.data_append, Array.toList_append, ba_extract, ba_take_snoc T q h, List.drop_append, List.drop_of_length_le (by simp; exact Nat.min_le_left _ _)]
  simp
  rw [Nat.min_eq_left (Nat.le_of_lt h), Nat.sub_self]
  rfl

set_option maxRecDepth 100000 in
set_option maxHeartbeats 8000000 in
theorem walk_LayoutLines (w : World) (ht : Tab w) (hsp : SpaceTab w) (s : ByteArray) (hs : s.size ≤ maxLen) :
    Calls Tryd.prog 5 #[.string s] w fun e w' => e = .returned (.bool true) ∧ Below w.heap.size w w' := by
  have hs' := hs
  unfold maxLen at hs'
  have HV := Lib.hid (law10_live w ht hsp)
  by_cases hbig : 400 < s.size
  · clear ht hsp
    go_enter Tryd.func5, Tryd.ntmps5
    go_wp2_with fail
    refine HV.out.mono ?_
    rintro e w1 ⟨rfl, hb1⟩
    go_wp2_with fail
    go_ret
    exact ⟨rfl, hb1⟩
  have hls : s.data.toList.length ≤ 400 := by rw [ba_len]; omega
  have hg1 := hsp.lt
  have hg2 := ht.lt
  have HCA := Lib.hid (fun (W : World) (hb : Below w.heap.size w W) => layout_Canon s W (by omega) (canon_in _ hls) (ht.below hb) (hsp.below hb) (by have := hb.size; omega) (by have := hb.size; omega))
  by_cases he : (canonL s.data.toList).2.2 = 0
  · obtain ⟨o1, _⟩ := canon_out s.data.toList hls he
    have hscan := canon_scan s.data.toList he
    generalize canonL s.data.toList = C at *
    obtain ⟨t, p, e⟩ := C
    simp only at he o1 hscan HCA
    subst he
    obtain ⟨T, hT⟩ : ∃ T : ByteArray, T = ⟨t.toArray⟩ := ⟨_, rfl⟩
    have hTl : T.data.toList = t := by rw [hT]
    have hTs : T.size ≤ 65536 := by rw [← ba_len, hTl]; exact o1
    rw [← hTl] at hscan
    rw [← hT] at HCA
    have HSC := Lib.hid hscan
    clear ht hsp hls o1 hT hTl hscan
    go_enter Tryd.func5, Tryd.ntmps5
    go_wp2_with fail
    refine HV.out.mono ?_
    rintro e w1 ⟨rfl, hb1⟩
    have HB1 := Lib.hid hb1
    clear hb1
    go_wp2_with fail
    refine (HCA.out w1 HB1.out).mono ?_
    rintro e w2 ⟨rfl, hb2⟩
    have HB2 := Lib.hid (HB1.out.trans (hb2.mono HB1.out.size))
    clear hb2
    go_wp2_with fail
    go_loop [6, 7, 29] (fun dv lv iv => ∃ (d : Int) (S : ByteArray) (q : Nat), dv = .int .i64 d ∧ lv = .string S ∧ iv = .int .i64 q ∧ q ≤ T.size ∧ S.size ≤ q ∧ -(q : Int) ≤ d ∧ d ≤ q ∧ Scan d S.data.toList (T.data.toList.drop q)) (fun _ _ iv => T.size - (intOf iv).toNat)
    case atStart => exact ⟨0, ⟨#[]⟩, 0, rfl, rfl, rfl, Nat.zero_le _, Nat.zero_le _, by omega, by omega, HSC.out⟩
    case round =>
      obtain ⟨d, S, q, rfl, rfl, rfl, hq, hSq, hd1, hd2, hscan⟩ := hrel
      by_cases hlt : q < T.size
      · rw [ba_drop_cons T q hlt] at hscan
        have hqi : (q : Int) < T.size := by omega
        have w1f : IntKind.i64.wrap ((q : Int) + 1) = (q : Int) + 1 := by rw [IntKind.wrap_i64]; omega
        generalize hrest : T.data.toList.drop (q + 1) = rest at hscan
        have HR := Lib.hid hrest
        clear hrest
        generalize hcq : T[q] = c at hscan
        generalize hsl : S.data.toList = ln at hscan
        have HSL := Lib.hid hsl
        clear hsl
        cases hscan with
        | more hc h =>
          have hb : ((T[q].toNat : Int) != 10) = true := by
            rw [hcq, bne_iff_ne]
            intro e
            exact hc (UInt8.toNat_inj.1 (by have : (10 : UInt8).toNat = 10 := rfl; omega))
          have HSN := Lib.hid h
          have HC := Lib.hid hcq
          have HNO := Lib.hid (show ¬ (9223372036854775807 < S.size + 1) by omega)
          clear h hc hcq
          go_wp2_with fail
          have hpu := ba_push S T q hlt
          rw [HSL.out, HC.out] at hpu
          refine ⟨⟨d, S ++ T.extract q (q + 1), q + 1, rfl, rfl, by go_num, by omega, ?_, by omega, by omega, ?_⟩, by simp [intOf]; omega⟩
          · rw [← ba_len, hpu, ← HSL.out, List.length_append, ba_len]; simp; omega
          · rw [hpu, HR.out]; exact HSN.out
        | line hp h =>
          rename_i d'
          obtain ⟨mg, u, last, dd, e1, e2, e3, e4, e5, e6, e7⟩ := hp.ex
          rw [← HSL.out] at e1
          obtain ⟨b1, b2, b3, b4, b5⟩ := line_bytes S mg u e1 e2
          have hz6 : S.size - 1 < S.size := by omega
          have b6 := line_last S mg u last e1 e3 hz6
          have hb : ((T[q].toNat : Int) != 10) = false := by
            rw [hcq]; rfl
          have hz : ((S.size : Int) == 0) = false := beq_false_of_ne (by omega)
          have hsz : S.size ≤ 65536 := by omega
          have hs1 : 0 < S.size := by omega
          have hi1 : (S.size : Int) - 1 < S.size := by omega
          have hi0 : (1 : Int) ≤ S.size := by omega
          have HSN := Lib.hid h
          have HR2 := Lib.hid b3
          have HR4 := Lib.hid b4
          have HR5 := Lib.hid b5
          have HE5 := Lib.hid e5
          have HE7 := Lib.hid e7
          have HB1' := Lib.hid b1
          clear h hp e1 e2 e3 b1 b3 b4 b5 e5 e7 hcq
          rcases e6 with rfl | rfl | rfl
          · have hL : (S[S.size - 1].toNat : Int) = 125 := by rw [b6]; rfl
            have hdd : dd = d - 1 := by simpa using e4
            have hm5 : ((mg : Int) != 2 * (d - 1)) = false := by
              have := HE5.out
              rw [hdd] at this
              rw [this]
              simp
            have hd' : d' = d - 1 := by
              have := HE7.out
              rw [hdd] at this
              simpa using this
            have HSN2 := Lib.hid (show Scan (d - 1) [] rest by rw [← hd']; exact HSN.out)
            clear b6 e4 hdd hd'
            go_wp2_with fail
            go_loop [10] (fun mv => ∃ k : Nat, mv = .int .i64 k ∧ k ≤ mg) (fun mv => mg - (intOf mv).toNat)
            case atStart => exact ⟨0, rfl, Nat.zero_le _⟩
            case round =>
              obtain ⟨k, rfl, hkm⟩ := hrel
              by_cases hk : k < mg
              · have hks : k < S.size := by omega
                have hki : (k : Int) < S.size := by omega
                have f1 := HR2.out k hks hk
                go_wp2_with fail
                exact ⟨⟨k + 1, by go_num, by omega⟩, by simp [intOf]; omega⟩
              · have hkk : mg = k := by omega
                have hki : (k : Int) < S.size := by omega
                subst hkk
                have f1 := HR4.out b2
                go_wp2_with fail
                go_loop [11] (fun kv => ∃ m : Nat, kv = .int .i64 m ∧ mg ≤ m ∧ m ≤ S.size) (fun kv => S.size - (intOf kv).toNat)
                case atStart => exact ⟨mg, rfl, Nat.le_refl _, by omega⟩
                case round =>
                  obtain ⟨m, rfl, hmm, hms2⟩ := hrel
                  by_cases hm : m + 1 < S.size
                  · have hms : m < S.size := by omega
                    have hmi : (m : Int) + 1 < S.size := by omega
                    obtain ⟨g1, g2, g3⟩ := HR5.out m hms hm hmm
                    rcases g1 with ⟨g1, g4⟩ | g1
                    · go_wp2_with fail
                      exact ⟨⟨m + 1, by go_num, by omega, by omega⟩, by simp [intOf]; omega⟩
                    · go_wp2_with fail
                      exact ⟨⟨m + 1, by go_num, by omega, by omega⟩, by simp [intOf]; omega⟩
                  · have hmi : ¬ (m : Int) + 1 < S.size := by omega
                    go_wp2_with fail
                    refine ⟨⟨d - 1, ⟨#[]⟩, q + 1, rfl, rfl, by go_num, by omega, Nat.zero_le _, by omega, by omega, ?_⟩, by simp [intOf]; omega⟩
                    rw [HR.out]
                    exact HSN2.out
          · have hL : (S[S.size - 1].toNat : Int) = 123 := by rw [b6]; rfl
            have hdd : dd = d := by simpa using e4
            have hm5 : ((mg : Int) != 2 * (d)) = false := by
              have := HE5.out
              rw [hdd] at this
              rw [this]
              simp
            have hd' : d' = d + 1 := by
              have := HE7.out
              rw [hdd] at this
              simpa using this
            have HSN2 := Lib.hid (show Scan (d + 1) [] rest by rw [← hd']; exact HSN.out)
            clear b6 e4 hdd hd'
            go_wp2_with fail
            go_loop [10] (fun mv => ∃ k : Nat, mv = .int .i64 k ∧ k ≤ mg) (fun mv => mg - (intOf mv).toNat)
            case atStart => exact ⟨0, rfl, Nat.zero_le _⟩
            case round =>
              obtain ⟨k, rfl, hkm⟩ := hrel
              by_cases hk : k < mg
              · have hks : k < S.size := by omega
                have hki : (k : Int) < S.size := by omega
                have f1 := HR2.out k hks hk
                go_wp2_with fail
                exact ⟨⟨k + 1, by go_num, by omega⟩, by simp [intOf]; omega⟩
              · have hkk : mg = k := by omega
                have hki : (k : Int) < S.size := by omega
                subst hkk
                have f1 := HR4.out b2
                go_wp2_with fail
                go_loop [11] (fun kv => ∃ m : Nat, kv = .int .i64 m ∧ mg ≤ m ∧ m ≤ S.size) (fun kv => S.size - (intOf kv).toNat)
                case atStart => exact ⟨mg, rfl, Nat.le_refl _, by omega⟩
                case round =>
                  obtain ⟨m, rfl, hmm, hms2⟩ := hrel
                  by_cases hm : m + 1 < S.size
                  · have hms : m < S.size := by omega
                    have hmi : (m : Int) + 1 < S.size := by omega
                    obtain ⟨g1, g2, g3⟩ := HR5.out m hms hm hmm
                    rcases g1 with ⟨g1, g4⟩ | g1
                    · go_wp2_with fail
                      exact ⟨⟨m + 1, by go_num, by omega, by omega⟩, by simp [intOf]; omega⟩
                    · go_wp2_with fail
                      exact ⟨⟨m + 1, by go_num, by omega, by omega⟩, by simp [intOf]; omega⟩
                  · have hmi : ¬ (m : Int) + 1 < S.size := by omega
                    go_wp2_with fail
                    refine ⟨⟨d + 1, ⟨#[]⟩, q + 1, rfl, rfl, by go_num, by omega, Nat.zero_le _, by omega, by omega, ?_⟩, by simp [intOf]; omega⟩
                    rw [HR.out]
                    exact HSN2.out
          · have hL : (S[S.size - 1].toNat : Int) = 59 := by rw [b6]; rfl
            have hdd : dd = d := by simpa using e4
            have hm5 : ((mg : Int) != 2 * (d)) = false := by
              have := HE5.out
              rw [hdd] at this
              rw [this]
              simp
            have hd' : d' = d := by
              have := HE7.out
              rw [hdd] at this
              simpa using this
            have HSN2 := Lib.hid (show Scan (d) [] rest by rw [← hd']; exact HSN.out)
            clear b6 e4 hdd hd'
            go_wp2_with fail
            go_loop [10] (fun mv => ∃ k : Nat, mv = .int .i64 k ∧ k ≤ mg) (fun mv => mg - (intOf mv).toNat)
            case atStart => exact ⟨0, rfl, Nat.zero_le _⟩
            case round =>
              obtain ⟨k, rfl, hkm⟩ := hrel
              by_cases hk : k < mg
              · have hks : k < S.size := by omega
                have hki : (k : Int) < S.size := by omega
                have f1 := HR2.out k hks hk
                go_wp2_with fail
                exact ⟨⟨k + 1, by go_num, by omega⟩, by simp [intOf]; omega⟩
              · have hkk : mg = k := by omega
                have hki : (k : Int) < S.size := by omega
                subst hkk
                have f1 := HR4.out b2
                go_wp2_with fail
                go_loop [11] (fun kv => ∃ m : Nat, kv = .int .i64 m ∧ mg ≤ m ∧ m ≤ S.size) (fun kv => S.size - (intOf kv).toNat)
                case atStart => exact ⟨mg, rfl, Nat.le_refl _, by omega⟩
                case round =>
                  obtain ⟨m, rfl, hmm, hms2⟩ := hrel
                  by_cases hm : m + 1 < S.size
                  · have hms : m < S.size := by omega
                    have hmi : (m : Int) + 1 < S.size := by omega
                    obtain ⟨g1, g2, g3⟩ := HR5.out m hms hm hmm
                    rcases g1 with ⟨g1, g4⟩ | g1
                    · go_wp2_with fail
                      exact ⟨⟨m + 1, by go_num, by omega, by omega⟩, by simp [intOf]; omega⟩
                    · go_wp2_with fail
                      exact ⟨⟨m + 1, by go_num, by omega, by omega⟩, by simp [intOf]; omega⟩
                  · have hmi : ¬ (m : Int) + 1 < S.size := by omega
                    go_wp2_with fail
                    refine ⟨⟨d, ⟨#[]⟩, q + 1, rfl, rfl, by go_num, by omega, Nat.zero_le _, by omega, by omega, ?_⟩, by simp [intOf]; omega⟩
                    rw [HR.out]
                    exact HSN2.out
      · have hqq : q = T.size := by omega
        have hqi : ¬ (q : Int) < T.size := by omega
        rw [hqq, ba_drop_nil T T.size (Nat.le_refl _)] at hscan
        generalize hsl : S.data.toList = ln at hscan
        cases hscan
        have hS0 : S = ⟨#[]⟩ := ba_ext (by rw [hsl])
        subst hS0
        clear hsl hqq
        go_wp2_with fail
        go_ret
        exact ⟨by first | rfl | exact ret_bool (by simp), HB2.out⟩
  · have c1 := canon_err s.data.toList he
    have hne : ((canonL s.data.toList).2.2 == 0) = false := beq_false_of_ne he
    generalize canonL s.data.toList = C at *
    obtain ⟨t, p, e⟩ := C
    simp only at he c1 hne HCA
    subst c1
    have HE := Lib.hid he
    clear ht hsp hls he
    go_enter Tryd.func5, Tryd.ntmps5
    go_wp2_with fail
    refine HV.out.mono ?_
    rintro e w1 ⟨rfl, hb1⟩
    have HB1 := Lib.hid hb1
    clear hb1
    go_wp2_with fail
    refine (HCA.out w1 HB1.out).mono ?_
    rintro e w2 ⟨rfl, hb2⟩
    have HB2 := Lib.hid (HB1.out.trans (hb2.mono HB1.out.size))
    clear hb2
    go_wp2_with fail
    go_ret
    exact ⟨by first | rfl | exact ret_bool (by simp), HB2.out⟩

end Go.Proofs.YtaffbnjdlgcaiaaDoor
