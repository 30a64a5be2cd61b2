/- The law TreeBlock walked: it answers true at every text. -/
import Derived.Test.YtmblooibnmahnaaTreeR2
import Derived.Test.YtmblooibnmahnaaTreeS
import Derived.Test.YtmblooibnmahnaaTreeB
set_option linter.unusedVariables false
set_option linter.unusedSimpArgs false
namespace Go.Proofs.Ytmblooibnmahnaa
open Go.RowKit

theorem ba_block (s : ByteArray) : ((ByteArray.mk #[120, 32, 55, 32, 123]) ++ s ++ (ByteArray.mk #[10, 125])).data.toList = blockT s.data.toList := by
  simp [ByteArray.data_append, blockT]
theorem ba_block_size (s : ByteArray) : ((ByteArray.mk #[120, 32, 55, 32, 123]) ++ s ++ (ByteArray.mk #[10, 125])).size = s.size + 7 := by
  rw [← ba_len, ba_block]; simp [blockT]

set_option maxRecDepth 100000 in
set_option maxHeartbeats 4000000 in
theorem walk_TreeBlock (s : ByteArray) (hs : s.size ≤ maxLen) (w : World) :
    Calls Try.prog 7 #[.string s] w fun e w' => e = .returned (.bool true) ∧ Below w.heap.size w w' := by
  have hs' := hs
  unfold maxLen at hs'
  have HV := Lib.hid (law9_live w)
  by_cases hbig : 200 < s.size
  · go_enter Try.func7, Try.ntmps7
    go_wp2_with fail
    refine HV.out.mono ?_
    rintro e w1 ⟨rfl, hb1⟩
    go_wp2_with fail
    go_ret
    exact ⟨rfl, hb1⟩
  have hls := ba_len s
  have HPS := Lib.hid (fun W => tree_Parse s W hs)
  have hp2 := fun W => tree_Parse ((ByteArray.mk #[120, 32, 55, 32, 123]) ++ s ++ (ByteArray.mk #[10, 125])) W (by rw [ba_block_size]; unfold maxLen; omega)
  rw [ba_block] at hp2
  obtain ⟨hA, hB, hC⟩ := block_tree s.data.toList (by omega)
  by_cases hse : (treeL s.data.toList).err = 0
  · obtain ⟨s1, s2, s3, s4⟩ := right_law s.data.toList (by omega) hse
    by_cases hd : deepL (treeL s.data.toList).nodes = 6
    · obtain ⟨p, hp4, hp⟩ := hB hse hd
      rw [hp] at hp2
      have HP2 := Lib.hid hp2
      have HD := Lib.hid hd
      have HR4 := Lib.hid s4
      generalize treeL s.data.toList = S at *
      obtain ⟨sn, sp, se⟩ := S
      dsimp only at hse HD HR4
      subst hse
      clear hA hB hC hp hp2 hd s1 s2 s3 s4 hls
      go_enter Try.func7, Try.ntmps7
      go_wp2_with fail
      refine HV.out.mono ?_
      rintro e w1 ⟨rfl, hb1⟩
      go_wp2_with fail
      refine (HPS.out _).mono ?_
      rintro e w2 ⟨A, c, kcs, rfl, hnil, hr, hn, hb2⟩
      have hok := ROk.of_parse hr hn
      have HOK := Lib.hid hok
      have hz1 := hb1.size
      have hz2 := hb2.size
      have HB2 := Lib.hid (hb1.trans (hb2.mono hz1))
      clear hnil hr hn hok hb1 hb2
      dsimp only
      go_wp2_with fail
      refine (HP2.out _).mono ?_
      rintro e w3 ⟨A2, c2, kcs2, rfl, hnil2, hr2, hn2, hb3⟩
      have hz3 := hb3.size
      have HOK3 := Lib.hid (HOK.out.below hb3)
      have HB3 := Lib.hid (HB2.out.trans (hb3.mono (by omega)))
      clear hnil2 hr2 hn2 hb3
      dsimp only
      go_wp2_with fail
      refine (tree_Deep (cntL sn + 1) sn A c _ w2.heap.size (by omega) (by have := HR4.out; omega) hz3 HOK3.out).mono ?_
      rintro e w4 ⟨rfl, hb4⟩
      rw [HD.out]
      have HB4 := Lib.hid (HB3.out.trans (hb4.mono (by omega)))
      clear hb4
      go_wp2
      go_ret
      exact ⟨rfl, HB4.out⟩
    · obtain ⟨hbk, hcl⟩ := hC hse hd
      have hck := right_law' (blockT s.data.toList) hcl (by rw [hbk])
      rw [hbk] at hp2 hck
      obtain ⟨hc1, hc2⟩ := hck
      dsimp only at hc1 hc2
      have hsame := sameNs_shift 5 (treeL s.data.toList).nodes
      have hfew := few_of_checkL _ 0 hc1
      have hd6 : ((deepL (treeL s.data.toList).nodes : Int) == 6) = false := by simp; omega
      obtain ⟨f1, f2⟩ := few_at _ 0 _ hfew rfl
      have hcm := cntL_mem _ 0 _ (show [NodeL.mk [120] 0 [⟨true, 7, [], 2⟩] true (sNs 5 (treeL s.data.toList).nodes)][0]? = some _ from rfl)
      simp only [NodeL.kids] at f2 hcm
      obtain ⟨kn, hkn⟩ : ∃ kn, kn = NodeL.mk [120] 0 [⟨true, 7, [], 2⟩] true (sNs 5 (treeL s.data.toList).nodes) := ⟨_, rfl⟩
      have hk1 : kn.name = [120] := by rw [hkn]; rfl
      have hk2 : kn.block = true := by rw [hkn]; rfl
      have hk3 : kn.words = [⟨true, 7, [], 2⟩] := by rw [hkn]; rfl
      have hk4 : kn.kids = sNs 5 (treeL s.data.toList).nodes := by rw [hkn]; rfl
      rw [← hkn] at hp2 hc1 hc2 hcm
      rw [← hk4] at hsame f2 hcm
      have HP2 := Lib.hid hp2
      have HC1 := Lib.hid hc1
      have HC2 := Lib.hid hc2
      have HSAME := Lib.hid hsame
      have HFEW := Lib.hid f2
      have HR4 := Lib.hid s4
      have HK1 := Lib.hid hk1
      have HK2 := Lib.hid hk2
      have HK3 := Lib.hid hk3
      have HCM := Lib.hid hcm
      clear hkn hk4
      generalize treeL s.data.toList = S at *
      obtain ⟨sn, sp, se⟩ := S
      dsimp only at hse HR4 HSAME hd6
      subst hse
      clear hA hB hC hbk hcl hp2 hd s1 s2 s3 s4 hls hc1 hc2 hsame hfew f1 f2 hk1 hk2 hk3 hcm
      go_enter Try.func7, Try.ntmps7
      go_wp2_with fail
      refine HV.out.mono ?_
      rintro e w1 ⟨rfl, hb1⟩
      go_wp2_with fail
      refine (HPS.out _).mono ?_
      rintro e w2 ⟨A, c, kcs, rfl, hnil, hr, hn, hb2⟩
      have hok := ROk.of_parse hr hn
      have HOK := Lib.hid hok
      have hz1 := hb1.size
      have hz2 := hb2.size
      have HB2 := Lib.hid (hb1.trans (hb2.mono hz1))
      clear hnil hr hn hok hb1 hb2
      dsimp only
      go_wp2_with fail
      refine (HP2.out _).mono ?_
      rintro e w3 ⟨A2, c2, kcs2, rfl, hnil2, hr2, hn2, hb3⟩
      have hz3 := hb3.size
      have hok2 := ROk.of_parse hr2 hn2
      have HOK2 := Lib.hid hok2
      have HOK3 := Lib.hid (HOK.out.below hb3)
      have HB3 := Lib.hid (HB2.out.trans (hb3.mono (by omega)))
      clear hnil2 hr2 hn2 hb3 hok2
      dsimp only [List.length_cons, List.length_nil]
      go_wp2_with fail
      refine (tree_Deep (cntL sn + 1) sn A c _ w2.heap.size (by omega) (by have := HR4.out; omega) hz3 HOK3.out).mono ?_
      rintro e w4 ⟨rfl, hb4⟩
      have hz4 := hb4.size
      have HB4 := Lib.hid (HB3.out.trans (hb4.mono (by omega)))
      have HOK4 := Lib.hid (HOK3.out.below (hb4.mono hz3))
      have HOK24 := Lib.hid (HOK2.out.below hb4)
      clear hb4
      go_wp2_with fail
      refine (ref9_Few [kn] A2 c2 _ w3.heap.size 400 (by have := HC2.out; omega) (by omega) hz4 HOK24.out HC1.out).mono ?_
      rintro e w5 ⟨rfl, hb5⟩
      have hz5 := hb5.size
      have HB5 := Lib.hid (HB4.out.trans (hb5.mono (by omega)))
      have HOK5 := Lib.hid (HOK4.out.below (hb5.mono (by omega)))
      have HOK25 := Lib.hid (HOK24.out.below (hb5.mono hz4))
      clear hb5
      obtain ⟨ad, Aw, cw, Ak, ck, rfl, had, c0, c1, c2', c3, c4, hw, hk⟩ := HOK25.out.at 0 kn rfl
      obtain ⟨bd, rfl, hbd, d0, d1, d2, d3⟩ := word_cells hw 0 _ (by rw [HK3.out]; rfl)
      rw [HK1.out] at c0
      rw [HK2.out] at c3
      rw [HK3.out] at c2'
      have hsm := tree_Same kn.kids sn Ak A ck c w5 w5.heap.size (by have := HC2.out; have := HCM.out; omega) HFEW.out (Nat.le_refl _) (by obtain ⟨cs, g1, g2⟩ := hk; exact ⟨cs, g1.keep (fun b hb => by have : b < w3.heap.size := hb; omega) (fun _ _ => rfl), NodesOk.keep (fun b hb => by have : b < w3.heap.size := hb; omega) (fun _ _ => rfl) _ _ g2⟩) (by obtain ⟨cs, g1, g2⟩ := HOK5.out; exact ⟨cs, g1.keep (fun b hb => by have : b < w2.heap.size := hb; omega) (fun _ _ => rfl), NodesOk.keep (fun b hb => by have : b < w2.heap.size := hb; omega) (fun _ _ => rfl) _ _ g2⟩)
      rw [HSAME.out] at hsm
      have HSM := Lib.hid hsm
      clear hsm hw hk
      have hz5 : ad.add (0 * 5) = ad := by unfold Addr.add; simp
      have hz6 : bd.add (0 * 4) = bd := by unfold Addr.add; simp
      rw [hz5] at c0 c1 c2' c3 c4
      rw [hz6] at d0 d1 d2 d3
      dsimp only [List.length_cons, List.length_nil] at c2'
      clear hz5 hz6
      go_wp2_with fail
      refine HSM.out.mono ?_
      rintro e w6 ⟨rfl, hb6⟩
      have HB6 := Lib.hid (HB5.out.trans (hb6.mono (by omega)))
      clear hb6
      go_wp2
      go_ret
      exact ⟨rfl, HB6.out⟩
  · have hse' : ((treeL s.data.toList).err != 0) = true := by simpa using hse
    have hA' := hA hse
    generalize treeL s.data.toList = S at *
    generalize treeL (blockT s.data.toList) = K at *
    obtain ⟨sn, sp, se⟩ := S
    obtain ⟨kn, kp, ke⟩ := K
    dsimp only at hse' hA'
    rw [hls] at hA'
    have HP2 := Lib.hid hp2
    clear hA hB hC hse hp2
    by_cases hke : ke = 0
    · have hsp : sp < (s.size : Int) := by rcases hA' with h | h; exact absurd hke h; exact h
      subst hke
      clear hA'
      go_enter Try.func7, Try.ntmps7
      go_wp2_with fail
      refine HV.out.mono ?_
      rintro e w1 ⟨rfl, hb1⟩
      go_wp2_with fail
      refine (HPS.out _).mono ?_
      rintro e w2 ⟨A, c, kcs, rfl, hnil, hr, hn, hb2⟩
      have hz1 := hb1.size
      have hz2 := hb2.size
      have HB2 := Lib.hid (hb1.trans (hb2.mono hz1))
      clear hnil hr hn hb1 hb2
      dsimp only
      go_wp2_with fail
      refine (HP2.out _).mono ?_
      rintro e w3 ⟨A2, c2, kcs2, rfl, hnil2, hr2, hn2, hb3⟩
      have HB3 := Lib.hid (HB2.out.trans (hb3.mono (by omega)))
      clear hnil2 hr2 hn2 hb3
      dsimp only
      go_wp2
      go_ret
      exact ⟨rfl, HB3.out⟩
    · have hke' : (ke != 0) = true := by simpa using hke
      clear hA' hke
      go_enter Try.func7, Try.ntmps7
      go_wp2_with fail
      refine HV.out.mono ?_
      rintro e w1 ⟨rfl, hb1⟩
      go_wp2_with fail
      refine (HPS.out _).mono ?_
      rintro e w2 ⟨A, c, kcs, rfl, hnil, hr, hn, hb2⟩
      have hz1 := hb1.size
      have hz2 := hb2.size
      have HB2 := Lib.hid (hb1.trans (hb2.mono hz1))
      clear hnil hr hn hb1 hb2
      dsimp only
      go_wp2_with fail
      refine (HP2.out _).mono ?_
      rintro e w3 ⟨A2, c2, kcs2, rfl, hnil2, hr2, hn2, hb3⟩
      have HB3 := Lib.hid (HB2.out.trans (hb3.mono (by omega)))
      clear hnil2 hr2 hn2 hb3
      dsimp only
      go_wp2
      go_ret
      exact ⟨rfl, HB3.out⟩

end Go.Proofs.Ytmblooibnmahnaa
