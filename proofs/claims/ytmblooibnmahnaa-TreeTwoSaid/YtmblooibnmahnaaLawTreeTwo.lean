/- The law TreeTwo walked: it answers true at every two texts. -/
import Derived.Test.YtmblooibnmahnaaTreeR2
import Derived.Test.YtmblooibnmahnaaTreeS
import Derived.Test.YtmblooibnmahnaaTreeT
import Derived.Test.YtmblooibnmahnaaAppend
set_option linter.unusedVariables false
set_option linter.unusedSimpArgs false
namespace Go.Proofs.Ytmblooibnmahnaa
open Go.RowKit

theorem ba_eol (s t : ByteArray) : (s ++ (ByteArray.mk #[10]) ++ t).data.toList = s.data.toList ++ 10 :: t.data.toList := by
  simp [ByteArray.data_append]
theorem ba_eol_size (s t : ByteArray) : (s ++ (ByteArray.mk #[10]) ++ t).size = s.size + 1 + t.size := by
  rw [← ba_len, ba_eol]; simp; omega

theorem NodeOk.one {w : World} {M : Nat → Prop} {n : NodeL} {cs : List Value} (h : NodeOk w M n cs) : ∀ u ∈ cs, u.oneCell' = true := by
  cases n with
  | mk nm p ws b ks =>
    simp only [NodeOk] at h
    obtain ⟨_, _, _, _, _, rfl, _⟩ := h
    intro u hu
    simp only [List.mem_cons, List.not_mem_nil, or_false] at hu
    rcases hu with rfl | rfl | rfl | rfl | rfl <;> rfl
theorem NodesOk.one' {w : World} {M : Nat → Prop} : ∀ {l : List NodeL} {cs : List Value}, NodesOk w M l cs → ∀ u ∈ cs, u.oneCell' = true
  | [], cs, h => by simp only [NodesOk] at h; subst h; intro u hu; simp at hu
  | n :: r, cs, h => by
    simp only [NodesOk] at h
    obtain ⟨a, b, rfl, h1, h2⟩ := h
    intro u hu
    rcases List.mem_append.1 hu with hu | hu
    · exact h1.one u hu
    · exact NodesOk.one' h2 u hu
theorem cntL_app : ∀ l m : List NodeL, cntL (l ++ m) = cntL l + cntL m
  | [], m => by simp [cntL]
  | n :: r, m => by simp only [List.cons_append, cntL, cntL_app r m]; omega

set_option maxRecDepth 100000 in
set_option maxHeartbeats 4000000 in
theorem walk_TreeTwo (s t : ByteArray) (hs : s.size ≤ maxLen) (ht : t.size ≤ maxLen) (w : World) :
    Calls Try.prog 6 #[.string s, .string t] w fun e w' => e = .returned (.bool true) ∧ Below w.heap.size w w' := by
  have hs' := hs
  have ht' := ht
  unfold maxLen at hs' ht'
  have HV := Lib.hid (law9_live w)
  by_cases hbig : 200 < s.size
  · go_enter Try.func6, Try.ntmps6
    go_wp2_with fail
    refine HV.out.mono ?_
    rintro e w1 ⟨rfl, hb1⟩
    go_wp2_with fail
    go_ret
    exact ⟨rfl, hb1⟩
  by_cases hbig2 : 200 < t.size
  · go_enter Try.func6, Try.ntmps6
    go_wp2_with fail
    refine HV.out.mono ?_
    rintro e w1 ⟨rfl, hb1⟩
    go_wp2_with fail
    go_ret
    exact ⟨rfl, hb1⟩
  have hls := ba_len s
  have hlt := ba_len t
  have HPS := Lib.hid (fun W => tree_Parse s W hs)
  have HPT := Lib.hid (fun W => tree_Parse t W ht)
  by_cases hse : (treeL s.data.toList).err = 0
  · obtain ⟨htwo, htk⟩ := two_tree s.data.toList t.data.toList (by omega) (by omega) hse
    obtain ⟨s1, s2, s3, s4⟩ := right_law s.data.toList (by omega) hse
    have hp3 := fun W => tree_Parse (s ++ ⟨#[10]⟩ ++ t) W (by rw [ba_eol_size]; unfold maxLen; omega)
    rw [ba_eol] at hp3
    by_cases hte : (treeL t.data.toList).err = 0
    · rw [if_pos hte] at htwo
      obtain ⟨t1, t2, t3, t4⟩ := right_law t.data.toList (by omega) hte
      have hc := right_law' (s.data.toList ++ 10 :: t.data.toList) htk (by rw [htwo])
      rw [htwo] at hp3 hc
      obtain ⟨hc1, hc2⟩ := hc
      dsimp only at hc1 hc2
      have hsame : sameNs ((treeL s.data.toList).nodes ++ sNs ((s.data.toList.length + 1 : Nat) : Int) (treeL t.data.toList).nodes) ((treeL s.data.toList).nodes ++ (treeL t.data.toList).nodes) = true :=
        sameNs_append _ _ _ _ (sameNs_refl _) (sameNs_shift _ _)
      have hfew := few_of_checkL _ 0 hc1
      generalize (treeL s.data.toList).nodes ++ sNs ((s.data.toList.length + 1 : Nat) : Int) (treeL t.data.toList).nodes = cn at hp3 hc1 hc2 hsame hfew
      have HP3 := Lib.hid hp3
      have HC1 := Lib.hid hc1
      have HC2 := Lib.hid hc2
      have HSAME := Lib.hid hsame
      have HFEW := Lib.hid hfew
      have hl1 := cntL_len (treeL s.data.toList).nodes
      have hl2 := cntL_len (treeL t.data.toList).nodes
      clear htwo
      generalize treeL s.data.toList = S at *
      generalize treeL t.data.toList = T at *
      obtain ⟨sn, sp, se⟩ := S
      obtain ⟨tn, tp, te⟩ := T
      dsimp only at hse hte HP3 HC1 HC2 HSAME HFEW hl1 hl2 s4 t4
      subst hse
      subst hte
      clear s1 s2 s3 t1 t2 t3 hp3 hc1 hc2 hsame hfew htk hls hlt
      go_enter Try.func6, Try.ntmps6
      go_wp2_with fail
      refine HV.out.mono ?_
      rintro e w1 ⟨rfl, hb1⟩
      go_wp2_with fail
      refine (HPS.out _).mono ?_
      rintro e w2 ⟨A, c, kcs, rfl, hnil, hr, hn, hb2⟩
      have hok := ROk.of_parse hr hn
      have HNIL := Lib.hid hnil
      have HOK := Lib.hid hok
      have hz1 := hb1.size
      have hz2 := hb2.size
      have HB2 := Lib.hid (hb1.trans (hb2.mono hz1))
      clear hnil hr hn hok hb1 hb2
      dsimp only
      go_wp2_with fail
      refine (HPT.out _).mono ?_
      rintro e w3 ⟨A2, c2, kcs2, rfl, hnil2, hr2, hn2, hb3⟩
      have hok2 := ROk.of_parse hr2 hn2
      have hz3 := hb3.size
      have HNIL2 := Lib.hid hnil2
      have HOK2 := Lib.hid hok2
      have HOK3 := Lib.hid (HOK.out.below hb3)
      have HB3 := Lib.hid (HB2.out.trans (hb3.mono (by omega)))
      clear hnil2 hr2 hn2 hok2 hb3
      dsimp only
      go_wp2_with fail
      refine (HP3.out _).mono ?_
      rintro e w4 ⟨A3, c3, kcs3, rfl, hnil3, hr3, hn3, hb4⟩
      have hok3 := ROk.of_parse hr3 hn3
      have hz4 := hb4.size
      have HC := Lib.hid hok3
      have HOK4 := Lib.hid (HOK3.out.below (hb4.mono hz3))
      have HOK24 := Lib.hid (HOK2.out.below hb4)
      have HB4 := Lib.hid (HB3.out.trans (hb4.mono (by omega)))
      clear hnil3 hr3 hn3 hok3 hb4
      dsimp only
      go_wp2_with fail
      refine (ref9_Few cn A3 c3 _ w4.heap.size 400 (by have := HC2.out; omega) (by omega) (Nat.le_refl _) HC.out HC1.out).mono ?_
      rintro e w5 ⟨rfl, hb5⟩
      have hz5 := hb5.size
      have HC5 := Lib.hid (HC.out.below hb5)
      have HOK5 := Lib.hid (HOK4.out.below (hb5.mono (by omega)))
      have HOK25 := Lib.hid (HOK24.out.below (hb5.mono (by omega)))
      have HB5 := Lib.hid (HB4.out.trans (hb5.mono (by omega)))
      clear hb5
      obtain ⟨i0, hi0, hj0, hj1, hj2⟩ := info_parts info_node
      obtain ⟨csa, hra, hna⟩ := HOK5.out
      obtain ⟨csb, hrb, hnb⟩ := HOK25.out
      obtain ⟨va, w8, hrun8, hown8, hg8⟩ := run_append_reads (P := Try.prog) (w := w5) w5.heap.size 23 23 41 i0 _ 5 80 Try.underlying23 hi0 hj0 hj1 hj2 rfl (by decide) (.slice none 0 0) 0 [] (World.ownsRow_nil _ _ _ _) A sn.length c w2.heap.size csa hra HNIL.out hna.one' (by unfold maxLen; omega) (by omega) (Nat.le_refl _)
      have hb8 : Below w5.heap.size w5 w8 := below_own (Below.refl _ _) hg8 (Nat.le_refl _) (World.ownsRow_nil w5 w5.heap.size 0 0) (Nat.le_refl _)
      have hz8 := hb8.size
      obtain ⟨csb', hrb', hnb'⟩ := HOK25.out.below (hb8.mono (by omega))
      obtain ⟨vb, w9, hrun9, hown9, hg9⟩ := run_append_reads (P := Try.prog) (w := w8) w5.heap.size 23 23 41 i0 _ 5 80 Try.underlying23 hi0 hj0 hj1 hj2 rfl (by decide) va (0 + sn.length) _ hown8 A2 tn.length c2 w3.heap.size csb' hrb' HNIL2.out hnb'.one' (by unfold maxLen; omega) (by omega) hz8
      have hb9 : Below w5.heap.size w8 w9 := below_own (Below.refl _ _) hg9 hz8 hown8 (Nat.le_refl _)
      have hz9 := hb9.size
      rw [List.nil_append] at hown9
      have hn9 : 0 + sn.length + tn.length = (sn ++ tn).length := by rw [List.length_append]; omega
      rw [hn9] at hown9
      have hkp : ∀ p : Addr, p.block < w5.heap.size → w9.cell? p = w5.cell? p := fun p hp => (hb8.trans hb9).cell hp
      have hkp8 : ∀ p : Addr, p.block < w5.heap.size → w9.cell? p = w8.cell? p := fun p hp => hb9.cell hp
      obtain ⟨A9, c9, rfl, hnc9⟩ := own_form hown9
      have hROK : ROk w9 w9.heap.size A9 (sn ++ tn) := ⟨csa ++ csb', Reads.of_own hown9, NodesOk.append (NodesOk.keep (fun b hb => by have : b < w2.heap.size := hb; omega) (fun p hp => hkp p (by have : p.block < w2.heap.size := hp; omega)) _ _ hna) (NodesOk.keep (fun b hb => by have : b < w3.heap.size := hb; omega) (fun p hp => hkp8 p (by have : p.block < w3.heap.size := hp; omega)) _ _ hnb')⟩
      have hROC : ROk w9 w9.heap.size A3 cn := by
        obtain ⟨cs, h1, h2⟩ := HC5.out
        have hkp' : ∀ p : Addr, p.block < w4.heap.size → w9.cell? p = w5.cell? p := fun p hp => hkp p (by omega)
        exact ⟨cs, h1.keep (fun b hb => by have : b < w4.heap.size := hb; omega) hkp', NodesOk.keep (fun b hb => by have : b < w4.heap.size := hb; omega) hkp' _ _ h2⟩
      have hsm := tree_Same cn (sn ++ tn) A3 A9 c3 c9 w9 w9.heap.size (by have := HC2.out; omega) HFEW.out (Nat.le_refl _) hROC hROK
      rw [HSAME.out] at hsm
      simp only [List.length_append] at hsm
      have HSM := Lib.hid hsm
      have HB9 := Lib.hid (HB5.out.trans ((hb8.trans hb9).mono (by omega)))
      clear hsm hROC hROK hkp hkp8 hb8 hb9 hown8 hown9 hra hna hrb hnb hrb' hnb' hg8 hg9 hnc9 hj0 hj1 hj2 hn9
      go_wp2_with (first | (at_builtin; refine wpList_append_run _ _ _ rfl (by rfl) _ _ rfl rfl _ rfl _ _ hrun8 ?_) | (at_builtin; refine wpList_append_run _ _ _ rfl (by rfl) _ _ rfl rfl _ rfl _ _ hrun9 ?_))
      refine HSM.out.mono ?_
      rintro e w10 ⟨rfl, hb10⟩
      have HB10 := Lib.hid (HB9.out.trans (hb10.mono HB9.out.size))
      clear hb10
      go_wp2
      go_ret
      exact ⟨rfl, HB10.out⟩
    · rw [if_neg hte] at htwo
      rw [htwo] at hp3
      have hpos := tree_err t.data.toList (by omega) hte
      have HP3 := Lib.hid hp3
      have hlen1 : ((s.data.toList.length + 1 : Nat) : Int) = (s.size : Int) + 1 := by rw [hls]; simp
      rw [hlen1] at HP3
      generalize treeL s.data.toList = S at *
      generalize treeL t.data.toList = T at *
      obtain ⟨sn, sp, se⟩ := S
      obtain ⟨tn, tp, te⟩ := T
      dsimp only at hse hte HP3 hpos
      obtain ⟨_, hp0, hp1⟩ := hpos
      subst hse
      have hte' : (te != 0) = true := by simpa using hte
      have w1f : IntKind.i64.wrap ((s.size : Int) + 1) = (s.size : Int) + 1 := by rw [IntKind.wrap_i64]; omega
      have w2f : IntKind.i64.wrap ((s.size : Int) + 1 + tp) = (s.size : Int) + 1 + tp := by rw [IntKind.wrap_i64]; omega
      have hzz : (tp + ((s.size : Int) + 1) == (s.size : Int) + 1 + tp) = true := by simp; omega
      clear htwo s1 s2 s3 s4 hp3 htk hls hlt hlen1 hte
      go_enter Try.func6, Try.ntmps6
      go_wp2_with fail
      refine HV.out.mono ?_
      rintro e w1 ⟨rfl, hb1⟩
      go_wp2_with fail
      refine (HPS.out _).mono ?_
      rintro e w2 ⟨A, c, kcs, rfl, hnil, hr, hn, hb2⟩
      have hz1 := hb1.size
      have hz2 := hb2.size
      have HB2 := Lib.hid (hb1.trans (hb2.mono hz1))
      clear hnil hr hn hb1 hb2
      dsimp only
      go_wp2_with fail
      refine (HPT.out _).mono ?_
      rintro e w3 ⟨A2, c2, kcs2, rfl, hnil2, hr2, hn2, hb3⟩
      have hz3 := hb3.size
      have HB3 := Lib.hid (HB2.out.trans (hb3.mono (by omega)))
      clear hnil2 hr2 hn2 hb3
      dsimp only
      go_wp2_with fail
      refine (HP3.out _).mono ?_
      rintro e w4 ⟨A3, c3, kcs3, rfl, hnil3, hr3, hn3, hb4⟩
      have HB4 := Lib.hid (HB3.out.trans (hb4.mono (by omega)))
      clear hnil3 hr3 hn3 hb4
      dsimp only
      go_wp2
      go_ret
      exact ⟨rfl, HB4.out⟩
  · have hpos := tree_err s.data.toList (by omega) hse
    have hse' : ((treeL s.data.toList).err != 0) = true := by simpa using hse
    generalize treeL s.data.toList = S at *
    generalize treeL t.data.toList = T at *
    obtain ⟨sn, sp, se⟩ := S
    obtain ⟨tn, tp, te⟩ := T
    dsimp only at hse' hpos
    obtain ⟨hn0, _, _⟩ := hpos
    subst hn0
    clear hse
    go_enter Try.func6, Try.ntmps6
    go_wp2_with fail
    refine HV.out.mono ?_
    rintro e w1 ⟨rfl, hb1⟩
    go_wp2_with fail
    refine (HPS.out _).mono ?_
    rintro e w2 ⟨A, c, kcs, rfl, hnil, hr, hn, hb2⟩
    have hz1 := hb1.size
    have hz2 := hb2.size
    have HB2 := Lib.hid (hb1.trans (hb2.mono hz1))
    clear hnil hr hn hb1 hb2
    dsimp only
    go_wp2_with fail
    refine (HPT.out _).mono ?_
    rintro e w3 ⟨A2, c2, kcs2, rfl, hnil2, hr2, hn2, hb3⟩
    have HB3 := Lib.hid (HB2.out.trans (hb3.mono (by omega)))
    clear hnil2 hr2 hn2 hb3
    dsimp only
    go_wp2
    go_ret
    exact ⟨rfl, HB3.out⟩

end Go.Proofs.Ytmblooibnmahnaa
