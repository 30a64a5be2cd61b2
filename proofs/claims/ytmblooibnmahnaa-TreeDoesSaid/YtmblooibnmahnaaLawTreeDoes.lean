/- The law TreeDoes walked: it answers true at every text. -/
import Derived.Test.YtmblooibnmahnaaTreeR2
import Derived.Test.YtmblooibnmahnaaTreeD4
import Derived.Test.YtmblooibnmahnaaTreeD5
set_option linter.unusedVariables false
set_option linter.unusedSimpArgs false
namespace Go.Proofs.Ytmblooibnmahnaa
open Go.RowKit

theorem parseT_bad (E : Int) : ∀ (l : List Tok) (fs : List FrameL) (it : Option ItemL), (parseT E fs it l).err ≠ 0 → (parseT E fs it l).nodes = []
  | [], fs, it, h => by
    rw [parseT_nil] at h ⊢
    unfold endT at h ⊢
    split at h <;> first | rfl | exact absurd rfl h
  | t :: l, fs, it, h => by
    rw [parseT_cons] at h ⊢
    cases hs : stepT fs it t with
    | bad e => rfl
    | fine fs' it' =>
      rw [hs] at h
      exact parseT_bad E l fs' it' h
theorem treeL_bad (s : Bytes) (h : (treeL s).err ≠ 0) : (treeL s).nodes = [] := by
  unfold treeL at h ⊢
  split at h
  · rw [if_pos (by assumption)]
  · rw [if_neg (by assumption)]; exact parseT_bad _ _ _ _ h
theorem treeL_cnt (s : Bytes) (hs : s.length ≤ 400) : cntL (treeL s).nodes ≤ 400 := by
  by_cases h : (treeL s).err = 0
  · exact (right_law s hs h).2.2.2
  · rw [treeL_bad s h]; simp [cntL]

set_option maxRecDepth 100000 in
set_option maxHeartbeats 4000000 in
theorem walk_TreeDoes (s : ByteArray) (hs : s.size ≤ maxLen) (w : World) :
    Calls Try.prog 3 #[.string s] w fun e w' => e = .returned (.bool true) ∧ Below w.heap.size w w' := by
  have hs' := hs
  unfold maxLen at hs'
  have HV := Lib.hid (law9_live w)
  by_cases hbig : 400 < s.size
  · go_enter Try.func3, Try.ntmps3
    go_wp2_with fail
    refine HV.out.mono ?_
    rintro e w1 ⟨rfl, hb1⟩
    go_wp2_with fail
    go_ret
    exact ⟨rfl, hb1⟩
  have hls := ba_len s
  have hcnt := treeL_cnt s.data.toList (by omega)
  have HP := Lib.hid (fun W => tree_Parse s W hs)
  have HQ := Lib.hid (fun W => ref9_Parse s W hs)
  generalize treeL s.data.toList = S at *
  obtain ⟨l, p, e0⟩ := S
  dsimp only at hcnt
  go_enter Try.func3, Try.ntmps3
  go_wp2_with fail
  refine HV.out.mono ?_
  rintro e w1 ⟨rfl, hb1⟩
  go_wp2_with fail
  refine (HP.out _).mono ?_
  rintro e w2 ⟨A, c, kcs, rfl, hnil, hr, hn, hb2⟩
  have HOK := Lib.hid (ROk.of_parse hr hn)
  have hz1 := hb1.size
  have hz2 := hb2.size
  have HB2 := Lib.hid (hb1.trans (hb2.mono hz1))
  clear hnil hr hn hb1 hb2
  dsimp only
  go_wp2_with fail
  refine (HQ.out _).mono ?_
  rintro e w3 ⟨A2, c2, kcs2, rfl, hnil2, hr2, hn2, hb3⟩
  have hz3 := hb3.size
  have HOK2 := Lib.hid (ROk.of_parse hr2 hn2)
  have HOK1 := Lib.hid (HOK.out.below hb3)
  have HB3 := Lib.hid (HB2.out.trans (hb3.mono (by omega)))
  clear hnil2 hr2 hn2 hb3
  dsimp only
  go_wp2_with fail
  have hok1 : ROk w3 w3.heap.size A l := by
    obtain ⟨cs, h1, h2⟩ := HOK1.out
    exact ⟨cs, h1.keep (fun b hb => Nat.lt_of_lt_of_le hb hz3) (fun _ _ => rfl), NodesOk.keep (fun b hb => Nat.lt_of_lt_of_le hb hz3) (fun _ _ => rfl) _ _ h2⟩
  refine (ref9_exactTo (cntL l + 1) l A A2 c c2 w3 w3.heap.size (by omega) (by omega) (Nat.le_refl _) hok1 HOK2.out).mono ?_
  rintro e w4 ⟨rfl, hb4⟩
  have HB4 := Lib.hid (HB3.out.trans (hb4.mono (by omega)))
  clear hb4 hok1
  go_wp2_with fail
  go_ret
  exact ⟨rfl, HB4.out⟩

end Go.Proofs.Ytmblooibnmahnaa
