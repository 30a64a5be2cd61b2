/- Layer 9 (tree): the reference's Parse. -/
import Derived.Test.YtmblooibnmahnaaTreeD3
import Derived.Test.YtmblooibnmahnaaTreeP7
import Derived.Test.YtmblooibnmahnaaRef8B
set_option linter.unusedVariables false
set_option linter.unusedSimpArgs false
namespace Go.Proofs.Ytmblooibnmahnaa
open Go.RowKit
attribute [local go_sem ↓] Go.wp_at_zero Go.wp_at_succ

theorem ref9_both (l : List Tok) (A : Option Addr) (c : Nat) (E : Int) (B0 rb : Nat) (hl : l.length ≤ 65536) (hB : B0 ≤ rb) :
    ∀ n k, k ≤ l.length → l.length - k ≤ n → ItemsAt l A c E B0 rb k ∧ ItemAt9 l A c E B0 rb k
  | 0, k, hk, hn => ⟨ref9_items_step l A c E B0 rb k hl hk hB (fun k' h1 h2 => by omega), ref9_item_step l A c E B0 rb k hl hk hB (fun k' h1 h2 => by omega)⟩
  | n + 1, k, hk, hn =>
    ⟨ref9_items_step l A c E B0 rb k hl hk hB (fun k' h1 h2 => (ref9_both l A c E B0 rb hl hB n k' h2 (by omega)).2),
      ref9_item_step l A c E B0 rb k hl hk hB (fun k' h1 h2 => (ref9_both l A c E B0 rb hl hB n k' h2 (by omega)).1)⟩

set_option maxRecDepth 100000 in
set_option maxHeartbeats 4000000 in
theorem ref9_Parse (s : ByteArray) (w : World) (hs : s.size ≤ maxLen) :
    Calls Try.prog 12 #[.string s] w (ParsePost w (treeL s.data.toList)) := by
  have HC := Lib.hid (fun W => ref8_Cut s W hs)
  have hct := cutL_len16 s.data.toList
  unfold treeL
  rw [ba_len]
  generalize cutL s.data.toList = R at *
  obtain ⟨l, p, ce⟩ := R
  dsimp only at hct ⊢
  have HL := Lib.hid hct
  clear hct
  by_cases hce : ce = 0
  · subst hce
    rw [if_neg (by simp)]
    go_enter Try.func12, Try.ntmps12
    go_wp2_with fail
    refine (HC.out _).mono ?_
    rintro e w1 ⟨v, rfl, hown, hb1⟩
    obtain ⟨A, c, rfl, hrd⟩ := ReadToks.of_own hown
    have HRD := Lib.hid hrd
    have HB1 := Lib.hid hb1
    clear hown hrd hb1
    dsimp only
    go_wp2_with fail
    have hz1 := HB1.out.size
    have hrd2 := HRD.out.alloc (Nat.le_refl _) (.cells #[.slice A l.length c, .int .i64 0, .int .i64 s.size, .int .i64 0, .int .i64 0] 54)
    have hr1 : Rdr (w1.alloc (.cells #[.slice A l.length c, .int .i64 0, .int .i64 s.size, .int .i64 0, .int .i64 0] 54)) w1.heap.size (.slice A l.length c) ((0 : Nat) : Int) s.size 0 0 := heap_alloc_new w1 _
    have hc := (ref9_both l A c s.size w1.heap.size w1.heap.size HL.out (Nat.le_refl _) l.length 0 (Nat.zero_le _) (by omega)).1 0 _ 0 (by omega) hrd2 hr1
    refine hc.mono ?_
    rintro e w2 ⟨out, A', c', kcs, κ, p', e', rfl, hnil, hrk, hnk, hr, hs2, hrel⟩
    have HP := Lib.hid (items_parse hrel)
    have g3 := Joins.cell_of_block hr 3
    have g4 := Joins.cell_of_block hr 4
    have hz2 := hs2.size
    simp at hz2
    have hb2 : Below w.heap.size w w2 := below_of_step (HB1.out.alloc (by omega) _) hs2 (by simp; omega) (fun x hx => ⟨fun j hj => by simp [RC] at hj; omega, by simp⟩)
    have HB2 := Lib.hid hb2
    have hm : ∀ b, Fresh (w1.alloc (.cells #[.slice A l.length c, .int .i64 0, .int .i64 s.size, .int .i64 0, .int .i64 0] 54)) w2 b → w.heap.size ≤ b ∧ b < w2.heap.size := fun b hb => ⟨by have := hb.1; simp at this; omega, hb.2⟩
    have HRK := Lib.hid (hrk.keep hm (fun _ _ => rfl))
    have HNK := Lib.hid (NodesOk.keep hm (fun _ _ => rfl) _ _ hnk)
    clear hrel hb2 hs2 hr hrk hnk hm hc hr1 hrd2
    by_cases he : e' = 0
    · subst he
      go_wp2_with fail
      go_ret3
      rw [HP.out, if_pos trivial]
      exact ⟨A', c', kcs, rfl, hnil, HRK.out, HNK.out, HB2.out⟩
    · have he' : (e' != 0) = true := by simpa using he
      go_wp2_with fail
      go_quiet (fail)
      go_wp2_with fail
      go_ret3
      rw [HP.out, if_neg he]
      exact parse_nil (below_drewN HB2.out _)
  · rw [if_pos hce]
    have he' : (ce != 0) = true := by simpa using hce
    go_enter Try.func12, Try.ntmps12
    go_wp2_with fail
    refine (HC.out _).mono ?_
    rintro e w1 ⟨v, rfl, hown, hb1⟩
    have HB1 := Lib.hid hb1
    clear hown hb1
    dsimp only
    go_wp2_with fail
    go_ret3
    exact parse_nil HB1.out

end Go.Proofs.Ytmblooibnmahnaa
