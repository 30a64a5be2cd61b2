/- Layer 9, the laws: live. -/
import Derived.Test.YtmblooibnmahnaaTreeP7
set_option linter.unusedVariables false
set_option linter.unusedSimpArgs false
namespace Go.Proofs.Ytmblooibnmahnaa
open Go.RowKit

theorem live_tree : treeL [97, 32, 98, 32, 49, 32, 123, 32, 99, 59, 32, 125] = ⟨[.mk [97] 0 [⟨false, 0, [98], 2⟩, ⟨true, 1, [], 4⟩] true [.mk [99] 8 [] false []]], 0, 0⟩ := by kernel_rfl

theorem addr_add_zero (a : Addr) : a.add 0 = a := rfl
theorem addr_add_off (a : Addr) (n : Nat) : (a.add n).off = a.off + n := by unfold Addr.add; split <;> simp_all
set_option maxRecDepth 100000 in
set_option maxHeartbeats 2000000 in
theorem law9_live (w : World) :
    Calls Try.prog 10 #[] w fun e w' => e = .returned (.bool true) ∧ Below w.heap.size w w' := by
  have hP := tree_Parse ⟨#[97, 32, 98, 32, 49, 32, 123, 32, 99, 59, 32, 125]⟩ w (by decide)
  rw [show (ByteArray.mk #[97, 32, 98, 32, 49, 32, 123, 32, 99, 59, 32, 125]).data.toList = [97, 32, 98, 32, 49, 32, 123, 32, 99, 59, 32, 125] from rfl, live_tree] at hP
  have HP := Lib.hid hP
  clear hP
  go_enter Try.func10, Try.ntmps10
  go_wp2_with fail
  refine HP.out.mono ?_
  rintro e w1 ⟨A, c, kcs, rfl, hnil, hr, hn, hb⟩
  obtain ⟨ad, Aw, cw, Ak, ck, kcs', rfl, hM, c0, c1, c2, c3, c4, _, _, hw, hk, hkn⟩ := node_cells hr hn 0 _ rfl
  obtain ⟨aw, rfl, _, d0, d1, d2, d3⟩ := word_cells hw 1 _ rfl
  obtain ⟨ak, Aw', cw', Ak', ck', _, rfl, _, e0, e1, e2, e3, e4, _, _, _, _, _⟩ := node_cells hk hkn 0 _ rfl
  have HB := Lib.hid hb
  clear hnil hr hn hM hb hw hk hkn
  simp only [NodeL.name, NodeL.pos, NodeL.words, NodeL.block, NodeL.kids, List.length_cons, List.length_nil] at *
  simp only [Nat.zero_mul, Nat.one_mul, addr_add_zero, block_of_add, addr_add_off, Nat.zero_add, Nat.reduceAdd] at c0 c1 c2 c3 c4 d0 d1 d2 d3 e0 e1 e2 e3 e4
  go_wp2
  go_ret
  exact ⟨rfl, HB.out⟩

end Go.Proofs.Ytmblooibnmahnaa
