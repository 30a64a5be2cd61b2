import Derived.Test.YtmiejdbpogggeaaPkB
import Derived.BigQuiet
import Derived.Deep.QuietTactic
import Derived.Deep.RegionHeld3
import Derived.Deep.AppendLies
import Derived.Deep.DrawnRows
import Derived.RegionTactic
import Derived.Outline
import Derived.Lib.SmallJoins
section
/- Layer 9 (tree): the walk of close. -/
set_option linter.unusedSimpArgs false
namespace Go.Proofs.Ytmiejdbpogggeaa
open Go.RowKit
attribute [local go_sem ↓] Go.wp_at_zero Go.wp_at_succ

theorem info_node : (Try.prog.info? 25).map (fun i => (i.zero, i.size, i.bytes)) = some (some (.agg #[.string ⟨#[]⟩, .int .i64 0, .slice none 0 0, .bool false, .slice none 0 0]), 5, 80) := by kernel_rfl

/-- What close leaves: the item's cells behind the kids', and no item. -/
def ClosePost (w : World) (r b0 B0 n : Nat) (A : Option Addr) (c : Nat) (kcs news : List Value) (e : Ending) (w' : World) : Prop :=
  e = .returned (.tuple #[]) ∧ ∃ g cap, w'.ownsRow B0 25 5 (.slice (some ⟨g, 0, none⟩) (n + 1) cap) (n + 1) (kcs ++ news) ∧
    (Value.ownBlock (.slice A n c) = some g ∨ w.heap.size ≤ g) ∧ w'.cell? ⟨b0, 4, none⟩ = some (.slice (some ⟨g, 0, none⟩) (n + 1) cap) ∧ w'.cell? ⟨r, 1, none⟩ = some (.pointer none) ∧
    Step w w' [(b0, 4), (r, 1)] (Value.ownBlock (.slice A n c))

theorem set5 (k : List Value) (z0 z1 z2 z3 z4 c0 c1 c2 c3 c4 : Value) : (((((k ++ [z0, z1, z2, z3, z4]).set k.length c0).set (k.length + 1) c1).set (k.length + 2) c2).set (k.length + 3) c3).set (k.length + 4) c4 = k ++ [c0, c1, c2, c3, c4] := by
  simp
theorem zero5 {w1 : World} {gg cap n B0 : Nat} {kcs zs : List Value} (h : w1.ownsRow B0 25 5 (.slice (some ⟨gg, 0, none⟩) (n + 1) cap) (n + 1) (kcs ++ zs)) (hk : kcs.length = n * 5) (j : Nat) (z : Value) (hz : zs[j]? = some z) :
    w1.cell? ⟨gg, n * 5 + j, none⟩ = some z := by
  have := h.cells (g := gg) rfl (n * 5 + j) z (by rw [List.getElem?_append_right (by omega), hk, Nat.add_sub_cancel_left, hz])
  have e : (⟨gg, 0, none⟩ : Addr).add (n * 5 + j) = ⟨gg, n * 5 + j, none⟩ := by unfold Addr.add; split <;> simp_all
  rw [e] at this
  exact this

set_option maxRecDepth 100000 in
set_option maxHeartbeats 4000000 in
theorem tree_close (w : World) (r b0 bi B0 n c : Nat) (A : Option Addr) (kcs : List Value) (S : ByteArray) (P : Int) (Aw Ak : Option Addr) (nw cw nk ck : Nat) (bl : Bool)
    (hr0 : w.cell? ⟨r, 0, none⟩ = some (.pointer (some ⟨b0, 0, none⟩))) (hr1 : w.cell? ⟨r, 1, none⟩ = some (.pointer (some ⟨bi, 0, none⟩))) (fr1 : w.frozen? ⟨r, 1, none⟩ = false)
    (hk : w.cell? ⟨b0, 4, none⟩ = some (.slice A n c)) (fk : w.frozen? ⟨b0, 4, none⟩ = false) (hown : w.ownsRow B0 25 5 (.slice A n c) n kcs)
    (i0 : w.cell? ⟨bi, 0, none⟩ = some (.string S)) (i1 : w.cell? ⟨bi, 1, none⟩ = some (.int .i64 P)) (i2 : w.cell? ⟨bi, 2, none⟩ = some (.slice Aw nw cw)) (i3 : w.cell? ⟨bi, 3, none⟩ = some (.bool bl)) (i4 : w.cell? ⟨bi, 4, none⟩ = some (.slice Ak nk ck))
    (hn : n ≤ 100000) (hB0 : B0 ≤ w.heap.size)
    (ar : Value.ownBlock (.slice A n c) ≠ some r) (a0 : Value.ownBlock (.slice A n c) ≠ some b0) (ai : Value.ownBlock (.slice A n c) ≠ some bi) (hrb : r ≠ b0) (hrbi : r ≠ bi) (hb0i : b0 ≠ bi) :
    Calls Try.prog 80 #[.pointer (some ⟨r, 0, none⟩)] w (ClosePost w r b0 B0 n A c kcs [.string S, .int .i64 P, .slice Aw nw cw, .bool bl, .slice Ak nk ck]) := by
  obtain ⟨i0', hi0, hz0, hz1, hz2⟩ := info_parts info_node
  have lr := World.block_lt_of_cell? w _ hr0
  have lb := World.block_lt_of_cell? w _ hk
  have li := World.block_lt_of_cell? w _ i0
  simp only at lr lb li
  have hbr : b0 ≠ r := fun h => hrb h.symm
  go_enter Try.func80, Try.ntmps80
  go_wp2
  go_region
  · have hS : Step w (w.alloc (.cells #[.bool false] 4)).drew [(b0, 4), (r, 1)] (Value.ownBlock (.slice A n c)) := ((Step.refl w _ _).alloc _).drew
    have hown1 : ((w.alloc (.cells #[.bool false] 4)).drew).ownsRow B0 25 5 (.slice A n c) n kcs := own_drew (hown.alloc _)
    have hW : (w.alloc (.cells #[.bool false] 4)).drew.heap.size = w.heap.size + 1 := by simp
    have fk1 : (w.alloc (.cells #[.bool false] 4)).frozen? ⟨b0, 4, none⟩ = false := by rw [frozen?_alloc_cells]; exact fk
    go_wp2
    refine wp_region_held_drew (S := (fun w' => w'.cell? ⟨r, 0, none⟩ = some (.pointer (some ⟨b0, 0, none⟩)) ∧ w'.cell? ⟨r, 1, none⟩ = some (.pointer (some ⟨bi, 0, none⟩)) ∧
        w'.cell? ⟨bi, 0, none⟩ = some (.string S) ∧ w'.cell? ⟨bi, 1, none⟩ = some (.int .i64 P) ∧ w'.cell? ⟨bi, 2, none⟩ = some (.slice Aw nw cw) ∧ w'.cell? ⟨bi, 3, none⟩ = some (.bool bl) ∧ w'.cell? ⟨bi, 4, none⟩ = some (.slice Ak nk ck))) (by kernel_rfl) ?_ (fun hHeld => ?_)
    · go_keep
    refine wpAnyH_take (i := 0) (v := ?_) rfl (by kernel_rfl) (by kernel_rfl) (by kernel_rfl) (fun _ _ _ h => h) (Or.inl ⟨by rfl, ?_⟩) (by assumption) ?_
    rotate_left
    · (intro w hSw; (try dsimp only at hSw); go_simp; try with_reducible rfl)
    try simp only [Act.put, List.setIfInBounds_toArray, List.set_cons_zero, List.set_cons_succ]
    refine wpAnyH_take (i := 1) (v := ?_) rfl (by kernel_rfl) (by kernel_rfl) (by kernel_rfl) (fun _ _ _ h => h) (Or.inl ⟨by rfl, ?_⟩) (by assumption) ?_
    rotate_left
    · (intro w hSw; (try dsimp only at hSw); go_simp; try with_reducible rfl)
    try simp only [Act.put, List.setIfInBounds_toArray, List.set_cons_zero, List.set_cons_succ]
    refine wpAnyH_take (i := 2) (v := ?_) rfl (by kernel_rfl) (by kernel_rfl) (by kernel_rfl) (fun _ _ _ h => h) (Or.inl ⟨by rfl, ?_⟩) (by assumption) ?_
    rotate_left
    · (intro w hSw; (try dsimp only at hSw); go_simp; try with_reducible rfl)
    try simp only [Act.put, List.setIfInBounds_toArray, List.set_cons_zero, List.set_cons_succ]
    refine wpAnyH_take (i := 3) (v := ?_) rfl (by kernel_rfl) (by kernel_rfl) (by kernel_rfl) (fun _ _ _ h => h) (Or.inl ⟨by rfl, ?_⟩) (by assumption) ?_
    rotate_left
    · (intro w hSw; (try dsimp only at hSw); go_simp; try with_reducible rfl)
    try simp only [Act.put, List.setIfInBounds_toArray, List.set_cons_zero, List.set_cons_succ]
    refine wpAnyH_take (i := 4) (v := ?_) rfl (by kernel_rfl) (by kernel_rfl) (by kernel_rfl) (fun _ _ _ h => h) (Or.inl ⟨by rfl, ?_⟩) (by assumption) ?_
    rotate_left
    · (intro w hSw; (try dsimp only at hSw); go_simp; try with_reducible rfl)
    try simp only [Act.put, List.setIfInBounds_toArray, List.set_cons_zero, List.set_cons_succ]
    refine wpAnyH_take (i := 5) (v := ?_) rfl (by kernel_rfl) (by kernel_rfl) (by kernel_rfl) (fun _ _ _ h => h) (Or.inl ⟨by rfl, ?_⟩) (by assumption) ?_
    rotate_left
    · (intro w hSw; (try dsimp only at hSw); go_simp; try with_reducible rfl)
    try simp only [Act.put, List.setIfInBounds_toArray, List.set_cons_zero, List.set_cons_succ]
    refine wpAnyH_take (i := 6) (v := ?_) rfl (by kernel_rfl) (by kernel_rfl) (by kernel_rfl) (fun _ _ _ h => h) (Or.inl ⟨by rfl, ?_⟩) (by assumption) ?_
    rotate_left
    · (intro w hSw; (try dsimp only at hSw); go_simp; try with_reducible rfl)
    try simp only [Act.put, List.setIfInBounds_toArray, List.set_cons_zero, List.set_cons_succ]
    refine wpAnyH_take (i := 7) (v := ?_) rfl (by kernel_rfl) (by kernel_rfl) (by kernel_rfl) (fun _ _ _ h => h) (Or.inl ⟨by rfl, ?_⟩) (by assumption) ?_
    rotate_left
    · (intro w hSw; (try dsimp only at hSw); go_simp; try with_reducible rfl)
    try simp only [Act.put, List.setIfInBounds_toArray, List.set_cons_zero, List.set_cons_succ]
    refine wpAnyH_take (i := 8) (v := ?_) rfl (by kernel_rfl) (by kernel_rfl) (by kernel_rfl) (fun _ _ _ h => h) (Or.inl ⟨by rfl, ?_⟩) (by assumption) ?_
    rotate_left
    · (intro w hSw; (try dsimp only at hSw); go_simp; try with_reducible rfl)
    try simp only [Act.put, List.setIfInBounds_toArray, List.set_cons_zero, List.set_cons_succ]
    refine wpAnyH_take (i := 9) (v := ?_) rfl (by kernel_rfl) (by kernel_rfl) (by kernel_rfl) (fun _ _ _ h => h) (Or.inl ⟨by rfl, ?_⟩) (by assumption) ?_
    rotate_left
    · (intro w hSw; (try dsimp only at hSw); go_simp; try with_reducible rfl)
    try simp only [Act.put, List.setIfInBounds_toArray, List.set_cons_zero, List.set_cons_succ]
    refine wpAnyH_take (i := 10) (v := ?_) rfl (by kernel_rfl) (by kernel_rfl) (by kernel_rfl) (fun _ _ _ h => h) (Or.inl ⟨by rfl, ?_⟩) (by assumption) ?_
    rotate_left
    · (intro w hSw; (try dsimp only at hSw); go_simp; try with_reducible rfl)
    try simp only [Act.put, List.setIfInBounds_toArray, List.set_cons_zero, List.set_cons_succ]
    refine wpAnyH_take (i := 12) (v := ?_) rfl (by kernel_rfl) (by kernel_rfl) (by kernel_rfl) (fun _ _ _ h => h) (Or.inl ⟨by rfl, ?_⟩) (by assumption) ?_
    rotate_left
    · (intro w hSw; (try dsimp only at hSw); go_simp; try with_reducible rfl)
    try simp only [Act.put, List.setIfInBounds_toArray, List.set_cons_zero, List.set_cons_succ]
    refine wpAnyH_take (i := 13) (v := ?_) rfl (by kernel_rfl) (by kernel_rfl) (by kernel_rfl) (fun _ _ _ h => h) (Or.inl ⟨by rfl, ?_⟩) (by assumption) ?_
    rotate_left
    · (intro w hSw; (try dsimp only at hSw); go_simp; try with_reducible rfl)
    try simp only [Act.put, List.setIfInBounds_toArray, List.set_cons_zero, List.set_cons_succ]
    refine wpAnyH_take (i := 14) (v := ?_) rfl (by kernel_rfl) (by kernel_rfl) (by kernel_rfl) (fun _ _ _ h => h) (Or.inl ⟨by rfl, ?_⟩) (by assumption) ?_
    rotate_left
    · (intro w hSw; (try dsimp only at hSw); go_simp; try with_reducible rfl)
    try simp only [Act.put, List.setIfInBounds_toArray, List.set_cons_zero, List.set_cons_succ]
    refine wpAnyH_take (i := 15) (v := ?_) rfl (by kernel_rfl) (by kernel_rfl) (by kernel_rfl) (fun _ _ _ h => h) (Or.inl ⟨by rfl, ?_⟩) (by assumption) ?_
    rotate_left
    · (intro w hSw; (try dsimp only at hSw); go_simp; try with_reducible rfl)
    try simp only [Act.put, List.setIfInBounds_toArray, List.set_cons_zero, List.set_cons_succ]
    refine wpAnyH_take (i := 16) (v := ?_) rfl (by kernel_rfl) (by kernel_rfl) (by kernel_rfl) (fun _ _ _ h => h) (Or.inl ⟨by rfl, ?_⟩) (by assumption) ?_
    rotate_left
    · (intro w hSw; (try dsimp only at hSw); go_simp; try with_reducible rfl)
    try simp only [Act.put, List.setIfInBounds_toArray, List.set_cons_zero, List.set_cons_succ]
    refine wpAnyH_take (i := 17) (v := ?_) rfl (by kernel_rfl) (by kernel_rfl) (by kernel_rfl) (fun _ _ _ h => h) (Or.inl ⟨by rfl, ?_⟩) (by assumption) ?_
    rotate_left
    · (intro w hSw; (try dsimp only at hSw); go_simp; try with_reducible rfl)
    try simp only [Act.put, List.setIfInBounds_toArray, List.set_cons_zero, List.set_cons_succ]
    refine wpAnyH_take (i := 18) (v := ?_) rfl (by kernel_rfl) (by kernel_rfl) (by kernel_rfl) (fun _ _ _ h => h) (Or.inl ⟨by rfl, ?_⟩) (by assumption) ?_
    rotate_left
    · (intro w hSw; (try dsimp only at hSw); go_simp; try with_reducible rfl)
    try simp only [Act.put, List.setIfInBounds_toArray, List.set_cons_zero, List.set_cons_succ]
    refine wpAnyH_ready (rs := [11, 19]) (by kernel_rfl) (by simp) ?_
    refine AllReadyH.cons rfl (fun K hK => ?_) ?_
    · go_simp
      refine hK.out _ _ ?_ (fun hHeld => ?_)
      · go_keep
      clear hK K
      try simp only [Act.put, List.setIfInBounds_toArray, List.set_cons_zero, List.set_cons_succ]
      refine wpAnyH_ready (rs := [19]) (by kernel_rfl) (by simp) ?_
      refine AllReadyH.cons rfl (fun K hK => ?_) ?_
      · go_simp
        refine hK.out _ _ ?_ (fun hHeld => ?_)
        · go_keep
        clear hK K
        try simp only [Act.put, List.setIfInBounds_toArray, List.set_cons_zero, List.set_cons_succ]
        refine wpAnyH_ready (rs := [20]) (by kernel_rfl) (by simp) ?_
        refine AllReadyH.cons rfl (fun K hK => ?_) ?_
        · refine step_append_lies _ (by rfl) _ _ _ (by rfl) B0 25 i0' _ 5 80 Try.underlying23 hi0 hz0 hz1 hz2 rfl (by omega) (.slice A n c) n kcs (by rfl) (own_drew (hown1.alloc _))
            ⟨w.heap.size + 1, 0, none⟩ 1 1 [.string S, .int .i64 P, .slice Aw nw cw, .bool bl, .slice Ak nk ck] (by rfl) (by rfl) (World.news_of_block (cs := #[.string S, .int .i64 P, .slice Aw nw cw, .bool bl, .slice Ak nk ck]) (t := 25) (fr := (0, 0)) (by show ((w.alloc (.cells #[.bool false] 4)).alloc _).heap[w.heap.size + 1]? = _; rw [show w.heap.size + 1 = (w.alloc (.cells #[.bool false] 4)).heap.size by simp]; exact heap_alloc_new _ _)) (by simp [Value.oneCell'])
            (by omega) (by unfold maxLen; omega) (by omega) (by simp; omega) (w.heap.size + 2) (by simp) ?_
          intro gg cap w1 hown2 hgrow hat hlt
          have fz : w1.frozen? ⟨b0, 4, none⟩ = false := (hgrow.frozen_far ⟨b0, 4, none⟩ (by simp; omega) (Ne.symm a0)).trans (by show World.frozen? ((w.alloc _).alloc _) _ = false; rw [frozen?_alloc_cells]; exact fk1)
          have cz : w1.cell? ⟨b0, 4, none⟩ = some (.slice A n c) := (hgrow.cell_far ⟨b0, 4, none⟩ (by simp; omega) (Ne.symm a0)).trans (by show World.cell? ((w.alloc _).alloc _) _ = _; rw [World.cell?_alloc_lt _ _ _ (by simp; omega), World.cell?_alloc_lt _ _ _ (by simp; omega)]; exact hk)
          have fr : w1.frozen? ⟨r, 1, none⟩ = false := (hgrow.frozen_far ⟨r, 1, none⟩ (by simp; omega) (Ne.symm ar)).trans (by show World.frozen? ((w.alloc _).alloc _) _ = false; rw [frozen?_alloc_cells, frozen?_alloc_cells]; exact fr1)
          refine hK.out _ _ ?_ (fun hHeld => ?_)
          · refine ⟨?_, ?_, ?_, ?_, ?_, ?_, ?_⟩
            · (rw [hgrow.cell_far _ (by simp; omega) (Ne.symm ar)]; go_split_ands; assumption)
            · (rw [hgrow.cell_far _ (by simp; omega) (Ne.symm ar)]; go_split_ands; assumption)
            · (rw [hgrow.cell_far _ (by simp; omega) (Ne.symm ai)]; go_split_ands; assumption)
            · (rw [hgrow.cell_far _ (by simp; omega) (Ne.symm ai)]; go_split_ands; assumption)
            · (rw [hgrow.cell_far _ (by simp; omega) (Ne.symm ai)]; go_split_ands; assumption)
            · (rw [hgrow.cell_far _ (by simp; omega) (Ne.symm ai)]; go_split_ands; assumption)
            · (rw [hgrow.cell_far _ (by simp; omega) (Ne.symm ai)]; go_split_ands; assumption)
          clear hK K
          try simp only [Act.put, List.setIfInBounds_toArray, List.set_cons_zero, List.set_cons_succ]
          refine wpAnyH_take (i := 21) (v := ?_) rfl (by kernel_rfl) (by kernel_rfl) (by kernel_rfl) (fun _ _ _ h => h) (Or.inl ⟨by rfl, ?_⟩) (by assumption) ?_
          rotate_left
          · (intro w hSw; (try dsimp only at hSw); go_simp; try with_reducible rfl)
          try simp only [Act.put, List.setIfInBounds_toArray, List.set_cons_zero, List.set_cons_succ]
          refine wpAnyH_take (i := 22) (v := ?_) rfl (by kernel_rfl) (by kernel_rfl) (by kernel_rfl) (fun _ _ _ h => h) (Or.inl ⟨by rfl, ?_⟩) (by assumption) ?_
          rotate_left
          · (intro w hSw; (try dsimp only at hSw); go_simp; try with_reducible rfl)
          try simp only [Act.put, List.setIfInBounds_toArray, List.set_cons_zero, List.set_cons_succ]
          refine wpAnyH_take (i := 23) (v := ?_) rfl (by kernel_rfl) (by kernel_rfl) (by kernel_rfl) (fun _ _ _ h => h) (Or.inl ⟨by rfl, ?_⟩) (by assumption) ?_
          rotate_left
          · (intro w hSw; (try dsimp only at hSw); go_simp; try with_reducible rfl)
          try simp only [Act.put, List.setIfInBounds_toArray, List.set_cons_zero, List.set_cons_succ]
          refine wpAnyH_ready (rs := [24]) (by kernel_rfl) (by simp) ?_
          refine AllReadyH.cons rfl (fun K hK => ?_) ?_
          · go_simp
            refine hK.out _ _ ?_ (fun hHeld => ?_)
            · go_keep
            clear hK K
            try simp only [Act.put, List.setIfInBounds_toArray, List.set_cons_zero, List.set_cons_succ]
            refine wpAnyH_done (by kernel_rfl) ?_ _
            go_wp2
            go_end0
            have cr : w1.cell? ⟨r, 1, none⟩ = some (.pointer (some ⟨bi, 0, none⟩)) := (hgrow.cell_far ⟨r, 1, none⟩ (by simp; omega) (Ne.symm ar)).trans (by show World.cell? ((w.alloc _).alloc _) _ = _; rw [World.cell?_alloc_lt _ _ _ (by simp; omega), World.cell?_alloc_lt _ _ _ (by simp; omega)]; exact hr1)
            have hg0 : gg ≠ b0 := fun e => by subst e; rcases hat with h | h; · exact a0 h
                                              · omega
            have hgr : gg ≠ r := fun e => by subst e; rcases hat with h | h; · exact ar h
                                             · omega
            have hS2 : Step w w1 [(b0, 4), (r, 1)] (Value.ownBlock (.slice A n c)) := Step.grown (((Step.refl w _ _).alloc _).alloc _).drew.drew hgrow (fun k hk => .inl hk.symm)
            refine ⟨rfl, gg, cap, own_set (own_set hown2 (by simpa [Value.ownBlock] using hg0) _) (by simpa [Value.ownBlock] using hgr) _, hat.imp id (fun h => by omega), ?_, ?_, (hS2.setCell (.inr (.inl (by simp))) _).setCell (.inr (.inl (by simp))) _⟩
            · rw [World.cell?_setCell_other _ _ _ _ (by first | (simp; done) | (simp; omega))]
              exact World.cell?_setCell_same _ _ _ cz
            · exact World.cell?_setCell_same _ _ _ (u := .pointer (some ⟨bi, 0, none⟩)) (by rw [World.cell?_setCell_other _ _ _ _ (by first | (simp; done) | (simp; omega))]; exact cr)
          exact AllReadyH.nil
        exact AllReadyH.nil
      exact AllReadyH.nil
    refine AllReadyH.cons rfl (fun K hK => ?_) ?_
    · go_simp
      refine hK.out _ _ ?_ (fun hHeld => ?_)
      · go_keep
      clear hK K
      try simp only [Act.put, List.setIfInBounds_toArray, List.set_cons_zero, List.set_cons_succ]
      refine wpAnyH_ready (rs := [11]) (by kernel_rfl) (by simp) ?_
      refine AllReadyH.cons rfl (fun K hK => ?_) ?_
      · go_simp
        refine hK.out _ _ ?_ (fun hHeld => ?_)
        · go_keep
        clear hK K
        try simp only [Act.put, List.setIfInBounds_toArray, List.set_cons_zero, List.set_cons_succ]
        refine wpAnyH_ready (rs := [20]) (by kernel_rfl) (by simp) ?_
        refine AllReadyH.cons rfl (fun K hK => ?_) ?_
        · refine step_append_lies _ (by rfl) _ _ _ (by rfl) B0 25 i0' _ 5 80 Try.underlying23 hi0 hz0 hz1 hz2 rfl (by omega) (.slice A n c) n kcs (by rfl) (own_drew (hown1.alloc _))
            ⟨w.heap.size + 1, 0, none⟩ 1 1 [.string S, .int .i64 P, .slice Aw nw cw, .bool bl, .slice Ak nk ck] (by rfl) (by rfl) (World.news_of_block (cs := #[.string S, .int .i64 P, .slice Aw nw cw, .bool bl, .slice Ak nk ck]) (t := 25) (fr := (0, 0)) (by show ((w.alloc (.cells #[.bool false] 4)).alloc _).heap[w.heap.size + 1]? = _; rw [show w.heap.size + 1 = (w.alloc (.cells #[.bool false] 4)).heap.size by simp]; exact heap_alloc_new _ _)) (by simp [Value.oneCell'])
            (by omega) (by unfold maxLen; omega) (by omega) (by simp; omega) (w.heap.size + 2) (by simp) ?_
          intro gg cap w1 hown2 hgrow hat hlt
          have fz : w1.frozen? ⟨b0, 4, none⟩ = false := (hgrow.frozen_far ⟨b0, 4, none⟩ (by simp; omega) (Ne.symm a0)).trans (by show World.frozen? ((w.alloc _).alloc _) _ = false; rw [frozen?_alloc_cells]; exact fk1)
          have cz : w1.cell? ⟨b0, 4, none⟩ = some (.slice A n c) := (hgrow.cell_far ⟨b0, 4, none⟩ (by simp; omega) (Ne.symm a0)).trans (by show World.cell? ((w.alloc _).alloc _) _ = _; rw [World.cell?_alloc_lt _ _ _ (by simp; omega), World.cell?_alloc_lt _ _ _ (by simp; omega)]; exact hk)
          have fr : w1.frozen? ⟨r, 1, none⟩ = false := (hgrow.frozen_far ⟨r, 1, none⟩ (by simp; omega) (Ne.symm ar)).trans (by show World.frozen? ((w.alloc _).alloc _) _ = false; rw [frozen?_alloc_cells, frozen?_alloc_cells]; exact fr1)
          refine hK.out _ _ ?_ (fun hHeld => ?_)
          · refine ⟨?_, ?_, ?_, ?_, ?_, ?_, ?_⟩
            · (rw [hgrow.cell_far _ (by simp; omega) (Ne.symm ar)]; go_split_ands; assumption)
            · (rw [hgrow.cell_far _ (by simp; omega) (Ne.symm ar)]; go_split_ands; assumption)
            · (rw [hgrow.cell_far _ (by simp; omega) (Ne.symm ai)]; go_split_ands; assumption)
            · (rw [hgrow.cell_far _ (by simp; omega) (Ne.symm ai)]; go_split_ands; assumption)
            · (rw [hgrow.cell_far _ (by simp; omega) (Ne.symm ai)]; go_split_ands; assumption)
            · (rw [hgrow.cell_far _ (by simp; omega) (Ne.symm ai)]; go_split_ands; assumption)
            · (rw [hgrow.cell_far _ (by simp; omega) (Ne.symm ai)]; go_split_ands; assumption)
          clear hK K
          try simp only [Act.put, List.setIfInBounds_toArray, List.set_cons_zero, List.set_cons_succ]
          refine wpAnyH_take (i := 21) (v := ?_) rfl (by kernel_rfl) (by kernel_rfl) (by kernel_rfl) (fun _ _ _ h => h) (Or.inl ⟨by rfl, ?_⟩) (by assumption) ?_
          rotate_left
          · (intro w hSw; (try dsimp only at hSw); go_simp; try with_reducible rfl)
          try simp only [Act.put, List.setIfInBounds_toArray, List.set_cons_zero, List.set_cons_succ]
          refine wpAnyH_take (i := 22) (v := ?_) rfl (by kernel_rfl) (by kernel_rfl) (by kernel_rfl) (fun _ _ _ h => h) (Or.inl ⟨by rfl, ?_⟩) (by assumption) ?_
          rotate_left
          · (intro w hSw; (try dsimp only at hSw); go_simp; try with_reducible rfl)
          try simp only [Act.put, List.setIfInBounds_toArray, List.set_cons_zero, List.set_cons_succ]
          refine wpAnyH_take (i := 23) (v := ?_) rfl (by kernel_rfl) (by kernel_rfl) (by kernel_rfl) (fun _ _ _ h => h) (Or.inl ⟨by rfl, ?_⟩) (by assumption) ?_
          rotate_left
          · (intro w hSw; (try dsimp only at hSw); go_simp; try with_reducible rfl)
          try simp only [Act.put, List.setIfInBounds_toArray, List.set_cons_zero, List.set_cons_succ]
          refine wpAnyH_ready (rs := [24]) (by kernel_rfl) (by simp) ?_
          refine AllReadyH.cons rfl (fun K hK => ?_) ?_
          · go_simp
            refine hK.out _ _ ?_ (fun hHeld => ?_)
            · go_keep
            clear hK K
            try simp only [Act.put, List.setIfInBounds_toArray, List.set_cons_zero, List.set_cons_succ]
            refine wpAnyH_done (by kernel_rfl) ?_ _
            go_wp2
            go_end0
            have cr : w1.cell? ⟨r, 1, none⟩ = some (.pointer (some ⟨bi, 0, none⟩)) := (hgrow.cell_far ⟨r, 1, none⟩ (by simp; omega) (Ne.symm ar)).trans (by show World.cell? ((w.alloc _).alloc _) _ = _; rw [World.cell?_alloc_lt _ _ _ (by simp; omega), World.cell?_alloc_lt _ _ _ (by simp; omega)]; exact hr1)
            have hg0 : gg ≠ b0 := fun e => by subst e; rcases hat with h | h; · exact a0 h
                                              · omega
            have hgr : gg ≠ r := fun e => by subst e; rcases hat with h | h; · exact ar h
                                             · omega
            have hS2 : Step w w1 [(b0, 4), (r, 1)] (Value.ownBlock (.slice A n c)) := Step.grown (((Step.refl w _ _).alloc _).alloc _).drew.drew hgrow (fun k hk => .inl hk.symm)
            refine ⟨rfl, gg, cap, own_set (own_set hown2 (by simpa [Value.ownBlock] using hg0) _) (by simpa [Value.ownBlock] using hgr) _, hat.imp id (fun h => by omega), ?_, ?_, (hS2.setCell (.inr (.inl (by simp))) _).setCell (.inr (.inl (by simp))) _⟩
            · rw [World.cell?_setCell_other _ _ _ _ (by first | (simp; done) | (simp; omega))]
              exact World.cell?_setCell_same _ _ _ cz
            · exact World.cell?_setCell_same _ _ _ (u := .pointer (some ⟨bi, 0, none⟩)) (by rw [World.cell?_setCell_other _ _ _ _ (by first | (simp; done) | (simp; omega))]; exact cr)
          exact AllReadyH.nil
        exact AllReadyH.nil
      exact AllReadyH.nil
    exact AllReadyH.nil
  · have hS : Step w (w.alloc (.cells #[.bool true] 4)).drew [(b0, 4), (r, 1)] (Value.ownBlock (.slice A n c)) := ((Step.refl w _ _).alloc _).drew
    have hown1 : ((w.alloc (.cells #[.bool true] 4)).drew).ownsRow B0 25 5 (.slice A n c) n kcs := own_drew (hown.alloc _)
    have hW : (w.alloc (.cells #[.bool true] 4)).drew.heap.size = w.heap.size + 1 := by simp
    have fk1 : (w.alloc (.cells #[.bool true] 4)).frozen? ⟨b0, 4, none⟩ = false := by rw [frozen?_alloc_cells]; exact fk
    go_wp2
    refine wp_region_held_drew (S := (fun w' => w'.cell? ⟨r, 0, none⟩ = some (.pointer (some ⟨b0, 0, none⟩)) ∧ w'.cell? ⟨r, 1, none⟩ = some (.pointer (some ⟨bi, 0, none⟩)) ∧
        w'.cell? ⟨bi, 0, none⟩ = some (.string S) ∧ w'.cell? ⟨bi, 1, none⟩ = some (.int .i64 P) ∧ w'.cell? ⟨bi, 2, none⟩ = some (.slice Aw nw cw) ∧ w'.cell? ⟨bi, 3, none⟩ = some (.bool bl) ∧ w'.cell? ⟨bi, 4, none⟩ = some (.slice Ak nk ck))) (by kernel_rfl) ?_ (fun hHeld => ?_)
    · go_keep
    refine wpAnyH_take (i := 0) (v := ?_) rfl (by kernel_rfl) (by kernel_rfl) (by kernel_rfl) (fun _ _ _ h => h) (Or.inl ⟨by rfl, ?_⟩) (by assumption) ?_
    rotate_left
    · (intro w hSw; (try dsimp only at hSw); go_simp; try with_reducible rfl)
    try simp only [Act.put, List.setIfInBounds_toArray, List.set_cons_zero, List.set_cons_succ]
    refine wpAnyH_take (i := 1) (v := ?_) rfl (by kernel_rfl) (by kernel_rfl) (by kernel_rfl) (fun _ _ _ h => h) (Or.inl ⟨by rfl, ?_⟩) (by assumption) ?_
    rotate_left
    · (intro w hSw; (try dsimp only at hSw); go_simp; try with_reducible rfl)
    try simp only [Act.put, List.setIfInBounds_toArray, List.set_cons_zero, List.set_cons_succ]
    refine wpAnyH_take (i := 2) (v := ?_) rfl (by kernel_rfl) (by kernel_rfl) (by kernel_rfl) (fun _ _ _ h => h) (Or.inl ⟨by rfl, ?_⟩) (by assumption) ?_
    rotate_left
    · (intro w hSw; (try dsimp only at hSw); go_simp; try with_reducible rfl)
    try simp only [Act.put, List.setIfInBounds_toArray, List.set_cons_zero, List.set_cons_succ]
    refine wpAnyH_take (i := 3) (v := ?_) rfl (by kernel_rfl) (by kernel_rfl) (by kernel_rfl) (fun _ _ _ h => h) (Or.inl ⟨by rfl, ?_⟩) (by assumption) ?_
    rotate_left
    · (intro w hSw; (try dsimp only at hSw); go_simp; try with_reducible rfl)
    try simp only [Act.put, List.setIfInBounds_toArray, List.set_cons_zero, List.set_cons_succ]
    refine wpAnyH_take (i := 4) (v := ?_) rfl (by kernel_rfl) (by kernel_rfl) (by kernel_rfl) (fun _ _ _ h => h) (Or.inl ⟨by rfl, ?_⟩) (by assumption) ?_
    rotate_left
    · (intro w hSw; (try dsimp only at hSw); go_simp; try with_reducible rfl)
    try simp only [Act.put, List.setIfInBounds_toArray, List.set_cons_zero, List.set_cons_succ]
    refine wpAnyH_take (i := 5) (v := ?_) rfl (by kernel_rfl) (by kernel_rfl) (by kernel_rfl) (fun _ _ _ h => h) (Or.inl ⟨by rfl, ?_⟩) (by assumption) ?_
    rotate_left
    · (intro w hSw; (try dsimp only at hSw); go_simp; try with_reducible rfl)
    try simp only [Act.put, List.setIfInBounds_toArray, List.set_cons_zero, List.set_cons_succ]
    refine wpAnyH_take (i := 6) (v := ?_) rfl (by kernel_rfl) (by kernel_rfl) (by kernel_rfl) (fun _ _ _ h => h) (Or.inl ⟨by rfl, ?_⟩) (by assumption) ?_
    rotate_left
    · (intro w hSw; (try dsimp only at hSw); go_simp; try with_reducible rfl)
    try simp only [Act.put, List.setIfInBounds_toArray, List.set_cons_zero, List.set_cons_succ]
    refine wpAnyH_take (i := 8) (v := ?_) rfl (by kernel_rfl) (by kernel_rfl) (by kernel_rfl) (fun _ _ _ h => h) (Or.inl ⟨by rfl, ?_⟩) (by assumption) ?_
    rotate_left
    · (intro w hSw; (try dsimp only at hSw); go_simp; try with_reducible rfl)
    try simp only [Act.put, List.setIfInBounds_toArray, List.set_cons_zero, List.set_cons_succ]
    refine wpAnyH_take (i := 9) (v := ?_) rfl (by kernel_rfl) (by kernel_rfl) (by kernel_rfl) (fun _ _ _ h => h) (Or.inl ⟨by rfl, ?_⟩) (by assumption) ?_
    rotate_left
    · (intro w hSw; (try dsimp only at hSw); go_simp; try with_reducible rfl)
    try simp only [Act.put, List.setIfInBounds_toArray, List.set_cons_zero, List.set_cons_succ]
    refine wpAnyH_take (i := 10) (v := ?_) rfl (by kernel_rfl) (by kernel_rfl) (by kernel_rfl) (fun _ _ _ h => h) (Or.inl ⟨by rfl, ?_⟩) (by assumption) ?_
    rotate_left
    · (intro w hSw; (try dsimp only at hSw); go_simp; try with_reducible rfl)
    try simp only [Act.put, List.setIfInBounds_toArray, List.set_cons_zero, List.set_cons_succ]
    refine wpAnyH_take (i := 11) (v := ?_) rfl (by kernel_rfl) (by kernel_rfl) (by kernel_rfl) (fun _ _ _ h => h) (Or.inl ⟨by rfl, ?_⟩) (by assumption) ?_
    rotate_left
    · (intro w hSw; (try dsimp only at hSw); go_simp; try with_reducible rfl)
    try simp only [Act.put, List.setIfInBounds_toArray, List.set_cons_zero, List.set_cons_succ]
    refine wpAnyH_take (i := 12) (v := ?_) rfl (by kernel_rfl) (by kernel_rfl) (by kernel_rfl) (fun _ _ _ h => h) (Or.inl ⟨by rfl, ?_⟩) (by assumption) ?_
    rotate_left
    · (intro w hSw; (try dsimp only at hSw); go_simp; try with_reducible rfl)
    try simp only [Act.put, List.setIfInBounds_toArray, List.set_cons_zero, List.set_cons_succ]
    refine wpAnyH_take (i := 13) (v := ?_) rfl (by kernel_rfl) (by kernel_rfl) (by kernel_rfl) (fun _ _ _ h => h) (Or.inl ⟨by rfl, ?_⟩) (by assumption) ?_
    rotate_left
    · (intro w hSw; (try dsimp only at hSw); go_simp; try with_reducible rfl)
    try simp only [Act.put, List.setIfInBounds_toArray, List.set_cons_zero, List.set_cons_succ]
    refine wpAnyH_take (i := 14) (v := ?_) rfl (by kernel_rfl) (by kernel_rfl) (by kernel_rfl) (fun _ _ _ h => h) (Or.inl ⟨by rfl, ?_⟩) (by assumption) ?_
    rotate_left
    · (intro w hSw; (try dsimp only at hSw); go_simp; try with_reducible rfl)
    try simp only [Act.put, List.setIfInBounds_toArray, List.set_cons_zero, List.set_cons_succ]
    refine wpAnyH_ready (rs := [7, 16]) (by kernel_rfl) (by simp) ?_
    refine AllReadyH.cons rfl (fun K hK => ?_) ?_
    · go_simp
      refine hK.out _ _ ?_ (fun hHeld => ?_)
      · go_keep
      clear hK K
      try simp only [Act.put, List.setIfInBounds_toArray, List.set_cons_zero, List.set_cons_succ]
      refine wpAnyH_take (i := 15) (v := ?_) rfl (by kernel_rfl) (by kernel_rfl) (by kernel_rfl) (fun _ _ _ h => h) (Or.inl ⟨by rfl, ?_⟩) (by assumption) ?_
      rotate_left
      · (intro w hSw; (try dsimp only at hSw); go_simp; try with_reducible rfl)
      try simp only [Act.put, List.setIfInBounds_toArray, List.set_cons_zero, List.set_cons_succ]
      refine wpAnyH_ready (rs := [16]) (by kernel_rfl) (by simp) ?_
      refine AllReadyH.cons rfl (fun K hK => ?_) ?_
      · go_simp
        refine hK.out _ _ ?_ (fun hHeld => ?_)
        · go_keep
        clear hK K
        try simp only [Act.put, List.setIfInBounds_toArray, List.set_cons_zero, List.set_cons_succ]
        refine wpAnyH_ready (rs := [17]) (by kernel_rfl) (by simp) ?_
        refine AllReadyH.cons rfl (fun K hK => ?_) ?_
        · refine step_append_lies _ (by rfl) _ _ _ (by rfl) B0 25 i0' _ 5 80 Try.underlying23 hi0 hz0 hz1 hz2 rfl (by omega) (.slice A n c) n kcs (by rfl) (own_drew (hown1.alloc _))
            ⟨w.heap.size + 1, 0, none⟩ 1 1 [.string ⟨#[]⟩, .int .i64 0, .slice none 0 0, .bool false, .slice none 0 0] (by rfl) (by rfl) (World.news_of_block (cs := #[.string ⟨#[]⟩, .int .i64 0, .slice none 0 0, .bool false, .slice none 0 0]) (t := 25) (fr := (0, 0)) (by show ((w.alloc (.cells #[.bool true] 4)).alloc _).heap[w.heap.size + 1]? = _; rw [show w.heap.size + 1 = (w.alloc (.cells #[.bool true] 4)).heap.size by simp]; exact heap_alloc_new _ _)) (by simp [Value.oneCell'])
            (by omega) (by unfold maxLen; omega) (by omega) (by simp; omega) (w.heap.size + 2) (by simp) ?_
          intro gg cap w1 hown2 hgrow hat hlt
          have fz : w1.frozen? ⟨b0, 4, none⟩ = false := (hgrow.frozen_far ⟨b0, 4, none⟩ (by simp; omega) (Ne.symm a0)).trans (by show World.frozen? ((w.alloc _).alloc _) _ = false; rw [frozen?_alloc_cells]; exact fk1)
          have cz : w1.cell? ⟨b0, 4, none⟩ = some (.slice A n c) := (hgrow.cell_far ⟨b0, 4, none⟩ (by simp; omega) (Ne.symm a0)).trans (by show World.cell? ((w.alloc _).alloc _) _ = _; rw [World.cell?_alloc_lt _ _ _ (by simp; omega), World.cell?_alloc_lt _ _ _ (by simp; omega)]; exact hk)
          have fr : w1.frozen? ⟨r, 1, none⟩ = false := (hgrow.frozen_far ⟨r, 1, none⟩ (by simp; omega) (Ne.symm ar)).trans (by show World.frozen? ((w.alloc _).alloc _) _ = false; rw [frozen?_alloc_cells, frozen?_alloc_cells]; exact fr1)
          refine hK.out _ _ ?_ (fun hHeld => ?_)
          · refine ⟨?_, ?_, ?_, ?_, ?_, ?_, ?_⟩
            · (rw [hgrow.cell_far _ (by simp; omega) (Ne.symm ar)]; go_split_ands; assumption)
            · (rw [hgrow.cell_far _ (by simp; omega) (Ne.symm ar)]; go_split_ands; assumption)
            · (rw [hgrow.cell_far _ (by simp; omega) (Ne.symm ai)]; go_split_ands; assumption)
            · (rw [hgrow.cell_far _ (by simp; omega) (Ne.symm ai)]; go_split_ands; assumption)
            · (rw [hgrow.cell_far _ (by simp; omega) (Ne.symm ai)]; go_split_ands; assumption)
            · (rw [hgrow.cell_far _ (by simp; omega) (Ne.symm ai)]; go_split_ands; assumption)
            · (rw [hgrow.cell_far _ (by simp; omega) (Ne.symm ai)]; go_split_ands; assumption)
          clear hK K
          try simp only [Act.put, List.setIfInBounds_toArray, List.set_cons_zero, List.set_cons_succ]
          refine wpAnyH_take (i := 18) (v := ?_) rfl (by kernel_rfl) (by kernel_rfl) (by kernel_rfl) (fun _ _ _ h => h) (Or.inl ⟨by rfl, ?_⟩) (by assumption) ?_
          rotate_left
          · (intro w hSw; (try dsimp only at hSw); go_simp; try with_reducible rfl)
          try simp only [Act.put, List.setIfInBounds_toArray, List.set_cons_zero, List.set_cons_succ]
          refine wpAnyH_take (i := 19) (v := ?_) rfl (by kernel_rfl) (by kernel_rfl) (by kernel_rfl) (fun _ _ _ h => h) (Or.inl ⟨by rfl, ?_⟩) (by assumption) ?_
          rotate_left
          · (intro w hSw; (try dsimp only at hSw); go_simp; try with_reducible rfl)
          try simp only [Act.put, List.setIfInBounds_toArray, List.set_cons_zero, List.set_cons_succ]
          refine wpAnyH_take (i := 20) (v := ?_) rfl (by kernel_rfl) (by kernel_rfl) (by kernel_rfl) (fun _ _ _ h => h) (Or.inl ⟨by rfl, ?_⟩) (by assumption) ?_
          rotate_left
          · (intro w hSw; (try dsimp only at hSw); go_simp; try with_reducible rfl)
          try simp only [Act.put, List.setIfInBounds_toArray, List.set_cons_zero, List.set_cons_succ]
          refine wpAnyH_ready (rs := [21]) (by kernel_rfl) (by simp) ?_
          refine AllReadyH.cons rfl (fun K hK => ?_) ?_
          · go_simp
            refine hK.out _ _ ?_ (fun hHeld => ?_)
            · go_keep
            clear hK K
            try simp only [Act.put, List.setIfInBounds_toArray, List.set_cons_zero, List.set_cons_succ]
            refine wpAnyH_done (by kernel_rfl) ?_ _
            have hg0 : gg ≠ b0 := fun e => by subst e; rcases hat with h | h; · exact a0 h
                                              · omega
            have hgr : gg ≠ r := fun e => by subst e; rcases hat with h | h; · exact ar h
                                             · omega
            have cr : w1.cell? ⟨r, 1, none⟩ = some (.pointer (some ⟨bi, 0, none⟩)) := (hgrow.cell_far ⟨r, 1, none⟩ (by simp; omega) (Ne.symm ar)).trans (by show World.cell? ((w.alloc _).alloc _) _ = _; rw [World.cell?_alloc_lt _ _ _ (by simp; omega), World.cell?_alloc_lt _ _ _ (by simp; omega)]; exact hr1)
            have zz : ∀ j z, [Value.string ⟨#[]⟩, .int .i64 0, .slice none 0 0, .bool false, .slice none 0 0][j]? = some z → w1.cell? ⟨gg, n * 5 + j, none⟩ = some z := fun j z hz => zero5 hown2 hown.1 j z hz
            have hbg : b0 ≠ gg := fun e => hg0 e.symm
            have z0 := zz 0 _ rfl
            have z1 := zz 1 _ rfl
            have z2 := zz 2 _ rfl
            have z3 := zz 3 _ rfl
            have z4 := zz 4 _ rfl
            have f0 := hown2.frozenAt (n * 5)
            have f1 := hown2.frozenAt (n * 5 + 1)
            have f2 := hown2.frozenAt (n * 5 + 2)
            have f3 := hown2.frozenAt (n * 5 + 3)
            have f4 := hown2.frozenAt (n * 5 + 4)
            have hrg : r ≠ gg := fun e => hgr e.symm
            rw [Nat.add_zero] at z0
            clear zz
            go_wp2
            go_end0
            have hS2 : Step w w1 [(b0, 4), (r, 1)] (Value.ownBlock (.slice A n c)) := Step.grown (((Step.refl w _ _).alloc _).alloc _).drew.drew hgrow (fun k hk => .inl hk.symm)
            have hgs : w.heap.size ≤ gg ∨ (∀ o, (gg, o) ∈ [(b0, 4), (r, 1)] ∨ some gg = Value.ownBlock (.slice A n c)) := by
              rcases hat with h | h
              · exact .inr fun _ => .inr h.symm
              · exact .inl (by omega)
            have hset := set5 kcs (.string ⟨#[]⟩) (.int .i64 0) (.slice none 0 0) (.bool false) (.slice none 0 0) (.string S) (.int .i64 P) (.slice Aw nw cw) (.bool bl) (.slice Ak nk ck)
            rw [hown.1] at hset
            have hfin := (((((own_set hown2 (p := ⟨b0, 4, none⟩) (by simpa [Value.ownBlock] using hg0) (.slice (some ⟨gg, 0, none⟩) (n + 1) cap)).stored (n * 5) (.string S)).1.stored (n * 5 + 1) (.int .i64 P)).1.stored (n * 5 + 2) (.slice Aw nw cw)).1.stored (n * 5 + 3) (.bool bl)).1.stored (n * 5 + 4) (.slice Ak nk ck)
            rw [hset] at hfin
            refine ⟨rfl, gg, cap, own_set hfin.1 (by simpa [Value.ownBlock] using hgr) _, hat.imp id (fun h => by omega), ?_, ?_, ?_⟩
            · repeat rw [World.cell?_setCell_other _ _ _ _ (by first | (simp; done) | (simp; omega))]
              exact World.cell?_setCell_same _ _ _ cz
            · exact World.cell?_setCell_same _ _ _ (u := .pointer (some ⟨bi, 0, none⟩)) (by
                repeat rw [World.cell?_setCell_other _ _ _ _ (by first | (simp; done) | (simp; omega))]
                exact cr)
            · exact ((((((hS2.setCell (.inr (.inl (by simp))) _).setCell (hgs.imp id fun h => h _) _).setCell (hgs.imp id fun h => h _) _).setCell (hgs.imp id fun h => h _) _).setCell (hgs.imp id fun h => h _) _).setCell (hgs.imp id fun h => h _) _).setCell (.inr (.inl (by simp))) _
          exact AllReadyH.nil
        exact AllReadyH.nil
      exact AllReadyH.nil
    refine AllReadyH.cons rfl (fun K hK => ?_) ?_
    · go_simp
      refine hK.out _ _ ?_ (fun hHeld => ?_)
      · go_keep
      clear hK K
      try simp only [Act.put, List.setIfInBounds_toArray, List.set_cons_zero, List.set_cons_succ]
      refine wpAnyH_ready (rs := [7]) (by kernel_rfl) (by simp) ?_
      refine AllReadyH.cons rfl (fun K hK => ?_) ?_
      · go_simp
        refine hK.out _ _ ?_ (fun hHeld => ?_)
        · go_keep
        clear hK K
        try simp only [Act.put, List.setIfInBounds_toArray, List.set_cons_zero, List.set_cons_succ]
        refine wpAnyH_take (i := 15) (v := ?_) rfl (by kernel_rfl) (by kernel_rfl) (by kernel_rfl) (fun _ _ _ h => h) (Or.inl ⟨by rfl, ?_⟩) (by assumption) ?_
        rotate_left
        · (intro w hSw; (try dsimp only at hSw); go_simp; try with_reducible rfl)
        try simp only [Act.put, List.setIfInBounds_toArray, List.set_cons_zero, List.set_cons_succ]
        refine wpAnyH_ready (rs := [17]) (by kernel_rfl) (by simp) ?_
        refine AllReadyH.cons rfl (fun K hK => ?_) ?_
        · refine step_append_lies _ (by rfl) _ _ _ (by rfl) B0 25 i0' _ 5 80 Try.underlying23 hi0 hz0 hz1 hz2 rfl (by omega) (.slice A n c) n kcs (by rfl) (own_drew (hown1.alloc _))
            ⟨w.heap.size + 1, 0, none⟩ 1 1 [.string ⟨#[]⟩, .int .i64 0, .slice none 0 0, .bool false, .slice none 0 0] (by rfl) (by rfl) (World.news_of_block (cs := #[.string ⟨#[]⟩, .int .i64 0, .slice none 0 0, .bool false, .slice none 0 0]) (t := 25) (fr := (0, 0)) (by show ((w.alloc (.cells #[.bool true] 4)).alloc _).heap[w.heap.size + 1]? = _; rw [show w.heap.size + 1 = (w.alloc (.cells #[.bool true] 4)).heap.size by simp]; exact heap_alloc_new _ _)) (by simp [Value.oneCell'])
            (by omega) (by unfold maxLen; omega) (by omega) (by simp; omega) (w.heap.size + 2) (by simp) ?_
          intro gg cap w1 hown2 hgrow hat hlt
          have fz : w1.frozen? ⟨b0, 4, none⟩ = false := (hgrow.frozen_far ⟨b0, 4, none⟩ (by simp; omega) (Ne.symm a0)).trans (by show World.frozen? ((w.alloc _).alloc _) _ = false; rw [frozen?_alloc_cells]; exact fk1)
          have cz : w1.cell? ⟨b0, 4, none⟩ = some (.slice A n c) := (hgrow.cell_far ⟨b0, 4, none⟩ (by simp; omega) (Ne.symm a0)).trans (by show World.cell? ((w.alloc _).alloc _) _ = _; rw [World.cell?_alloc_lt _ _ _ (by simp; omega), World.cell?_alloc_lt _ _ _ (by simp; omega)]; exact hk)
          have fr : w1.frozen? ⟨r, 1, none⟩ = false := (hgrow.frozen_far ⟨r, 1, none⟩ (by simp; omega) (Ne.symm ar)).trans (by show World.frozen? ((w.alloc _).alloc _) _ = false; rw [frozen?_alloc_cells, frozen?_alloc_cells]; exact fr1)
          refine hK.out _ _ ?_ (fun hHeld => ?_)
          · refine ⟨?_, ?_, ?_, ?_, ?_, ?_, ?_⟩
            · (rw [hgrow.cell_far _ (by simp; omega) (Ne.symm ar)]; go_split_ands; assumption)
            · (rw [hgrow.cell_far _ (by simp; omega) (Ne.symm ar)]; go_split_ands; assumption)
            · (rw [hgrow.cell_far _ (by simp; omega) (Ne.symm ai)]; go_split_ands; assumption)
            · (rw [hgrow.cell_far _ (by simp; omega) (Ne.symm ai)]; go_split_ands; assumption)
            · (rw [hgrow.cell_far _ (by simp; omega) (Ne.symm ai)]; go_split_ands; assumption)
            · (rw [hgrow.cell_far _ (by simp; omega) (Ne.symm ai)]; go_split_ands; assumption)
            · (rw [hgrow.cell_far _ (by simp; omega) (Ne.symm ai)]; go_split_ands; assumption)
          clear hK K
          try simp only [Act.put, List.setIfInBounds_toArray, List.set_cons_zero, List.set_cons_succ]
          refine wpAnyH_take (i := 18) (v := ?_) rfl (by kernel_rfl) (by kernel_rfl) (by kernel_rfl) (fun _ _ _ h => h) (Or.inl ⟨by rfl, ?_⟩) (by assumption) ?_
          rotate_left
          · (intro w hSw; (try dsimp only at hSw); go_simp; try with_reducible rfl)
          try simp only [Act.put, List.setIfInBounds_toArray, List.set_cons_zero, List.set_cons_succ]
          refine wpAnyH_take (i := 19) (v := ?_) rfl (by kernel_rfl) (by kernel_rfl) (by kernel_rfl) (fun _ _ _ h => h) (Or.inl ⟨by rfl, ?_⟩) (by assumption) ?_
          rotate_left
          · (intro w hSw; (try dsimp only at hSw); go_simp; try with_reducible rfl)
          try simp only [Act.put, List.setIfInBounds_toArray, List.set_cons_zero, List.set_cons_succ]
          refine wpAnyH_take (i := 20) (v := ?_) rfl (by kernel_rfl) (by kernel_rfl) (by kernel_rfl) (fun _ _ _ h => h) (Or.inl ⟨by rfl, ?_⟩) (by assumption) ?_
          rotate_left
          · (intro w hSw; (try dsimp only at hSw); go_simp; try with_reducible rfl)
          try simp only [Act.put, List.setIfInBounds_toArray, List.set_cons_zero, List.set_cons_succ]
          refine wpAnyH_ready (rs := [21]) (by kernel_rfl) (by simp) ?_
          refine AllReadyH.cons rfl (fun K hK => ?_) ?_
          · go_simp
            refine hK.out _ _ ?_ (fun hHeld => ?_)
            · go_keep
            clear hK K
            try simp only [Act.put, List.setIfInBounds_toArray, List.set_cons_zero, List.set_cons_succ]
            refine wpAnyH_done (by kernel_rfl) ?_ _
            have hg0 : gg ≠ b0 := fun e => by subst e; rcases hat with h | h; · exact a0 h
                                              · omega
            have hgr : gg ≠ r := fun e => by subst e; rcases hat with h | h; · exact ar h
                                             · omega
            have cr : w1.cell? ⟨r, 1, none⟩ = some (.pointer (some ⟨bi, 0, none⟩)) := (hgrow.cell_far ⟨r, 1, none⟩ (by simp; omega) (Ne.symm ar)).trans (by show World.cell? ((w.alloc _).alloc _) _ = _; rw [World.cell?_alloc_lt _ _ _ (by simp; omega), World.cell?_alloc_lt _ _ _ (by simp; omega)]; exact hr1)
            have zz : ∀ j z, [Value.string ⟨#[]⟩, .int .i64 0, .slice none 0 0, .bool false, .slice none 0 0][j]? = some z → w1.cell? ⟨gg, n * 5 + j, none⟩ = some z := fun j z hz => zero5 hown2 hown.1 j z hz
            have hbg : b0 ≠ gg := fun e => hg0 e.symm
            have z0 := zz 0 _ rfl
            have z1 := zz 1 _ rfl
            have z2 := zz 2 _ rfl
            have z3 := zz 3 _ rfl
            have z4 := zz 4 _ rfl
            have f0 := hown2.frozenAt (n * 5)
            have f1 := hown2.frozenAt (n * 5 + 1)
            have f2 := hown2.frozenAt (n * 5 + 2)
            have f3 := hown2.frozenAt (n * 5 + 3)
            have f4 := hown2.frozenAt (n * 5 + 4)
            have hrg : r ≠ gg := fun e => hgr e.symm
            rw [Nat.add_zero] at z0
            clear zz
            go_wp2
            go_end0
            have hS2 : Step w w1 [(b0, 4), (r, 1)] (Value.ownBlock (.slice A n c)) := Step.grown (((Step.refl w _ _).alloc _).alloc _).drew.drew hgrow (fun k hk => .inl hk.symm)
            have hgs : w.heap.size ≤ gg ∨ (∀ o, (gg, o) ∈ [(b0, 4), (r, 1)] ∨ some gg = Value.ownBlock (.slice A n c)) := by
              rcases hat with h | h
              · exact .inr fun _ => .inr h.symm
              · exact .inl (by omega)
            have hset := set5 kcs (.string ⟨#[]⟩) (.int .i64 0) (.slice none 0 0) (.bool false) (.slice none 0 0) (.string S) (.int .i64 P) (.slice Aw nw cw) (.bool bl) (.slice Ak nk ck)
            rw [hown.1] at hset
            have hfin := (((((own_set hown2 (p := ⟨b0, 4, none⟩) (by simpa [Value.ownBlock] using hg0) (.slice (some ⟨gg, 0, none⟩) (n + 1) cap)).stored (n * 5) (.string S)).1.stored (n * 5 + 1) (.int .i64 P)).1.stored (n * 5 + 2) (.slice Aw nw cw)).1.stored (n * 5 + 3) (.bool bl)).1.stored (n * 5 + 4) (.slice Ak nk ck)
            rw [hset] at hfin
            refine ⟨rfl, gg, cap, own_set hfin.1 (by simpa [Value.ownBlock] using hgr) _, hat.imp id (fun h => by omega), ?_, ?_, ?_⟩
            · repeat rw [World.cell?_setCell_other _ _ _ _ (by first | (simp; done) | (simp; omega))]
              exact World.cell?_setCell_same _ _ _ cz
            · exact World.cell?_setCell_same _ _ _ (u := .pointer (some ⟨bi, 0, none⟩)) (by
                repeat rw [World.cell?_setCell_other _ _ _ _ (by first | (simp; done) | (simp; omega))]
                exact cr)
            · exact ((((((hS2.setCell (.inr (.inl (by simp))) _).setCell (hgs.imp id fun h => h _) _).setCell (hgs.imp id fun h => h _) _).setCell (hgs.imp id fun h => h _) _).setCell (hgs.imp id fun h => h _) _).setCell (hgs.imp id fun h => h _) _).setCell (.inr (.inl (by simp))) _
          exact AllReadyH.nil
        exact AllReadyH.nil
      exact AllReadyH.nil
    exact AllReadyH.nil

end Go.Proofs.Ytmiejdbpogggeaa
end

section
/- Layer 9 (tree): the walk of begins. -/
set_option linter.unusedVariables false
namespace Go.Proofs.Ytmiejdbpogggeaa
open Go.RowKit
attribute [local go_sem ↓] Go.wp_at_zero Go.wp_at_succ

/-- The six cells of an open item. -/
def Open6 (w : World) (b : Nat) (S : ByteArray) (P : Int) (Aw : Option Addr) (nw cw : Nat) (bl : Bool) (Ak : Option Addr) (nk ck : Nat) (up : Option Nat) : Prop :=
  w.cell? ⟨b, 0, none⟩ = some (.string S) ∧ w.cell? ⟨b, 1, none⟩ = some (.int .i64 P) ∧ w.cell? ⟨b, 2, none⟩ = some (.slice Aw nw cw) ∧ w.cell? ⟨b, 3, none⟩ = some (.bool bl) ∧
    w.cell? ⟨b, 4, none⟩ = some (.slice Ak nk ck) ∧ w.cell? ⟨b, 5, none⟩ = some (.pointer (up.map fun b => ⟨b, 0, none⟩)) ∧ ∀ j, w.frozen? ⟨b, j, none⟩ = false

theorem cell_drew (w : World) (p : Addr) : w.drew.cell? p = w.cell? p := rfl
theorem alloc_at (W : World) (o : Obj) {n : Nat} (h : W.heap.size = n) : (W.alloc o).heap[n]? = some o := by rw [← h]; exact heap_alloc_new W o
theorem open6_of_block {w : World} {b : Nat} {S : ByteArray} {P : Int} {Aw : Option Addr} {nw cw : Nat} {bl : Bool} {Ak : Option Addr} {nk ck : Nat} {up : Option Nat} {t : TypeId}
    (h : w.heap[b]? = some (.cells #[.string S, .int .i64 P, .slice Aw nw cw, .bool bl, .slice Ak nk ck, .pointer (up.map fun b => ⟨b, 0, none⟩)] t (0, 0))) : Open6 w b S P Aw nw cw bl Ak nk ck up :=
  ⟨Joins.cell_of_block h 0, Joins.cell_of_block h 1, Joins.cell_of_block h 2, Joins.cell_of_block h 3, Joins.cell_of_block h 4, Joins.cell_of_block h 5, Joins.unfrozen_of_block h⟩
/-- Nothing of it is touched. -/
theorem Open6.keep {w w' : World} {C : List (Nat × Nat)} {row : Option Nat} {b : Nat} {S : ByteArray} {P : Int} {Aw : Option Addr} {nw cw : Nat} {bl : Bool} {Ak : Option Addr} {nk ck : Nat} {up : Option Nat}
    (h : Open6 w b S P Aw nw cw bl Ak nk ck up) (hs : Step w w' C row) (hC : ∀ j, (b, j) ∉ C) (hr : row ≠ some b) : Open6 w' b S P Aw nw cw bl Ak nk ck up := by
  have hb := World.block_lt_of_cell? w _ h.1
  obtain ⟨h0, h1, h2, h3, h4, h5, hf⟩ := h
  exact ⟨(hs.cell b hb hr.symm 0 (hC 0)).trans h0, (hs.cell b hb hr.symm 1 (hC 1)).trans h1, (hs.cell b hb hr.symm 2 (hC 2)).trans h2, (hs.cell b hb hr.symm 3 (hC 3)).trans h3,
    (hs.cell b hb hr.symm 4 (hC 4)).trans h4, (hs.cell b hb hr.symm 5 (hC 5)).trans h5, fun j => (hs.froz b hb hr.symm j).trans (hf j)⟩
theorem Step.trans {w w1 w2 : World} {C1 C2 C : List (Nat × Nat)} {row : Option Nat} (h1 : Step w w1 C1 none) (h2 : Step w1 w2 C2 row) (hc1 : ∀ x ∈ C1, x ∈ C) (hc2 : ∀ x ∈ C2, x ∈ C) : Step w w2 C row := by
  have hs := h1.size
  refine ⟨h2.os.trans h1.os, h2.tape.trans h1.tape, h2.output.trans h1.output, Nat.le_trans hs h2.size, fun k hk hC hr => ?_, fun k hk hr j hj => ?_, fun k hk hr j => ?_, fun k hk hr cs t f hh => ?_⟩
  · exact (h2.block k (by omega) (fun j hj => hC j (hc2 _ hj)) hr).trans (h1.block k hk (fun j hj => hC j (hc1 _ hj)) (by simp))
  · exact (h2.cell k (by omega) hr j (fun h => hj (hc2 _ h))).trans (h1.cell k hk (by simp) j (fun h => hj (hc1 _ h)))
  · exact (h2.froz k (by omega) hr j).trans (h1.froz k hk (by simp) j)
  · obtain ⟨cs', h'⟩ := h1.shape k hk (by simp) cs t f hh
    exact h2.shape k (by omega) hr cs' t f h'
theorem shape_keep {w w' : World} {C : List (Nat × Nat)} {row : Option Nat} (h : Step w w' C row) {b : Nat} (hx : ∃ cs t, w.heap[b]? = some (.cells cs t (0, 0))) (hr : row ≠ some b) : ∃ cs t, w'.heap[b]? = some (.cells cs t (0, 0)) := by
  obtain ⟨cs, t, hh⟩ := hx
  obtain ⟨cs', h'⟩ := h.shape b (Array.getElem?_eq_some_iff.1 hh).1 hr.symm cs t _ hh
  exact ⟨cs', t, h'⟩

set_option maxRecDepth 100000 in
set_option maxHeartbeats 2000000 in
theorem tree_begins_name (w : World) (r b0 : Nat) (P N : Int) (S : ByteArray) (v1 : Value) (hr0 : w.cell? ⟨r, 0, none⟩ = some (.pointer (some ⟨b0, 0, none⟩))) (hr1 : w.cell? ⟨r, 1, none⟩ = some v1) (fr1 : w.frozen? ⟨r, 1, none⟩ = false) :
    Calls Try.prog 56 #[.pointer (some ⟨r, 0, none⟩), .agg #[.int .i64 1, .int .i64 P, .int .i64 N, .string S]] w fun e w' =>
      e = .returned (.int .i64 0) ∧ ∃ g, w.heap.size ≤ g ∧ g < w'.heap.size ∧ Open6 w' g S P none 0 0 false none 0 0 (some b0) ∧ w'.cell? ⟨r, 1, none⟩ = some (.pointer (some ⟨g, 0, none⟩)) ∧ (∃ cs t, w'.heap[g]? = some (.cells cs t (0, 0))) ∧ Step w w' [(r, 1)] none := by
  have lr := World.block_lt_of_cell? w _ hr0
  simp only at lr
  go_enter Try.func56, Try.ntmps56
  go_wp2_with fail
  go_region
  all_goals
    go_wp2
    go_ret
    refine ⟨rfl, w.heap.size + 1, by omega, by simp, open6_of_block (t := 82) ?_, ?_, ⟨_, _, by
      show (World.heap (World.alloc (World.alloc _ _) _))[w.heap.size + 1]? = _
      exact alloc_at _ _ (by simp)⟩, by (repeat (first | exact Step.refl _ _ _ | assumption | refine Step.drew ?_ | refine Step.alloc ?_ _ | refine Step.setCell ?_ (by first | exact Or.inr (Or.inl (by simp)) | exact Or.inl (by simp) | exact Or.inl (by simp; omega) | exact Or.inl (by omega)) _))⟩
    · show (World.heap (World.alloc (World.alloc _ _) _))[w.heap.size + 1]? = _
      exact alloc_at _ _ (by simp)
    · show World.cell? (World.alloc (World.alloc _ _) _) _ = _
      rw [World.cell?_alloc_lt _ _ _ (by simp; omega), World.cell?_alloc_lt _ _ _ (by simp; omega)]
      exact World.cell?_setCell_same _ _ _ hr1

set_option maxRecDepth 100000 in
set_option maxHeartbeats 2000000 in
theorem tree_begins_bad (w : World) (r b0 : Nat) (K P N : Int) (S : ByteArray) (up : Option Nat) (hr0 : w.cell? ⟨r, 0, none⟩ = some (.pointer (some ⟨b0, 0, none⟩))) (h5 : w.cell? ⟨b0, 5, none⟩ = some (.pointer (up.map fun b => ⟨b, 0, none⟩)))
    (h1 : K ≠ 1) (h4 : K ≠ 4 ∨ up = none) :
    Calls Try.prog 56 #[.pointer (some ⟨r, 0, none⟩), .agg #[.int .i64 K, .int .i64 P, .int .i64 N, .string S]] w fun e w' => e = .returned (.int .i64 5) ∧ Step w w' [] none := by
  have lr := World.block_lt_of_cell? w _ hr0
  have lb := World.block_lt_of_cell? w _ h5
  simp only at lr lb
  have k1 : (K == 1) = false := beq_false_of_ne h1
  by_cases hk : K = 4
  · subst hk
    rcases h4 with h | h
    · exact absurd rfl h
    · subst h
      simp only [Option.map_none] at h5
      go_enter Try.func56, Try.ntmps56
      go_wp2
      go_ret
      exact ⟨rfl, by (repeat (first | exact Step.refl _ _ _ | assumption | refine Step.drew ?_ | refine Step.alloc ?_ _ | refine Step.setCell ?_ (by first | exact Or.inr (Or.inl (by simp)) | exact Or.inl (by simp) | exact Or.inl (by simp; omega) | exact Or.inl (by omega)) _))⟩
  · have k4 : (K == 4) = false := beq_false_of_ne hk
    clear h4 h1 hk
    go_enter Try.func56, Try.ntmps56
    go_wp2
    go_ret
    exact ⟨rfl, by (repeat (first | exact Step.refl _ _ _ | assumption | refine Step.drew ?_ | refine Step.alloc ?_ _ | refine Step.setCell ?_ (by first | exact Or.inr (Or.inl (by simp)) | exact Or.inl (by simp) | exact Or.inl (by simp; omega) | exact Or.inl (by omega)) _))⟩

theorem own_lt {w : World} {B0 e size g m cap n : Nat} {xs : List Value} (h : w.ownsRow B0 e size (.slice (some ⟨g, 0, none⟩) m cap) n xs) (hx : xs ≠ []) : g < w.heap.size := by
  obtain ⟨u, r, rfl⟩ := List.exists_cons_of_ne_nil hx
  have := h.cells (g := g) rfl 0 u rfl
  exact World.block_lt_of_cell? w _ this
/-- What a block's end leaves: the block's cells behind its parent's kids. -/
def ClosedPost (w : World) (r p : Nat) (D : Int) (B0 n : Nat) (A : Option Addr) (c : Nat) (kcs news : List Value) (e : Ending) (w' : World) : Prop :=
  e = .returned (.int .i64 0) ∧ ∃ g cap, w'.ownsRow B0 25 5 (.slice (some ⟨g, 0, none⟩) (n + 1) cap) (n + 1) (kcs ++ news) ∧
    (Value.ownBlock (.slice A n c) = some g ∨ w.heap.size ≤ g) ∧ g < w'.heap.size ∧ w'.cell? ⟨p, 4, none⟩ = some (.slice (some ⟨g, 0, none⟩) (n + 1) cap) ∧
    w'.cell? ⟨r, 0, none⟩ = some (.pointer (some ⟨p, 0, none⟩)) ∧ w'.cell? ⟨r, 1, none⟩ = some (.pointer none) ∧ w'.cell? ⟨r, 2, none⟩ = some (.int .i64 D) ∧
    Step w w' [(p, 4), (r, 0), (r, 1), (r, 2)] (Value.ownBlock (.slice A n c))

set_option maxRecDepth 100000 in
set_option maxHeartbeats 2000000 in
theorem tree_begins_close (w : World) (r b p B0 n c : Nat) (A : Option Addr) (kcs : List Value) (D P' N' : Int) (S' S : ByteArray) (P : Int) (Aw Ak : Option Addr) (nw cw nk ck : Nat) (bl : Bool) (v1 : Value)
    (hr0 : w.cell? ⟨r, 0, none⟩ = some (.pointer (some ⟨b, 0, none⟩))) (hr1 : w.cell? ⟨r, 1, none⟩ = some v1) (hr2 : w.cell? ⟨r, 2, none⟩ = some (.int .i64 D)) (fr : ∀ j, w.frozen? ⟨r, j, none⟩ = false) (hD : 1 ≤ D ∧ D ≤ 100)
    (hb : Open6 w b S P Aw nw cw bl Ak nk ck (some p))
    (hk : w.cell? ⟨p, 4, none⟩ = some (.slice A n c)) (fk : w.frozen? ⟨p, 4, none⟩ = false) (hown : w.ownsRow B0 25 5 (.slice A n c) n kcs)
    (hn : n ≤ 100000) (hB0 : B0 ≤ w.heap.size)
    (ar : Value.ownBlock (.slice A n c) ≠ some r) (ap : Value.ownBlock (.slice A n c) ≠ some p) (ab : Value.ownBlock (.slice A n c) ≠ some b) (hrp : r ≠ p) (hrb : r ≠ b) (hpb : p ≠ b) :
    Calls Try.prog 56 #[.pointer (some ⟨r, 0, none⟩), .agg #[.int .i64 4, .int .i64 P', .int .i64 N', .string S']] w
      (ClosedPost w r p (D - 1) B0 n A c kcs [.string S, .int .i64 P, .slice Aw nw cw, .bool bl, .slice Ak nk ck]) := by
  have lr := World.block_lt_of_cell? w _ hr0
  have lb := World.block_lt_of_cell? w _ hb.1
  have lp := World.block_lt_of_cell? w _ hk
  simp only at lr lb lp
  obtain ⟨b0, b1, b2, b3, b4, b5, bf⟩ := hb
  simp only [Option.map_some] at b5
  have fr0 := fr 0
  have fr1 := fr 1
  have fr2 := fr 2
  have hbr : b ≠ r := fun h => hrb h.symm
  have hD1 : IntKind.i64.wrap (D - 1) = D - 1 := by rw [IntKind.wrap_i64]; omega
  go_enter Try.func56, Try.ntmps56
  go_wp2_with fail
  go_region
  all_goals
    go_wp2_with fail
    have S1 : Step w ((((w.setCell ⟨r, 2, none⟩ (.int .i64 (D - 1))).setCell ⟨r, 1, none⟩ (.pointer (some ⟨b, 0, none⟩))).setCell ⟨r, 0, none⟩ (.pointer (some ⟨p, 0, none⟩))).alloc (.cells #[.int .i64 4, .int .i64 P', .int .i64 N', .string S'] 87)).drew [(r, 2), (r, 1), (r, 0)] none := by (repeat (first | exact Step.refl _ _ _ | assumption | refine Step.drew ?_ | refine Step.alloc ?_ _ | refine Step.setCell ?_ (by first | exact Or.inr (Or.inl (by simp)) | exact Or.inl (by simp) | exact Or.inl (by simp; omega) | exact Or.inl (by omega)) _))
    have c0 : (((w.setCell ⟨r, 2, none⟩ (.int .i64 (D - 1))).setCell ⟨r, 1, none⟩ (.pointer (some ⟨b, 0, none⟩))).setCell ⟨r, 0, none⟩ (.pointer (some ⟨p, 0, none⟩))).cell? ⟨r, 0, none⟩ = some (.pointer (some ⟨p, 0, none⟩)) :=
      World.cell?_setCell_same _ _ _ (by rw [World.cell?_setCell_other _ _ _ _ (by simp), World.cell?_setCell_other _ _ _ _ (by simp)]; exact hr0)
    have c1 : (((w.setCell ⟨r, 2, none⟩ (.int .i64 (D - 1))).setCell ⟨r, 1, none⟩ (.pointer (some ⟨b, 0, none⟩))).setCell ⟨r, 0, none⟩ (.pointer (some ⟨p, 0, none⟩))).cell? ⟨r, 1, none⟩ = some (.pointer (some ⟨b, 0, none⟩)) := by
      rw [World.cell?_setCell_other _ _ _ _ (by simp)]
      exact World.cell?_setCell_same _ _ _ (by rw [World.cell?_setCell_other _ _ _ _ (by simp)]; exact hr1)
    have c2 : (((w.setCell ⟨r, 2, none⟩ (.int .i64 (D - 1))).setCell ⟨r, 1, none⟩ (.pointer (some ⟨b, 0, none⟩))).setCell ⟨r, 0, none⟩ (.pointer (some ⟨p, 0, none⟩))).cell? ⟨r, 2, none⟩ = some (.int .i64 (D - 1)) := by
      rw [World.cell?_setCell_other _ _ _ _ (by simp), World.cell?_setCell_other _ _ _ _ (by simp)]
      exact World.cell?_setCell_same _ _ _ hr2
    have e0 := (cell_drew _ _).trans ((World.cell?_alloc_lt _ (.cells #[.int .i64 4, .int .i64 P', .int .i64 N', .string S'] 87) ⟨r, 0, none⟩ (by simpa using lr)).trans c0)
    have e1 := (cell_drew _ _).trans ((World.cell?_alloc_lt _ (.cells #[.int .i64 4, .int .i64 P', .int .i64 N', .string S'] 87) ⟨r, 1, none⟩ (by simpa using lr)).trans c1)
    have e2 := (cell_drew _ _).trans ((World.cell?_alloc_lt _ (.cells #[.int .i64 4, .int .i64 P', .int .i64 N', .string S'] 87) ⟨r, 2, none⟩ (by simpa using lr)).trans c2)
    have hsz : (((((w.setCell ⟨r, 2, none⟩ (.int .i64 (D - 1))).setCell ⟨r, 1, none⟩ (.pointer (some ⟨b, 0, none⟩))).setCell ⟨r, 0, none⟩ (.pointer (some ⟨p, 0, none⟩))).alloc (.cells #[.int .i64 4, .int .i64 P', .int .i64 N', .string S'] 87)).drew).heap.size = w.heap.size + 1 := by simp
    generalize ((((w.setCell ⟨r, 2, none⟩ (.int .i64 (D - 1))).setCell ⟨r, 1, none⟩ (.pointer (some ⟨b, 0, none⟩))).setCell ⟨r, 0, none⟩ (.pointer (some ⟨p, 0, none⟩))).alloc (.cells #[.int .i64 4, .int .i64 P', .int .i64 N', .string S'] 87)).drew = W1 at *
    have nb : ∀ j, (b, j) ∉ [(r, 2), (r, 1), (r, 0)] := fun j => by simp [hbr]
    have np : ∀ j, (p, j) ∉ [(r, 2), (r, 1), (r, 0)] := fun j => by simp [Ne.symm hrp]
    refine (tree_close W1 r p b B0 n c A kcs S P Aw Ak nw cw nk ck bl e0 e1 ((S1.froz r lr (by simp) 1).trans fr1) ((S1.cell p lp (by simp) 4 (np 4)).trans hk) ((S1.froz p lp (by simp) 4).trans fk)
      (S1.own hown (fun k hk j => by simp only [List.mem_cons, Prod.mk.injEq, List.not_mem_nil, or_false]; intro h; rcases h with h | h | h <;> exact ar (by rw [hk, h.1])) (Classical.em _))
      ((S1.cell b lb (by simp) 0 (nb 0)).trans b0) ((S1.cell b lb (by simp) 1 (nb 1)).trans b1) ((S1.cell b lb (by simp) 2 (nb 2)).trans b2) ((S1.cell b lb (by simp) 3 (nb 3)).trans b3) ((S1.cell b lb (by simp) 4 (nb 4)).trans b4)
      hn (by omega) ar ap ab hrp hrb hpb).mono ?_
    rintro e w' ⟨rfl, g, cap, h1, h2, h3, h4, h5⟩
    go_wp2
    go_ret
    refine ⟨rfl, g, cap, h1, h2.imp id (fun h => by omega), own_lt h1 (by simp), h3, (h5.cell r (by omega) (fun e => ar e.symm) 0 (by simp [hrp])).trans e0, h4, (h5.cell r (by omega) (fun e => ar e.symm) 2 (by simp [hrp])).trans e2, ?_⟩
    exact Step.trans S1 h5 (fun x hx => by simp at hx ⊢; rcases hx with h | h | h <;> simp [h]) (fun x hx => by simp at hx ⊢; rcases hx with h | h <;> simp [h])

end Go.Proofs.Ytmiejdbpogggeaa
end

section
/- Layer 9 (tree): the walk of goes. -/
set_option linter.unusedVariables false
set_option linter.unusedSimpArgs false
namespace Go.Proofs.Ytmiejdbpogggeaa
open Go.RowKit
attribute [local go_sem ↓] Go.wp_at_zero Go.wp_at_succ

theorem info_word : (Try.prog.info? 40).map (fun i => (i.zero, i.size, i.bytes)) = some (some (.agg #[.bool false, .int .i64 0, .string ⟨#[]⟩, .int .i64 0]), 4, 40) := by kernel_rfl

/-- What a word leaves: its cells behind the item's words. -/
def WordPost (w : World) (bi B0 n : Nat) (A : Option Addr) (c : Nat) (wcs news : List Value) (e : Ending) (w' : World) : Prop :=
  e = .returned (.int .i64 0) ∧ ∃ g cap, w'.ownsRow B0 40 4 (.slice (some ⟨g, 0, none⟩) (n + 1) cap) (n + 1) (wcs ++ news) ∧
    (Value.ownBlock (.slice A n c) = some g ∨ w.heap.size ≤ g) ∧ g < w'.heap.size ∧ w'.cell? ⟨bi, 2, none⟩ = some (.slice (some ⟨g, 0, none⟩) (n + 1) cap) ∧ Step w w' [(bi, 2)] (Value.ownBlock (.slice A n c))

set_option maxRecDepth 100000 in
set_option maxHeartbeats 4000000 in
theorem tree_goes_word1 (w : World) (r bi B0 n c : Nat) (A : Option Addr) (wcs : List Value) (P N : Int) (S : ByteArray)
    (hr1 : w.cell? ⟨r, 1, none⟩ = some (.pointer (some ⟨bi, 0, none⟩))) (h2 : w.cell? ⟨bi, 2, none⟩ = some (.slice A n c)) (f2 : w.frozen? ⟨bi, 2, none⟩ = false) (hown : w.ownsRow B0 40 4 (.slice A n c) n wcs)
    (hn : n < 8) (hB0 : B0 ≤ w.heap.size) (ar : Value.ownBlock (.slice A n c) ≠ some r) (ai : Value.ownBlock (.slice A n c) ≠ some bi) (hrbi : r ≠ bi) :
    Calls Try.prog 57 #[.pointer (some ⟨r, 0, none⟩), .agg #[.int .i64 1, .int .i64 P, .int .i64 N, .string S]] w (WordPost w bi B0 n A c wcs [.bool false, .int .i64 N, .string S, .int .i64 P]) := by
  obtain ⟨i0', hi0, hz0, hz1, hz2⟩ := info_parts info_word
  have lr := World.block_lt_of_cell? w _ hr1
  have li := World.block_lt_of_cell? w _ h2
  simp only at lr li
  have hn8 : ((n : Int) == 8) = false := beq_false_of_ne (by omega)
  have hown1 : (w.alloc (.cells #[.int .i64 1, .int .i64 P, .int .i64 N, .string S] 87)).ownsRow B0 40 4 (.slice A n c) n wcs := hown.alloc _
  have f21 : (w.alloc (.cells #[.int .i64 1, .int .i64 P, .int .i64 N, .string S] 87)).frozen? ⟨bi, 2, none⟩ = false := by rw [frozen?_alloc_cells]; exact f2
  have hat : ∀ x, Value.ownBlock (.slice A n c) = some x → x < w.heap.size := fun x hx => by
    rcases hown.2 with ⟨hv, _⟩ | ⟨g, cap, cur, hv, _, hh, _⟩
    · rw [hv] at hx; cases hx
    · rw [hv] at hx; simp only [Value.ownBlock, Option.some.injEq] at hx
      rw [← hx]; exact (Array.getElem?_eq_some_iff.1 hh).1
  have aw : Value.ownBlock (.slice A n c) ≠ some w.heap.size := fun h => Nat.lt_irrefl _ (hat _ h)
  go_enter Try.func57, Try.ntmps57
  go_wp2_with fail
  refine wp_region_held_drew (S := (fun w' => w'.cell? ⟨r, 1, none⟩ = some (.pointer (some ⟨bi, 0, none⟩)) ∧ w'.cell? ⟨w.heap.size, 0, none⟩ = some (.int .i64 1) ∧ w'.cell? ⟨w.heap.size, 1, none⟩ = some (.int .i64 P) ∧ w'.cell? ⟨w.heap.size, 2, none⟩ = some (.int .i64 N) ∧ w'.cell? ⟨w.heap.size, 3, none⟩ = some (.string S))) (by kernel_rfl) ?_ (fun hHeld => ?_)
  · go_keep
  refine wpAnyH_take (i := 0) (v := ?_) rfl (by kernel_rfl) (by kernel_rfl) (by kernel_rfl) (fun _ _ _ h => h) (Or.inl ⟨by rfl, ?_⟩) (by assumption) ?_
  rotate_left
  · (intro w hSw; (try dsimp only at hSw); go_simp; try with_reducible rfl)
  try simp only [Act.put, List.setIfInBounds_toArray, List.set_cons_zero, List.set_cons_succ]
  refine wpAnyH_take (i := 1) (v := ?_) rfl (by kernel_rfl) (by kernel_rfl) (by kernel_rfl) (fun _ _ _ h => h) (Or.inl ⟨by rfl, ?_⟩) (by assumption) ?_
  rotate_left
  · (intro w hSw; (try dsimp only at hSw); go_simp; try with_reducible rfl)
  try simp only [Act.put, List.setIfInBounds_toArray, List.set_cons_zero, List.set_cons_succ]
  refine wpAnyH_take (i := 2) (v := ?_) rfl (by kernel_rfl) (by kernel_rfl) (by kernel_rfl) (fun _ _ _ h => h) (Or.inl ⟨by rfl, ?_⟩) (by assumption) ?_
  rotate_left
  · (intro w hSw; (try dsimp only at hSw); go_simp; try with_reducible rfl)
  try simp only [Act.put, List.setIfInBounds_toArray, List.set_cons_zero, List.set_cons_succ]
  refine wpAnyH_take (i := 3) (v := ?_) rfl (by kernel_rfl) (by kernel_rfl) (by kernel_rfl) (fun _ _ _ h => h) (Or.inl ⟨by rfl, ?_⟩) (by assumption) ?_
  rotate_left
  · (intro w hSw; (try dsimp only at hSw); go_simp; try with_reducible rfl)
  try simp only [Act.put, List.setIfInBounds_toArray, List.set_cons_zero, List.set_cons_succ]
  refine wpAnyH_take (i := 4) (v := ?_) rfl (by kernel_rfl) (by kernel_rfl) (by kernel_rfl) (fun _ _ _ h => h) (Or.inl ⟨by rfl, ?_⟩) (by assumption) ?_
  rotate_left
  · (intro w hSw; (try dsimp only at hSw); go_simp; try with_reducible rfl)
  try simp only [Act.put, List.setIfInBounds_toArray, List.set_cons_zero, List.set_cons_succ]
  refine wpAnyH_take (i := 5) (v := ?_) rfl (by kernel_rfl) (by kernel_rfl) (by kernel_rfl) (fun _ _ _ h => h) (Or.inl ⟨by rfl, ?_⟩) (by assumption) ?_
  rotate_left
  · (intro w hSw; (try dsimp only at hSw); go_simp; try with_reducible rfl)
  try simp only [Act.put, List.setIfInBounds_toArray, List.set_cons_zero, List.set_cons_succ]
  refine wpAnyH_take (i := 6) (v := ?_) rfl (by kernel_rfl) (by kernel_rfl) (by kernel_rfl) (fun _ _ _ h => h) (Or.inl ⟨by rfl, ?_⟩) (by assumption) ?_
  rotate_left
  · (intro w hSw; (try dsimp only at hSw); go_simp; try with_reducible rfl)
  try simp only [Act.put, List.setIfInBounds_toArray, List.set_cons_zero, List.set_cons_succ]
  refine wpAnyH_take (i := 7) (v := ?_) rfl (by kernel_rfl) (by kernel_rfl) (by kernel_rfl) (fun _ _ _ h => h) (Or.inl ⟨by rfl, ?_⟩) (by assumption) ?_
  rotate_left
  · (intro w hSw; (try dsimp only at hSw); go_simp; try with_reducible rfl)
  try simp only [Act.put, List.setIfInBounds_toArray, List.set_cons_zero, List.set_cons_succ]
  refine wpAnyH_take (i := 8) (v := ?_) rfl (by kernel_rfl) (by kernel_rfl) (by kernel_rfl) (fun _ _ _ h => h) (Or.inl ⟨by rfl, ?_⟩) (by assumption) ?_
  rotate_left
  · (intro w hSw; (try dsimp only at hSw); go_simp; try with_reducible rfl)
  try simp only [Act.put, List.setIfInBounds_toArray, List.set_cons_zero, List.set_cons_succ]
  refine wpAnyH_take (i := 9) (v := ?_) rfl (by kernel_rfl) (by kernel_rfl) (by kernel_rfl) (fun _ _ _ h => h) (Or.inl ⟨by rfl, ?_⟩) (by assumption) ?_
  rotate_left
  · (intro w hSw; (try dsimp only at hSw); go_simp; try with_reducible rfl)
  try simp only [Act.put, List.setIfInBounds_toArray, List.set_cons_zero, List.set_cons_succ]
  refine wpAnyH_take (i := 10) (v := ?_) rfl (by kernel_rfl) (by kernel_rfl) (by kernel_rfl) (fun _ _ _ h => h) (Or.inl ⟨by rfl, ?_⟩) (by assumption) ?_
  rotate_left
  · (intro w hSw; (try dsimp only at hSw); go_simp; try with_reducible rfl)
  try simp only [Act.put, List.setIfInBounds_toArray, List.set_cons_zero, List.set_cons_succ]
  refine wpAnyH_take (i := 12) (v := ?_) rfl (by kernel_rfl) (by kernel_rfl) (by kernel_rfl) (fun _ _ _ h => h) (Or.inl ⟨by rfl, ?_⟩) (by assumption) ?_
  rotate_left
  · (intro w hSw; (try dsimp only at hSw); go_simp; try with_reducible rfl)
  try simp only [Act.put, List.setIfInBounds_toArray, List.set_cons_zero, List.set_cons_succ]
  refine wpAnyH_take (i := 13) (v := ?_) rfl (by kernel_rfl) (by kernel_rfl) (by kernel_rfl) (fun _ _ _ h => h) (Or.inl ⟨by rfl, ?_⟩) (by assumption) ?_
  rotate_left
  · (intro w hSw; (try dsimp only at hSw); go_simp; try with_reducible rfl)
  try simp only [Act.put, List.setIfInBounds_toArray, List.set_cons_zero, List.set_cons_succ]
  refine wpAnyH_take (i := 14) (v := ?_) rfl (by kernel_rfl) (by kernel_rfl) (by kernel_rfl) (fun _ _ _ h => h) (Or.inl ⟨by rfl, ?_⟩) (by assumption) ?_
  rotate_left
  · (intro w hSw; (try dsimp only at hSw); go_simp; try with_reducible rfl)
  try simp only [Act.put, List.setIfInBounds_toArray, List.set_cons_zero, List.set_cons_succ]
  refine wpAnyH_take (i := 15) (v := ?_) rfl (by kernel_rfl) (by kernel_rfl) (by kernel_rfl) (fun _ _ _ h => h) (Or.inl ⟨by rfl, ?_⟩) (by assumption) ?_
  rotate_left
  · (intro w hSw; (try dsimp only at hSw); go_simp; try with_reducible rfl)
  try simp only [Act.put, List.setIfInBounds_toArray, List.set_cons_zero, List.set_cons_succ]
  refine wpAnyH_take (i := 16) (v := ?_) rfl (by kernel_rfl) (by kernel_rfl) (by kernel_rfl) (fun _ _ _ h => h) (Or.inl ⟨by rfl, ?_⟩) (by assumption) ?_
  rotate_left
  · (intro w hSw; (try dsimp only at hSw); go_simp; try with_reducible rfl)
  try simp only [Act.put, List.setIfInBounds_toArray, List.set_cons_zero, List.set_cons_succ]
  refine wpAnyH_take (i := 17) (v := ?_) rfl (by kernel_rfl) (by kernel_rfl) (by kernel_rfl) (fun _ _ _ h => h) (Or.inl ⟨by rfl, ?_⟩) (by assumption) ?_
  rotate_left
  · (intro w hSw; (try dsimp only at hSw); go_simp; try with_reducible rfl)
  try simp only [Act.put, List.setIfInBounds_toArray, List.set_cons_zero, List.set_cons_succ]
  refine wpAnyH_take (i := 18) (v := ?_) rfl (by kernel_rfl) (by kernel_rfl) (by kernel_rfl) (fun _ _ _ h => h) (Or.inl ⟨by rfl, ?_⟩) (by assumption) ?_
  rotate_left
  · (intro w hSw; (try dsimp only at hSw); go_simp; try with_reducible rfl)
  try simp only [Act.put, List.setIfInBounds_toArray, List.set_cons_zero, List.set_cons_succ]
  refine wpAnyH_take (i := 19) (v := ?_) rfl (by kernel_rfl) (by kernel_rfl) (by kernel_rfl) (fun _ _ _ h => h) (Or.inl ⟨by rfl, ?_⟩) (by assumption) ?_
  rotate_left
  · (intro w hSw; (try dsimp only at hSw); go_simp; try with_reducible rfl)
  try simp only [Act.put, List.setIfInBounds_toArray, List.set_cons_zero, List.set_cons_succ]
  refine wpAnyH_take (i := 20) (v := ?_) rfl (by kernel_rfl) (by kernel_rfl) (by kernel_rfl) (fun _ _ _ h => h) (Or.inl ⟨by rfl, ?_⟩) (by assumption) ?_
  rotate_left
  · (intro w hSw; (try dsimp only at hSw); go_simp; try with_reducible rfl)
  try simp only [Act.put, List.setIfInBounds_toArray, List.set_cons_zero, List.set_cons_succ]
  refine wpAnyH_take (i := 21) (v := ?_) rfl (by kernel_rfl) (by kernel_rfl) (by kernel_rfl) (fun _ _ _ h => h) (Or.inl ⟨by rfl, ?_⟩) (by assumption) ?_
  rotate_left
  · (intro w hSw; (try dsimp only at hSw); go_simp; try with_reducible rfl)
  try simp only [Act.put, List.setIfInBounds_toArray, List.set_cons_zero, List.set_cons_succ]
  refine wpAnyH_ready (rs := [11, 22]) (by kernel_rfl) (by simp) ?_
  refine AllReadyH.cons rfl (fun K hK => ?_) ?_
  · go_simp
    refine hK.out _ _ ?_ (fun hHeld => ?_)
    · go_keep
    clear hK K
    try simp only [Act.put, List.setIfInBounds_toArray, List.set_cons_zero, List.set_cons_succ]
    refine wpAnyH_ready (rs := [22]) (by kernel_rfl) (by simp) ?_
    refine AllReadyH.cons rfl (fun K hK => ?_) ?_
    · go_simp
      refine hK.out _ _ ?_ (fun hHeld => ?_)
      · go_keep
      clear hK K
      try simp only [Act.put, List.setIfInBounds_toArray, List.set_cons_zero, List.set_cons_succ]
      refine wpAnyH_ready (rs := [23]) (by kernel_rfl) (by simp) ?_
      refine AllReadyH.cons rfl (fun K hK => ?_) ?_
      · refine step_append_lies _ (by rfl) _ _ _ (by rfl) B0 40 i0' _ 4 40 Try.underlying22 hi0 hz0 hz1 hz2 rfl (by omega) (.slice A n c) n wcs (by rfl) (own_drew (hown1.alloc _))
          ⟨w.heap.size + 1, 0, none⟩ 1 1 [.bool false, .int .i64 N, .string S, .int .i64 P] (by rfl) (by rfl) (World.news_of_block (cs := #[.bool false, .int .i64 N, .string S, .int .i64 P]) (t := 40) (fr := (0, 0)) (alloc_at _ _ (by simp))) (by simp [Value.oneCell'])
          (by omega) (by unfold maxLen; omega) (by omega) (by simp; omega) (w.heap.size + 2) (by simp) ?_
        intro gg cap w1 hown2 hgrow hat2 hlt
        have fz : w1.frozen? ⟨bi, 2, none⟩ = false := (hgrow.frozen_far ⟨bi, 2, none⟩ (by simp; omega) (Ne.symm ai)).trans (by show World.frozen? ((w.alloc _).alloc _) _ = false; rw [frozen?_alloc_cells]; exact f21)
        have cz : w1.cell? ⟨bi, 2, none⟩ = some (.slice A n c) := (hgrow.cell_far ⟨bi, 2, none⟩ (by simp; omega) (Ne.symm ai)).trans (by show World.cell? ((w.alloc _).alloc _) _ = _; rw [World.cell?_alloc_lt _ _ _ (by simp; omega), World.cell?_alloc_lt _ _ _ (by simp; omega)]; exact h2)
        refine hK.out _ _ ?_ (fun hHeld => ?_)
        · refine ⟨?_, ?_, ?_, ?_, ?_⟩
          · (rw [hgrow.cell_far _ (by simp; omega) (Ne.symm ar)]; go_split_ands; assumption)
          · (rw [hgrow.cell_far _ (by simp; omega) (Ne.symm aw)]; go_split_ands; assumption)
          · (rw [hgrow.cell_far _ (by simp; omega) (Ne.symm aw)]; go_split_ands; assumption)
          · (rw [hgrow.cell_far _ (by simp; omega) (Ne.symm aw)]; go_split_ands; assumption)
          · (rw [hgrow.cell_far _ (by simp; omega) (Ne.symm aw)]; go_split_ands; assumption)
        clear hK K
        try simp only [Act.put, List.setIfInBounds_toArray, List.set_cons_zero, List.set_cons_succ]
        refine wpAnyH_take (i := 24) (v := ?_) rfl (by kernel_rfl) (by kernel_rfl) (by kernel_rfl) (fun _ _ _ h => h) (Or.inl ⟨by rfl, ?_⟩) (by assumption) ?_
        rotate_left
        · (intro w hSw; (try dsimp only at hSw); go_simp; try with_reducible rfl)
        try simp only [Act.put, List.setIfInBounds_toArray, List.set_cons_zero, List.set_cons_succ]
        refine wpAnyH_take (i := 25) (v := ?_) rfl (by kernel_rfl) (by kernel_rfl) (by kernel_rfl) (fun _ _ _ h => h) (Or.inl ⟨by rfl, ?_⟩) (by assumption) ?_
        rotate_left
        · (intro w hSw; (try dsimp only at hSw); go_simp; try with_reducible rfl)
        try simp only [Act.put, List.setIfInBounds_toArray, List.set_cons_zero, List.set_cons_succ]
        refine wpAnyH_take (i := 26) (v := ?_) rfl (by kernel_rfl) (by kernel_rfl) (by kernel_rfl) (fun _ _ _ h => h) (Or.inl ⟨by rfl, ?_⟩) (by assumption) ?_
        rotate_left
        · (intro w hSw; (try dsimp only at hSw); go_simp; try with_reducible rfl)
        try simp only [Act.put, List.setIfInBounds_toArray, List.set_cons_zero, List.set_cons_succ]
        refine wpAnyH_ready (rs := [27]) (by kernel_rfl) (by simp) ?_
        refine AllReadyH.cons rfl (fun K hK => ?_) ?_
        · go_simp
          refine hK.out _ _ ?_ (fun hHeld => ?_)
          · try dsimp only
            try dsimp only at hHeld
            obtain ⟨y0, y1, y2, y3, y4⟩ := hHeld
            have hwi : w.heap.size ≠ bi := by omega
            exact ⟨(World.cell?_setCell_far _ _ _ _ (fun e => hrbi e.symm)).trans y0, (World.cell?_setCell_far _ _ _ _ (fun e => hwi e.symm)).trans y1, (World.cell?_setCell_far _ _ _ _ (fun e => hwi e.symm)).trans y2, (World.cell?_setCell_far _ _ _ _ (fun e => hwi e.symm)).trans y3, (World.cell?_setCell_far _ _ _ _ (fun e => hwi e.symm)).trans y4⟩
          clear hK K
          try simp only [Act.put, List.setIfInBounds_toArray, List.set_cons_zero, List.set_cons_succ]
          refine wpAnyH_done (by kernel_rfl) ?_ _
          go_wp2
          go_ret
          have hS2 : Step w w1 [(bi, 2)] (Value.ownBlock (.slice A n c)) := Step.grown ((((Step.refl w _ _).alloc _).alloc _).drew) hgrow (fun k hk => .inl hk.symm)
          have hgi : gg ≠ bi := fun e => hat2.elim (fun h => ai (e ▸ h)) (fun h => by omega)
          refine ⟨rfl, gg, cap, own_set hown2 (by simpa [Value.ownBlock] using hgi) _, hat2.imp id (fun h => by omega), by simpa using hlt, ?_, hS2.setCell (.inr (.inl (by simp))) _⟩
          exact World.cell?_setCell_same _ _ _ cz
        exact AllReadyH.nil
      exact AllReadyH.nil
    exact AllReadyH.nil
  refine AllReadyH.cons rfl (fun K hK => ?_) ?_
  · go_simp
    refine hK.out _ _ ?_ (fun hHeld => ?_)
    · go_keep
    clear hK K
    try simp only [Act.put, List.setIfInBounds_toArray, List.set_cons_zero, List.set_cons_succ]
    refine wpAnyH_ready (rs := [11]) (by kernel_rfl) (by simp) ?_
    refine AllReadyH.cons rfl (fun K hK => ?_) ?_
    · go_simp
      refine hK.out _ _ ?_ (fun hHeld => ?_)
      · go_keep
      clear hK K
      try simp only [Act.put, List.setIfInBounds_toArray, List.set_cons_zero, List.set_cons_succ]
      refine wpAnyH_ready (rs := [23]) (by kernel_rfl) (by simp) ?_
      refine AllReadyH.cons rfl (fun K hK => ?_) ?_
      · refine step_append_lies _ (by rfl) _ _ _ (by rfl) B0 40 i0' _ 4 40 Try.underlying22 hi0 hz0 hz1 hz2 rfl (by omega) (.slice A n c) n wcs (by rfl) (own_drew (hown1.alloc _))
          ⟨w.heap.size + 1, 0, none⟩ 1 1 [.bool false, .int .i64 N, .string S, .int .i64 P] (by rfl) (by rfl) (World.news_of_block (cs := #[.bool false, .int .i64 N, .string S, .int .i64 P]) (t := 40) (fr := (0, 0)) (alloc_at _ _ (by simp))) (by simp [Value.oneCell'])
          (by omega) (by unfold maxLen; omega) (by omega) (by simp; omega) (w.heap.size + 2) (by simp) ?_
        intro gg cap w1 hown2 hgrow hat2 hlt
        have fz : w1.frozen? ⟨bi, 2, none⟩ = false := (hgrow.frozen_far ⟨bi, 2, none⟩ (by simp; omega) (Ne.symm ai)).trans (by show World.frozen? ((w.alloc _).alloc _) _ = false; rw [frozen?_alloc_cells]; exact f21)
        have cz : w1.cell? ⟨bi, 2, none⟩ = some (.slice A n c) := (hgrow.cell_far ⟨bi, 2, none⟩ (by simp; omega) (Ne.symm ai)).trans (by show World.cell? ((w.alloc _).alloc _) _ = _; rw [World.cell?_alloc_lt _ _ _ (by simp; omega), World.cell?_alloc_lt _ _ _ (by simp; omega)]; exact h2)
        refine hK.out _ _ ?_ (fun hHeld => ?_)
        · refine ⟨?_, ?_, ?_, ?_, ?_⟩
          · (rw [hgrow.cell_far _ (by simp; omega) (Ne.symm ar)]; go_split_ands; assumption)
          · (rw [hgrow.cell_far _ (by simp; omega) (Ne.symm aw)]; go_split_ands; assumption)
          · (rw [hgrow.cell_far _ (by simp; omega) (Ne.symm aw)]; go_split_ands; assumption)
          · (rw [hgrow.cell_far _ (by simp; omega) (Ne.symm aw)]; go_split_ands; assumption)
          · (rw [hgrow.cell_far _ (by simp; omega) (Ne.symm aw)]; go_split_ands; assumption)
        clear hK K
        try simp only [Act.put, List.setIfInBounds_toArray, List.set_cons_zero, List.set_cons_succ]
        refine wpAnyH_take (i := 24) (v := ?_) rfl (by kernel_rfl) (by kernel_rfl) (by kernel_rfl) (fun _ _ _ h => h) (Or.inl ⟨by rfl, ?_⟩) (by assumption) ?_
        rotate_left
        · (intro w hSw; (try dsimp only at hSw); go_simp; try with_reducible rfl)
        try simp only [Act.put, List.setIfInBounds_toArray, List.set_cons_zero, List.set_cons_succ]
        refine wpAnyH_take (i := 25) (v := ?_) rfl (by kernel_rfl) (by kernel_rfl) (by kernel_rfl) (fun _ _ _ h => h) (Or.inl ⟨by rfl, ?_⟩) (by assumption) ?_
        rotate_left
        · (intro w hSw; (try dsimp only at hSw); go_simp; try with_reducible rfl)
        try simp only [Act.put, List.setIfInBounds_toArray, List.set_cons_zero, List.set_cons_succ]
        refine wpAnyH_take (i := 26) (v := ?_) rfl (by kernel_rfl) (by kernel_rfl) (by kernel_rfl) (fun _ _ _ h => h) (Or.inl ⟨by rfl, ?_⟩) (by assumption) ?_
        rotate_left
        · (intro w hSw; (try dsimp only at hSw); go_simp; try with_reducible rfl)
        try simp only [Act.put, List.setIfInBounds_toArray, List.set_cons_zero, List.set_cons_succ]
        refine wpAnyH_ready (rs := [27]) (by kernel_rfl) (by simp) ?_
        refine AllReadyH.cons rfl (fun K hK => ?_) ?_
        · go_simp
          refine hK.out _ _ ?_ (fun hHeld => ?_)
          · try dsimp only
            try dsimp only at hHeld
            obtain ⟨y0, y1, y2, y3, y4⟩ := hHeld
            have hwi : w.heap.size ≠ bi := by omega
            exact ⟨(World.cell?_setCell_far _ _ _ _ (fun e => hrbi e.symm)).trans y0, (World.cell?_setCell_far _ _ _ _ (fun e => hwi e.symm)).trans y1, (World.cell?_setCell_far _ _ _ _ (fun e => hwi e.symm)).trans y2, (World.cell?_setCell_far _ _ _ _ (fun e => hwi e.symm)).trans y3, (World.cell?_setCell_far _ _ _ _ (fun e => hwi e.symm)).trans y4⟩
          clear hK K
          try simp only [Act.put, List.setIfInBounds_toArray, List.set_cons_zero, List.set_cons_succ]
          refine wpAnyH_done (by kernel_rfl) ?_ _
          go_wp2
          go_ret
          have hS2 : Step w w1 [(bi, 2)] (Value.ownBlock (.slice A n c)) := Step.grown ((((Step.refl w _ _).alloc _).alloc _).drew) hgrow (fun k hk => .inl hk.symm)
          have hgi : gg ≠ bi := fun e => hat2.elim (fun h => ai (e ▸ h)) (fun h => by omega)
          refine ⟨rfl, gg, cap, own_set hown2 (by simpa [Value.ownBlock] using hgi) _, hat2.imp id (fun h => by omega), by simpa using hlt, ?_, hS2.setCell (.inr (.inl (by simp))) _⟩
          exact World.cell?_setCell_same _ _ _ cz
        exact AllReadyH.nil
      exact AllReadyH.nil
    exact AllReadyH.nil
  exact AllReadyH.nil

set_option maxRecDepth 100000 in
set_option maxHeartbeats 4000000 in
theorem tree_goes_word2 (w : World) (r bi B0 n c : Nat) (A : Option Addr) (wcs : List Value) (P N : Int) (S : ByteArray)
    (hr1 : w.cell? ⟨r, 1, none⟩ = some (.pointer (some ⟨bi, 0, none⟩))) (h2 : w.cell? ⟨bi, 2, none⟩ = some (.slice A n c)) (f2 : w.frozen? ⟨bi, 2, none⟩ = false) (hown : w.ownsRow B0 40 4 (.slice A n c) n wcs)
    (hn : n < 8) (hB0 : B0 ≤ w.heap.size) (ar : Value.ownBlock (.slice A n c) ≠ some r) (ai : Value.ownBlock (.slice A n c) ≠ some bi) (hrbi : r ≠ bi) :
    Calls Try.prog 57 #[.pointer (some ⟨r, 0, none⟩), .agg #[.int .i64 2, .int .i64 P, .int .i64 N, .string S]] w (WordPost w bi B0 n A c wcs [.bool true, .int .i64 N, .string S, .int .i64 P]) := by
  obtain ⟨i0', hi0, hz0, hz1, hz2⟩ := info_parts info_word
  have lr := World.block_lt_of_cell? w _ hr1
  have li := World.block_lt_of_cell? w _ h2
  simp only at lr li
  have hn8 : ((n : Int) == 8) = false := beq_false_of_ne (by omega)
  have hown1 : (w.alloc (.cells #[.int .i64 2, .int .i64 P, .int .i64 N, .string S] 87)).ownsRow B0 40 4 (.slice A n c) n wcs := hown.alloc _
  have f21 : (w.alloc (.cells #[.int .i64 2, .int .i64 P, .int .i64 N, .string S] 87)).frozen? ⟨bi, 2, none⟩ = false := by rw [frozen?_alloc_cells]; exact f2
  have hat : ∀ x, Value.ownBlock (.slice A n c) = some x → x < w.heap.size := fun x hx => by
    rcases hown.2 with ⟨hv, _⟩ | ⟨g, cap, cur, hv, _, hh, _⟩
    · rw [hv] at hx; cases hx
    · rw [hv] at hx; simp only [Value.ownBlock, Option.some.injEq] at hx
      rw [← hx]; exact (Array.getElem?_eq_some_iff.1 hh).1
  have aw : Value.ownBlock (.slice A n c) ≠ some w.heap.size := fun h => Nat.lt_irrefl _ (hat _ h)
  go_enter Try.func57, Try.ntmps57
  go_wp2_with fail
  refine wp_region_held_drew (S := (fun w' => w'.cell? ⟨r, 1, none⟩ = some (.pointer (some ⟨bi, 0, none⟩)) ∧ w'.cell? ⟨w.heap.size, 0, none⟩ = some (.int .i64 2) ∧ w'.cell? ⟨w.heap.size, 1, none⟩ = some (.int .i64 P) ∧ w'.cell? ⟨w.heap.size, 2, none⟩ = some (.int .i64 N) ∧ w'.cell? ⟨w.heap.size, 3, none⟩ = some (.string S))) (by kernel_rfl) ?_ (fun hHeld => ?_)
  · go_keep
  refine wpAnyH_take (i := 0) (v := ?_) rfl (by kernel_rfl) (by kernel_rfl) (by kernel_rfl) (fun _ _ _ h => h) (Or.inl ⟨by rfl, ?_⟩) (by assumption) ?_
  rotate_left
  · (intro w hSw; (try dsimp only at hSw); go_simp; try with_reducible rfl)
  try simp only [Act.put, List.setIfInBounds_toArray, List.set_cons_zero, List.set_cons_succ]
  refine wpAnyH_take (i := 1) (v := ?_) rfl (by kernel_rfl) (by kernel_rfl) (by kernel_rfl) (fun _ _ _ h => h) (Or.inl ⟨by rfl, ?_⟩) (by assumption) ?_
  rotate_left
  · (intro w hSw; (try dsimp only at hSw); go_simp; try with_reducible rfl)
  try simp only [Act.put, List.setIfInBounds_toArray, List.set_cons_zero, List.set_cons_succ]
  refine wpAnyH_take (i := 2) (v := ?_) rfl (by kernel_rfl) (by kernel_rfl) (by kernel_rfl) (fun _ _ _ h => h) (Or.inl ⟨by rfl, ?_⟩) (by assumption) ?_
  rotate_left
  · (intro w hSw; (try dsimp only at hSw); go_simp; try with_reducible rfl)
  try simp only [Act.put, List.setIfInBounds_toArray, List.set_cons_zero, List.set_cons_succ]
  refine wpAnyH_take (i := 3) (v := ?_) rfl (by kernel_rfl) (by kernel_rfl) (by kernel_rfl) (fun _ _ _ h => h) (Or.inl ⟨by rfl, ?_⟩) (by assumption) ?_
  rotate_left
  · (intro w hSw; (try dsimp only at hSw); go_simp; try with_reducible rfl)
  try simp only [Act.put, List.setIfInBounds_toArray, List.set_cons_zero, List.set_cons_succ]
  refine wpAnyH_take (i := 4) (v := ?_) rfl (by kernel_rfl) (by kernel_rfl) (by kernel_rfl) (fun _ _ _ h => h) (Or.inl ⟨by rfl, ?_⟩) (by assumption) ?_
  rotate_left
  · (intro w hSw; (try dsimp only at hSw); go_simp; try with_reducible rfl)
  try simp only [Act.put, List.setIfInBounds_toArray, List.set_cons_zero, List.set_cons_succ]
  refine wpAnyH_take (i := 5) (v := ?_) rfl (by kernel_rfl) (by kernel_rfl) (by kernel_rfl) (fun _ _ _ h => h) (Or.inl ⟨by rfl, ?_⟩) (by assumption) ?_
  rotate_left
  · (intro w hSw; (try dsimp only at hSw); go_simp; try with_reducible rfl)
  try simp only [Act.put, List.setIfInBounds_toArray, List.set_cons_zero, List.set_cons_succ]
  refine wpAnyH_take (i := 6) (v := ?_) rfl (by kernel_rfl) (by kernel_rfl) (by kernel_rfl) (fun _ _ _ h => h) (Or.inl ⟨by rfl, ?_⟩) (by assumption) ?_
  rotate_left
  · (intro w hSw; (try dsimp only at hSw); go_simp; try with_reducible rfl)
  try simp only [Act.put, List.setIfInBounds_toArray, List.set_cons_zero, List.set_cons_succ]
  refine wpAnyH_take (i := 7) (v := ?_) rfl (by kernel_rfl) (by kernel_rfl) (by kernel_rfl) (fun _ _ _ h => h) (Or.inl ⟨by rfl, ?_⟩) (by assumption) ?_
  rotate_left
  · (intro w hSw; (try dsimp only at hSw); go_simp; try with_reducible rfl)
  try simp only [Act.put, List.setIfInBounds_toArray, List.set_cons_zero, List.set_cons_succ]
  refine wpAnyH_take (i := 8) (v := ?_) rfl (by kernel_rfl) (by kernel_rfl) (by kernel_rfl) (fun _ _ _ h => h) (Or.inl ⟨by rfl, ?_⟩) (by assumption) ?_
  rotate_left
  · (intro w hSw; (try dsimp only at hSw); go_simp; try with_reducible rfl)
  try simp only [Act.put, List.setIfInBounds_toArray, List.set_cons_zero, List.set_cons_succ]
  refine wpAnyH_take (i := 9) (v := ?_) rfl (by kernel_rfl) (by kernel_rfl) (by kernel_rfl) (fun _ _ _ h => h) (Or.inl ⟨by rfl, ?_⟩) (by assumption) ?_
  rotate_left
  · (intro w hSw; (try dsimp only at hSw); go_simp; try with_reducible rfl)
  try simp only [Act.put, List.setIfInBounds_toArray, List.set_cons_zero, List.set_cons_succ]
  refine wpAnyH_take (i := 10) (v := ?_) rfl (by kernel_rfl) (by kernel_rfl) (by kernel_rfl) (fun _ _ _ h => h) (Or.inl ⟨by rfl, ?_⟩) (by assumption) ?_
  rotate_left
  · (intro w hSw; (try dsimp only at hSw); go_simp; try with_reducible rfl)
  try simp only [Act.put, List.setIfInBounds_toArray, List.set_cons_zero, List.set_cons_succ]
  refine wpAnyH_take (i := 12) (v := ?_) rfl (by kernel_rfl) (by kernel_rfl) (by kernel_rfl) (fun _ _ _ h => h) (Or.inl ⟨by rfl, ?_⟩) (by assumption) ?_
  rotate_left
  · (intro w hSw; (try dsimp only at hSw); go_simp; try with_reducible rfl)
  try simp only [Act.put, List.setIfInBounds_toArray, List.set_cons_zero, List.set_cons_succ]
  refine wpAnyH_take (i := 13) (v := ?_) rfl (by kernel_rfl) (by kernel_rfl) (by kernel_rfl) (fun _ _ _ h => h) (Or.inl ⟨by rfl, ?_⟩) (by assumption) ?_
  rotate_left
  · (intro w hSw; (try dsimp only at hSw); go_simp; try with_reducible rfl)
  try simp only [Act.put, List.setIfInBounds_toArray, List.set_cons_zero, List.set_cons_succ]
  refine wpAnyH_take (i := 14) (v := ?_) rfl (by kernel_rfl) (by kernel_rfl) (by kernel_rfl) (fun _ _ _ h => h) (Or.inl ⟨by rfl, ?_⟩) (by assumption) ?_
  rotate_left
  · (intro w hSw; (try dsimp only at hSw); go_simp; try with_reducible rfl)
  try simp only [Act.put, List.setIfInBounds_toArray, List.set_cons_zero, List.set_cons_succ]
  refine wpAnyH_take (i := 15) (v := ?_) rfl (by kernel_rfl) (by kernel_rfl) (by kernel_rfl) (fun _ _ _ h => h) (Or.inl ⟨by rfl, ?_⟩) (by assumption) ?_
  rotate_left
  · (intro w hSw; (try dsimp only at hSw); go_simp; try with_reducible rfl)
  try simp only [Act.put, List.setIfInBounds_toArray, List.set_cons_zero, List.set_cons_succ]
  refine wpAnyH_take (i := 16) (v := ?_) rfl (by kernel_rfl) (by kernel_rfl) (by kernel_rfl) (fun _ _ _ h => h) (Or.inl ⟨by rfl, ?_⟩) (by assumption) ?_
  rotate_left
  · (intro w hSw; (try dsimp only at hSw); go_simp; try with_reducible rfl)
  try simp only [Act.put, List.setIfInBounds_toArray, List.set_cons_zero, List.set_cons_succ]
  refine wpAnyH_take (i := 17) (v := ?_) rfl (by kernel_rfl) (by kernel_rfl) (by kernel_rfl) (fun _ _ _ h => h) (Or.inl ⟨by rfl, ?_⟩) (by assumption) ?_
  rotate_left
  · (intro w hSw; (try dsimp only at hSw); go_simp; try with_reducible rfl)
  try simp only [Act.put, List.setIfInBounds_toArray, List.set_cons_zero, List.set_cons_succ]
  refine wpAnyH_take (i := 18) (v := ?_) rfl (by kernel_rfl) (by kernel_rfl) (by kernel_rfl) (fun _ _ _ h => h) (Or.inl ⟨by rfl, ?_⟩) (by assumption) ?_
  rotate_left
  · (intro w hSw; (try dsimp only at hSw); go_simp; try with_reducible rfl)
  try simp only [Act.put, List.setIfInBounds_toArray, List.set_cons_zero, List.set_cons_succ]
  refine wpAnyH_take (i := 19) (v := ?_) rfl (by kernel_rfl) (by kernel_rfl) (by kernel_rfl) (fun _ _ _ h => h) (Or.inl ⟨by rfl, ?_⟩) (by assumption) ?_
  rotate_left
  · (intro w hSw; (try dsimp only at hSw); go_simp; try with_reducible rfl)
  try simp only [Act.put, List.setIfInBounds_toArray, List.set_cons_zero, List.set_cons_succ]
  refine wpAnyH_take (i := 20) (v := ?_) rfl (by kernel_rfl) (by kernel_rfl) (by kernel_rfl) (fun _ _ _ h => h) (Or.inl ⟨by rfl, ?_⟩) (by assumption) ?_
  rotate_left
  · (intro w hSw; (try dsimp only at hSw); go_simp; try with_reducible rfl)
  try simp only [Act.put, List.setIfInBounds_toArray, List.set_cons_zero, List.set_cons_succ]
  refine wpAnyH_take (i := 21) (v := ?_) rfl (by kernel_rfl) (by kernel_rfl) (by kernel_rfl) (fun _ _ _ h => h) (Or.inl ⟨by rfl, ?_⟩) (by assumption) ?_
  rotate_left
  · (intro w hSw; (try dsimp only at hSw); go_simp; try with_reducible rfl)
  try simp only [Act.put, List.setIfInBounds_toArray, List.set_cons_zero, List.set_cons_succ]
  refine wpAnyH_ready (rs := [11, 22]) (by kernel_rfl) (by simp) ?_
  refine AllReadyH.cons rfl (fun K hK => ?_) ?_
  · go_simp
    refine hK.out _ _ ?_ (fun hHeld => ?_)
    · go_keep
    clear hK K
    try simp only [Act.put, List.setIfInBounds_toArray, List.set_cons_zero, List.set_cons_succ]
    refine wpAnyH_ready (rs := [22]) (by kernel_rfl) (by simp) ?_
    refine AllReadyH.cons rfl (fun K hK => ?_) ?_
    · go_simp
      refine hK.out _ _ ?_ (fun hHeld => ?_)
      · go_keep
      clear hK K
      try simp only [Act.put, List.setIfInBounds_toArray, List.set_cons_zero, List.set_cons_succ]
      refine wpAnyH_ready (rs := [23]) (by kernel_rfl) (by simp) ?_
      refine AllReadyH.cons rfl (fun K hK => ?_) ?_
      · refine step_append_lies _ (by rfl) _ _ _ (by rfl) B0 40 i0' _ 4 40 Try.underlying22 hi0 hz0 hz1 hz2 rfl (by omega) (.slice A n c) n wcs (by rfl) (own_drew (hown1.alloc _))
          ⟨w.heap.size + 1, 0, none⟩ 1 1 [.bool true, .int .i64 N, .string S, .int .i64 P] (by rfl) (by rfl) (World.news_of_block (cs := #[.bool true, .int .i64 N, .string S, .int .i64 P]) (t := 40) (fr := (0, 0)) (alloc_at _ _ (by simp))) (by simp [Value.oneCell'])
          (by omega) (by unfold maxLen; omega) (by omega) (by simp; omega) (w.heap.size + 2) (by simp) ?_
        intro gg cap w1 hown2 hgrow hat2 hlt
        have fz : w1.frozen? ⟨bi, 2, none⟩ = false := (hgrow.frozen_far ⟨bi, 2, none⟩ (by simp; omega) (Ne.symm ai)).trans (by show World.frozen? ((w.alloc _).alloc _) _ = false; rw [frozen?_alloc_cells]; exact f21)
        have cz : w1.cell? ⟨bi, 2, none⟩ = some (.slice A n c) := (hgrow.cell_far ⟨bi, 2, none⟩ (by simp; omega) (Ne.symm ai)).trans (by show World.cell? ((w.alloc _).alloc _) _ = _; rw [World.cell?_alloc_lt _ _ _ (by simp; omega), World.cell?_alloc_lt _ _ _ (by simp; omega)]; exact h2)
        refine hK.out _ _ ?_ (fun hHeld => ?_)
        · refine ⟨?_, ?_, ?_, ?_, ?_⟩
          · (rw [hgrow.cell_far _ (by simp; omega) (Ne.symm ar)]; go_split_ands; assumption)
          · (rw [hgrow.cell_far _ (by simp; omega) (Ne.symm aw)]; go_split_ands; assumption)
          · (rw [hgrow.cell_far _ (by simp; omega) (Ne.symm aw)]; go_split_ands; assumption)
          · (rw [hgrow.cell_far _ (by simp; omega) (Ne.symm aw)]; go_split_ands; assumption)
          · (rw [hgrow.cell_far _ (by simp; omega) (Ne.symm aw)]; go_split_ands; assumption)
        clear hK K
        try simp only [Act.put, List.setIfInBounds_toArray, List.set_cons_zero, List.set_cons_succ]
        refine wpAnyH_take (i := 24) (v := ?_) rfl (by kernel_rfl) (by kernel_rfl) (by kernel_rfl) (fun _ _ _ h => h) (Or.inl ⟨by rfl, ?_⟩) (by assumption) ?_
        rotate_left
        · (intro w hSw; (try dsimp only at hSw); go_simp; try with_reducible rfl)
        try simp only [Act.put, List.setIfInBounds_toArray, List.set_cons_zero, List.set_cons_succ]
        refine wpAnyH_take (i := 25) (v := ?_) rfl (by kernel_rfl) (by kernel_rfl) (by kernel_rfl) (fun _ _ _ h => h) (Or.inl ⟨by rfl, ?_⟩) (by assumption) ?_
        rotate_left
        · (intro w hSw; (try dsimp only at hSw); go_simp; try with_reducible rfl)
        try simp only [Act.put, List.setIfInBounds_toArray, List.set_cons_zero, List.set_cons_succ]
        refine wpAnyH_take (i := 26) (v := ?_) rfl (by kernel_rfl) (by kernel_rfl) (by kernel_rfl) (fun _ _ _ h => h) (Or.inl ⟨by rfl, ?_⟩) (by assumption) ?_
        rotate_left
        · (intro w hSw; (try dsimp only at hSw); go_simp; try with_reducible rfl)
        try simp only [Act.put, List.setIfInBounds_toArray, List.set_cons_zero, List.set_cons_succ]
        refine wpAnyH_ready (rs := [27]) (by kernel_rfl) (by simp) ?_
        refine AllReadyH.cons rfl (fun K hK => ?_) ?_
        · go_simp
          refine hK.out _ _ ?_ (fun hHeld => ?_)
          · try dsimp only
            try dsimp only at hHeld
            obtain ⟨y0, y1, y2, y3, y4⟩ := hHeld
            have hwi : w.heap.size ≠ bi := by omega
            exact ⟨(World.cell?_setCell_far _ _ _ _ (fun e => hrbi e.symm)).trans y0, (World.cell?_setCell_far _ _ _ _ (fun e => hwi e.symm)).trans y1, (World.cell?_setCell_far _ _ _ _ (fun e => hwi e.symm)).trans y2, (World.cell?_setCell_far _ _ _ _ (fun e => hwi e.symm)).trans y3, (World.cell?_setCell_far _ _ _ _ (fun e => hwi e.symm)).trans y4⟩
          clear hK K
          try simp only [Act.put, List.setIfInBounds_toArray, List.set_cons_zero, List.set_cons_succ]
          refine wpAnyH_done (by kernel_rfl) ?_ _
          go_wp2
          go_ret
          have hS2 : Step w w1 [(bi, 2)] (Value.ownBlock (.slice A n c)) := Step.grown ((((Step.refl w _ _).alloc _).alloc _).drew) hgrow (fun k hk => .inl hk.symm)
          have hgi : gg ≠ bi := fun e => hat2.elim (fun h => ai (e ▸ h)) (fun h => by omega)
          refine ⟨rfl, gg, cap, own_set hown2 (by simpa [Value.ownBlock] using hgi) _, hat2.imp id (fun h => by omega), by simpa using hlt, ?_, hS2.setCell (.inr (.inl (by simp))) _⟩
          exact World.cell?_setCell_same _ _ _ cz
        exact AllReadyH.nil
      exact AllReadyH.nil
    exact AllReadyH.nil
  refine AllReadyH.cons rfl (fun K hK => ?_) ?_
  · go_simp
    refine hK.out _ _ ?_ (fun hHeld => ?_)
    · go_keep
    clear hK K
    try simp only [Act.put, List.setIfInBounds_toArray, List.set_cons_zero, List.set_cons_succ]
    refine wpAnyH_ready (rs := [11]) (by kernel_rfl) (by simp) ?_
    refine AllReadyH.cons rfl (fun K hK => ?_) ?_
    · go_simp
      refine hK.out _ _ ?_ (fun hHeld => ?_)
      · go_keep
      clear hK K
      try simp only [Act.put, List.setIfInBounds_toArray, List.set_cons_zero, List.set_cons_succ]
      refine wpAnyH_ready (rs := [23]) (by kernel_rfl) (by simp) ?_
      refine AllReadyH.cons rfl (fun K hK => ?_) ?_
      · refine step_append_lies _ (by rfl) _ _ _ (by rfl) B0 40 i0' _ 4 40 Try.underlying22 hi0 hz0 hz1 hz2 rfl (by omega) (.slice A n c) n wcs (by rfl) (own_drew (hown1.alloc _))
          ⟨w.heap.size + 1, 0, none⟩ 1 1 [.bool true, .int .i64 N, .string S, .int .i64 P] (by rfl) (by rfl) (World.news_of_block (cs := #[.bool true, .int .i64 N, .string S, .int .i64 P]) (t := 40) (fr := (0, 0)) (alloc_at _ _ (by simp))) (by simp [Value.oneCell'])
          (by omega) (by unfold maxLen; omega) (by omega) (by simp; omega) (w.heap.size + 2) (by simp) ?_
        intro gg cap w1 hown2 hgrow hat2 hlt
        have fz : w1.frozen? ⟨bi, 2, none⟩ = false := (hgrow.frozen_far ⟨bi, 2, none⟩ (by simp; omega) (Ne.symm ai)).trans (by show World.frozen? ((w.alloc _).alloc _) _ = false; rw [frozen?_alloc_cells]; exact f21)
        have cz : w1.cell? ⟨bi, 2, none⟩ = some (.slice A n c) := (hgrow.cell_far ⟨bi, 2, none⟩ (by simp; omega) (Ne.symm ai)).trans (by show World.cell? ((w.alloc _).alloc _) _ = _; rw [World.cell?_alloc_lt _ _ _ (by simp; omega), World.cell?_alloc_lt _ _ _ (by simp; omega)]; exact h2)
        refine hK.out _ _ ?_ (fun hHeld => ?_)
        · refine ⟨?_, ?_, ?_, ?_, ?_⟩
          · (rw [hgrow.cell_far _ (by simp; omega) (Ne.symm ar)]; go_split_ands; assumption)
          · (rw [hgrow.cell_far _ (by simp; omega) (Ne.symm aw)]; go_split_ands; assumption)
          · (rw [hgrow.cell_far _ (by simp; omega) (Ne.symm aw)]; go_split_ands; assumption)
          · (rw [hgrow.cell_far _ (by simp; omega) (Ne.symm aw)]; go_split_ands; assumption)
          · (rw [hgrow.cell_far _ (by simp; omega) (Ne.symm aw)]; go_split_ands; assumption)
        clear hK K
        try simp only [Act.put, List.setIfInBounds_toArray, List.set_cons_zero, List.set_cons_succ]
        refine wpAnyH_take (i := 24) (v := ?_) rfl (by kernel_rfl) (by kernel_rfl) (by kernel_rfl) (fun _ _ _ h => h) (Or.inl ⟨by rfl, ?_⟩) (by assumption) ?_
        rotate_left
        · (intro w hSw; (try dsimp only at hSw); go_simp; try with_reducible rfl)
        try simp only [Act.put, List.setIfInBounds_toArray, List.set_cons_zero, List.set_cons_succ]
        refine wpAnyH_take (i := 25) (v := ?_) rfl (by kernel_rfl) (by kernel_rfl) (by kernel_rfl) (fun _ _ _ h => h) (Or.inl ⟨by rfl, ?_⟩) (by assumption) ?_
        rotate_left
        · (intro w hSw; (try dsimp only at hSw); go_simp; try with_reducible rfl)
        try simp only [Act.put, List.setIfInBounds_toArray, List.set_cons_zero, List.set_cons_succ]
        refine wpAnyH_take (i := 26) (v := ?_) rfl (by kernel_rfl) (by kernel_rfl) (by kernel_rfl) (fun _ _ _ h => h) (Or.inl ⟨by rfl, ?_⟩) (by assumption) ?_
        rotate_left
        · (intro w hSw; (try dsimp only at hSw); go_simp; try with_reducible rfl)
        try simp only [Act.put, List.setIfInBounds_toArray, List.set_cons_zero, List.set_cons_succ]
        refine wpAnyH_ready (rs := [27]) (by kernel_rfl) (by simp) ?_
        refine AllReadyH.cons rfl (fun K hK => ?_) ?_
        · go_simp
          refine hK.out _ _ ?_ (fun hHeld => ?_)
          · try dsimp only
            try dsimp only at hHeld
            obtain ⟨y0, y1, y2, y3, y4⟩ := hHeld
            have hwi : w.heap.size ≠ bi := by omega
            exact ⟨(World.cell?_setCell_far _ _ _ _ (fun e => hrbi e.symm)).trans y0, (World.cell?_setCell_far _ _ _ _ (fun e => hwi e.symm)).trans y1, (World.cell?_setCell_far _ _ _ _ (fun e => hwi e.symm)).trans y2, (World.cell?_setCell_far _ _ _ _ (fun e => hwi e.symm)).trans y3, (World.cell?_setCell_far _ _ _ _ (fun e => hwi e.symm)).trans y4⟩
          clear hK K
          try simp only [Act.put, List.setIfInBounds_toArray, List.set_cons_zero, List.set_cons_succ]
          refine wpAnyH_done (by kernel_rfl) ?_ _
          go_wp2
          go_ret
          have hS2 : Step w w1 [(bi, 2)] (Value.ownBlock (.slice A n c)) := Step.grown ((((Step.refl w _ _).alloc _).alloc _).drew) hgrow (fun k hk => .inl hk.symm)
          have hgi : gg ≠ bi := fun e => hat2.elim (fun h => ai (e ▸ h)) (fun h => by omega)
          refine ⟨rfl, gg, cap, own_set hown2 (by simpa [Value.ownBlock] using hgi) _, hat2.imp id (fun h => by omega), by simpa using hlt, ?_, hS2.setCell (.inr (.inl (by simp))) _⟩
          exact World.cell?_setCell_same _ _ _ cz
        exact AllReadyH.nil
      exact AllReadyH.nil
    exact AllReadyH.nil
  exact AllReadyH.nil

end Go.Proofs.Ytmiejdbpogggeaa
end
