/- Layer 9 (tree): the walk of goes. -/
import Derived.Test.YtjbniichcopnlaaGreatDoorPkS9
set_option linter.unusedVariables false
set_option linter.unusedSimpArgs false
namespace Go.Proofs.YtjbniichcopnlaaGreatDoor
open Go.RowKit
attribute [local go_sem ↓] Go.wp_at_zero Go.wp_at_succ
theorem info_word : (Tryz.prog.info? 61).map (fun i => (i.zero,i.size,i.bytes)) = some (some (.agg #[.bool false, .int .i64 0, .string ⟨#[]⟩, .int .i64 0]),4,40):=by kernel_rfl
/-- What a word leaves: its cells behind the item's words. -/
def WordPost (w : World) (bi B0 n : Nat) (A : Option Addr) (c : Nat) (wcs news : List Value) (e : Ending) (w' : World) : Prop :=
  e = .returned (.int .i64 0) ∧ ∃ g cap,w'.ownsRow B0 61 4 (.slice (some ⟨g,0,none⟩) (n + 1) cap) (n + 1) (wcs ++ news) ∧
    (Value.ownBlock (.slice A n c) = some g ∨ w.heap.size ≤ g) ∧ g < w'.heap.size ∧ w'.cell? ⟨bi,2,none⟩ = some (.slice (some ⟨g,0,none⟩) (n + 1) cap) ∧ Step w w' [(bi,2)] (Value.ownBlock (.slice A n c))
set_option maxRecDepth 100000 in
set_option maxHeartbeats 4000000 in
theorem tree_goes_word1 (w : World) (r bi B0 n c : Nat) (A : Option Addr) (wcs : List Value) (P N : Int) (S : ByteArray)
    (hr1 : w.cell? ⟨r,1,none⟩ = some (.pointer (some ⟨bi,0,none⟩))) (h2 : w.cell? ⟨bi,2,none⟩ = some (.slice A n c)) (f2 : w.frozen? ⟨bi,2,none⟩ = false) (hown : w.ownsRow B0 61 4 (.slice A n c) n wcs)
    (hn : n < 8) (hB0 : B0 ≤ w.heap.size) (ar : Value.ownBlock (.slice A n c) ≠ some r) (ai : Value.ownBlock (.slice A n c) ≠ some bi) (hrbi : r ≠ bi) :
    Calls Tryz.prog 43 #[.pointer (some ⟨r,0,none⟩), .agg #[.int .i64 1, .int .i64 P, .int .i64 N, .string S]] w (WordPost w bi B0 n A c wcs [.bool false, .int .i64 N, .string S, .int .i64 P]):=by
  obtain ⟨i0',hi0,hz0,hz1,hz2⟩:=info_parts info_word
  have lr:=World.block_lt_of_cell? w _ hr1
  have li:=World.block_lt_of_cell? w _ h2
  simp only at lr li
  have hn8 : ((n : Int) == 8) = false:=beq_false_of_ne (by omega)
  have hown1 : (w.alloc (.cells #[.int .i64 1, .int .i64 P, .int .i64 N, .string S] 86)).ownsRow B0 61 4 (.slice A n c) n wcs:=hown.alloc _
  have f21 : (w.alloc (.cells #[.int .i64 1, .int .i64 P, .int .i64 N, .string S] 86)).frozen? ⟨bi,2,none⟩ = false:=by rw [frozen?_alloc_cells];exact f2
  have hat : ∀ x,Value.ownBlock (.slice A n c) = some x → x < w.heap.size := fun x hx => by
    rcases hown.2 with ⟨hv,_⟩ | ⟨g,cap,cur,hv,_,hh,_⟩
    · rw [hv] at hx;cases hx
    · rw [hv] at hx; simp only [Value.ownBlock,Option.some.injEq] at hx
      rw [← hx];exact (Array.getElem?_eq_some_iff.1 hh).1
  have aw : Value.ownBlock (.slice A n c) ≠ some w.heap.size:=fun h => Nat.lt_irrefl _ (hat _ h)
  go_enter Tryz.func43,Tryz.ntmps43
  go_wp2_with fail
  refine wp_region_held_drew (S:=(fun w' => w'.cell? ⟨r,1,none⟩ = some (.pointer (some ⟨bi,0,none⟩)) ∧ w'.cell? ⟨w.heap.size,0,none⟩ = some (.int .i64 1) ∧ w'.cell? ⟨w.heap.size,1,none⟩ = some (.int .i64 P) ∧ w'.cell? ⟨w.heap.size,2,none⟩ = some (.int .i64 N) ∧ w'.cell? ⟨w.heap.size,3,none⟩ = some (.string S))) (by kernel_rfl) ?_ (fun hHeld => ?_)
  · go_keep
  refine wtk (v:=?_) 0 rfl (Or.inl ⟨by rfl,?_⟩) ?_;rotate_left;focus (intro w hSw;(try dsimp only at hSw);go_simp;try with_reducible rfl);try simp only [Act.put,nA,nC,nB]
  refine wtk (v:=?_) 1 rfl (Or.inl ⟨by rfl,?_⟩) ?_;rotate_left;focus (intro w hSw;(try dsimp only at hSw);go_simp;try with_reducible rfl);try simp only [Act.put,nA,nC,nB]
  refine wtk (v:=?_) 2 rfl (Or.inl ⟨by rfl,?_⟩) ?_;rotate_left;focus (intro w hSw;(try dsimp only at hSw);go_simp;try with_reducible rfl);try simp only [Act.put,nA,nC,nB]
  refine wtk (v:=?_) 3 rfl (Or.inl ⟨by rfl,?_⟩) ?_;rotate_left;focus (intro w hSw;(try dsimp only at hSw);go_simp;try with_reducible rfl);try simp only [Act.put,nA,nC,nB]
  refine wtk (v:=?_) 4 rfl (Or.inl ⟨by rfl,?_⟩) ?_;rotate_left;focus (intro w hSw;(try dsimp only at hSw);go_simp;try with_reducible rfl);try simp only [Act.put,nA,nC,nB]
  refine wtk (v:=?_) 5 rfl (Or.inl ⟨by rfl,?_⟩) ?_;rotate_left;focus (intro w hSw;(try dsimp only at hSw);go_simp;try with_reducible rfl);try simp only [Act.put,nA,nC,nB]
  refine wtk (v:=?_) 6 rfl (Or.inl ⟨by rfl,?_⟩) ?_;rotate_left;focus (intro w hSw;(try dsimp only at hSw);go_simp;try with_reducible rfl);try simp only [Act.put,nA,nC,nB]
  refine wtk (v:=?_) 7 rfl (Or.inl ⟨by rfl,?_⟩) ?_;rotate_left;focus (intro w hSw;(try dsimp only at hSw);go_simp;try with_reducible rfl);try simp only [Act.put,nA,nC,nB]
  refine wtk (v:=?_) 8 rfl (Or.inl ⟨by rfl,?_⟩) ?_;rotate_left;focus (intro w hSw;(try dsimp only at hSw);go_simp;try with_reducible rfl);try simp only [Act.put,nA,nC,nB]
  refine wtk (v:=?_) 9 rfl (Or.inl ⟨by rfl,?_⟩) ?_;rotate_left;focus (intro w hSw;(try dsimp only at hSw);go_simp;try with_reducible rfl);try simp only [Act.put,nA,nC,nB]
  refine wtk (v:=?_) 10 rfl (Or.inl ⟨by rfl,?_⟩) ?_;rotate_left;focus (intro w hSw;(try dsimp only at hSw);go_simp;try with_reducible rfl);try simp only [Act.put,nA,nC,nB]
  refine wtk (v:=?_) 12 rfl (Or.inl ⟨by rfl,?_⟩) ?_;rotate_left;focus (intro w hSw;(try dsimp only at hSw);go_simp;try with_reducible rfl);try simp only [Act.put,nA,nC,nB]
  refine wtk (v:=?_) 13 rfl (Or.inl ⟨by rfl,?_⟩) ?_;rotate_left;focus (intro w hSw;(try dsimp only at hSw);go_simp;try with_reducible rfl);try simp only [Act.put,nA,nC,nB]
  refine wtk (v:=?_) 14 rfl (Or.inl ⟨by rfl,?_⟩) ?_;rotate_left;focus (intro w hSw;(try dsimp only at hSw);go_simp;try with_reducible rfl);try simp only [Act.put,nA,nC,nB]
  refine wtk (v:=?_) 15 rfl (Or.inl ⟨by rfl,?_⟩) ?_;rotate_left;focus (intro w hSw;(try dsimp only at hSw);go_simp;try with_reducible rfl);try simp only [Act.put,nA,nC,nB]
  refine wtk (v:=?_) 16 rfl (Or.inl ⟨by rfl,?_⟩) ?_;rotate_left;focus (intro w hSw;(try dsimp only at hSw);go_simp;try with_reducible rfl);try simp only [Act.put,nA,nC,nB]
  refine wtk (v:=?_) 17 rfl (Or.inl ⟨by rfl,?_⟩) ?_;rotate_left;focus (intro w hSw;(try dsimp only at hSw);go_simp;try with_reducible rfl);try simp only [Act.put,nA,nC,nB]
  refine wtk (v:=?_) 18 rfl (Or.inl ⟨by rfl,?_⟩) ?_;rotate_left;focus (intro w hSw;(try dsimp only at hSw);go_simp;try with_reducible rfl);try simp only [Act.put,nA,nC,nB]
  refine wtk (v:=?_) 19 rfl (Or.inl ⟨by rfl,?_⟩) ?_;rotate_left;focus (intro w hSw;(try dsimp only at hSw);go_simp;try with_reducible rfl);try simp only [Act.put,nA,nC,nB]
  refine wtk (v:=?_) 20 rfl (Or.inl ⟨by rfl,?_⟩) ?_;rotate_left;focus (intro w hSw;(try dsimp only at hSw);go_simp;try with_reducible rfl);try simp only [Act.put,nA,nC,nB]
  refine wtk (v:=?_) 21 rfl (Or.inl ⟨by rfl,?_⟩) ?_;rotate_left;focus (intro w hSw;(try dsimp only at hSw);go_simp;try with_reducible rfl);try simp only [Act.put,nA,nC,nB]
  refine wpAnyH_ready (rs:=[11,22]) (by kernel_rfl) (by simp) ?_
  refine AllReadyH.cons rfl (fun K hK => ?_) ?_
  · go_simp
    refine hK.out _ _ ?_ (fun hHeld => ?_)
    · go_keep
    clear hK K
    try simp only [Act.put,nA,nC,nB]
    refine wpAnyH_ready (rs:=[22]) (by kernel_rfl) (by simp) ?_
    refine AllReadyH.cons rfl (fun K hK => ?_) ?_
    · go_simp
      refine hK.out _ _ ?_ (fun hHeld => ?_)
      · go_keep
      clear hK K
      try simp only [Act.put,nA,nC,nB]
      refine wpAnyH_ready (rs:=[23]) (by kernel_rfl) (by simp) ?_
      refine AllReadyH.cons rfl (fun K hK => ?_) ?_
      · refine step_append_lies _ (by rfl) _ _ _ (by rfl) B0 61 i0' _ 4 40 Tryz.underlying42 hi0 hz0 hz1 hz2 rfl (by omega) (.slice A n c) n wcs (by rfl) (own_drew (hown1.alloc _))
          ⟨w.heap.size + 1,0,none⟩ 1 1 [.bool false, .int .i64 N, .string S, .int .i64 P] (by rfl) (by rfl) (World.news_of_block (cs:=#[.bool false, .int .i64 N, .string S, .int .i64 P]) (t:=61) (fr:=(0,0)) (alloc_at _ _ (by simp))) (by simp [Value.oneCell'])
          (by omega) (by unfold maxLen;omega) (by omega) (by simp;omega) (w.heap.size + 2) (by simp) ?_
        intro gg cap w1 hown2 hgrow hat2 hlt
        have fz : w1.frozen? ⟨bi,2,none⟩ = false:=(hgrow.frozen_far ⟨bi,2,none⟩ (by simp;omega) (Ne.symm ai)).trans (by show World.frozen? ((w.alloc _).alloc _) _ = false;rw [frozen?_alloc_cells];exact f21)
        have cz : w1.cell? ⟨bi,2,none⟩ = some (.slice A n c):=(hgrow.cell_far ⟨bi,2,none⟩ (by simp;omega) (Ne.symm ai)).trans (by show World.cell? ((w.alloc _).alloc _) _ = _;rw [World.cell?_alloc_lt _ _ _ (by simp;omega),World.cell?_alloc_lt _ _ _ (by simp;omega)];exact h2)
        refine hK.out _ _ ?_ (fun hHeld => ?_)
        · refine ⟨?_,?_,?_,?_,?_⟩
          · (rw [hgrow.cell_far _ (by simp;omega) (Ne.symm ar)];go_split_ands;assumption)
          · (rw [hgrow.cell_far _ (by simp;omega) (Ne.symm aw)];go_split_ands;assumption)
          · (rw [hgrow.cell_far _ (by simp;omega) (Ne.symm aw)];go_split_ands;assumption)
          · (rw [hgrow.cell_far _ (by simp;omega) (Ne.symm aw)];go_split_ands;assumption)
          · (rw [hgrow.cell_far _ (by simp;omega) (Ne.symm aw)];go_split_ands;assumption)
        clear hK K
        try simp only [Act.put,nA,nC,nB]
        refine wtk (v:=?_) 24 rfl (Or.inl ⟨by rfl,?_⟩) ?_;rotate_left;focus (intro w hSw;(try dsimp only at hSw);go_simp;try with_reducible rfl);try simp only [Act.put,nA,nC,nB]
        refine wtk (v:=?_) 25 rfl (Or.inl ⟨by rfl,?_⟩) ?_;rotate_left;focus (intro w hSw;(try dsimp only at hSw);go_simp;try with_reducible rfl);try simp only [Act.put,nA,nC,nB]
        refine wtk (v:=?_) 26 rfl (Or.inl ⟨by rfl,?_⟩) ?_;rotate_left;focus (intro w hSw;(try dsimp only at hSw);go_simp;try with_reducible rfl);try simp only [Act.put,nA,nC,nB]
        refine wpAnyH_ready (rs:=[27]) (by kernel_rfl) (by simp) ?_
        refine AllReadyH.cons rfl (fun K hK => ?_) ?_
        · go_simp
          refine hK.out _ _ ?_ (fun hHeld => ?_)
          · try dsimp only
            try dsimp only at hHeld
            obtain ⟨y0,y1,y2,y3,y4⟩:=hHeld
            have hwi : w.heap.size ≠ bi:=by omega
            exact ⟨(World.cell?_setCell_far _ _ _ _ (fun e => hrbi e.symm)).trans y0,(World.cell?_setCell_far _ _ _ _ (fun e => hwi e.symm)).trans y1,(World.cell?_setCell_far _ _ _ _ (fun e => hwi e.symm)).trans y2,(World.cell?_setCell_far _ _ _ _ (fun e => hwi e.symm)).trans y3,(World.cell?_setCell_far _ _ _ _ (fun e => hwi e.symm)).trans y4⟩
          clear hK K
          try simp only [Act.put,nA,nC,nB]
          refine wpAnyH_done (by kernel_rfl) ?_ _
          go_wp2
          go_ret
          have hS2 : Step w w1 [(bi,2)] (Value.ownBlock (.slice A n c)):=Step.grown ((((Step.refl w _ _).alloc _).alloc _).drew) hgrow (fun k hk => .inl hk.symm)
          have hgi : gg ≠ bi:=fun e => hat2.elim (fun h => ai (e ▸ h)) (fun h => by omega)
          refine ⟨rfl,gg,cap,own_set hown2 (by simpa [Value.ownBlock] using hgi) _,hat2.imp id (fun h => by omega),by simpa using hlt,?_,hS2.setCell (.inr (.inl (by simp))) _⟩
          exact World.cell?_setCell_same _ _ _ cz
        exact AllReadyH.nil
      exact AllReadyH.nil
    exact AllReadyH.nil
  refine AllReadyH.cons rfl (fun K hK => ?_) ?_
  · go_simp
    refine hK.out _ _ ?_ (fun hHeld => ?_)
    · go_keep
    clear hK K
    try simp only [Act.put,nA,nC,nB]
    refine wpAnyH_ready (rs:=[11]) (by kernel_rfl) (by simp) ?_
    refine AllReadyH.cons rfl (fun K hK => ?_) ?_
    · go_simp
      refine hK.out _ _ ?_ (fun hHeld => ?_)
      · go_keep
      clear hK K
      try simp only [Act.put,nA,nC,nB]
      refine wpAnyH_ready (rs:=[23]) (by kernel_rfl) (by simp) ?_
      refine AllReadyH.cons rfl (fun K hK => ?_) ?_
      · refine step_append_lies _ (by rfl) _ _ _ (by rfl) B0 61 i0' _ 4 40 Tryz.underlying42 hi0 hz0 hz1 hz2 rfl (by omega) (.slice A n c) n wcs (by rfl) (own_drew (hown1.alloc _))
          ⟨w.heap.size + 1,0,none⟩ 1 1 [.bool false, .int .i64 N, .string S, .int .i64 P] (by rfl) (by rfl) (World.news_of_block (cs:=#[.bool false, .int .i64 N, .string S, .int .i64 P]) (t:=61) (fr:=(0,0)) (alloc_at _ _ (by simp))) (by simp [Value.oneCell'])
          (by omega) (by unfold maxLen;omega) (by omega) (by simp;omega) (w.heap.size + 2) (by simp) ?_
        intro gg cap w1 hown2 hgrow hat2 hlt
        have fz : w1.frozen? ⟨bi,2,none⟩ = false:=(hgrow.frozen_far ⟨bi,2,none⟩ (by simp;omega) (Ne.symm ai)).trans (by show World.frozen? ((w.alloc _).alloc _) _ = false;rw [frozen?_alloc_cells];exact f21)
        have cz : w1.cell? ⟨bi,2,none⟩ = some (.slice A n c):=(hgrow.cell_far ⟨bi,2,none⟩ (by simp;omega) (Ne.symm ai)).trans (by show World.cell? ((w.alloc _).alloc _) _ = _;rw [World.cell?_alloc_lt _ _ _ (by simp;omega),World.cell?_alloc_lt _ _ _ (by simp;omega)];exact h2)
        refine hK.out _ _ ?_ (fun hHeld => ?_)
        · refine ⟨?_,?_,?_,?_,?_⟩
          · (rw [hgrow.cell_far _ (by simp;omega) (Ne.symm ar)];go_split_ands;assumption)
          · (rw [hgrow.cell_far _ (by simp;omega) (Ne.symm aw)];go_split_ands;assumption)
          · (rw [hgrow.cell_far _ (by simp;omega) (Ne.symm aw)];go_split_ands;assumption)
          · (rw [hgrow.cell_far _ (by simp;omega) (Ne.symm aw)];go_split_ands;assumption)
          · (rw [hgrow.cell_far _ (by simp;omega) (Ne.symm aw)];go_split_ands;assumption)
        clear hK K
        try simp only [Act.put,nA,nC,nB]
        refine wtk (v:=?_) 24 rfl (Or.inl ⟨by rfl,?_⟩) ?_;rotate_left;focus (intro w hSw;(try dsimp only at hSw);go_simp;try with_reducible rfl);try simp only [Act.put,nA,nC,nB]
        refine wtk (v:=?_) 25 rfl (Or.inl ⟨by rfl,?_⟩) ?_;rotate_left;focus (intro w hSw;(try dsimp only at hSw);go_simp;try with_reducible rfl);try simp only [Act.put,nA,nC,nB]
        refine wtk (v:=?_) 26 rfl (Or.inl ⟨by rfl,?_⟩) ?_;rotate_left;focus (intro w hSw;(try dsimp only at hSw);go_simp;try with_reducible rfl);try simp only [Act.put,nA,nC,nB]
        refine wpAnyH_ready (rs:=[27]) (by kernel_rfl) (by simp) ?_
        refine AllReadyH.cons rfl (fun K hK => ?_) ?_
        · go_simp
          refine hK.out _ _ ?_ (fun hHeld => ?_)
          · try dsimp only
            try dsimp only at hHeld
            obtain ⟨y0,y1,y2,y3,y4⟩:=hHeld
            have hwi : w.heap.size ≠ bi:=by omega
            exact ⟨(World.cell?_setCell_far _ _ _ _ (fun e => hrbi e.symm)).trans y0,(World.cell?_setCell_far _ _ _ _ (fun e => hwi e.symm)).trans y1,(World.cell?_setCell_far _ _ _ _ (fun e => hwi e.symm)).trans y2,(World.cell?_setCell_far _ _ _ _ (fun e => hwi e.symm)).trans y3,(World.cell?_setCell_far _ _ _ _ (fun e => hwi e.symm)).trans y4⟩
          clear hK K
          try simp only [Act.put,nA,nC,nB]
          refine wpAnyH_done (by kernel_rfl) ?_ _
          go_wp2
          go_ret
          have hS2 : Step w w1 [(bi,2)] (Value.ownBlock (.slice A n c)):=Step.grown ((((Step.refl w _ _).alloc _).alloc _).drew) hgrow (fun k hk => .inl hk.symm)
          have hgi : gg ≠ bi:=fun e => hat2.elim (fun h => ai (e ▸ h)) (fun h => by omega)
          refine ⟨rfl,gg,cap,own_set hown2 (by simpa [Value.ownBlock] using hgi) _,hat2.imp id (fun h => by omega),by simpa using hlt,?_,hS2.setCell (.inr (.inl (by simp))) _⟩
          exact World.cell?_setCell_same _ _ _ cz
        exact AllReadyH.nil
      exact AllReadyH.nil
    exact AllReadyH.nil
  exact AllReadyH.nil
set_option maxRecDepth 100000 in
set_option maxHeartbeats 4000000 in
theorem tree_goes_word2 (w : World) (r bi B0 n c : Nat) (A : Option Addr) (wcs : List Value) (P N : Int) (S : ByteArray)
    (hr1 : w.cell? ⟨r,1,none⟩ = some (.pointer (some ⟨bi,0,none⟩))) (h2 : w.cell? ⟨bi,2,none⟩ = some (.slice A n c)) (f2 : w.frozen? ⟨bi,2,none⟩ = false) (hown : w.ownsRow B0 61 4 (.slice A n c) n wcs)
    (hn : n < 8) (hB0 : B0 ≤ w.heap.size) (ar : Value.ownBlock (.slice A n c) ≠ some r) (ai : Value.ownBlock (.slice A n c) ≠ some bi) (hrbi : r ≠ bi) :
    Calls Tryz.prog 43 #[.pointer (some ⟨r,0,none⟩), .agg #[.int .i64 2, .int .i64 P, .int .i64 N, .string S]] w (WordPost w bi B0 n A c wcs [.bool true, .int .i64 N, .string S, .int .i64 P]):=by
  obtain ⟨i0',hi0,hz0,hz1,hz2⟩:=info_parts info_word
  have lr:=World.block_lt_of_cell? w _ hr1
  have li:=World.block_lt_of_cell? w _ h2
  simp only at lr li
  have hn8 : ((n : Int) == 8) = false:=beq_false_of_ne (by omega)
  have hown1 : (w.alloc (.cells #[.int .i64 2, .int .i64 P, .int .i64 N, .string S] 86)).ownsRow B0 61 4 (.slice A n c) n wcs:=hown.alloc _
  have f21 : (w.alloc (.cells #[.int .i64 2, .int .i64 P, .int .i64 N, .string S] 86)).frozen? ⟨bi,2,none⟩ = false:=by rw [frozen?_alloc_cells];exact f2
  have hat : ∀ x,Value.ownBlock (.slice A n c) = some x → x < w.heap.size := fun x hx => by
    rcases hown.2 with ⟨hv,_⟩ | ⟨g,cap,cur,hv,_,hh,_⟩
    · rw [hv] at hx;cases hx
    · rw [hv] at hx; simp only [Value.ownBlock,Option.some.injEq] at hx
      rw [← hx];exact (Array.getElem?_eq_some_iff.1 hh).1
  have aw : Value.ownBlock (.slice A n c) ≠ some w.heap.size:=fun h => Nat.lt_irrefl _ (hat _ h)
  go_enter Tryz.func43,Tryz.ntmps43
  go_wp2_with fail
  refine wp_region_held_drew (S:=(fun w' => w'.cell? ⟨r,1,none⟩ = some (.pointer (some ⟨bi,0,none⟩)) ∧ w'.cell? ⟨w.heap.size,0,none⟩ = some (.int .i64 2) ∧ w'.cell? ⟨w.heap.size,1,none⟩ = some (.int .i64 P) ∧ w'.cell? ⟨w.heap.size,2,none⟩ = some (.int .i64 N) ∧ w'.cell? ⟨w.heap.size,3,none⟩ = some (.string S))) (by kernel_rfl) ?_ (fun hHeld => ?_)
  · go_keep
  refine wtk (v:=?_) 0 rfl (Or.inl ⟨by rfl,?_⟩) ?_;rotate_left;focus (intro w hSw;(try dsimp only at hSw);go_simp;try with_reducible rfl);try simp only [Act.put,nA,nC,nB]
  refine wtk (v:=?_) 1 rfl (Or.inl ⟨by rfl,?_⟩) ?_;rotate_left;focus (intro w hSw;(try dsimp only at hSw);go_simp;try with_reducible rfl);try simp only [Act.put,nA,nC,nB]
  refine wtk (v:=?_) 2 rfl (Or.inl ⟨by rfl,?_⟩) ?_;rotate_left;focus (intro w hSw;(try dsimp only at hSw);go_simp;try with_reducible rfl);try simp only [Act.put,nA,nC,nB]
  refine wtk (v:=?_) 3 rfl (Or.inl ⟨by rfl,?_⟩) ?_;rotate_left;focus (intro w hSw;(try dsimp only at hSw);go_simp;try with_reducible rfl);try simp only [Act.put,nA,nC,nB]
  refine wtk (v:=?_) 4 rfl (Or.inl ⟨by rfl,?_⟩) ?_;rotate_left;focus (intro w hSw;(try dsimp only at hSw);go_simp;try with_reducible rfl);try simp only [Act.put,nA,nC,nB]
  refine wtk (v:=?_) 5 rfl (Or.inl ⟨by rfl,?_⟩) ?_;rotate_left;focus (intro w hSw;(try dsimp only at hSw);go_simp;try with_reducible rfl);try simp only [Act.put,nA,nC,nB]
  refine wtk (v:=?_) 6 rfl (Or.inl ⟨by rfl,?_⟩) ?_;rotate_left;focus (intro w hSw;(try dsimp only at hSw);go_simp;try with_reducible rfl);try simp only [Act.put,nA,nC,nB]
  refine wtk (v:=?_) 7 rfl (Or.inl ⟨by rfl,?_⟩) ?_;rotate_left;focus (intro w hSw;(try dsimp only at hSw);go_simp;try with_reducible rfl);try simp only [Act.put,nA,nC,nB]
  refine wtk (v:=?_) 8 rfl (Or.inl ⟨by rfl,?_⟩) ?_;rotate_left;focus (intro w hSw;(try dsimp only at hSw);go_simp;try with_reducible rfl);try simp only [Act.put,nA,nC,nB]
  refine wtk (v:=?_) 9 rfl (Or.inl ⟨by rfl,?_⟩) ?_;rotate_left;focus (intro w hSw;(try dsimp only at hSw);go_simp;try with_reducible rfl);try simp only [Act.put,nA,nC,nB]
  refine wtk (v:=?_) 10 rfl (Or.inl ⟨by rfl,?_⟩) ?_;rotate_left;focus (intro w hSw;(try dsimp only at hSw);go_simp;try with_reducible rfl);try simp only [Act.put,nA,nC,nB]
  refine wtk (v:=?_) 12 rfl (Or.inl ⟨by rfl,?_⟩) ?_;rotate_left;focus (intro w hSw;(try dsimp only at hSw);go_simp;try with_reducible rfl);try simp only [Act.put,nA,nC,nB]
  refine wtk (v:=?_) 13 rfl (Or.inl ⟨by rfl,?_⟩) ?_;rotate_left;focus (intro w hSw;(try dsimp only at hSw);go_simp;try with_reducible rfl);try simp only [Act.put,nA,nC,nB]
  refine wtk (v:=?_) 14 rfl (Or.inl ⟨by rfl,?_⟩) ?_;rotate_left;focus (intro w hSw;(try dsimp only at hSw);go_simp;try with_reducible rfl);try simp only [Act.put,nA,nC,nB]
  refine wtk (v:=?_) 15 rfl (Or.inl ⟨by rfl,?_⟩) ?_;rotate_left;focus (intro w hSw;(try dsimp only at hSw);go_simp;try with_reducible rfl);try simp only [Act.put,nA,nC,nB]
  refine wtk (v:=?_) 16 rfl (Or.inl ⟨by rfl,?_⟩) ?_;rotate_left;focus (intro w hSw;(try dsimp only at hSw);go_simp;try with_reducible rfl);try simp only [Act.put,nA,nC,nB]
  refine wtk (v:=?_) 17 rfl (Or.inl ⟨by rfl,?_⟩) ?_;rotate_left;focus (intro w hSw;(try dsimp only at hSw);go_simp;try with_reducible rfl);try simp only [Act.put,nA,nC,nB]
  refine wtk (v:=?_) 18 rfl (Or.inl ⟨by rfl,?_⟩) ?_;rotate_left;focus (intro w hSw;(try dsimp only at hSw);go_simp;try with_reducible rfl);try simp only [Act.put,nA,nC,nB]
  refine wtk (v:=?_) 19 rfl (Or.inl ⟨by rfl,?_⟩) ?_;rotate_left;focus (intro w hSw;(try dsimp only at hSw);go_simp;try with_reducible rfl);try simp only [Act.put,nA,nC,nB]
  refine wtk (v:=?_) 20 rfl (Or.inl ⟨by rfl,?_⟩) ?_;rotate_left;focus (intro w hSw;(try dsimp only at hSw);go_simp;try with_reducible rfl);try simp only [Act.put,nA,nC,nB]
  refine wtk (v:=?_) 21 rfl (Or.inl ⟨by rfl,?_⟩) ?_;rotate_left;focus (intro w hSw;(try dsimp only at hSw);go_simp;try with_reducible rfl);try simp only [Act.put,nA,nC,nB]
  refine wpAnyH_ready (rs:=[11,22]) (by kernel_rfl) (by simp) ?_
  refine AllReadyH.cons rfl (fun K hK => ?_) ?_
  · go_simp
    refine hK.out _ _ ?_ (fun hHeld => ?_)
    · go_keep
    clear hK K
    try simp only [Act.put,nA,nC,nB]
    refine wpAnyH_ready (rs:=[22]) (by kernel_rfl) (by simp) ?_
    refine AllReadyH.cons rfl (fun K hK => ?_) ?_
    · go_simp
      refine hK.out _ _ ?_ (fun hHeld => ?_)
      · go_keep
      clear hK K
      try simp only [Act.put,nA,nC,nB]
      refine wpAnyH_ready (rs:=[23]) (by kernel_rfl) (by simp) ?_
      refine AllReadyH.cons rfl (fun K hK => ?_) ?_
      · refine step_append_lies _ (by rfl) _ _ _ (by rfl) B0 61 i0' _ 4 40 Tryz.underlying42 hi0 hz0 hz1 hz2 rfl (by omega) (.slice A n c) n wcs (by rfl) (own_drew (hown1.alloc _))
          ⟨w.heap.size + 1,0,none⟩ 1 1 [.bool true, .int .i64 N, .string S, .int .i64 P] (by rfl) (by rfl) (World.news_of_block (cs:=#[.bool true, .int .i64 N, .string S, .int .i64 P]) (t:=61) (fr:=(0,0)) (alloc_at _ _ (by simp))) (by simp [Value.oneCell'])
          (by omega) (by unfold maxLen;omega) (by omega) (by simp;omega) (w.heap.size + 2) (by simp) ?_
        intro gg cap w1 hown2 hgrow hat2 hlt
        have fz : w1.frozen? ⟨bi,2,none⟩ = false:=(hgrow.frozen_far ⟨bi,2,none⟩ (by simp;omega) (Ne.symm ai)).trans (by show World.frozen? ((w.alloc _).alloc _) _ = false;rw [frozen?_alloc_cells];exact f21)
        have cz : w1.cell? ⟨bi,2,none⟩ = some (.slice A n c):=(hgrow.cell_far ⟨bi,2,none⟩ (by simp;omega) (Ne.symm ai)).trans (by show World.cell? ((w.alloc _).alloc _) _ = _;rw [World.cell?_alloc_lt _ _ _ (by simp;omega),World.cell?_alloc_lt _ _ _ (by simp;omega)];exact h2)
        refine hK.out _ _ ?_ (fun hHeld => ?_)
        · refine ⟨?_,?_,?_,?_,?_⟩
          · (rw [hgrow.cell_far _ (by simp;omega) (Ne.symm ar)];go_split_ands;assumption)
          · (rw [hgrow.cell_far _ (by simp;omega) (Ne.symm aw)];go_split_ands;assumption)
          · (rw [hgrow.cell_far _ (by simp;omega) (Ne.symm aw)];go_split_ands;assumption)
          · (rw [hgrow.cell_far _ (by simp;omega) (Ne.symm aw)];go_split_ands;assumption)
          · (rw [hgrow.cell_far _ (by simp;omega) (Ne.symm aw)];go_split_ands;assumption)
        clear hK K
        try simp only [Act.put,nA,nC,nB]
        refine wtk (v:=?_) 24 rfl (Or.inl ⟨by rfl,?_⟩) ?_;rotate_left;focus (intro w hSw;(try dsimp only at hSw);go_simp;try with_reducible rfl);try simp only [Act.put,nA,nC,nB]
        refine wtk (v:=?_) 25 rfl (Or.inl ⟨by rfl,?_⟩) ?_;rotate_left;focus (intro w hSw;(try dsimp only at hSw);go_simp;try with_reducible rfl);try simp only [Act.put,nA,nC,nB]
        refine wtk (v:=?_) 26 rfl (Or.inl ⟨by rfl,?_⟩) ?_;rotate_left;focus (intro w hSw;(try dsimp only at hSw);go_simp;try with_reducible rfl);try simp only [Act.put,nA,nC,nB]
        refine wpAnyH_ready (rs:=[27]) (by kernel_rfl) (by simp) ?_
        refine AllReadyH.cons rfl (fun K hK => ?_) ?_
        · go_simp
          refine hK.out _ _ ?_ (fun hHeld => ?_)
          · try dsimp only
            try dsimp only at hHeld
            obtain ⟨y0,y1,y2,y3,y4⟩:=hHeld
            have hwi : w.heap.size ≠ bi:=by omega
            exact ⟨(World.cell?_setCell_far _ _ _ _ (fun e => hrbi e.symm)).trans y0,(World.cell?_setCell_far _ _ _ _ (fun e => hwi e.symm)).trans y1,(World.cell?_setCell_far _ _ _ _ (fun e => hwi e.symm)).trans y2,(World.cell?_setCell_far _ _ _ _ (fun e => hwi e.symm)).trans y3,(World.cell?_setCell_far _ _ _ _ (fun e => hwi e.symm)).trans y4⟩
          clear hK K
          try simp only [Act.put,nA,nC,nB]
          refine wpAnyH_done (by kernel_rfl) ?_ _
          go_wp2
          go_ret
          have hS2 : Step w w1 [(bi,2)] (Value.ownBlock (.slice A n c)):=Step.grown ((((Step.refl w _ _).alloc _).alloc _).drew) hgrow (fun k hk => .inl hk.symm)
          have hgi : gg ≠ bi:=fun e => hat2.elim (fun h => ai (e ▸ h)) (fun h => by omega)
          refine ⟨rfl,gg,cap,own_set hown2 (by simpa [Value.ownBlock] using hgi) _,hat2.imp id (fun h => by omega),by simpa using hlt,?_,hS2.setCell (.inr (.inl (by simp))) _⟩
          exact World.cell?_setCell_same _ _ _ cz
        exact AllReadyH.nil
      exact AllReadyH.nil
    exact AllReadyH.nil
  refine AllReadyH.cons rfl (fun K hK => ?_) ?_
  · go_simp
    refine hK.out _ _ ?_ (fun hHeld => ?_)
    · go_keep
    clear hK K
    try simp only [Act.put,nA,nC,nB]
    refine wpAnyH_ready (rs:=[11]) (by kernel_rfl) (by simp) ?_
    refine AllReadyH.cons rfl (fun K hK => ?_) ?_
    · go_simp
      refine hK.out _ _ ?_ (fun hHeld => ?_)
      · go_keep
      clear hK K
      try simp only [Act.put,nA,nC,nB]
      refine wpAnyH_ready (rs:=[23]) (by kernel_rfl) (by simp) ?_
      refine AllReadyH.cons rfl (fun K hK => ?_) ?_
      · refine step_append_lies _ (by rfl) _ _ _ (by rfl) B0 61 i0' _ 4 40 Tryz.underlying42 hi0 hz0 hz1 hz2 rfl (by omega) (.slice A n c) n wcs (by rfl) (own_drew (hown1.alloc _))
          ⟨w.heap.size + 1,0,none⟩ 1 1 [.bool true, .int .i64 N, .string S, .int .i64 P] (by rfl) (by rfl) (World.news_of_block (cs:=#[.bool true, .int .i64 N, .string S, .int .i64 P]) (t:=61) (fr:=(0,0)) (alloc_at _ _ (by simp))) (by simp [Value.oneCell'])
          (by omega) (by unfold maxLen;omega) (by omega) (by simp;omega) (w.heap.size + 2) (by simp) ?_
        intro gg cap w1 hown2 hgrow hat2 hlt
        have fz : w1.frozen? ⟨bi,2,none⟩ = false:=(hgrow.frozen_far ⟨bi,2,none⟩ (by simp;omega) (Ne.symm ai)).trans (by show World.frozen? ((w.alloc _).alloc _) _ = false;rw [frozen?_alloc_cells];exact f21)
        have cz : w1.cell? ⟨bi,2,none⟩ = some (.slice A n c):=(hgrow.cell_far ⟨bi,2,none⟩ (by simp;omega) (Ne.symm ai)).trans (by show World.cell? ((w.alloc _).alloc _) _ = _;rw [World.cell?_alloc_lt _ _ _ (by simp;omega),World.cell?_alloc_lt _ _ _ (by simp;omega)];exact h2)
        refine hK.out _ _ ?_ (fun hHeld => ?_)
        · refine ⟨?_,?_,?_,?_,?_⟩
          · (rw [hgrow.cell_far _ (by simp;omega) (Ne.symm ar)];go_split_ands;assumption)
          · (rw [hgrow.cell_far _ (by simp;omega) (Ne.symm aw)];go_split_ands;assumption)
          · (rw [hgrow.cell_far _ (by simp;omega) (Ne.symm aw)];go_split_ands;assumption)
          · (rw [hgrow.cell_far _ (by simp;omega) (Ne.symm aw)];go_split_ands;assumption)
          · (rw [hgrow.cell_far _ (by simp;omega) (Ne.symm aw)];go_split_ands;assumption)
        clear hK K
        try simp only [Act.put,nA,nC,nB]
        refine wtk (v:=?_) 24 rfl (Or.inl ⟨by rfl,?_⟩) ?_;rotate_left;focus (intro w hSw;(try dsimp only at hSw);go_simp;try with_reducible rfl);try simp only [Act.put,nA,nC,nB]
        refine wtk (v:=?_) 25 rfl (Or.inl ⟨by rfl,?_⟩) ?_;rotate_left;focus (intro w hSw;(try dsimp only at hSw);go_simp;try with_reducible rfl);try simp only [Act.put,nA,nC,nB]
        refine wtk (v:=?_) 26 rfl (Or.inl ⟨by rfl,?_⟩) ?_;rotate_left;focus (intro w hSw;(try dsimp only at hSw);go_simp;try with_reducible rfl);try simp only [Act.put,nA,nC,nB]
        refine wpAnyH_ready (rs:=[27]) (by kernel_rfl) (by simp) ?_
        refine AllReadyH.cons rfl (fun K hK => ?_) ?_
        · go_simp
          refine hK.out _ _ ?_ (fun hHeld => ?_)
          · try dsimp only
            try dsimp only at hHeld
            obtain ⟨y0,y1,y2,y3,y4⟩:=hHeld
            have hwi : w.heap.size ≠ bi:=by omega
            exact ⟨(World.cell?_setCell_far _ _ _ _ (fun e => hrbi e.symm)).trans y0,(World.cell?_setCell_far _ _ _ _ (fun e => hwi e.symm)).trans y1,(World.cell?_setCell_far _ _ _ _ (fun e => hwi e.symm)).trans y2,(World.cell?_setCell_far _ _ _ _ (fun e => hwi e.symm)).trans y3,(World.cell?_setCell_far _ _ _ _ (fun e => hwi e.symm)).trans y4⟩
          clear hK K
          try simp only [Act.put,nA,nC,nB]
          refine wpAnyH_done (by kernel_rfl) ?_ _
          go_wp2
          go_ret
          have hS2 : Step w w1 [(bi,2)] (Value.ownBlock (.slice A n c)):=Step.grown ((((Step.refl w _ _).alloc _).alloc _).drew) hgrow (fun k hk => .inl hk.symm)
          have hgi : gg ≠ bi:=fun e => hat2.elim (fun h => ai (e ▸ h)) (fun h => by omega)
          refine ⟨rfl,gg,cap,own_set hown2 (by simpa [Value.ownBlock] using hgi) _,hat2.imp id (fun h => by omega),by simpa using hlt,?_,hS2.setCell (.inr (.inl (by simp))) _⟩
          exact World.cell?_setCell_same _ _ _ cz
        exact AllReadyH.nil
      exact AllReadyH.nil
    exact AllReadyH.nil
  exact AllReadyH.nil
end Go.Proofs.YtjbniichcopnlaaGreatDoor
