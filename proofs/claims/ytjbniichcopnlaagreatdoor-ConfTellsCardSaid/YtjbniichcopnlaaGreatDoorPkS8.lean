/- Layer 9 (tree): the walk of close. -/
import Derived.Test.YtjbniichcopnlaaGreatDoorPkS7
import Derived.BigQuiet
import Derived.Deep.QuietTactic
import Derived.Deep.RegionHeld3
import Derived.Deep.AppendLies
import Derived.Deep.DrawnRows
import Derived.RegionTactic
import Derived.Outline
set_option linter.unusedSimpArgs false
namespace Go.Proofs.YtjbniichcopnlaaGreatDoor
open Go.RowKit
attribute [local go_sem ↓] Go.wp_at_zero Go.wp_at_succ
theorem info_node : (Tryz.prog.info? 44).map (fun i => (i.zero,i.size,i.bytes)) = some (some (.agg #[.string ⟨#[]⟩, .int .i64 0, .slice none 0 0, .bool false, .slice none 0 0]),5,80):=by kernel_rfl
/-- What close leaves: the item's cells behind the kids',and no item. -/
def ClosePost (w : World) (r b0 B0 n : Nat) (A : Option Addr) (c : Nat) (kcs news : List Value) (e : Ending) (w' : World) : Prop :=
  e = .returned (.tuple #[]) ∧ ∃ g cap,w'.ownsRow B0 44 5 (.slice (some ⟨g,0,none⟩) (n + 1) cap) (n + 1) (kcs ++ news) ∧
    (Value.ownBlock (.slice A n c) = some g ∨ w.heap.size ≤ g) ∧ w'.cell? ⟨b0,4,none⟩ = some (.slice (some ⟨g,0,none⟩) (n + 1) cap) ∧ w'.cell? ⟨r,1,none⟩ = some (.pointer none) ∧
    Step w w' [(b0,4),(r,1)] (Value.ownBlock (.slice A n c))
theorem set5 (k : List Value) (z0 z1 z2 z3 z4 c0 c1 c2 c3 c4 : Value) : (((((k ++ [z0,z1,z2,z3,z4]).set k.length c0).set (k.length + 1) c1).set (k.length + 2) c2).set (k.length + 3) c3).set (k.length + 4) c4 = k ++ [c0,c1,c2,c3,c4] := by
  simp
theorem zero5 {w1 : World} {gg cap n B0 : Nat} {kcs zs : List Value} (h : w1.ownsRow B0 44 5 (.slice (some ⟨gg,0,none⟩) (n + 1) cap) (n + 1) (kcs ++ zs)) (hk : kcs.length = n * 5) (j : Nat) (z : Value) (hz : zs[j]? = some z) :
    w1.cell? ⟨gg,n * 5 + j,none⟩ = some z:=by
  have:=h.cells (g:=gg) rfl (n * 5 + j) z (by rw [List.getElem?_append_right (by omega),hk,Nat.add_sub_cancel_left,hz])
  have e : (⟨gg,0,none⟩ : Addr).add (n * 5 + j) = ⟨gg,n * 5 + j,none⟩:=by unfold Addr.add;split <;> simp_all
  rw [e] at this
  exact this
set_option maxRecDepth 100000 in
set_option maxHeartbeats 4000000 in
theorem tree_close (w : World) (r b0 bi B0 n c : Nat) (A : Option Addr) (kcs : List Value) (S : ByteArray) (P : Int) (Aw Ak : Option Addr) (nw cw nk ck : Nat) (bl : Bool)
    (hr0 : w.cell? ⟨r,0,none⟩ = some (.pointer (some ⟨b0,0,none⟩))) (hr1 : w.cell? ⟨r,1,none⟩ = some (.pointer (some ⟨bi,0,none⟩))) (fr1 : w.frozen? ⟨r,1,none⟩ = false)
    (hk : w.cell? ⟨b0,4,none⟩ = some (.slice A n c)) (fk : w.frozen? ⟨b0,4,none⟩ = false) (hown : w.ownsRow B0 44 5 (.slice A n c) n kcs)
    (i0 : w.cell? ⟨bi,0,none⟩ = some (.string S)) (i1 : w.cell? ⟨bi,1,none⟩ = some (.int .i64 P)) (i2 : w.cell? ⟨bi,2,none⟩ = some (.slice Aw nw cw)) (i3 : w.cell? ⟨bi,3,none⟩ = some (.bool bl)) (i4 : w.cell? ⟨bi,4,none⟩ = some (.slice Ak nk ck))
    (hn : n ≤ 100000) (hB0 : B0 ≤ w.heap.size)
    (ar : Value.ownBlock (.slice A n c) ≠ some r) (a0 : Value.ownBlock (.slice A n c) ≠ some b0) (ai : Value.ownBlock (.slice A n c) ≠ some bi) (hrb : r ≠ b0) (hrbi : r ≠ bi) (hb0i : b0 ≠ bi) :
    Calls Tryz.prog 70 #[.pointer (some ⟨r,0,none⟩)] w (ClosePost w r b0 B0 n A c kcs [.string S, .int .i64 P, .slice Aw nw cw, .bool bl, .slice Ak nk ck]):=by
  obtain ⟨i0',hi0,hz0,hz1,hz2⟩:=info_parts info_node
  have lr:=World.block_lt_of_cell? w _ hr0
  have lb:=World.block_lt_of_cell? w _ hk
  have li:=World.block_lt_of_cell? w _ i0
  simp only at lr lb li
  have hbr : b0 ≠ r:=fun h => hrb h.symm
  go_enter Tryz.func70,Tryz.ntmps70
  go_wp2
  go_region
  · have hS : Step w (w.alloc (.cells #[.bool false] 4)).drew [(b0,4),(r,1)] (Value.ownBlock (.slice A n c)) := ((Step.refl w _ _).alloc _).drew
    have hown1 : ((w.alloc (.cells #[.bool false] 4)).drew).ownsRow B0 44 5 (.slice A n c) n kcs:=own_drew (hown.alloc _)
    have hW : (w.alloc (.cells #[.bool false] 4)).drew.heap.size = w.heap.size + 1:=by simp
    have fk1 : (w.alloc (.cells #[.bool false] 4)).frozen? ⟨b0,4,none⟩ = false:=by rw [frozen?_alloc_cells];exact fk
    go_wp2
    refine wp_region_held_drew (S := (fun w' => w'.cell? ⟨r,0,none⟩ = some (.pointer (some ⟨b0,0,none⟩)) ∧ w'.cell? ⟨r,1,none⟩ = some (.pointer (some ⟨bi,0,none⟩)) ∧
        w'.cell? ⟨bi,0,none⟩ = some (.string S) ∧ w'.cell? ⟨bi,1,none⟩ = some (.int .i64 P) ∧ w'.cell? ⟨bi,2,none⟩ = some (.slice Aw nw cw) ∧ w'.cell? ⟨bi,3,none⟩ = some (.bool bl) ∧ w'.cell? ⟨bi,4,none⟩ = some (.slice Ak nk ck))) (by kernel_rfl) ?_ (fun hHeld => ?_)
    · go_keep
    refine wtk (v:=?_) 0 rfl (Or.inl ⟨by rfl,?_⟩) ?_;rotate_left;focus (intro w hSw;(try dsimp only at hSw);go_simp;try with_reducible rfl);try simp only [Act.put,nA,nC,nB]
    refine wtk (v:=?_) 1 rfl (Or.inl ⟨by rfl,?_⟩) ?_;rotate_left;focus (intro w hSw;(try dsimp only at hSw);go_simp;try with_reducible rfl);try simp only [Act.put,nA,nC,nB]
    refine wtk (v:=?_) 2 rfl (Or.inl ⟨by rfl,?_⟩) ?_;rotate_left;focus (intro w hSw;(try dsimp only at hSw);go_simp;try with_reducible rfl);try simp only [Act.put,nA,nC,nB]
    refine wtk (v:=?_) 3 rfl (Or.inl ⟨by rfl,?_⟩) ?_;rotate_left;focus (intro w hSw;(try dsimp only at hSw);go_simp;try with_reducible rfl);try simp only [Act.put,nA,nC,nB]
    refine wtk (v:=?_) 4 rfl (Or.inl ⟨by rfl,?_⟩) ?_;rotate_left;focus (intro w hSw;(try dsimp only at hSw);go_simp;try with_reducible rfl);try simp only [Act.put,nA,nC,nB]
    refine wtk (v:=?_) 5 rfl (Or.inl ⟨by rfl,?_⟩) ?_;rotate_left;focus (intro w hSw;(try dsimp only at hSw);go_simp;try with_reducible rfl);try simp only [Act.put,nA,nC,nB]
    refine wtk (v:=?_) 6 rfl (Or.inl ⟨by rfl,?_⟩) ?_;rotate_left;focus (intro w hSw;(try dsimp only at hSw);go_simp;try with_reducible rfl);try simp only [Act.put,nA,nC,nB]
    refine wtk (v:=?_) 7 rfl (Or.inl ⟨by rfl,?_⟩) ?_;rotate_left;focus (intro w hSw;(try dsimp only at hSw);go_simp;try with_reducible rfl);try simp only [Act.put,nA,nC,nB]
    refine wtk (v:=?_) 8 rfl (Or.inl ⟨by rfl,?_⟩) ?_;rotate_left;focus (intro w hSw;(try dsimp only at hSw);go_simp;try with_reducible rfl);try simp only [Act.put,nA,nC,nB]
    refine wtk (v:=?_) 9 rfl (Or.inl ⟨by rfl,?_⟩) ?_;rotate_left;focus (intro w hSw;(try dsimp only at hSw);go_simp;try with_reducible rfl);try simp only [Act.put,nA,nC,nB]
    refine wtk (v:=?_) 10 rfl (Or.inl ⟨by rfl,?_⟩) ?_;rotate_left;focus (intro w hSw;(try dsimp only at hSw);go_simp;try with_reducible rfl);try simp only [Act.put,nA,nC,nB]
    refine wtk (v:=?_) 12 rfl (Or.inl ⟨by rfl,?_⟩) ?_;rotate_left;focus (intro w hSw;(try dsimp only at hSw);go_simp;try with_reducible rfl);try simp only [Act.put,nA,nC,nB]
    refine wtk (v:=?_) 13 rfl (Or.inl ⟨by rfl,?_⟩) ?_;rotate_left;focus (intro w hSw;(try dsimp only at hSw);go_simp;try with_reducible rfl);try simp only [Act.put,nA,nC,nB]
    refine wtk (v:=?_) 14 rfl (Or.inl ⟨by rfl,?_⟩) ?_;rotate_left;focus (intro w hSw;(try dsimp only at hSw);go_simp;try with_reducible rfl);try simp only [Act.put,nA,nC,nB]
    refine wtk (v:=?_) 15 rfl (Or.inl ⟨by rfl,?_⟩) ?_;rotate_left;focus (intro w hSw;(try dsimp only at hSw);go_simp;try with_reducible rfl);try simp only [Act.put,nA,nC,nB]
    refine wtk (v:=?_) 16 rfl (Or.inl ⟨by rfl,?_⟩) ?_;rotate_left;focus (intro w hSw;(try dsimp only at hSw);go_simp;try with_reducible rfl);try simp only [Act.put,nA,nC,nB]
    refine wtk (v:=?_) 17 rfl (Or.inl ⟨by rfl,?_⟩) ?_;rotate_left;focus (intro w hSw;(try dsimp only at hSw);go_simp;try with_reducible rfl);try simp only [Act.put,nA,nC,nB]
    refine wtk (v:=?_) 18 rfl (Or.inl ⟨by rfl,?_⟩) ?_;rotate_left;focus (intro w hSw;(try dsimp only at hSw);go_simp;try with_reducible rfl);try simp only [Act.put,nA,nC,nB]
    refine wpAnyH_ready (rs:=[11,19]) (by kernel_rfl) (by simp) ?_
    refine AllReadyH.cons rfl (fun K hK => ?_) ?_
    · go_simp
      refine hK.out _ _ ?_ (fun hHeld => ?_)
      · go_keep
      clear hK K
      try simp only [Act.put,nA,nC,nB]
      refine wpAnyH_ready (rs:=[19]) (by kernel_rfl) (by simp) ?_
      refine AllReadyH.cons rfl (fun K hK => ?_) ?_
      · go_simp
        refine hK.out _ _ ?_ (fun hHeld => ?_)
        · go_keep
        clear hK K
        try simp only [Act.put,nA,nC,nB]
        refine wpAnyH_ready (rs:=[20]) (by kernel_rfl) (by simp) ?_
        refine AllReadyH.cons rfl (fun K hK => ?_) ?_
        · refine step_append_lies _ (by rfl) _ _ _ (by rfl) B0 44 i0' _ 5 80 Tryz.underlying41 hi0 hz0 hz1 hz2 rfl (by omega) (.slice A n c) n kcs (by rfl) (own_drew (hown1.alloc _))
            ⟨w.heap.size + 1,0,none⟩ 1 1 [.string S, .int .i64 P, .slice Aw nw cw, .bool bl, .slice Ak nk ck] (by rfl) (by rfl) (World.news_of_block (cs:=#[.string S, .int .i64 P, .slice Aw nw cw, .bool bl, .slice Ak nk ck]) (t:=44) (fr:=(0,0)) (by show ((w.alloc (.cells #[.bool false] 4)).alloc _).heap[w.heap.size + 1]? = _;rw [show w.heap.size + 1 = (w.alloc (.cells #[.bool false] 4)).heap.size by simp];exact heap_alloc_new _ _)) (by simp [Value.oneCell'])
            (by omega) (by unfold maxLen;omega) (by omega) (by simp;omega) (w.heap.size + 2) (by simp) ?_
          intro gg cap w1 hown2 hgrow hat hlt
          have fz : w1.frozen? ⟨b0,4,none⟩ = false:=(hgrow.frozen_far ⟨b0,4,none⟩ (by simp;omega) (Ne.symm a0)).trans (by show World.frozen? ((w.alloc _).alloc _) _ = false;rw [frozen?_alloc_cells];exact fk1)
          have cz : w1.cell? ⟨b0,4,none⟩ = some (.slice A n c):=(hgrow.cell_far ⟨b0,4,none⟩ (by simp;omega) (Ne.symm a0)).trans (by show World.cell? ((w.alloc _).alloc _) _ = _;rw [World.cell?_alloc_lt _ _ _ (by simp;omega),World.cell?_alloc_lt _ _ _ (by simp;omega)];exact hk)
          have fr : w1.frozen? ⟨r,1,none⟩ = false:=(hgrow.frozen_far ⟨r,1,none⟩ (by simp;omega) (Ne.symm ar)).trans (by show World.frozen? ((w.alloc _).alloc _) _ = false;rw [frozen?_alloc_cells,frozen?_alloc_cells];exact fr1)
          refine hK.out _ _ ?_ (fun hHeld => ?_)
          · refine ⟨?_,?_,?_,?_,?_,?_,?_⟩
            · (rw [hgrow.cell_far _ (by simp;omega) (Ne.symm ar)];go_split_ands;assumption)
            · (rw [hgrow.cell_far _ (by simp;omega) (Ne.symm ar)];go_split_ands;assumption)
            · (rw [hgrow.cell_far _ (by simp;omega) (Ne.symm ai)];go_split_ands;assumption)
            · (rw [hgrow.cell_far _ (by simp;omega) (Ne.symm ai)];go_split_ands;assumption)
            · (rw [hgrow.cell_far _ (by simp;omega) (Ne.symm ai)];go_split_ands;assumption)
            · (rw [hgrow.cell_far _ (by simp;omega) (Ne.symm ai)];go_split_ands;assumption)
            · (rw [hgrow.cell_far _ (by simp;omega) (Ne.symm ai)];go_split_ands;assumption)
          clear hK K
          try simp only [Act.put,nA,nC,nB]
          refine wtk (v:=?_) 21 rfl (Or.inl ⟨by rfl,?_⟩) ?_;rotate_left;focus (intro w hSw;(try dsimp only at hSw);go_simp;try with_reducible rfl);try simp only [Act.put,nA,nC,nB]
          refine wtk (v:=?_) 22 rfl (Or.inl ⟨by rfl,?_⟩) ?_;rotate_left;focus (intro w hSw;(try dsimp only at hSw);go_simp;try with_reducible rfl);try simp only [Act.put,nA,nC,nB]
          refine wtk (v:=?_) 23 rfl (Or.inl ⟨by rfl,?_⟩) ?_;rotate_left;focus (intro w hSw;(try dsimp only at hSw);go_simp;try with_reducible rfl);try simp only [Act.put,nA,nC,nB]
          refine wpAnyH_ready (rs:=[24]) (by kernel_rfl) (by simp) ?_
          refine AllReadyH.cons rfl (fun K hK => ?_) ?_
          · go_simp
            refine hK.out _ _ ?_ (fun hHeld => ?_)
            · go_keep
            clear hK K
            try simp only [Act.put,nA,nC,nB]
            refine wpAnyH_done (by kernel_rfl) ?_ _
            go_wp2
            go_end0
            have cr : w1.cell? ⟨r,1,none⟩ = some (.pointer (some ⟨bi,0,none⟩)):=(hgrow.cell_far ⟨r,1,none⟩ (by simp;omega) (Ne.symm ar)).trans (by show World.cell? ((w.alloc _).alloc _) _ = _;rw [World.cell?_alloc_lt _ _ _ (by simp;omega),World.cell?_alloc_lt _ _ _ (by simp;omega)];exact hr1)
            have hg0 : gg ≠ b0 := fun e => by subst e; rcases hat with h | h; · exact a0 h
                                              · omega
            have hgr : gg ≠ r := fun e => by subst e; rcases hat with h | h; · exact ar h
                                             · omega
            have hS2 : Step w w1 [(b0,4),(r,1)] (Value.ownBlock (.slice A n c)):=Step.grown (((Step.refl w _ _).alloc _).alloc _).drew.drew hgrow (fun k hk => .inl hk.symm)
            refine ⟨rfl,gg,cap,own_set (own_set hown2 (by simpa [Value.ownBlock] using hg0) _) (by simpa [Value.ownBlock] using hgr) _,hat.imp id (fun h => by omega),?_,?_,(hS2.setCell (.inr (.inl (by simp))) _).setCell (.inr (.inl (by simp))) _⟩
            · rw [World.cell?_setCell_other _ _ _ _ (by first | (simp; done) | (simp; omega))]
              exact World.cell?_setCell_same _ _ _ cz
            · exact World.cell?_setCell_same _ _ _ (u:=.pointer (some ⟨bi,0,none⟩)) (by rw [World.cell?_setCell_other _ _ _ _ (by first | (simp;done) | (simp;omega))];exact cr)
          exact AllReadyH.nil
        exact AllReadyH.nil
      exact AllReadyH.nil
    refine AllReadyH.cons rfl (fun K hK => ?_) ?_
    · go_simp
      refine hK.out _ _ ?_ (fun hHeld => ?_)
      · go_keep
      clear hK K
      try simp only [Act.put,nA,nC,nB]
      refine wpAnyH_ready (rs:=[11]) (by kernel_rfl) (by simp) ?_
      refine AllReadyH.cons rfl (fun K hK => ?_) ?_
      · go_simp
        refine hK.out _ _ ?_ (fun hHeld => ?_)
        · go_keep
        clear hK K
        try simp only [Act.put,nA,nC,nB]
        refine wpAnyH_ready (rs:=[20]) (by kernel_rfl) (by simp) ?_
        refine AllReadyH.cons rfl (fun K hK => ?_) ?_
        · refine step_append_lies _ (by rfl) _ _ _ (by rfl) B0 44 i0' _ 5 80 Tryz.underlying41 hi0 hz0 hz1 hz2 rfl (by omega) (.slice A n c) n kcs (by rfl) (own_drew (hown1.alloc _))
            ⟨w.heap.size + 1,0,none⟩ 1 1 [.string S, .int .i64 P, .slice Aw nw cw, .bool bl, .slice Ak nk ck] (by rfl) (by rfl) (World.news_of_block (cs:=#[.string S, .int .i64 P, .slice Aw nw cw, .bool bl, .slice Ak nk ck]) (t:=44) (fr:=(0,0)) (by show ((w.alloc (.cells #[.bool false] 4)).alloc _).heap[w.heap.size + 1]? = _;rw [show w.heap.size + 1 = (w.alloc (.cells #[.bool false] 4)).heap.size by simp];exact heap_alloc_new _ _)) (by simp [Value.oneCell'])
            (by omega) (by unfold maxLen;omega) (by omega) (by simp;omega) (w.heap.size + 2) (by simp) ?_
          intro gg cap w1 hown2 hgrow hat hlt
          have fz : w1.frozen? ⟨b0,4,none⟩ = false:=(hgrow.frozen_far ⟨b0,4,none⟩ (by simp;omega) (Ne.symm a0)).trans (by show World.frozen? ((w.alloc _).alloc _) _ = false;rw [frozen?_alloc_cells];exact fk1)
          have cz : w1.cell? ⟨b0,4,none⟩ = some (.slice A n c):=(hgrow.cell_far ⟨b0,4,none⟩ (by simp;omega) (Ne.symm a0)).trans (by show World.cell? ((w.alloc _).alloc _) _ = _;rw [World.cell?_alloc_lt _ _ _ (by simp;omega),World.cell?_alloc_lt _ _ _ (by simp;omega)];exact hk)
          have fr : w1.frozen? ⟨r,1,none⟩ = false:=(hgrow.frozen_far ⟨r,1,none⟩ (by simp;omega) (Ne.symm ar)).trans (by show World.frozen? ((w.alloc _).alloc _) _ = false;rw [frozen?_alloc_cells,frozen?_alloc_cells];exact fr1)
          refine hK.out _ _ ?_ (fun hHeld => ?_)
          · refine ⟨?_,?_,?_,?_,?_,?_,?_⟩
            · (rw [hgrow.cell_far _ (by simp;omega) (Ne.symm ar)];go_split_ands;assumption)
            · (rw [hgrow.cell_far _ (by simp;omega) (Ne.symm ar)];go_split_ands;assumption)
            · (rw [hgrow.cell_far _ (by simp;omega) (Ne.symm ai)];go_split_ands;assumption)
            · (rw [hgrow.cell_far _ (by simp;omega) (Ne.symm ai)];go_split_ands;assumption)
            · (rw [hgrow.cell_far _ (by simp;omega) (Ne.symm ai)];go_split_ands;assumption)
            · (rw [hgrow.cell_far _ (by simp;omega) (Ne.symm ai)];go_split_ands;assumption)
            · (rw [hgrow.cell_far _ (by simp;omega) (Ne.symm ai)];go_split_ands;assumption)
          clear hK K
          try simp only [Act.put,nA,nC,nB]
          refine wtk (v:=?_) 21 rfl (Or.inl ⟨by rfl,?_⟩) ?_;rotate_left;focus (intro w hSw;(try dsimp only at hSw);go_simp;try with_reducible rfl);try simp only [Act.put,nA,nC,nB]
          refine wtk (v:=?_) 22 rfl (Or.inl ⟨by rfl,?_⟩) ?_;rotate_left;focus (intro w hSw;(try dsimp only at hSw);go_simp;try with_reducible rfl);try simp only [Act.put,nA,nC,nB]
          refine wtk (v:=?_) 23 rfl (Or.inl ⟨by rfl,?_⟩) ?_;rotate_left;focus (intro w hSw;(try dsimp only at hSw);go_simp;try with_reducible rfl);try simp only [Act.put,nA,nC,nB]
          refine wpAnyH_ready (rs:=[24]) (by kernel_rfl) (by simp) ?_
          refine AllReadyH.cons rfl (fun K hK => ?_) ?_
          · go_simp
            refine hK.out _ _ ?_ (fun hHeld => ?_)
            · go_keep
            clear hK K
            try simp only [Act.put,nA,nC,nB]
            refine wpAnyH_done (by kernel_rfl) ?_ _
            go_wp2
            go_end0
            have cr : w1.cell? ⟨r,1,none⟩ = some (.pointer (some ⟨bi,0,none⟩)):=(hgrow.cell_far ⟨r,1,none⟩ (by simp;omega) (Ne.symm ar)).trans (by show World.cell? ((w.alloc _).alloc _) _ = _;rw [World.cell?_alloc_lt _ _ _ (by simp;omega),World.cell?_alloc_lt _ _ _ (by simp;omega)];exact hr1)
            have hg0 : gg ≠ b0 := fun e => by subst e; rcases hat with h | h; · exact a0 h
                                              · omega
            have hgr : gg ≠ r := fun e => by subst e; rcases hat with h | h; · exact ar h
                                             · omega
            have hS2 : Step w w1 [(b0,4),(r,1)] (Value.ownBlock (.slice A n c)):=Step.grown (((Step.refl w _ _).alloc _).alloc _).drew.drew hgrow (fun k hk => .inl hk.symm)
            refine ⟨rfl,gg,cap,own_set (own_set hown2 (by simpa [Value.ownBlock] using hg0) _) (by simpa [Value.ownBlock] using hgr) _,hat.imp id (fun h => by omega),?_,?_,(hS2.setCell (.inr (.inl (by simp))) _).setCell (.inr (.inl (by simp))) _⟩
            · rw [World.cell?_setCell_other _ _ _ _ (by first | (simp; done) | (simp; omega))]
              exact World.cell?_setCell_same _ _ _ cz
            · exact World.cell?_setCell_same _ _ _ (u:=.pointer (some ⟨bi,0,none⟩)) (by rw [World.cell?_setCell_other _ _ _ _ (by first | (simp;done) | (simp;omega))];exact cr)
          exact AllReadyH.nil
        exact AllReadyH.nil
      exact AllReadyH.nil
    exact AllReadyH.nil
  · have hS : Step w (w.alloc (.cells #[.bool true] 4)).drew [(b0,4),(r,1)] (Value.ownBlock (.slice A n c)) := ((Step.refl w _ _).alloc _).drew
    have hown1 : ((w.alloc (.cells #[.bool true] 4)).drew).ownsRow B0 44 5 (.slice A n c) n kcs:=own_drew (hown.alloc _)
    have hW : (w.alloc (.cells #[.bool true] 4)).drew.heap.size = w.heap.size + 1:=by simp
    have fk1 : (w.alloc (.cells #[.bool true] 4)).frozen? ⟨b0,4,none⟩ = false:=by rw [frozen?_alloc_cells];exact fk
    go_wp2
    refine wp_region_held_drew (S := (fun w' => w'.cell? ⟨r,0,none⟩ = some (.pointer (some ⟨b0,0,none⟩)) ∧ w'.cell? ⟨r,1,none⟩ = some (.pointer (some ⟨bi,0,none⟩)) ∧
        w'.cell? ⟨bi,0,none⟩ = some (.string S) ∧ w'.cell? ⟨bi,1,none⟩ = some (.int .i64 P) ∧ w'.cell? ⟨bi,2,none⟩ = some (.slice Aw nw cw) ∧ w'.cell? ⟨bi,3,none⟩ = some (.bool bl) ∧ w'.cell? ⟨bi,4,none⟩ = some (.slice Ak nk ck))) (by kernel_rfl) ?_ (fun hHeld => ?_)
    · go_keep
    refine wtk (v:=?_) 0 rfl (Or.inl ⟨by rfl,?_⟩) ?_;rotate_left;focus (intro w hSw;(try dsimp only at hSw);go_simp;try with_reducible rfl);try simp only [Act.put,nA,nC,nB]
    refine wtk (v:=?_) 1 rfl (Or.inl ⟨by rfl,?_⟩) ?_;rotate_left;focus (intro w hSw;(try dsimp only at hSw);go_simp;try with_reducible rfl);try simp only [Act.put,nA,nC,nB]
    refine wtk (v:=?_) 2 rfl (Or.inl ⟨by rfl,?_⟩) ?_;rotate_left;focus (intro w hSw;(try dsimp only at hSw);go_simp;try with_reducible rfl);try simp only [Act.put,nA,nC,nB]
    refine wtk (v:=?_) 3 rfl (Or.inl ⟨by rfl,?_⟩) ?_;rotate_left;focus (intro w hSw;(try dsimp only at hSw);go_simp;try with_reducible rfl);try simp only [Act.put,nA,nC,nB]
    refine wtk (v:=?_) 4 rfl (Or.inl ⟨by rfl,?_⟩) ?_;rotate_left;focus (intro w hSw;(try dsimp only at hSw);go_simp;try with_reducible rfl);try simp only [Act.put,nA,nC,nB]
    refine wtk (v:=?_) 5 rfl (Or.inl ⟨by rfl,?_⟩) ?_;rotate_left;focus (intro w hSw;(try dsimp only at hSw);go_simp;try with_reducible rfl);try simp only [Act.put,nA,nC,nB]
    refine wtk (v:=?_) 6 rfl (Or.inl ⟨by rfl,?_⟩) ?_;rotate_left;focus (intro w hSw;(try dsimp only at hSw);go_simp;try with_reducible rfl);try simp only [Act.put,nA,nC,nB]
    refine wtk (v:=?_) 8 rfl (Or.inl ⟨by rfl,?_⟩) ?_;rotate_left;focus (intro w hSw;(try dsimp only at hSw);go_simp;try with_reducible rfl);try simp only [Act.put,nA,nC,nB]
    refine wtk (v:=?_) 9 rfl (Or.inl ⟨by rfl,?_⟩) ?_;rotate_left;focus (intro w hSw;(try dsimp only at hSw);go_simp;try with_reducible rfl);try simp only [Act.put,nA,nC,nB]
    refine wtk (v:=?_) 10 rfl (Or.inl ⟨by rfl,?_⟩) ?_;rotate_left;focus (intro w hSw;(try dsimp only at hSw);go_simp;try with_reducible rfl);try simp only [Act.put,nA,nC,nB]
    refine wtk (v:=?_) 11 rfl (Or.inl ⟨by rfl,?_⟩) ?_;rotate_left;focus (intro w hSw;(try dsimp only at hSw);go_simp;try with_reducible rfl);try simp only [Act.put,nA,nC,nB]
    refine wtk (v:=?_) 12 rfl (Or.inl ⟨by rfl,?_⟩) ?_;rotate_left;focus (intro w hSw;(try dsimp only at hSw);go_simp;try with_reducible rfl);try simp only [Act.put,nA,nC,nB]
    refine wtk (v:=?_) 13 rfl (Or.inl ⟨by rfl,?_⟩) ?_;rotate_left;focus (intro w hSw;(try dsimp only at hSw);go_simp;try with_reducible rfl);try simp only [Act.put,nA,nC,nB]
    refine wtk (v:=?_) 14 rfl (Or.inl ⟨by rfl,?_⟩) ?_;rotate_left;focus (intro w hSw;(try dsimp only at hSw);go_simp;try with_reducible rfl);try simp only [Act.put,nA,nC,nB]
    refine wpAnyH_ready (rs:=[7,16]) (by kernel_rfl) (by simp) ?_
    refine AllReadyH.cons rfl (fun K hK => ?_) ?_
    · go_simp
      refine hK.out _ _ ?_ (fun hHeld => ?_)
      · go_keep
      clear hK K
      try simp only [Act.put,nA,nC,nB]
      refine wtk (v:=?_) 15 rfl (Or.inl ⟨by rfl,?_⟩) ?_;rotate_left;focus (intro w hSw;(try dsimp only at hSw);go_simp;try with_reducible rfl);try simp only [Act.put,nA,nC,nB]
      refine wpAnyH_ready (rs:=[16]) (by kernel_rfl) (by simp) ?_
      refine AllReadyH.cons rfl (fun K hK => ?_) ?_
      · go_simp
        refine hK.out _ _ ?_ (fun hHeld => ?_)
        · go_keep
        clear hK K
        try simp only [Act.put,nA,nC,nB]
        refine wpAnyH_ready (rs:=[17]) (by kernel_rfl) (by simp) ?_
        refine AllReadyH.cons rfl (fun K hK => ?_) ?_
        · refine step_append_lies _ (by rfl) _ _ _ (by rfl) B0 44 i0' _ 5 80 Tryz.underlying41 hi0 hz0 hz1 hz2 rfl (by omega) (.slice A n c) n kcs (by rfl) (own_drew (hown1.alloc _))
            ⟨w.heap.size + 1,0,none⟩ 1 1 [.string ⟨#[]⟩, .int .i64 0, .slice none 0 0, .bool false, .slice none 0 0] (by rfl) (by rfl) (World.news_of_block (cs:=#[.string ⟨#[]⟩, .int .i64 0, .slice none 0 0, .bool false, .slice none 0 0]) (t:=44) (fr:=(0,0)) (by show ((w.alloc (.cells #[.bool true] 4)).alloc _).heap[w.heap.size + 1]? = _;rw [show w.heap.size + 1 = (w.alloc (.cells #[.bool true] 4)).heap.size by simp];exact heap_alloc_new _ _)) (by simp [Value.oneCell'])
            (by omega) (by unfold maxLen;omega) (by omega) (by simp;omega) (w.heap.size + 2) (by simp) ?_
          intro gg cap w1 hown2 hgrow hat hlt
          have fz : w1.frozen? ⟨b0,4,none⟩ = false:=(hgrow.frozen_far ⟨b0,4,none⟩ (by simp;omega) (Ne.symm a0)).trans (by show World.frozen? ((w.alloc _).alloc _) _ = false;rw [frozen?_alloc_cells];exact fk1)
          have cz : w1.cell? ⟨b0,4,none⟩ = some (.slice A n c):=(hgrow.cell_far ⟨b0,4,none⟩ (by simp;omega) (Ne.symm a0)).trans (by show World.cell? ((w.alloc _).alloc _) _ = _;rw [World.cell?_alloc_lt _ _ _ (by simp;omega),World.cell?_alloc_lt _ _ _ (by simp;omega)];exact hk)
          have fr : w1.frozen? ⟨r,1,none⟩ = false:=(hgrow.frozen_far ⟨r,1,none⟩ (by simp;omega) (Ne.symm ar)).trans (by show World.frozen? ((w.alloc _).alloc _) _ = false;rw [frozen?_alloc_cells,frozen?_alloc_cells];exact fr1)
          refine hK.out _ _ ?_ (fun hHeld => ?_)
          · refine ⟨?_,?_,?_,?_,?_,?_,?_⟩
            · (rw [hgrow.cell_far _ (by simp;omega) (Ne.symm ar)];go_split_ands;assumption)
            · (rw [hgrow.cell_far _ (by simp;omega) (Ne.symm ar)];go_split_ands;assumption)
            · (rw [hgrow.cell_far _ (by simp;omega) (Ne.symm ai)];go_split_ands;assumption)
            · (rw [hgrow.cell_far _ (by simp;omega) (Ne.symm ai)];go_split_ands;assumption)
            · (rw [hgrow.cell_far _ (by simp;omega) (Ne.symm ai)];go_split_ands;assumption)
            · (rw [hgrow.cell_far _ (by simp;omega) (Ne.symm ai)];go_split_ands;assumption)
            · (rw [hgrow.cell_far _ (by simp;omega) (Ne.symm ai)];go_split_ands;assumption)
          clear hK K
          try simp only [Act.put,nA,nC,nB]
          refine wtk (v:=?_) 18 rfl (Or.inl ⟨by rfl,?_⟩) ?_;rotate_left;focus (intro w hSw;(try dsimp only at hSw);go_simp;try with_reducible rfl);try simp only [Act.put,nA,nC,nB]
          refine wtk (v:=?_) 19 rfl (Or.inl ⟨by rfl,?_⟩) ?_;rotate_left;focus (intro w hSw;(try dsimp only at hSw);go_simp;try with_reducible rfl);try simp only [Act.put,nA,nC,nB]
          refine wtk (v:=?_) 20 rfl (Or.inl ⟨by rfl,?_⟩) ?_;rotate_left;focus (intro w hSw;(try dsimp only at hSw);go_simp;try with_reducible rfl);try simp only [Act.put,nA,nC,nB]
          refine wpAnyH_ready (rs:=[21]) (by kernel_rfl) (by simp) ?_
          refine AllReadyH.cons rfl (fun K hK => ?_) ?_
          · go_simp
            refine hK.out _ _ ?_ (fun hHeld => ?_)
            · go_keep
            clear hK K
            try simp only [Act.put,nA,nC,nB]
            refine wpAnyH_done (by kernel_rfl) ?_ _
            have hg0 : gg ≠ b0 := fun e => by subst e; rcases hat with h | h; · exact a0 h
                                              · omega
            have hgr : gg ≠ r := fun e => by subst e; rcases hat with h | h; · exact ar h
                                             · omega
            have cr : w1.cell? ⟨r,1,none⟩ = some (.pointer (some ⟨bi,0,none⟩)):=(hgrow.cell_far ⟨r,1,none⟩ (by simp;omega) (Ne.symm ar)).trans (by show World.cell? ((w.alloc _).alloc _) _ = _;rw [World.cell?_alloc_lt _ _ _ (by simp;omega),World.cell?_alloc_lt _ _ _ (by simp;omega)];exact hr1)
            have zz : ∀ j z,[Value.string ⟨#[]⟩, .int .i64 0, .slice none 0 0, .bool false, .slice none 0 0][j]? = some z → w1.cell? ⟨gg,n * 5 + j,none⟩ = some z:=fun j z hz => zero5 hown2 hown.1 j z hz
            have hbg : b0 ≠ gg:=fun e => hg0 e.symm
            have z0:=zz 0 _ rfl
            have z1:=zz 1 _ rfl
            have z2:=zz 2 _ rfl
            have z3:=zz 3 _ rfl
            have z4:=zz 4 _ rfl
            have f0:=hown2.frozenAt (n * 5)
            have f1:=hown2.frozenAt (n * 5 + 1)
            have f2:=hown2.frozenAt (n * 5 + 2)
            have f3:=hown2.frozenAt (n * 5 + 3)
            have f4:=hown2.frozenAt (n * 5 + 4)
            have hrg : r ≠ gg:=fun e => hgr e.symm
            rw [Nat.add_zero] at z0
            clear zz
            go_wp2
            go_end0
            have hS2 : Step w w1 [(b0,4),(r,1)] (Value.ownBlock (.slice A n c)):=Step.grown (((Step.refl w _ _).alloc _).alloc _).drew.drew hgrow (fun k hk => .inl hk.symm)
            have hgs : w.heap.size ≤ gg ∨ (∀ o,(gg,o) ∈ [(b0,4),(r,1)] ∨ some gg = Value.ownBlock (.slice A n c)) := by
              rcases hat with h | h
              · exact .inr fun _ => .inr h.symm
              · exact .inl (by omega)
            have hset:=set5 kcs (.string ⟨#[]⟩) (.int .i64 0) (.slice none 0 0) (.bool false) (.slice none 0 0) (.string S) (.int .i64 P) (.slice Aw nw cw) (.bool bl) (.slice Ak nk ck)
            rw [hown.1] at hset
            have hfin:=(((((own_set hown2 (p:=⟨b0,4,none⟩) (by simpa [Value.ownBlock] using hg0) (.slice (some ⟨gg,0,none⟩) (n + 1) cap)).stored (n * 5) (.string S)).1.stored (n * 5 + 1) (.int .i64 P)).1.stored (n * 5 + 2) (.slice Aw nw cw)).1.stored (n * 5 + 3) (.bool bl)).1.stored (n * 5 + 4) (.slice Ak nk ck)
            rw [hset] at hfin
            refine ⟨rfl,gg,cap,own_set hfin.1 (by simpa [Value.ownBlock] using hgr) _,hat.imp id (fun h => by omega),?_,?_,?_⟩
            · repeat rw [World.cell?_setCell_other _ _ _ _ (by first | (simp; done) | (simp; omega))]
              exact World.cell?_setCell_same _ _ _ cz
            · exact World.cell?_setCell_same _ _ _ (u := .pointer (some ⟨bi,0,none⟩)) (by
                repeat rw [World.cell?_setCell_other _ _ _ _ (by first | (simp;done) | (simp;omega))]
                exact cr)
            · exact ((((((hS2.setCell (.inr (.inl (by simp))) _).setCell (hgs.imp id fun h => h _) _).setCell (hgs.imp id fun h => h _) _).setCell (hgs.imp id fun h => h _) _).setCell (hgs.imp id fun h => h _) _).setCell (hgs.imp id fun h => h _) _).setCell (.inr (.inl (by simp))) _
          exact AllReadyH.nil
        exact AllReadyH.nil
      exact AllReadyH.nil
    refine AllReadyH.cons rfl (fun K hK => ?_) ?_
    · go_simp
      refine hK.out _ _ ?_ (fun hHeld => ?_)
      · go_keep
      clear hK K
      try simp only [Act.put,nA,nC,nB]
      refine wpAnyH_ready (rs:=[7]) (by kernel_rfl) (by simp) ?_
      refine AllReadyH.cons rfl (fun K hK => ?_) ?_
      · go_simp
        refine hK.out _ _ ?_ (fun hHeld => ?_)
        · go_keep
        clear hK K
        try simp only [Act.put,nA,nC,nB]
        refine wtk (v:=?_) 15 rfl (Or.inl ⟨by rfl,?_⟩) ?_;rotate_left;focus (intro w hSw;(try dsimp only at hSw);go_simp;try with_reducible rfl);try simp only [Act.put,nA,nC,nB]
        refine wpAnyH_ready (rs:=[17]) (by kernel_rfl) (by simp) ?_
        refine AllReadyH.cons rfl (fun K hK => ?_) ?_
        · refine step_append_lies _ (by rfl) _ _ _ (by rfl) B0 44 i0' _ 5 80 Tryz.underlying41 hi0 hz0 hz1 hz2 rfl (by omega) (.slice A n c) n kcs (by rfl) (own_drew (hown1.alloc _))
            ⟨w.heap.size + 1,0,none⟩ 1 1 [.string ⟨#[]⟩, .int .i64 0, .slice none 0 0, .bool false, .slice none 0 0] (by rfl) (by rfl) (World.news_of_block (cs:=#[.string ⟨#[]⟩, .int .i64 0, .slice none 0 0, .bool false, .slice none 0 0]) (t:=44) (fr:=(0,0)) (by show ((w.alloc (.cells #[.bool true] 4)).alloc _).heap[w.heap.size + 1]? = _;rw [show w.heap.size + 1 = (w.alloc (.cells #[.bool true] 4)).heap.size by simp];exact heap_alloc_new _ _)) (by simp [Value.oneCell'])
            (by omega) (by unfold maxLen;omega) (by omega) (by simp;omega) (w.heap.size + 2) (by simp) ?_
          intro gg cap w1 hown2 hgrow hat hlt
          have fz : w1.frozen? ⟨b0,4,none⟩ = false:=(hgrow.frozen_far ⟨b0,4,none⟩ (by simp;omega) (Ne.symm a0)).trans (by show World.frozen? ((w.alloc _).alloc _) _ = false;rw [frozen?_alloc_cells];exact fk1)
          have cz : w1.cell? ⟨b0,4,none⟩ = some (.slice A n c):=(hgrow.cell_far ⟨b0,4,none⟩ (by simp;omega) (Ne.symm a0)).trans (by show World.cell? ((w.alloc _).alloc _) _ = _;rw [World.cell?_alloc_lt _ _ _ (by simp;omega),World.cell?_alloc_lt _ _ _ (by simp;omega)];exact hk)
          have fr : w1.frozen? ⟨r,1,none⟩ = false:=(hgrow.frozen_far ⟨r,1,none⟩ (by simp;omega) (Ne.symm ar)).trans (by show World.frozen? ((w.alloc _).alloc _) _ = false;rw [frozen?_alloc_cells,frozen?_alloc_cells];exact fr1)
          refine hK.out _ _ ?_ (fun hHeld => ?_)
          · refine ⟨?_,?_,?_,?_,?_,?_,?_⟩
            · (rw [hgrow.cell_far _ (by simp;omega) (Ne.symm ar)];go_split_ands;assumption)
            · (rw [hgrow.cell_far _ (by simp;omega) (Ne.symm ar)];go_split_ands;assumption)
            · (rw [hgrow.cell_far _ (by simp;omega) (Ne.symm ai)];go_split_ands;assumption)
            · (rw [hgrow.cell_far _ (by simp;omega) (Ne.symm ai)];go_split_ands;assumption)
            · (rw [hgrow.cell_far _ (by simp;omega) (Ne.symm ai)];go_split_ands;assumption)
            · (rw [hgrow.cell_far _ (by simp;omega) (Ne.symm ai)];go_split_ands;assumption)
            · (rw [hgrow.cell_far _ (by simp;omega) (Ne.symm ai)];go_split_ands;assumption)
          clear hK K
          try simp only [Act.put,nA,nC,nB]
          refine wtk (v:=?_) 18 rfl (Or.inl ⟨by rfl,?_⟩) ?_;rotate_left;focus (intro w hSw;(try dsimp only at hSw);go_simp;try with_reducible rfl);try simp only [Act.put,nA,nC,nB]
          refine wtk (v:=?_) 19 rfl (Or.inl ⟨by rfl,?_⟩) ?_;rotate_left;focus (intro w hSw;(try dsimp only at hSw);go_simp;try with_reducible rfl);try simp only [Act.put,nA,nC,nB]
          refine wtk (v:=?_) 20 rfl (Or.inl ⟨by rfl,?_⟩) ?_;rotate_left;focus (intro w hSw;(try dsimp only at hSw);go_simp;try with_reducible rfl);try simp only [Act.put,nA,nC,nB]
          refine wpAnyH_ready (rs:=[21]) (by kernel_rfl) (by simp) ?_
          refine AllReadyH.cons rfl (fun K hK => ?_) ?_
          · go_simp
            refine hK.out _ _ ?_ (fun hHeld => ?_)
            · go_keep
            clear hK K
            try simp only [Act.put,nA,nC,nB]
            refine wpAnyH_done (by kernel_rfl) ?_ _
            have hg0 : gg ≠ b0 := fun e => by subst e; rcases hat with h | h; · exact a0 h
                                              · omega
            have hgr : gg ≠ r := fun e => by subst e; rcases hat with h | h; · exact ar h
                                             · omega
            have cr : w1.cell? ⟨r,1,none⟩ = some (.pointer (some ⟨bi,0,none⟩)):=(hgrow.cell_far ⟨r,1,none⟩ (by simp;omega) (Ne.symm ar)).trans (by show World.cell? ((w.alloc _).alloc _) _ = _;rw [World.cell?_alloc_lt _ _ _ (by simp;omega),World.cell?_alloc_lt _ _ _ (by simp;omega)];exact hr1)
            have zz : ∀ j z,[Value.string ⟨#[]⟩, .int .i64 0, .slice none 0 0, .bool false, .slice none 0 0][j]? = some z → w1.cell? ⟨gg,n * 5 + j,none⟩ = some z:=fun j z hz => zero5 hown2 hown.1 j z hz
            have hbg : b0 ≠ gg:=fun e => hg0 e.symm
            have z0:=zz 0 _ rfl
            have z1:=zz 1 _ rfl
            have z2:=zz 2 _ rfl
            have z3:=zz 3 _ rfl
            have z4:=zz 4 _ rfl
            have f0:=hown2.frozenAt (n * 5)
            have f1:=hown2.frozenAt (n * 5 + 1)
            have f2:=hown2.frozenAt (n * 5 + 2)
            have f3:=hown2.frozenAt (n * 5 + 3)
            have f4:=hown2.frozenAt (n * 5 + 4)
            have hrg : r ≠ gg:=fun e => hgr e.symm
            rw [Nat.add_zero] at z0
            clear zz
            go_wp2
            go_end0
            have hS2 : Step w w1 [(b0,4),(r,1)] (Value.ownBlock (.slice A n c)):=Step.grown (((Step.refl w _ _).alloc _).alloc _).drew.drew hgrow (fun k hk => .inl hk.symm)
            have hgs : w.heap.size ≤ gg ∨ (∀ o,(gg,o) ∈ [(b0,4),(r,1)] ∨ some gg = Value.ownBlock (.slice A n c)) := by
              rcases hat with h | h
              · exact .inr fun _ => .inr h.symm
              · exact .inl (by omega)
            have hset:=set5 kcs (.string ⟨#[]⟩) (.int .i64 0) (.slice none 0 0) (.bool false) (.slice none 0 0) (.string S) (.int .i64 P) (.slice Aw nw cw) (.bool bl) (.slice Ak nk ck)
            rw [hown.1] at hset
            have hfin:=(((((own_set hown2 (p:=⟨b0,4,none⟩) (by simpa [Value.ownBlock] using hg0) (.slice (some ⟨gg,0,none⟩) (n + 1) cap)).stored (n * 5) (.string S)).1.stored (n * 5 + 1) (.int .i64 P)).1.stored (n * 5 + 2) (.slice Aw nw cw)).1.stored (n * 5 + 3) (.bool bl)).1.stored (n * 5 + 4) (.slice Ak nk ck)
            rw [hset] at hfin
            refine ⟨rfl,gg,cap,own_set hfin.1 (by simpa [Value.ownBlock] using hgr) _,hat.imp id (fun h => by omega),?_,?_,?_⟩
            · repeat rw [World.cell?_setCell_other _ _ _ _ (by first | (simp; done) | (simp; omega))]
              exact World.cell?_setCell_same _ _ _ cz
            · exact World.cell?_setCell_same _ _ _ (u := .pointer (some ⟨bi,0,none⟩)) (by
                repeat rw [World.cell?_setCell_other _ _ _ _ (by first | (simp;done) | (simp;omega))]
                exact cr)
            · exact ((((((hS2.setCell (.inr (.inl (by simp))) _).setCell (hgs.imp id fun h => h _) _).setCell (hgs.imp id fun h => h _) _).setCell (hgs.imp id fun h => h _) _).setCell (hgs.imp id fun h => h _) _).setCell (hgs.imp id fun h => h _) _).setCell (.inr (.inl (by simp))) _
          exact AllReadyH.nil
        exact AllReadyH.nil
      exact AllReadyH.nil
    exact AllReadyH.nil
end Go.Proofs.YtjbniichcopnlaaGreatDoor
