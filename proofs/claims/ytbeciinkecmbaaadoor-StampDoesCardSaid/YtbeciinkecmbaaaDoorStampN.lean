/- Layer 7 (stamp): the walk of numbers. -/
import Derived.Test.YtbeciinkecmbaaaDoorStampW
import Derived.Test.YtbeciinkecmbaaaDoorWords
import Derived.Lib.OthersKept
import Derived.WalkSmall
import Derived.Laws.OwnMore
import Derived.Outline
set_option linter.unusedVariables false
namespace Go.Proofs.YtbeciinkecmbaaaDoor
open Go.RowKit
attribute [local go_sem ↓] Go.wp_at_zero Go.wp_at_succ

theorem info_int : (Tryd.prog.info? 3).map (fun i => (i.zero, i.size, i.bytes)) = some (some (.int .i64 0), 1, 8) := by kernel_rfl

/-- What numbers leaves. -/
def NumsPost (w : World) (r : Option (List Int)) (e : Ending) (w' : World) : Prop :=
  (match r with
   | none => e = .returned (.tuple #[.slice none 0 0, .bool false])
   | some l => ∃ v, e = .returned (.tuple #[v, .bool true]) ∧ w'.ownsRow w.heap.size 3 1 v l.length (l.map (Value.int .i64))) ∧ Below w.heap.size w w'

/-- What holds ahead of each round. -/
def NI (f s : ByteArray) (w : World) (k : Nat) (l : List Int) (op : Bool) (v : Value) (wr : World) : Prop :=
  k ≤ s.size ∧ l.length ≤ k ∧ (∀ x ∈ l, 0 ≤ x ∧ x < 10 ^ k) ∧ (op = true → l ≠ []) ∧ wr.heap[w.heap.size]? = some (.stringIter f k) ∧ Below w.heap.size w wr ∧
    wr.ownsRow (w.heap.size + 1) 3 1 v l.length (l.map (Value.int .i64)) ∧ numsGo f.data.toList s.data.toList [] false = numsGo (f.data.toList.drop k) (s.data.toList.drop k) l op

theorem len_ints (W : World) (b : Option Addr) (n c : Nat) : (Builtin.len_ #[47] 3 #[.slice b n c]).run Tryd.prog W = .ok (goInt n) W := run_len_slice (w := W) 47 3 b n c (by kernel_rfl)
theorem numsGo_step (f s : ByteArray) (k : Nat) (l : List Int) (op : Bool) (hf : k < f.size) (hs : k < s.size) : numsGo (f.data.toList.drop k) (s.data.toList.drop k) l op =
    if f[k] ≠ 35 then (if s[k] ≠ f[k] then none else numsGo (f.data.toList.drop (k + 1)) (s.data.toList.drop (k + 1)) l false)
    else if isDigit s[k] = false then none else numsGo (f.data.toList.drop (k + 1)) (s.data.toList.drop (k + 1)) (bump (if op then l else l ++ [0]) ((s[k].toNat : Int) - 48)) true := by
  rw [ba_drop_cons f k hf, ba_drop_cons s k hs]
  rfl
theorem bump_snoc (l : List Int) (x d : Int) : bump (l ++ [x]) d = l ++ [x * 10 + d] := by simp [bump]
theorem u8_ne (c d : UInt8) : c ≠ d ↔ ¬ (c.toNat : Int) = d.toNat := by rw [ne_eq, ← UInt8.toNat_inj]; omega
theorem set_snoc (l : List Int) (x y : Int) : ((l ++ [x]).map (Value.int .i64)).set l.length (.int .i64 y) = (l ++ [y]).map (Value.int .i64) := by simp
theorem pow10_le (k : Nat) (h : k ≤ 17) : (10 : Int) ^ k ≤ 100000000000000000 := by
  have : (10 : Nat) ^ k ≤ 10 ^ 17 := Nat.pow_le_pow_right (by omega) h
  have e : ((10 : Nat) ^ k : Int) = ((10 ^ k : Nat) : Int) := by simp
  have e2 : (10 : Int) ^ k = ((10 ^ k : Nat) : Int) := by simp
  rw [e2]
  omega
theorem below_iterAt {B g : Nat} {a w : World} (h : Below B a w) (hB : B ≤ g) (s : ByteArray) (p : Nat) : Below B a (w.iterAt g s p) :=
  h.trans ⟨rfl, rfl, rfl, by simp [World.iterAt], fun i hi => Lib.iterAt_other _ _ _ _ _ (by omega)⟩
theorem own_more {w : World} {b b' : Nat} {e : TypeId} {size n : Nat} {v : Value} {xs : List Value} (h : w.ownsRow b e size v n xs) (hb : b' ≤ b) : w.ownsRow b' e size v n xs :=
  ⟨h.1, h.2.imp id fun ⟨g, cap, cur, a1, a2, r⟩ => ⟨g, cap, cur, a1, by omega, r⟩⟩

/-- A round's end: the last number written anew. -/
theorem NI_put {f s : ByteArray} {w W1 W3 W4 : World} {k : Nat} {l : List Int} {x y : Int} {g c : Nat} {row : Option Nat} (hk : k + 1 ≤ s.size) (hl : l.length + 1 ≤ k + 1) (hx : ∀ z ∈ l, 0 ≤ z ∧ z < 10 ^ (k + 1)) (hy : 0 ≤ y ∧ y < 10 ^ (k + 1))
    (hit : W1.heap[w.heap.size]? = some (.stringIter f (k + 1))) (hB : Below w.heap.size w W1) (hg : W1.grownBy W3 row) (hrow : ∀ b, row = some b → w.heap.size + 1 ≤ b) (hg1 : w.heap.size + 1 ≤ g)
    (hown : W3.ownsRow (w.heap.size + 1) 3 1 (.slice (some ⟨g, 0, none⟩) (l.length + 1) c) (l.length + 1) ((l ++ [x]).map (Value.int .i64))) (hgo : numsGo f.data.toList s.data.toList [] false = numsGo (f.data.toList.drop (k + 1)) (s.data.toList.drop (k + 1)) (l ++ [y]) true)
    (h4 : W4 = W3.setCell ⟨g, l.length, none⟩ (.int .i64 y)) :
    NI f s w (k + 1) (l ++ [y]) true (.slice (some ⟨g, 0, none⟩) (l.length + 1) c) W4 := by
  subst h4
  obtain ⟨ho, hgr⟩ := hown.stored l.length (.int .i64 y)
  have hlt : w.heap.size < W1.heap.size := (Array.getElem?_eq_some_iff.1 hit).1
  have i3 : W3.heap[w.heap.size]? = some (.stringIter f (k + 1)) := by
    rw [hg.block _ hlt (fun e => by have := hrow _ e.symm; omega)]; exact hit
  have hs1 := hg.size
  have i4 : (W3.setCell ⟨g, l.length, none⟩ (.int .i64 y)).heap[w.heap.size]? = some (.stringIter f (k + 1)) := by
    rw [hgr.block _ (by omega) (fun e => by injection e with e; omega)]; exact i3
  refine ⟨hk, by simp; omega, ?_, by simp, i4, (hB.grown hg (by omega) fun b hb => by have := hrow b hb; omega).setCell (by simp; omega) _, ?_, hgo⟩
  · intro z hz
    rcases List.mem_append.1 hz with h | h
    · exact hx z h
    · obtain rfl := List.mem_singleton.1 h; exact hy
  · rw [set_snoc] at ho
    simpa using ho

set_option maxRecDepth 100000 in
set_option maxHeartbeats 4000000 in
theorem stamp_numbers (s f : ByteArray) (w : World) (hs : s.size ≤ maxLen) (hf : f.size ≤ 16) (ha : ∀ k (h : k < f.size), f[k].toNat < 128) :
    Calls Tryd.prog 24 #[.string s, .string f] w (NumsPost w (numsGo f.data.toList s.data.toList [] false)) := by
  unfold maxLen at hs
  by_cases hlen : s.size = f.size
  · have hne : ((s.size : Int) != (f.size : Int)) = false := bne_f (by omega)
    have HL := Lib.hid hlen
    have HA := Lib.hid ha
    have hfs : f.size ≤ s.size := by omega
    have hsf : s.size ≤ f.size := by omega
    clear hlen ha
    obtain ⟨i0, hi, hz0, hz1, hz2⟩ := info_parts info_int
    have HII := Lib.hid hi
    have hlen := len_ints
    clear hi
    go_enter Tryd.func24, Tryd.ntmps24
    go_wp2_with fail
    go_loopw [4, 6] (fun v o wr => ∃ (k : Nat) (l : List Int) (op : Bool), o = .bool op ∧ NI f s w k l op v wr) (fun _ _ wr => s.size - wr.iterPos w.heap.size)
    case atStart => exact ⟨0, [], false, rfl, Nat.zero_le _, Nat.le_refl _, by simp, by simp, heap_alloc_new w _, (Below.refl _ _).alloc (Nat.le_refl _) _, World.ownsRow_nil _ _ _ _, rfl⟩
    case round =>
      obtain ⟨k, l, op, rfl, hk, hlk, hx, hop, hit, hB, hown, hgo⟩ := hrel
      have hip := iterPos_of hit
      obtain ⟨A, c, rfl, hnc⟩ := own_form hown
      have hbs := hB.size
      by_cases hlt : k < s.size
      · have hltf : k < f.size := by omega
        have hnx0 : ∀ ty, (Instr.next (.pointer (some ⟨w.heap.size, 0, none⟩)) true ty).run Tryd.prog wr = _ := fun ty => Lib.run_next_ascii_at wr w.heap.size f k ty hit hltf (HA.out k hltf)
        have hst := numsGo_step f s k l op hltf hlt
        rw [hst] at hgo
        clear hst
        have hc255 : (s[k].toNat : Int) ≤ 255 := by have := s[k].toNat_lt; omega
        have hB1 : Below w.heap.size w (wr.iterAt w.heap.size f (k + 1)) := below_iterAt hB (Nat.le_refl _) _ _
        have hit1 := Lib.iterAt_heap wr w.heap.size f k (k + 1) hit
        have hown1 : (wr.iterAt w.heap.size f (k + 1)).ownsRow (w.heap.size + 1) 3 1 (.slice A l.length c) l.length (l.map (Value.int .i64)) := ownsRow_iterAt hown (by omega) _ _
        have hzz : (wr.iterAt w.heap.size f (k + 1)).heap.size = wr.heap.size := by simp [World.iterAt]
        have hgl : w.heap.size < wr.heap.size := (Array.getElem?_eq_some_iff.1 hit).1
        have hsel := pow10_le (k + 1) (by omega)
        have hpw : (10 : Int) ^ (k + 1) = 10 ^ k * 10 := by rw [Int.pow_succ]
        have hpp : (0 : Int) < 10 ^ k := Int.pow_pos (by omega)
        have HIT := Lib.hid hit
        have HX := Lib.hid hx
        have HOP := Lib.hid hop
        have HP := Lib.hid hpw
        clear hit hx hop hown hpw hB
        have hnx : ∀ ty, (Instr.next (.pointer (some ⟨w.heap.size, 0, none⟩)) true ty).run Tryd.prog wr = .ok (.tuple #[.bool true, .int .i64 k, .int .i32 f[k].toNat]) (wr.iterAt w.heap.size f (k + 1)) := hnx0
        generalize wr.iterAt w.heap.size f (k + 1) = W1 at *
        have hgl1 : w.heap.size < W1.heap.size := by omega
        have HZZ := Lib.hid hzz
        clear hzz
        by_cases h35 : f[k] = 35
        · have hsg : ((f[k].toNat : Int) != 35) = false := by rw [h35]; rfl
          rw [if_neg (by simpa using h35)] at hgo
          clear h35
          cases hd : isDigit s[k]
          · rw [hd, if_pos rfl] at hgo
            have hr : ¬ (48 ≤ s[k].toNat ∧ s[k].toNat ≤ 57) := fun h => by have := (isDigit_iff s[k]).2 h; rw [hd] at this; cases this
            have HG := Lib.hid hgo
            clear hgo hd
            by_cases h48 : (s[k].toNat : Int) < 48
            · clear hr
              go_wp2_with fail
              go_ret2
              rw [HG.out]
              exact ⟨rfl, hB1⟩
            · have h57 : 57 < (s[k].toNat : Int) := by omega
              clear hr
              go_wp2_with fail
              go_ret2
              rw [HG.out]
              exact ⟨rfl, hB1⟩
          · rw [hd, if_neg (by simp)] at hgo
            have hdg := (isDigit_iff s[k]).1 hd
            have h48 : 48 ≤ (s[k].toNat : Int) := by omega
            have h57 : (s[k].toNat : Int) ≤ 57 := by omega
            have hrow : ∀ b, (Value.slice A l.length c).ownBlock = some b → w.heap.size + 1 ≤ b := fun b hb => (hown1.lt b hb).1
            have hx1 : ∀ z ∈ l, 0 ≤ z ∧ z < 10 ^ (k + 1) := fun z hz => by have := HX.out z hz; have := HP.out; omega
            have hdb : 0 ≤ (s[k].toNat : Int) - 48 ∧ (s[k].toNat : Int) - 48 < 10 ^ (k + 1) := by have := HP.out; omega
            have HM := Lib.hid (show ¬ s.size < k + 1 by omega)
            have HR := Lib.hid hrow
            have HX1 := Lib.hid hx1
            have HDB := Lib.hid hdb
            have HT1 := Lib.hid hit1
            have HB1 := Lib.hid hB1
            have HIP := Lib.hid hip
            have hl16 : (l.length : Int) ≤ 16 := by omega
            have HLK := Lib.hid hlk
            clear hd hdg hrow hx1 hdb hit1 hB1 hip
            cases op
            · rw [if_neg (by simp), bump_snoc] at hgo
              have HG := Lib.hid hgo
              clear hgo
              go_wp2_with (at_builtin; go_loud (refine wpList_append_own _ rfl _ _ 47 rfl (w.heap.size + 1) 3 i0 _ 1 8 Tryd.underlying47 HII.out hz0 hz1 hz2 rfl (by decide) _ _ _ rfl (hown1.alloc _) ⟨W1.heap.size, 0, none⟩ 1 1 [.int .i64 0] rfl rfl (cells_new _ [.int .i64 0] _ _ rfl) (fun x hx => by simp at hx; subst hx; rfl) (by unfold maxLen; omega) (by omega) (by simp; omega) ?_); intro v' w3 hown3 hgrow3 hiff; clear hiff)
              obtain ⟨g2, cap2, rfl, hg2, hg2l⟩ := own_head hown3 (by omega)
              have cl : w3.cell? ⟨g2, l.length, none⟩ = some (.int .i64 0) := by rw [hown3.cellAt l.length (by omega)]; simp
              have fz := hown3.frozenAt l.length
              have HO3 := Lib.hid hown3
              have HG3 := Lib.hid hgrow3
              have HG2 := Lib.hid hg2
              clear hown3 hgrow3 hown1 hsel hnx hnx0 hgl hgl1 hbs hnc hlk hg2 hfs hsf hk hf hs h48 h57 hc255 hpp
              rw [hlen]
              go_wp2_with fail
              case roundEnd =>
                have hNI : NI f s w (k + 1) (l ++ [(s[k].toNat : Int) - 48]) true (.slice (some ⟨g2, 0, none⟩) (l.length + 1) cap2) _ := NI_put (row := (Value.slice A l.length c).ownBlock) (W1 := W1) (x := 0) (by have := HM.out; omega) (by have := HLK.out; omega) HX1.out HDB.out HT1.out HB1.out ((World.grownBy_alloc W1 _ _).trans HG3.out) HR.out HG2.out (by rw [List.map_append]; exact HO3.out) (by have := HG.out; simpa using this) rfl
                exact ⟨⟨k + 1, _, true, rfl, hNI⟩, by rw [iterPos_of hNI.2.2.2.2.1, HIP.out]; have := HM.out; omega⟩
            · obtain ⟨m, x, rfl⟩ : ∃ m x, l = m ++ [x] := by
                have hn := HOP.out rfl
                exact ⟨l.dropLast, l.getLast hn, (List.dropLast_concat_getLast hn).symm⟩
              rw [if_pos rfl, bump_snoc] at hgo
              have HG := Lib.hid hgo
              rw [List.length_append, List.length_singleton] at *
              obtain ⟨g2, cap2, hA, hg2, hg2l⟩ := own_head hown1 (by omega)
              injection hA with hA _ hc
              subst hA hc
              have cl : W1.cell? ⟨g2, m.length, none⟩ = some (.int .i64 x) := by rw [hown1.cellAt m.length (by omega)]; simp
              have fz := hown1.frozenAt m.length
              have hxb := HX.out x (by simp)
              have hxs : 0 ≤ x * 10 + ((s[k].toNat : Int) - 48) ∧ x * 10 + ((s[k].toNat : Int) - 48) < 10 ^ (k + 1) := by have := HP.out; omega
              have hx8 : x ≤ 100000000000000000 ∧ 0 ≤ x := by have := HP.out; omega
              obtain ⟨hx8, hx0⟩ := hx8
              have HXS := Lib.hid hxs
              have HO3 := Lib.hid hown1
              have HG2 := Lib.hid hg2
              clear hgo hown1 hsel hgl hgl1 hbs hnc hlk hg2 hfs hsf hk hf hs hpp hxb hxs
              go_wp2_with fail
              case roundEnd =>
                have hNI : NI f s w (k + 1) (m ++ [x * 10 + ((s[k].toNat : Int) - 48)]) true (.slice (some ⟨g2, 0, none⟩) (m.length + 1) c) _ := NI_put (row := none) (W1 := W1) (x := x) (by have := HM.out; omega) (by have := HLK.out; omega) (fun z hz => HX1.out z (List.mem_append_left _ hz)) HXS.out HT1.out HB1.out ⟨rfl, rfl, rfl, Nat.le_refl _, fun _ _ _ => rfl⟩ (fun b h => by cases h) HG2.out HO3.out (by have := HG.out; simpa using this) rfl
                exact ⟨⟨k + 1, _, true, rfl, hNI⟩, by rw [iterPos_of hNI.2.2.2.2.1, HIP.out]; have := HM.out; omega⟩
        · rw [if_pos (by simpa using h35)] at hgo
          have hsg : ((f[k].toNat : Int) != 35) = true := bne_t (fun h => h35 (UInt8.toNat_inj.1 (by have : (35 : UInt8).toNat = 35 := rfl; omega)))
          have HM := Lib.hid (show ¬ s.size < k + 1 by omega)
          have HIP := Lib.hid hip
          by_cases hcf : s[k] = f[k]
          · rw [if_neg (by simpa using hcf)] at hgo
            have hsc : ((s[k].toNat : Int) != (f[k].toNat : Int)) = false := bne_f (by rw [hcf])
            have HG := Lib.hid hgo
            clear hgo hcf h35
            have hx1 : ∀ z ∈ l, 0 ≤ z ∧ z < 10 ^ (k + 1) := fun z hz => by have := HX.out z hz; have := HP.out; omega
            go_wp2_with fail
            case roundEnd =>
              exact ⟨⟨k + 1, l, false, rfl, by have := HM.out; omega, by omega, hx1, by simp, hit1, hB1, hown1, HG.out⟩, by rw [iterPos_of hit1, HIP.out]; have := HM.out; omega⟩
          · rw [if_pos (by simpa using hcf)] at hgo
            have hsc : ((s[k].toNat : Int) != (f[k].toNat : Int)) = true := bne_t (fun h => hcf (UInt8.toNat_inj.1 (by omega)))
            have HG := Lib.hid hgo
            clear hgo hcf h35
            go_wp2_with fail
            go_ret2
            rw [HG.out]
            exact ⟨rfl, hB1⟩
      · have hk' : k = s.size := by omega
        have hend : numsGo (f.data.toList.drop k) (s.data.toList.drop k) l op = some l := by
          rw [List.drop_eq_nil_of_le (by rw [ba_len]; omega), List.drop_eq_nil_of_le (by rw [ba_len]; omega)]; rfl
        rw [hend] at hgo
        have HG := Lib.hid hgo
        have hnx := fun ty => Lib.run_next_end_at (P := Tryd.prog) wr w.heap.size f k ty hit (by omega)
        clear hgo hend
        go_wp2_with fail
        go_ret2
        rw [HG.out]
        exact ⟨⟨_, rfl, own_more hown (by omega)⟩, hB⟩
  · have hne : ((s.size : Int) != (f.size : Int)) = true := bne_t (by omega)
    have HN := Lib.hid (show numsGo f.data.toList s.data.toList [] false = none from numsGo_none _ _ _ _ (by
      cases h : likeF f.data.toList s.data.toList
      · rfl
      · have := likeF_len _ _ h
        rw [ba_len, ba_len] at this
        exact absurd this hlen))
    clear hlen
    go_enter Tryd.func24, Tryd.ntmps24
    go_wp2
    go_ret2
    rw [HN.out]
    exact ⟨rfl, Below.refl _ _⟩

end Go.Proofs.YtbeciinkecmbaaaDoor
