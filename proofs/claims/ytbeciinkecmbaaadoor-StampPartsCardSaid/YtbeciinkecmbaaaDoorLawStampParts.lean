/- The law StampParts: its walk. -/
import Derived.Test.YtbeciinkecmbaaaDoorStampQ
import Derived.Test.YtbeciinkecmbaaaDoorStampO
import Derived.Deep.OwnRows
set_option linter.unusedVariables false
namespace Go.Proofs.YtbeciinkecmbaaaDoor
open Go.RowKit

theorem conv_back (w : World) (g : Nat) (D : Bytes) (h : w.heap[g]? = some (.cells (D.map (fun b => Value.int .u8 (b.toNat : Int))).toArray 5 (0, 0))) :
    (convert 27 9 (.slice (some ⟨g, 0, none⟩) D.length D.length)).run Tryd.prog w = .ok (.string ⟨D.toArray⟩) w := by
  refine run_convert_bytes_back _ _ _ _ ⟨g, 0, none⟩ D.length D Tryd.underlying27 (by kernel_rfl) (by kernel_rfl) ?_
  intro j hj
  rw [show (⟨g, 0, none⟩ : Addr).add j = ⟨g, j, none⟩ by rcases j with _ | j <;> simp [Addr.add], Joins.cell_of_block h]
  simp [hj]
/-- What the row holds: so many noughts, then digits. -/
def rowD (j : Nat) (D : Bytes) : Array Value := (List.replicate j (Value.int .u8 0) ++ D.map (fun b => Value.int .u8 (b.toNat : Int))).toArray
theorem rowD_set (j : Nat) (D : Bytes) (b : UInt8) : (rowD (j + 1) D).setIfInBounds j (.int .u8 (b.toNat : Int)) = rowD j (b :: D) := by
  unfold rowD
  rw [List.replicate_succ', List.append_assoc]
  simp
theorem rowD_at (j : Nat) (D : Bytes) : (rowD (j + 1) D)[j]? = some (.int .u8 0) := by
  unfold rowD
  rw [List.replicate_succ', List.append_assoc]
  simp

set_option maxHeartbeats 1000000 in
theorem law7_digits (n m : Nat) (w : World) (hn : n ≤ 9223372036854775807) (hm : m ≤ 1000) :
    Calls Tryd.prog 17 #[.int .i64 n, .int .i64 m] w fun e w' => e = .returned (.string ⟨(digitsL n m).toArray⟩) ∧ Below w.heap.size w w' := by
  have hmk := fun W => run_make_row' (P := Tryd.prog) 27 5 (.int .u8 0) 1 Tryd.underlying27 (by kernel_rfl) rfl .i64 .i64 m (by omega) (by omega) W
  have hm1 : (madeCells #[Value.int .u8 0] m) = rowD m [] := by
    unfold rowD
    apply Array.ext'
    rw [toList_madeCells_one]; simp
  rw [hm1] at hmk
  clear hm1
  go_enter Tryd.func17, Tryd.ntmps17
  go_wp2
  go_loopw [0, 6] (fun a i wr => ∃ (j x : Nat) (D : Bytes), j ≤ m ∧ x ≤ n ∧ D.length = m - j ∧ i = .int .i64 ((j : Int) - 1) ∧ a = .int .i64 x ∧ Below w.heap.size w wr ∧ wr.heap[w.heap.size]? = some (.cells (rowD j D) 5 (0, 0)) ∧ digitsL n m = digitsL x j ++ D) (fun _ i _ => (intOf i + 1).toNat)
  case atStart => exact ⟨m, n, [], Nat.le_refl _, Nat.le_refl _, by simp, rfl, rfl, by (repeat (first | exact Below.refl _ _ | assumption | refine Below.setCell ?_ (by first | (simp; done) | (simp; omega) | omega) _ | refine Below.alloc ?_ (by first | (simp; done) | (simp; omega) | omega) _ | refine Below.drew ?_ | refine below_drewN ?_ _ | refine Below.trans ?_ (Below.mono (by assumption) (by first | (simp; done) | (simp; omega) | omega)))), heap_alloc_new w _, by simp⟩
  case round =>
    obtain ⟨j, x, D, hj, hx, hD, rfl, rfl, hB, hblk, heq⟩ := hrel
    have hbs := hB.size
    have HE := Lib.hid heq
    clear heq
    rcases j with _ | j
    · have hcv := conv_back wr w.heap.size D hblk
      rw [hD, Nat.sub_zero] at hcv
      have HH := Lib.hid (by rw [HE.out]; rfl : digitsL n m = D)
      have HBK := Lib.hid hblk
      clear hblk
      go_wp2
      go_ret
      exact ⟨ret_s (by rw [HH.out]), hB⟩
    · have hcell := Joins.cell_of_block hblk j
      rw [rowD_at] at hcell
      have hfr := Joins.unfrozen_of_block hblk j
      have hset := Joins.block_setCell (i := j) hblk (.int .u8 ((UInt8.ofNat (48 + x % 10)).toNat : Int))
      rw [rowD_set] at hset
      rw [ofNat_dig (x % 10) (by omega)] at hset
      have HS := Lib.hid hset
      clear hset
      clear hblk
      go_wp2
      have hs1 := HS.out
      rw [show (((48 + x % 10 : Nat)) : Int) = 48 + (x : Int) % 10 by omega] at hs1
      exact ⟨⟨j, x / 10, _, by omega, by omega, by simp; omega, rfl, by go_num, hB.setCell (by simp) _, hs1, by rw [HE.out, digitsL]; simp⟩, by simp [intOf]⟩

theorem wf_u16 {x : Int} (h : (Lit.int .u16 x).wf = true) : 0 ≤ x ∧ x ≤ 65535 := by
  simp only [Lit.wf, Bool.and_eq_true, decide_eq_true_eq] at h
  have e1 : IntKind.u16.min = 0 := rfl
  have e2 : IntKind.u16.max = 65535 := by decide
  omega
theorem digits_at (n x : Int) (m : Nat) (h0 : 0 ≤ n) (h1 : n ≤ 10000) (hm : m ≤ 1000) (hx : x = m) (w : World) :
    Calls Tryd.prog 17 #[.int .i64 n, .int .i64 x] w fun e w' => e = .returned (.string ⟨(digitsL n.toNat m).toArray⟩) ∧ Below w.heap.size w w' := by
  obtain ⟨N, rfl⟩ := Int.eq_ofNat_of_zero_le h0
  subst hx
  exact law7_digits N m w (by omega) hm
theorem parse_parts (t : ByteArray) (y m d : Int) (hy : 0 ≤ y) (hy1 : y < 10000) (hm : 0 ≤ m) (hm1 : m < 100) (hd : 0 ≤ d) (hd1 : d < 100) (ht : t.data.toList = dText y.toNat m.toNat d.toNat) (w : World) :
    Calls Tryd.prog 11 #[.string t] w fun e w' => e = .returned (.tuple #[.int .i64 (dayN y m d).1, .int .i64 (dayN y m d).2]) ∧ Below w.heap.size w w' := by
  obtain ⟨Y, rfl⟩ := Int.eq_ofNat_of_zero_le hy
  obtain ⟨M, rfl⟩ := Int.eq_ofNat_of_zero_le hm
  obtain ⟨D, rfl⟩ := Int.eq_ofNat_of_zero_le hd
  have h := stamp_Parse t w (by have := dText_len (Y : Int).toNat (M : Int).toNat (D : Int).toNat; rw [← ht, ba_len] at this; unfold maxLen; omega)
  rw [ht, parseD_text _ _ _ (by omega) (by omega) (by omega)] at h
  exact h
theorem parseIso_parts (t : ByteArray) (y m d : Int) (hy : 0 ≤ y) (hy1 : y < 10000) (hm : 0 ≤ m) (hm1 : m < 100) (hd : 0 ≤ d) (hd1 : d < 10) (ht : t.data.toList = iText y.toNat m.toNat d.toNat) (w : World) :
    Calls Tryd.prog 15 #[.string t] w fun e w' => e = .returned (.tuple #[.int .i64 (isoN y m d).1, .int .i64 (isoN y m d).2]) ∧ Below w.heap.size w w' := by
  obtain ⟨Y, rfl⟩ := Int.eq_ofNat_of_zero_le hy
  obtain ⟨M, rfl⟩ := Int.eq_ofNat_of_zero_le hm
  obtain ⟨D, rfl⟩ := Int.eq_ofNat_of_zero_le hd
  have h := stamp_ParseIso t w (by have := iText_len (Y : Int).toNat (M : Int).toNat (D : Int).toNat; rw [← ht, ba_len] at this; unfold maxLen; omega)
  rw [ht, parseI_text _ _ _ (by omega) (by omega) (by omega)] at h
  exact h

set_option maxRecDepth 100000 in
set_option maxHeartbeats 2000000 in
theorem walk_StampParts (w : World) (ht : Tab w) (y : Int) (wy : (Lit.int .u16 y).wf = true) (m : Int) (wm : (Lit.int .u16 m).wf = true) (d : Int) (wd : (Lit.int .u16 d).wf = true) :
    Calls Tryd.prog 7 #[.int .u16 y, .int .u16 m, .int .u16 d] w fun e w' => e = .returned (.bool true) ∧ Below w.heap.size w w' := by
  have HV := Lib.hid (law7_live w ht)
  obtain ⟨hy0, hy1⟩ := wf_u16 wy
  obtain ⟨hm0, hm1⟩ := wf_u16 wm
  obtain ⟨hd0, hd1⟩ := wf_u16 wd
  obtain ⟨Y, rfl⟩ := Int.eq_ofNat_of_zero_le hy0
  obtain ⟨M, rfl⟩ := Int.eq_ofNat_of_zero_le hm0
  obtain ⟨D, rfl⟩ := Int.eq_ofNat_of_zero_le hd0
  clear wy wm wd
  go_enter Tryd.func7, Tryd.ntmps7
  go_wp2_with fail
  refine HV.out.mono ?_
  rintro e w1 ⟨rfl, hb1⟩
  go_wp2_with fail
  have hbW : Below w.heap.size w (w1.alloc (.cells #[.int .i64 ((Y : Int) % 10000), .int .i64 ((M : Int) % 100), .int .i64 ((D : Int) % 100)] 35)) := hb1.alloc hb1.size _
  have hzW : w1.heap.size < (w1.alloc (.cells #[.int .i64 ((Y : Int) % 10000), .int .i64 ((M : Int) % 100), .int .i64 ((D : Int) % 100)] 35)).heap.size := by simp
  have q0 : (w1.alloc (.cells #[.int .i64 ((Y : Int) % 10000), .int .i64 ((M : Int) % 100), .int .i64 ((D : Int) % 100)] 35)).cell? ⟨w1.heap.size, 0, none⟩ = some (.int .i64 ((Y : Int) % 10000)) := by simp
  have q1 : (w1.alloc (.cells #[.int .i64 ((Y : Int) % 10000), .int .i64 ((M : Int) % 100), .int .i64 ((D : Int) % 100)] 35)).cell? ⟨w1.heap.size, 1, none⟩ = some (.int .i64 ((M : Int) % 100)) := by simp
  have q2 : (w1.alloc (.cells #[.int .i64 ((Y : Int) % 10000), .int .i64 ((M : Int) % 100), .int .i64 ((D : Int) % 100)] 35)).cell? ⟨w1.heap.size, 2, none⟩ = some (.int .i64 ((D : Int) % 100)) := by simp
  have hz1 := hb1.size
  have bY0 : 0 ≤ (Y : Int) % 10000 := by omega
  have bY1 : (Y : Int) % 10000 < 10000 := by omega
  have bM0 : 0 ≤ (M : Int) % 100 := by omega
  have bM1 : (M : Int) % 100 < 100 := by omega
  have bD0 : 0 ≤ (D : Int) % 100 := by omega
  have bD1 : (D : Int) % 100 < 100 := by omega
  generalize (Y : Int) % 10000 = YY at *
  generalize (M : Int) % 100 = MM at *
  generalize (D : Int) % 100 = DD at *
  clear hy0 hy1 hm0 hm1 hd0 hd1
  have lY := digitsL_len 4 YY.toNat
  have lM := digitsL_len 2 MM.toNat
  have lD := digitsL_len 2 DD.toNat
  have PY := Lib.hid (fun W => digits_at YY 4 4 bY0 (by omega) (by omega) rfl W)
  have PM := Lib.hid (fun W => digits_at MM 2 2 bM0 (by omega) (by omega) rfl W)
  have PD := Lib.hid (fun W => digits_at DD 2 2 bD0 (by omega) (by omega) rfl W)
  have PP := Lib.hid (fun t ht W => parse_parts t YY MM DD bY0 bY1 bM0 bM1 bD0 bD1 ht W)
  have PC := Lib.hid (fun W => civil_Day YY MM DD W)
  generalize hR : dayN YY MM DD = R at *
  clear hR
  obtain ⟨r, s⟩ := R
  go_region_held3 (fun W => W.cell? ⟨w1.heap.size, 0, none⟩ = some (.int .i64 YY) ∧ W.cell? ⟨w1.heap.size, 1, none⟩ = some (.int .i64 MM) ∧ W.cell? ⟨w1.heap.size, 2, none⟩ = some (.int .i64 DD) ∧ Below w.heap.size w W ∧ w1.heap.size < W.heap.size) (first | exact ⟨q0, q1, q2, Below.drew hbW, hzW⟩ | (go_split_ands; refine ⟨?_, ?_, ?_, ?_, ?_⟩ <;> first | assumption | (refine Eq.trans (hbc.cell (by assumption)) ?_; assumption) | exact Below.trans (by assumption) (hbc.mono (by omega)) | (have := hbc.size; omega))) (first
    | (go_at_call 17; ((with_reducible refine Calls.mono (PY.out _) ?_); rintro e w2 ⟨rfl, hbc⟩))
    | (go_at_call 17; ((with_reducible refine Calls.mono (PM.out _) ?_); rintro e w2 ⟨rfl, hbc⟩))
    | (go_at_call 17; ((with_reducible refine Calls.mono (PD.out _) ?_); rintro e w2 ⟨rfl, hbc⟩))
    | (go_at_call 11; ((with_reducible refine Calls.mono (PP.out _ (by simp [dText, ByteArray.mk_append_mk]) _) ?_); rintro e w2 ⟨rfl, hbc⟩)))
  go_split_ands
  rename_i k0 k1 k2 kB kz
  clear q0 q1 q2 hbW hzW
  go_wp2_with fail
  refine (PC.out _).mono ?_
  rintro e w3 ⟨rfl, hb3⟩
  have m0 := (hb3.cell (p := ⟨w1.heap.size, 0, none⟩) kz).trans k0
  have m1 := (hb3.cell (p := ⟨w1.heap.size, 1, none⟩) kz).trans k1
  have m2 := (hb3.cell (p := ⟨w1.heap.size, 2, none⟩) kz).trans k2
  have hB3 : Below w.heap.size w w3 := kB.trans (hb3.mono kB.size)
  have hz3 := hB3.size
  clear k0 k1 k2 kB kz hb3 PC PP PY PM PD hb1 hz1
  go_wp2_with fail
  have hbW : Below w.heap.size w (w3.alloc (.cells #[.int .i64 YY, .int .i64 MM, .int .i64 (DD % 10)] 39)) := hB3.alloc hz3 _
  have hzW : w3.heap.size < (w3.alloc (.cells #[.int .i64 YY, .int .i64 MM, .int .i64 (DD % 10)] 39)).heap.size := by simp
  have q0 : (w3.alloc (.cells #[.int .i64 YY, .int .i64 MM, .int .i64 (DD % 10)] 39)).cell? ⟨w3.heap.size, 0, none⟩ = some (.int .i64 YY) := by simp
  have q1 : (w3.alloc (.cells #[.int .i64 YY, .int .i64 MM, .int .i64 (DD % 10)] 39)).cell? ⟨w3.heap.size, 1, none⟩ = some (.int .i64 MM) := by simp
  have q2 : (w3.alloc (.cells #[.int .i64 YY, .int .i64 MM, .int .i64 (DD % 10)] 39)).cell? ⟨w3.heap.size, 2, none⟩ = some (.int .i64 (DD % 10)) := by simp
  have bE0 : 0 ≤ DD % 10 := by omega
  have bE1 : DD % 10 < 10 := by omega
  clear m0 m1 m2
  generalize DD % 10 = EE at *
  have lE := digitsL_len 1 EE.toNat
  have PY := Lib.hid (fun W => digits_at YY 4 4 bY0 (by omega) (by omega) rfl W)
  have PM := Lib.hid (fun W => digits_at MM 2 2 bM0 (by omega) (by omega) rfl W)
  have PD := Lib.hid (fun W => digits_at EE 1 1 bE0 (by omega) (by omega) rfl W)
  have PP := Lib.hid (fun t ht W => parseIso_parts t YY MM EE bY0 bY1 bM0 bM1 bE0 bE1 ht W)
  have PC := Lib.hid (fun W => week_Day YY MM EE W)
  generalize hR : isoN YY MM EE = R at *
  clear hR
  obtain ⟨x, y⟩ := R
  go_region_held3 (fun W => W.cell? ⟨w3.heap.size, 0, none⟩ = some (.int .i64 YY) ∧ W.cell? ⟨w3.heap.size, 1, none⟩ = some (.int .i64 MM) ∧ W.cell? ⟨w3.heap.size, 2, none⟩ = some (.int .i64 EE) ∧ Below w.heap.size w W ∧ w3.heap.size < W.heap.size) (first | exact ⟨q0, q1, q2, Below.drew hbW, hzW⟩ | (go_split_ands; refine ⟨?_, ?_, ?_, ?_, ?_⟩ <;> first | assumption | (refine Eq.trans (hbc.cell (by assumption)) ?_; assumption) | exact Below.trans (by assumption) (hbc.mono (by omega)) | (have := hbc.size; omega))) (first
    | (go_at_call 17; ((with_reducible refine Calls.mono (PY.out _) ?_); rintro e w2 ⟨rfl, hbc⟩))
    | (go_at_call 17; ((with_reducible refine Calls.mono (PM.out _) ?_); rintro e w2 ⟨rfl, hbc⟩))
    | (go_at_call 17; ((with_reducible refine Calls.mono (PD.out _) ?_); rintro e w2 ⟨rfl, hbc⟩))
    | (go_at_call 15; ((with_reducible refine Calls.mono (PP.out _ (by simp [iText, ByteArray.mk_append_mk]) _) ?_); rintro e w2 ⟨rfl, hbc⟩)))
  go_split_ands
  rename_i k0 k1 k2 kB kz
  clear q0 q1 q2 hbW hzW
  go_wp2_with fail
  refine (PC.out _).mono ?_
  rintro e w4 ⟨rfl, hb4⟩
  have hB4 : Below w.heap.size w w4 := kB.trans (hb4.mono kB.size)
  clear k0 k1 k2 kB kz hb4 PC PP PY PM PD hB3
  go_wp2
  go_ret
  exact ⟨rfl, hB4⟩

end Go.Proofs.YtbeciinkecmbaaaDoor
