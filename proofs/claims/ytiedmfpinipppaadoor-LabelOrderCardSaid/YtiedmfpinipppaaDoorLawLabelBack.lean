/- The law LabelBack: its walk. -/
import Derived.Test.YtiedmfpinipppaaDoorLabL
set_option linter.unusedVariables false
namespace Go.Proofs.YtiedmfpinipppaaDoor
open Go.RowKit

/-- What lay ahead, and the argument's block, in a later world. -/
def St (w : World) (U : Obj) (W : World) : Prop := Below w.heap.size w W ∧ W.heap[w.heap.size]? = some U
theorem st_next {w W w2 : World} {U : Obj} (h : St w U W) (hb : Below W.heap.size W w2) : St w U w2 :=
  ⟨h.1.trans (hb.mono h.1.size), by rw [hb.block _ (Array.getElem?_eq_some_iff.1 h.2).1]; exact h.2⟩
theorem st_alloc {w W : World} {U : Obj} (h : St w U W) (o : Obj) : St w U (W.alloc o) := ⟨h.1.alloc h.1.size _, by rw [heap_alloc_old _ _ (Array.getElem?_eq_some_iff.1 h.2).1]; exact h.2⟩
theorem run_neqUnit (W : World) (a b c x y z : Int) : (binOp .neq 23 (.agg #[.int .i64 a, .int .i64 b, .int .i64 c]) (.agg #[.int .i64 x, .int .i64 y, .int .i64 z])).run Tryd.prog W = .ok (.bool (!decide (a = x ∧ b = y ∧ c = z))) W := by
  rw [run_neq_struct, run_equalIn_agg W 9999 23 _ _ (by kernel_rfl) (by kernel_rfl)]
  by_cases h1 : a = x <;> by_cases h2 : b = y <;> by_cases h3 : c = z <;> (simp [go_sem, Op.eqFields, h1, h2, h3]; done)
theorem parse_unit (k Y I : Nat) (hk : k < 5) (h1 : 1601 ≤ Y) (h2 : Y ≤ 9997) (h3 : 1 ≤ I) (h4 : (I : Int) ≤ mst k) (W : World) :
    Calls Tryd.prog 11 #[.string ⟨(uText k Y I).toArray⟩] W fun e w' => e = .returned (.tuple #[.agg #[.int .i64 ((k : Int) + 1), .int .i64 Y, .int .i64 I], .int .i64 0]) ∧ Below W.heap.size W w' := by
  have hl := (uText_parts k Y I).2.2.2
  have h := label_Parse ⟨(uText k Y I).toArray⟩ W (by unfold maxLen; show (uText k Y I).toArray.size ≤ _; rw [List.size_toArray, hl]; rcases k_cases k hk with rfl | rfl | rfl | rfl | rfl <;> decide)
  rw [show (ByteArray.mk (uText k Y I).toArray).data.toList = uText k Y I from rfl, parseU_text k Y I hk h1 h2 h3 h4] at h
  exact h

set_option maxRecDepth 100000 in
set_option maxHeartbeats 4000000 in
theorem walk_LabelBack (w : World) (ht : Tab w) (l y i : Int) (s : ByteArray) (hsz : s.size ≤ maxLen) :
    Calls Tryd.prog 3 #[.agg #[.int .i64 l, .int .i64 y, .int .i64 i], .string s] w fun e w' => e = .returned (.bool true) ∧ Below w.heap.size w w' := by
  have HT := Lib.hid (fun W (hb : Below w.heap.size w W) => ht.below hb)
  have HV := Lib.hid (fun W hW => law18_live W hW)
  have HPA := Lib.hid (fun W => label_Parse s W hsz)
  have heq := run_eqlUnit
  have hneq := run_neqUnit
  have HBK := Lib.hid (parseU_back s.data.toList)
  have HER := Lib.hid (fun h => parseFrom_err s.data.toList 5 0 h)
  rw [show parseFrom s.data.toList 0 5 = parseU s.data.toList from rfl] at HER
  generalize parseU s.data.toList = R at *
  obtain ⟨a, b, c, g⟩ := R
  dsimp only at HPA HBK HER
  have hS0 : St w (.cells #[.int .i64 l, .int .i64 y, .int .i64 i] 23) (w.alloc (.cells #[.int .i64 l, .int .i64 y, .int .i64 i] 23)) := ⟨by (repeat (first | exact Below.refl _ _ | assumption | refine Below.setCell ?_ (by first | (simp; done) | (simp; omega) | omega) _ | refine Below.alloc ?_ (by first | (simp; done) | (simp; omega) | omega) _ | refine Below.drew ?_ | refine below_drewN ?_ _ | refine Below.trans ?_ (Below.mono (by assumption) (by first | (simp; done) | (simp; omega) | omega)))), heap_alloc_new w _⟩
  have HS0 := Lib.hid hS0
  clear ht hsz hS0
  by_cases hw : Writ l y i
  · obtain ⟨k, Y, I, hk, rfl, rfl, rfl, h1, h2, h3, h4⟩ := writ_parts hw
    have HPR := Lib.hid (fun W hW => label_Print_yes k Y I hk h1 h2 h3 h4 W hW)
    have HPT := Lib.hid (fun W => parse_unit k Y I hk h1 h2 h3 h4 W)
    clear hw hk h1 h2 h3 h4
    generalize uText k Y I = T at *
    go_enter Tryd.func3, Tryd.ntmps3
    go_wp2_with fail
    refine (HV.out _ (HT.out _ HS0.out.1)).mono ?_
    rintro e w1 ⟨rfl, hb1⟩
    have hs1 := st_next HS0.out hb1
    have q0 := Joins.cell_of_block hs1.2 0
    have q1 := Joins.cell_of_block hs1.2 1
    have q2 := Joins.cell_of_block hs1.2 2
    have HS1 := Lib.hid hs1
    clear hb1 hs1
    go_wp2_with fail
    refine (HPR.out _ (HT.out _ HS1.out.1)).mono ?_
    rintro e w2 ⟨rfl, hb2⟩
    have hs2 := st_next HS1.out hb2
    have HS2 := Lib.hid hs2
    clear hb2 hs2 q0 q1 q2
    go_wp2_with fail
    refine (HPT.out _).mono ?_
    rintro e w3 ⟨rfl, hb3⟩
    have hs3 := st_next HS2.out hb3
    have q0 := Joins.cell_of_block hs3.2 0
    have q1 := Joins.cell_of_block hs3.2 1
    have q2 := Joins.cell_of_block hs3.2 2
    have hz3 := (Array.getElem?_eq_some_iff.1 hs3.2).1
    have hS := st_alloc hs3 (.cells #[.int .i64 ((k : Int) + 1), .int .i64 Y, .int .i64 I] 23)
    clear hb3 hs3
    go_wp2_with fail
    refine (HPA.out _).mono ?_
    rintro e w5 ⟨rfl, hb5⟩
    have hs5 := st_next hS hb5
    have hbk5 := heap_alloc_new w5 (.cells #[.int .i64 a, .int .i64 b, .int .i64 c] 23)
    have hs6 := st_alloc hs5 (.cells #[.int .i64 a, .int .i64 b, .int .i64 c] 23)
    have hB6 := Lib.hid hs6.1
    clear hb5
    by_cases hg : g = 0
    · subst hg
      obtain ⟨k', y', i', hk', h1', h2', h3', h4', hst, hpe⟩ := HBK.out rfl
      obtain ⟨rfl, rfl, rfl⟩ : a = (k' : Int) + 1 ∧ b = (y' : Int) ∧ c = (i' : Int) := by
        simp only [Prod.mk.injEq] at hpe
        exact ⟨hpe.1, hpe.2.1, hpe.2.2.1⟩
      have HPR := Lib.hid (fun W hW => label_Print_yes k' y' i' hk' h1' h2' h3' h4' W hW)
      rw [ba_mk_data s _ hst] at HPR
      clear hst hpe
      go_wp2_with fail
      refine (HPR.out _ (HT.out _ hB6.out)).mono ?_
      rintro e w7 ⟨rfl, hb7⟩
      have hB7 := hB6.out.trans (hb7.mono hB6.out.size)
      clear hb7
      go_wp2
      go_ret
      exact ⟨rfl, hB7⟩
    · have hge := HER.out hg
      have hg0 : (g != 0) = true := bne_t hg
      rcases hge with hge | hge
      · obtain ⟨rfl, rfl, rfl, rfl⟩ : a = 0 ∧ b = 0 ∧ c = 0 ∧ g = 5 := by simpa using hge
        go_wp2
        go_ret
        exact ⟨rfl, hB6.out⟩
      · obtain ⟨rfl, rfl, rfl, rfl⟩ : a = 0 ∧ b = 0 ∧ c = 0 ∧ g = 13 := by simpa using hge
        go_wp2
        go_ret
        exact ⟨rfl, hB6.out⟩
  · have HPR := Lib.hid (fun W => label_Print_no l y i hw W)
    clear hw
    go_enter Tryd.func3, Tryd.ntmps3
    go_wp2_with fail
    refine (HV.out _ (HT.out _ HS0.out.1)).mono ?_
    rintro e w1 ⟨rfl, hb1⟩
    have hs1 := st_next HS0.out hb1
    have q0 := Joins.cell_of_block hs1.2 0
    have q1 := Joins.cell_of_block hs1.2 1
    have q2 := Joins.cell_of_block hs1.2 2
    have HS1 := Lib.hid hs1
    clear hb1 hs1
    go_wp2_with fail
    refine (HPR.out _).mono ?_
    rintro e w2 ⟨rfl, hb2⟩
    have hS := st_next HS1.out hb2
    clear hb2 q0 q1 q2
    go_wp2_with fail
    refine (HPA.out _).mono ?_
    rintro e w5 ⟨rfl, hb5⟩
    have hs5 := st_next hS hb5
    have hbk5 := heap_alloc_new w5 (.cells #[.int .i64 a, .int .i64 b, .int .i64 c] 23)
    have hs6 := st_alloc hs5 (.cells #[.int .i64 a, .int .i64 b, .int .i64 c] 23)
    have hB6 := Lib.hid hs6.1
    clear hb5
    by_cases hg : g = 0
    · subst hg
      obtain ⟨k', y', i', hk', h1', h2', h3', h4', hst, hpe⟩ := HBK.out rfl
      obtain ⟨rfl, rfl, rfl⟩ : a = (k' : Int) + 1 ∧ b = (y' : Int) ∧ c = (i' : Int) := by
        simp only [Prod.mk.injEq] at hpe
        exact ⟨hpe.1, hpe.2.1, hpe.2.2.1⟩
      have HPR := Lib.hid (fun W hW => label_Print_yes k' y' i' hk' h1' h2' h3' h4' W hW)
      rw [ba_mk_data s _ hst] at HPR
      clear hst hpe
      go_wp2_with fail
      refine (HPR.out _ (HT.out _ hB6.out)).mono ?_
      rintro e w7 ⟨rfl, hb7⟩
      have hB7 := hB6.out.trans (hb7.mono hB6.out.size)
      clear hb7
      go_wp2
      go_ret
      exact ⟨rfl, hB7⟩
    · have hge := HER.out hg
      have hg0 : (g != 0) = true := bne_t hg
      rcases hge with hge | hge
      · obtain ⟨rfl, rfl, rfl, rfl⟩ : a = 0 ∧ b = 0 ∧ c = 0 ∧ g = 5 := by simpa using hge
        go_wp2
        go_ret
        exact ⟨rfl, hB6.out⟩
      · obtain ⟨rfl, rfl, rfl, rfl⟩ : a = 0 ∧ b = 0 ∧ c = 0 ∧ g = 13 := by simpa using hge
        go_wp2
        go_ret
        exact ⟨rfl, hB6.out⟩

end Go.Proofs.YtiedmfpinipppaaDoor
