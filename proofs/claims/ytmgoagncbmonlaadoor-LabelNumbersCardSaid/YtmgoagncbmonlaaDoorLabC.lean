/- Layer 18 (label): the walk of count. -/
import Derived.Test.YtmgoagncbmonlaaDoorLabO
set_option linter.unusedVariables false
namespace Go.Proofs.YtmgoagncbmonlaaDoor
open Go.RowKit

theorem ret_ib {k : IntKind} {a b : Int} {x y : Bool} (h : a = b) (h' : x = y) : Ending.returned (.tuple #[.int k a, .bool x]) = .returned (.tuple #[.int k b, .bool y]) := by rw [h, h']
/-- What count tells. -/
def cntR (l : Bytes) : Int × Bool := if l.all isDigit = true then (numL l, true) else (0, false)
theorem cntR_yes {l : Bytes} (h : l.all isDigit = true) : cntR l = (numL l, true) := if_pos h
theorem cntR_no {l : Bytes} (h : l.all isDigit = false) : cntR l = (0, false) := if_neg (by rw [h]; simp)
/-- What the loop goes over: bytes as numbers, what is read behind k of them, whether all of these are digits. -/
theorem count_data (s : ByteArray) (hs : s.size ≤ 9) : ∃ (x N : Nat → Int) (ok : Nat → Prop), (∀ k (h : k < s.size), x k = (s[k].toNat : Int) ∧ 0 ≤ x k ∧ x k ≤ 255) ∧ N 0 = 0 ∧ ok 0 ∧ (∀ k, ok k → 0 ≤ N k ∧ N k ≤ 1000000000) ∧
    (∀ k, k < s.size → ok k → 48 ≤ x k → x k ≤ 57 → ok (k + 1) ∧ N (k + 1) = N k * 10 + (x k - 48)) ∧ (∀ k, k < s.size → ¬ (48 ≤ x k ∧ x k ≤ 57) → cntR s.data.toList = (0, false)) ∧ (ok s.size → cntR s.data.toList = (N s.size, true)) := by
  refine ⟨fun k => if h : k < s.size then (s[k].toNat : Int) else 0, fun k => numL (s.data.toList.take k), fun k => (s.data.toList.take k).all isDigit = true, fun k h => ?_, rfl, rfl, fun k hk => ?_, fun k h hk h1 h2 => ?_, fun k h hn => ?_, fun h => ?_⟩
  · dsimp only
    rw [dif_pos h]
    have := s[k].toNat_lt
    exact ⟨rfl, by omega, by omega⟩
  · have hb := numL_bound _ hk
    have h6 : (10 : Int) ^ (s.data.toList.take k).length ≤ 10 ^ 9 := by
      have : (10 : Nat) ^ (s.data.toList.take k).length ≤ 10 ^ 9 := Nat.pow_le_pow_right (by omega) (by rw [List.length_take, ba_len]; omega)
      exact_mod_cast this
    have h7 : numL (s.data.toList.take k) ≤ 1000000000 := by have := hb.2; omega
    exact ⟨hb.1, h7⟩
  · dsimp only at h1 h2 ⊢
    rw [dif_pos h] at h1 h2 ⊢
    have hd : isDigit s[k] = true := (isDigit_iff s[k]).2 (by omega)
    exact ⟨by rw [ba_take_snoc s k h, List.all_append, hk]; simp [hd], by rw [ba_take_snoc s k h, numL_snoc]⟩
  · dsimp only at hn
    rw [dif_pos h] at hn
    have hd : isDigit s[k] = false := by
      cases hq : isDigit s[k]
      · rfl
      · exact absurd (by have := (isDigit_iff s[k]).1 hq; omega) hn
    exact cntR_no (by rw [← List.take_append_drop k s.data.toList, List.all_append, ba_drop_cons s k h, List.all_cons, hd]; simp)
  · have he : s.data.toList.take s.size = s.data.toList := by rw [← ba_len, List.take_length]
    dsimp only at h ⊢
    rw [he] at h ⊢
    exact cntR_yes h

set_option maxHeartbeats 1000000 in
theorem label_count (s : ByteArray) (w : World) (hs : s.size ≤ 9) :
    Calls Tryd.prog 23 #[.string s] w fun e w' => e = .returned (.tuple #[.int .i64 (cntR s.data.toList).1, .bool (cntR s.data.toList).2]) ∧ Below w.heap.size w w' := by
  obtain ⟨cap, W, hconv, hbW, hcW⟩ := conv_bytes (P := Tryd.prog) w 9 37 5 s Tryd.underlying9 Tryd.underlying37 Tryd.underlying5
  obtain ⟨x, N, ok, hx, hN0, hok0, hNb, hyes, hno, hend⟩ := count_data s hs
  have HC := Lib.hid (show ∀ k, k < s.size → W.cell? ⟨w.heap.size, k, none⟩ = some (.int .u8 (x k)) from fun k h => by rw [(hx k h).1]; exact hcW k h)
  have HX := Lib.hid (fun k h => (hx k h).2)
  have HNB := Lib.hid hNb
  have HY := Lib.hid hyes
  have HN := Lib.hid hno
  have HE := Lib.hid hend
  have HBW := Lib.hid hbW
  have HK0 := Lib.hid hok0
  have hs9 : (s.size : Int) ≤ 9 := by omega
  generalize cntR s.data.toList = R at *
  clear hcW hx hNb hyes hno hend hbW hs hok0
  go_enter Tryd.func23, Tryd.ntmps23
  go_wp2_with fail
  clear hconv
  generalize s.size = n at *
  go_loopw [4, 10] (fun a i wr => ∃ k : Nat, k ≤ n ∧ a = .int .i64 (N k) ∧ i = .int .i64 k ∧ wr = W ∧ ok k) (fun _ i _ => n - (intOf i).toNat)
  case atStart => exact ⟨0, Nat.zero_le _, by rw [hN0], rfl, rfl, HK0.out⟩
  case round =>
    obtain ⟨k, hk, rfl, rfl, hwr, hok⟩ := hrel
    subst hwr
    have HOK := Lib.hid hok
    have hb := HNB.out k hok
    obtain ⟨hb0, hb1⟩ := hb
    clear hok
    by_cases hlt : k < n
    · have hc := HC.out k hlt
      have hx2 := HX.out k hlt
      obtain ⟨hx0, hx1⟩ := hx2
      have hk9 : (k : Int) ≤ 8 := by omega
      have hltI : (k : Int) < n := by omega
      have HLT := Lib.hid hlt
      clear hlt hk
      by_cases h1 : x k < 48
      · have HR := Lib.hid (HN.out k HLT.out (by omega))
        go_wp2_with fail
        go_ret2
        exact ⟨ret_ib (by rw [HR.out]) (by rw [HR.out]), HBW.out⟩
      · by_cases h2 : 57 < x k
        · have HR := Lib.hid (HN.out k HLT.out (by omega))
          go_wp2_with fail
          go_ret2
          exact ⟨ret_ib (by rw [HR.out]) (by rw [HR.out]), HBW.out⟩
        · have hy := HY.out k HLT.out HOK.out (by omega) (by omega)
          have HYY := Lib.hid hy
          have h48 : 48 ≤ x k := by omega
          clear hy
          go_wp2_with fail
          exact ⟨⟨k + 1, by have := HLT.out; omega, val_int (by rw [HYY.out.2]), by go_num, by first | trivial | rfl, HYY.out.1⟩, by have := HLT.out; simp [intOf]; try omega⟩
    · have hks : k = n := by omega
      have hltI : ¬ (k : Int) < n := by omega
      have HR := Lib.hid (show R = (N k, true) by rw [hks]; exact HE.out (by rw [← hks]; exact HOK.out))
      clear hks hlt hk
      go_wp2_with fail
      go_ret2
      exact ⟨ret_ib (by rw [HR.out]) (by rw [HR.out]), HBW.out⟩

theorem label_written (k : Nat) (hk : k < 5) (y i : Int) (w : World) :
    Calls Tryd.prog 19 #[.agg #[.int .i64 ((k : Int) + 1), .int .i64 y, .int .i64 i]] w fun e w' => e = .returned (.bool (decide (1601 ≤ y ∧ y ≤ 9997 ∧ 1 ≤ i ∧ i ≤ mst k))) ∧ Below w.heap.size w w' := by
  by_cases h : 1601 ≤ y ∧ y ≤ 9997 ∧ 1 ≤ i
  · have := label_written_in k hk y i h.1 h.2.1 h.2.2 w
    rw [show decide (1601 ≤ y ∧ y ≤ 9997 ∧ 1 ≤ i ∧ i ≤ mst k) = decide (i ≤ mst k) by rw [decide_eq_decide]; exact ⟨fun a => a.2.2.2, fun a => ⟨h.1, h.2.1, h.2.2, a⟩⟩]
    exact this
  · have := label_written_out ((k : Int) + 1) y i (fun a => h ⟨a.2.2.1, a.2.2.2.1, a.2.2.2.2⟩) w
    rw [decide_eq_false (fun a => h ⟨a.1, a.2.1, a.2.2.1⟩)]
    exact this

end Go.Proofs.YtmgoagncbmonlaaDoor
