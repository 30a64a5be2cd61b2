/- Layer 8, the laws: the walk of LexJoins. -/
import Derived.Test.YtmfaoglehopoiaaDoorRef8V
import Derived.Test.YtmfaoglehopoiaaDoorRef8D
import Derived.Test.YtmfaoglehopoiaaDoorOpenToks
namespace Go.Proofs.YtmfaoglehopoiaaDoor
open Go.RowKit

set_option maxRecDepth 100000 in
set_option maxHeartbeats 1000000 in
theorem walk_LexJoins (w : World) (ht : Tab w) (A : Option Addr) (c : Nat) (l : List Tok) (h : Reads w w.heap.size 4 A l.length (l.flatMap Tok.cells))
    (hl : l.length ≤ maxLen) (hfit : ∀ t ∈ l, TokFits t) :
    Calls Tryd.prog 3 #[.slice A l.length c] w fun e w' => e = .returned (.bool true) ∧ Below w.heap.size w w' := by
  have hs : ∀ t ∈ l, t.s.length ≤ maxLen ∧ -9223372036854775808 ≤ t.n ∧ t.n ≤ 9223372036854775807 := fun t h => ⟨(hfit t h).2.2.2, (hfit t h).2.2.1.1, (hfit t h).2.2.1.2⟩
  have HV := Lib.hid (law8_live w)
  have HJ := Lib.hid (fun W (hb : Below w.heap.size w W) => lex_Join A c l W ((h.below hb).more hb.size) (ht.below hb) hl hs)
  have HR := Lib.hid (fun W (hb : Below w.heap.size w W) => ref8_Join A c l W ((h.below hb).more hb.size) hl hs)
  unfold maxLen at hl
  clear h ht hs hfit
  generalize joinL l = J at *
  obtain ⟨S, E⟩ := J
  by_cases h1 : 200 < l.length ∧ l.length ≤ 8192
  · have d1 : decide ((l.length : Int) > 200) = true := decide_eq_true (by omega)
    have d2 : decide ((l.length : Int) ≤ 8192) = true := decide_eq_true (by omega)
    clear h1
    go_enter Tryd.func3, Tryd.ntmps3
    go_wp2_with fail
    refine HV.out.mono ?_
    rintro e w1 ⟨rfl, hb1⟩
    go_wp2
    go_ret
    exact ⟨rfl, hb1⟩
  by_cases h2 : 8200 < l.length
  · have d1 : decide ((l.length : Int) > 200) = true := decide_eq_true (by omega)
    have d2 : decide ((l.length : Int) ≤ 8192) = false := decide_eq_false (by omega)
    have d3 : decide ((l.length : Int) > 8200) = true := decide_eq_true (by omega)
    clear h1 h2
    go_enter Tryd.func3, Tryd.ntmps3
    go_wp2_with fail
    refine HV.out.mono ?_
    rintro e w1 ⟨rfl, hb1⟩
    go_wp2
    go_ret
    exact ⟨rfl, hb1⟩
  by_cases h3 : 200 < l.length
  · have d1 : decide ((l.length : Int) > 200) = true := decide_eq_true (by omega)
    have d2 : decide ((l.length : Int) ≤ 8192) = false := decide_eq_false (by omega)
    have d3 : decide ((l.length : Int) > 8200) = false := decide_eq_false (by omega)
    clear h1 h2 h3
    go_enter Tryd.func3, Tryd.ntmps3
    go_wp2_with fail
    refine HV.out.mono ?_
    rintro e w1 ⟨rfl, hb1⟩
    go_wp2_with fail
    refine (HJ.out w1 hb1).mono ?_
    rintro e w2 ⟨rfl, hb2⟩
    have hb12 := hb1.trans (hb2.mono hb1.size)
    go_wp2_with fail
    refine (HR.out w2 hb12).mono ?_
    rintro e w3 ⟨rfl, hb3⟩
    have hb13 := hb12.trans (hb3.mono hb12.size)
    go_wp2
    go_ret
    exact ⟨ret_bool (by simp), hb13⟩
  · have d1 : decide ((l.length : Int) > 200) = false := decide_eq_false (by omega)
    have d3 : decide ((l.length : Int) > 8200) = false := decide_eq_false (by omega)
    clear h1 h2 h3
    go_enter Tryd.func3, Tryd.ntmps3
    go_wp2_with fail
    refine HV.out.mono ?_
    rintro e w1 ⟨rfl, hb1⟩
    go_wp2_with fail
    refine (HJ.out w1 hb1).mono ?_
    rintro e w2 ⟨rfl, hb2⟩
    have hb12 := hb1.trans (hb2.mono hb1.size)
    go_wp2_with fail
    refine (HR.out w2 hb12).mono ?_
    rintro e w3 ⟨rfl, hb3⟩
    have hb13 := hb12.trans (hb3.mono hb12.size)
    go_wp2
    go_ret
    exact ⟨ret_bool (by simp), hb13⟩

end Go.Proofs.YtmfaoglehopoiaaDoor
