/- The row's last step: the arguments read behind the call as they did, unopened, whatever their types. Over any program. -/
import Derived.Test.YtmgoagncbmonlaaDoorClose
import Derived.WideKeyArgs
import Derived.OpenVars
import Derived.OpenShut
import Derived.ShutString
namespace Go.Proofs.YtmgoagncbmonlaaDoor
open Go.RowKit Go.WideShapes Go.ChangeShapes Go.WideElems Go.ChangeAt

section
variable {H : Type} {enc : TypeId × Value → H} {P : Program}

/-- One closed fact: each parameter's type can be read and is a row of the table. -/
def paramsRowed (P : Program) (ts : List TypeId) : Bool := ts.all fun t => P.readableRec t && decide (t < P.types.size)

theorem trodAll_stay (hl : laidOutB P = true) {W W' : World} (hb : Below W.heap.size W W') : ∀ {ts : List TypeId} {vs : List Value} {ds : List (DataW H)} {ps : List MemPlace}, paramsRowed P ts = true →
    (∀ p ∈ ps, p.block < W.heap.size) → DataW.TrodAll enc P W 0 (fun _ => true) true ts vs ds ps →
    ∀ sp : Nat → Bool, (∀ p ∈ ps, sp p.block = true) → DataW.TrodAll enc P W' 0 sp true ts vs ds ps := by
  intro ts
  induction ts with
  | nil =>
    intro vs ds ps _ _ h sp _
    obtain ⟨rfl, rfl, rfl⟩ := trodAll_nil h
    exact trodAll_mk0
  | cons t ts ih =>
    intro vs ds ps hp hlt h sp hsp
    obtain ⟨v0, vs0, d0, ds0, p0, q0, rfl, rfl, rfl, h0, r0⟩ := trodAll_cons h
    simp only [paramsRowed, List.all_cons, Bool.and_eq_true, decide_eq_true_eq] at hp
    refine trodAll_cons_mk (Trod_stays hl hp.1.1 hp.1.2 h0 (fun p hx => hb.same (hlt p (by simp [hx]))) (fun p hx => hsp p (by simp [hx]))) (ih (by simpa [paramsRowed] using hp.2) (fun p hx => hlt p (by simp [hx])) r0 sp (fun p hx => hsp p (by simp [hx])))
end
end Go.Proofs.YtmgoagncbmonlaaDoor
