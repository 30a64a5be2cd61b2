/- The law quarterdaylaw11.FieldReads holds: for every input it returns true, and each argument reads behind the call as it read before. Conditions: none but the row's own. (The frame is the kit's proof-skeleton.) -/
import Derived.Test.YtpkhocbohhpmbaaRows
import Derived.WalkKit
import Derived.ProofKit
import Derived.OpenShut
import Derived.ShutString
import Derived.Test.YtpkhocbohhpmbaaPkR0
import Derived.Test.YtpkhocbohhpmbaaPkR14
import Derived.Test.YtpkhocbohhpmbaaPkR50
set_option linter.unusedVariables false
open Go.ChangeShapes Go.WideShapes Go.ChangeAt Go.RowKit
namespace Go.Proofs.Ytpkhocbohhpmbaa.fieldReads
theorem own : ownKnob Try.prog.godebug = none:=by kernel_rfl
set_option maxRecDepth 100000 in
theorem lifted (os : Os) (started : os.Started) (H : Type) (enc : TypeId × Value → H) :
    ReturnsInHanded {} Try.checked os 3 .any (Rows.fieldReadsSpec.pre6 enc Try.prog Try.f3 Rows.fieldReadsRow.domain false) (Rows.fieldReadsSpec.post enc Try.prog Try.f3 false true false false):=by
  refine returnsInHanded_of_change (C := Try.checked) own started (by kernel_rfl) Try.func3
    (ChangeSpec.witness6 (enc:=enc) (C:=Try.checked) false ⟨#[],#[.agg #[.string ⟨#[]⟩, .int .i64 0, .slice none 0 0, .bool false, .slice none 0 0]],[]⟩ 8 (by kernel_rfl) (by kernel_rfl) (by kernel_rfl) (by kernel_rfl)) ?_
  intro W base args ds gs before hval0 hW hcnd _
  have hval : ∀ (j : Nat) t v,Try.f3.params[j]? = some t → args[j]? = some v → Value.okWide Try.prog W .any base t v:=hval0
  have hW':=hW
  have hlt : ∀ p ∈ before,p.block < W.heap.size:=fun p hp => hW.lt p hp
  obtain ⟨p,q,hA0,hV,rfl,hfz,hnd⟩:=hW
  have hA : DataW.TrodAll enc Try.prog W 0 (fun _ => true) true Try.f3.params.toList args.toList ds p:=hA0
  have hstay:=fun (W' : World) (hb : Below W.heap.size W W') => trodAll_stay (by kernel_rfl) hb (by kernel_rfl) (fun p hp => hlt p (List.mem_append_left _ hp)) hA
  rw [Try.params3] at hval
  have hA1:=hA
  rw [Try.params3] at hA1
  obtain ⟨v0,vs0,d0,ds0,p0,q0,hargs,rfl,hps0,h0,r0⟩:=trodAll_cons hA1
  obtain ⟨rfl,rfl,hq_⟩:=trodAll_nil r0
  obtain rfl : args = #[v0]:=by cases args;simp_all
  obtain ⟨rfl,rfl⟩:=trodVars_none hV
  obtain ⟨cs0,n0,rfl,hn0,hf0,hc0⟩:=open_nodeC (hval 0 25 v0 rfl rfl) h0
  clear hA0 hval0
  refine (walk_FieldReads n0 cs0 W hn0 hf0 hc0).mono fun e W' ⟨he,hg⟩ => ?_
  subst he
  exact ⟨_,rfl,post_of_below (pa := p) (pv := []) hW' (fun _ _ _ => trodAll_cons_mk (shut_bool Try.underlying4 _) trodAll_mk0) (fun sp hsp => hstay W' hg sp (fun p hp => hsp p (by simpa using hp))) (fun _ _ => rfl) rfl
    hg (ok_one (by kernel_rfl) rfl (okWide_bool_mk Try.underlying4 _))⟩
theorem over : Rows.fieldReadsRow.holds Try.pinned (OpenSpec.ofChange Rows.fieldReadsSpec) :=
  OpenClaim.holds_of_wide 3 Try.f3 rfl rfl rfl rfl rfl rfl rfl ⟨rfl,rfl,rfl,rfl,rfl⟩ rfl rfl rfl rfl rfl (by kernel_rfl) Try.func3 (by kernel_rfl)
    (of_decide_eq_true (by kernel_rfl)) (by unfold Func.isWrapper;first | (rw [if_pos (by decide +kernel)];kernel_rfl) | (rw [if_neg (by decide +kernel)];exact ⟨rfl,rfl⟩))
    (fun os started H enc _ => lifted os started H enc)
theorem proved : Rows.FieldReadsSaid :=
  over
#print axioms proved
end Go.Proofs.Ytpkhocbohhpmbaa.fieldReads
