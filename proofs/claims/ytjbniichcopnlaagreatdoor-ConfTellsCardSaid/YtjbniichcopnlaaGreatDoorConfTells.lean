/- The law quarterdaylaw12.ConfTells holds: for every input it returns true, and each argument reads behind the call as it read before. Conditions: none but the row's own (the listed tables, tied by the card). -/
import Derived.Test.YtjbniichcopnlaaGreatDoorCards
import Derived.Test.YtjbniichcopnlaaGreatDoorTie
import Derived.Test.YtjbniichcopnlaaGreatDoorPkS18
import Derived.Test.YtjbniichcopnlaaGreatDoorPkS32
import Derived.WalkKit
import Derived.ProofKit
import Derived.OpenShut
import Derived.ShutString
import Derived.Deep.DeepHandedRow
import Derived.Deep.DeepWitnessRowRef
import Derived.Stop.LaidErr
import Derived.Test.YtjbniichcopnlaaGreatDoorPkS50
set_option linter.unusedVariables false
open Go.ChangeShapes Go.WideShapes Go.ChangeAt Go.RowKit
open Go.ChangeMaps (open_string shut_string)
namespace Go.Proofs.YtjbniichcopnlaaGreatDoor.confTells
set_option maxRecDepth 100000 in
theorem contract (H : Type) (enc : TypeId × Value → H) (W : World) (base : Nat) (args : Array Value) (ds gs : List (DataW H)) (before : List MemPlace)
    (hval : ∀ (j : Nat) t v,Tryz.f5.params[j]? = some t → args[j]? = some v → Value.okWide Tryz.prog W .any base t v)
    (hW : DataW.Whole enc Tryz.prog Tryz.f5.params.toList Rows.confTellsSpec.vars false W args.toList ds gs before) (hL : laidMet Tryz.prog Rows.confTellsRow.laid W) :
    Calls Tryz.prog 5 args W fun e W' => ∃ v,e = .returned v ∧ Rows.confTellsSpec.post enc Tryz.prog Tryz.f5 false true false false W args v W':=by
  have hW':=hW
  have hlt : ∀ p ∈ before,p.block < W.heap.size:=fun p hp => hW.lt p hp
  obtain ⟨p,q,hA0,hV,rfl,hfz,hnd⟩:=hW
  have hA : DataW.TrodAll enc Tryz.prog W 0 (fun _ => true) true Tryz.f5.params.toList args.toList ds p:=hA0
  have hstay:=fun (W' : World) (hb : Below W.heap.size W W') => trodAll_stay (by kernel_rfl) hb (by kernel_rfl) (fun p hp => hlt p (List.mem_append_left _ hp)) hA
  rw [Tryz.params5] at hval
  have hA1:=hA
  rw [Tryz.params5] at hA1
  obtain ⟨v0,vs0,d0,ds0,p0,q0,hargs0,rfl,hps0,h0,r0⟩:=trodAll_cons hA1
  obtain ⟨v1,vs1,d1,ds1,p1,q1,hargs1,rfl,hps1,h1,r1⟩:=trodAll_cons r0
  obtain ⟨hv_,rfl,hq_⟩:=trodAll_nil r1
  obtain rfl : args = #[v0,v1]:=by cases args;simp_all
  obtain ⟨rfl,rfl⟩:=trodVars_none hV
  obtain ⟨A0,c0,l0,rfl,nl0,rd0,ln0,nn0⟩:=open_calsC (hval 0 22 v0 rfl rfl) h0
  obtain ⟨a1,rfl,_,_,w1⟩:=open_string Tryz.underlying9 (hval 1 9 v1 rfl rfl) h1
  refine (walk_ConfTells W (tabs.pow10 hL) (tabs.space hL) A0 c0 l0 nl0 rd0 ln0 nn0 a1 w1).mono fun e W' ⟨he,hg⟩ => ?_
  subst he
  exact ⟨_,rfl,post_of_below (pa := p) (pv := []) hW' (fun _ _ _ => trodAll_cons_mk (shut_bool Tryz.underlying4 _) trodAll_mk0) (fun sp hsp => hstay W' hg sp (fun p hp => hsp p (by simpa using hp))) (fun _ _ => rfl) rfl
    hg (ok_one (by kernel_rfl) rfl (okWide_bool_mk Tryz.underlying4 _))⟩
theorem laid_met (os : Os) : laidMet Tryz.prog Rows.confTellsRow.laid ((tabs.laidWorld os).forCall (fun _ _ => 0) ⟨#[],#[Value.slice .none 0 0,Value.string ByteArray.empty],[]⟩).memory:=tabs.laid_met os _
theorem reads (os : Os) {H : Type} (enc : TypeId × Value → H) : ∃ places,DataW.whole enc Tryz.prog ((tabs.laidWorld os).forCall (fun _ _ => 0) ⟨#[],#[Value.slice .none 0 0,Value.string ByteArray.empty],[]⟩).memory Tryz.f5.params.toList Rows.confTellsSpec.vars false #[Value.slice .none 0 0,Value.string ByteArray.empty].toList 8 = some ([.nil, .lit (.string [])],[],places) :=
  ⟨[],by kernel_rfl⟩
set_option maxRecDepth 100000 in
theorem lifted (os : Os) (started : os.Started) (H : Type) (enc : TypeId × Value → H) (F : Stop.Interp) :
    ReturnsInHanded {} Tryz.checked os 5 .any ((OpenSpec.ofChange Rows.confTellsSpec).preRow enc Tryz.prog Tryz.f5 Rows.confTellsRow.domain false Rows.confTellsRow.laid) (((OpenSpec.ofChange Rows.confTellsSpec).at F).post enc Tryz.prog Tryz.f5 false true false false):=by
  obtain ⟨places,hx⟩:=reads os enc
  refine returnsInHanded_of_row (C := Tryz.checked) (s := OpenSpec.ofChange Rows.confTellsSpec) tabs.own started (by kernel_rfl) Tryz.func5
    (witness_row_atRef (enc := enc) (C := Tryz.checked) false (tabs.laidWorld os) #[Value.slice .none 0 0,Value.string ByteArray.empty] rfl (by kernel_rfl) (by kernel_rfl) (by kernel_rfl)
      (OpenSpec.preRow_of_cond 8 hx (by kernel_rfl) (fun k hk => by cases hk) (by kernel_rfl) (laid_met os))) ?_
  intro W base args ds gs before hval hW _ _ _ hL _ _
  exact contract H enc W base args ds gs before hval hW hL
theorem said : Rows.ConfTellsSaid :=
  OpenClaim.holds_of_cond 5 Tryz.f5 rfl rfl rfl rfl rfl rfl rfl ⟨rfl,rfl,rfl,rfl,rfl⟩ rfl rfl rfl rfl rfl (by kernel_rfl) Tryz.func5 (by kernel_rfl)
    (of_decide_eq_true (by kernel_rfl)) (by unfold Func.isWrapper;first | (rw [if_pos (by decide +kernel)];kernel_rfl) | (rw [if_neg (by decide +kernel)];exact ⟨rfl,rfl⟩))
    (fun os started H enc _ F => by rw [OpenClaim.pre_eq_preRow];exact lifted os started H enc F)
theorem plain (f : FuncId) (fn : Func) (hf : Tryz.pinned.checked.prog.funcNamed "quarterday/quarterdaylaw12.ConfTells" = some f) (hfn : Tryz.pinned.checked.prog.funcs[f]? = some fn) :
    false = Tryz.pinned.checked.prog.looks [] ∧ ∀ (j : Nat) t,fn.params[j]? = some t → Tryz.pinned.checked.prog.wantsStandIn t = false:=by
  obtain rfl : f = 5:=Option.some.inj ((show Tryz.prog.funcNamed "quarterday/quarterdaylaw12.ConfTells" = some 5 by kernel_rfl).symm.trans hf) |>.symm
  obtain rfl : fn = Tryz.f5:=(Option.some.inj (Tryz.func5.symm.trans hfn)).symm
  refine ⟨by kernel_rfl,fun j t ht => ?_⟩
  rw [Tryz.params5] at ht
  have hm:=Array.mem_of_getElem? ht
  have hall : (#[22,9] : Array TypeId).all (fun t => Tryz.prog.wantsStandIn t == false) = true:=by kernel_rfl
  exact beq_iff_eq.1 (Array.all_eq_true_iff_forall_mem.1 hall t hm)
theorem proved : Rows.ConfTellsCardSaid :=
  Claim7.holds_tied_plain_at .later [] _ _ _ _ said (fun _ h => by cases h) (by kernel_rfl) (fun _ h => by cases h) confTells_row_tie rfl ⟨rfl,rfl⟩ (by kernel_rfl) rfl plain (by kernel_rfl)
#print axioms proved
end Go.Proofs.YtjbniichcopnlaaGreatDoor.confTells
