/-
  NARROWER THAN 'FOR EVERY INPUT', by the rows' own cells (each row's printed sentence says how): TreeTells: loops.
  DERIVED. THE GIVEN ROWS OF THIS SEAT. 7 by the template 'for every input the law returns true; each argument reads behind the call as it read before'; 0 by the template 'total and deterministic' (their statements: YtmblooibnmahnaaTotals.lean).
  GIVEN WITH THE SEED: the statements are not yours to turn. If you find one false, say at which input.
  Laid BY PROGRAM, IN A SANDBOX (cutbox-rows.mjs): the forced cells as the released guide's own fill.sh prints them over the translation 4926f63d33e7b33a… (all of the seat's roots in one cut). By AI agents, Wed Nov 11 2026. No macro, syntax, notation, axiom, sorry.
-/
import Derived.Test.YtmblooibnmahnaaChecked
import GoSem.Claim
import GoSem.ClaimJoined
import GoSem.ClaimMapViews
import Derived.JoinedTies
import Derived.KernelRfl
namespace Go.Proofs.Ytmblooibnmahnaa
/- THE CELL 'sum', in the pinned program and in every row, IS THE sha256 OF THE DUMP (.gsa) THAT YtmblooibnmahnaaProg.lean LOADS. Nothing in Lean hashes anything: it is a label: what it is worth is what the hold of that sum in a sandbox is worth. -/
noncomputable def Try.pinned : Pinned := { name := "ytmblooibnmahnaa", sum := "4926f63d33e7b33a57cd7bb6c969087924cff3888fac59cc5a70a094ac6ea904", checked := Try.checked }
namespace Rows
def none {H : Type} : Left H := { results := [], args := [] }

/-- 'quarterdaylaw09.TreeDoes': WHATEVER THE INPUT: true; the input reads as it did. -/
def treeDoesSpec : ChangeSpec := { name := "treeDoes", fn := fun _ => fun
  | [d] => { results := [.lit (.bool true)], args := [d] }
  | _ => none }
def treeDoesRow : OpenClaim := { program := "ytmblooibnmahnaa", sum := "4926f63d33e7b33a57cd7bb6c969087924cff3888fac59cc5a70a094ac6ea904", func := "quarterday/quarterdaylaw09.TreeDoes", spec := "treeDoes", inPlace := ["internal/bytealg.IndexByteString"], unfollowed := true, recurses := true, apart := false }
def TreeDoesSaid : Prop := treeDoesRow.holds Try.pinned (OpenSpec.ofChange treeDoesSpec)

/-- ITS FALSE NEIGHBOUR: 'it returns false'. Refute it at one input. -/
def treeDoesWrong : ChangeSpec := { name := "treeDoes", fn := fun _ => fun
  | [d] => { results := [.lit (.bool false)], args := [d] }
  | _ => none }
def TreeDoesWrongFalsely : Prop := treeDoesRow.holds Try.pinned (OpenSpec.ofChange treeDoesWrong)

/-- 'quarterdaylaw09.TreeTokens': WHATEVER THE INPUT: true; the input reads as it did. -/
def treeTokensSpec : ChangeSpec := { name := "treeTokens", fn := fun _ => fun
  | [d] => { results := [.lit (.bool true)], args := [d] }
  | _ => none }
def treeTokensRow : OpenClaim := { program := "ytmblooibnmahnaa", sum := "4926f63d33e7b33a57cd7bb6c969087924cff3888fac59cc5a70a094ac6ea904", func := "quarterday/quarterdaylaw09.TreeTokens", spec := "treeTokens", inPlace := ["internal/bytealg.IndexByteString"], unfollowed := true, recurses := true, apart := false }
def TreeTokensSaid : Prop := treeTokensRow.holds Try.pinned (OpenSpec.ofChange treeTokensSpec)

/-- ITS FALSE NEIGHBOUR: 'it returns false'. Refute it at one input. -/
def treeTokensWrong : ChangeSpec := { name := "treeTokens", fn := fun _ => fun
  | [d] => { results := [.lit (.bool false)], args := [d] }
  | _ => none }
def TreeTokensWrongFalsely : Prop := treeTokensRow.holds Try.pinned (OpenSpec.ofChange treeTokensWrong)

/-- 'quarterdaylaw09.TreeOpen': WHATEVER THE INPUT: true; the input reads as it did. -/
def treeOpenSpec : ChangeSpec := { name := "treeOpen", fn := fun _ => fun
  | [d] => { results := [.lit (.bool true)], args := [d] }
  | _ => none }
def treeOpenRow : OpenClaim := { program := "ytmblooibnmahnaa", sum := "4926f63d33e7b33a57cd7bb6c969087924cff3888fac59cc5a70a094ac6ea904", func := "quarterday/quarterdaylaw09.TreeOpen", spec := "treeOpen", inPlace := ["internal/bytealg.IndexByteString"], unfollowed := true, recurses := true, apart := false }
def TreeOpenSaid : Prop := treeOpenRow.holds Try.pinned (OpenSpec.ofChange treeOpenSpec)

/-- ITS FALSE NEIGHBOUR: 'it returns false'. Refute it at one input. -/
def treeOpenWrong : ChangeSpec := { name := "treeOpen", fn := fun _ => fun
  | [d] => { results := [.lit (.bool false)], args := [d] }
  | _ => none }
def TreeOpenWrongFalsely : Prop := treeOpenRow.holds Try.pinned (OpenSpec.ofChange treeOpenWrong)

/-- 'quarterdaylaw09.TreeTwo': WHATEVER THE INPUT: true; the input reads as it did. -/
def treeTwoSpec : ChangeSpec := { name := "treeTwo", fn := fun _ => fun
  | [d1, d2] => { results := [.lit (.bool true)], args := [d1, d2] }
  | _ => none }
def treeTwoRow : OpenClaim := { program := "ytmblooibnmahnaa", sum := "4926f63d33e7b33a57cd7bb6c969087924cff3888fac59cc5a70a094ac6ea904", func := "quarterday/quarterdaylaw09.TreeTwo", spec := "treeTwo", inPlace := ["internal/bytealg.IndexByteString"], unfollowed := true, recurses := true, apart := false }
def TreeTwoSaid : Prop := treeTwoRow.holds Try.pinned (OpenSpec.ofChange treeTwoSpec)

/-- ITS FALSE NEIGHBOUR: 'it returns false'. Refute it at one input. -/
def treeTwoWrong : ChangeSpec := { name := "treeTwo", fn := fun _ => fun
  | [d1, d2] => { results := [.lit (.bool false)], args := [d1, d2] }
  | _ => none }
def TreeTwoWrongFalsely : Prop := treeTwoRow.holds Try.pinned (OpenSpec.ofChange treeTwoWrong)

/-- 'quarterdaylaw09.TreeBlock': WHATEVER THE INPUT: true; the input reads as it did. -/
def treeBlockSpec : ChangeSpec := { name := "treeBlock", fn := fun _ => fun
  | [d] => { results := [.lit (.bool true)], args := [d] }
  | _ => none }
def treeBlockRow : OpenClaim := { program := "ytmblooibnmahnaa", sum := "4926f63d33e7b33a57cd7bb6c969087924cff3888fac59cc5a70a094ac6ea904", func := "quarterday/quarterdaylaw09.TreeBlock", spec := "treeBlock", inPlace := ["internal/bytealg.IndexByteString"], unfollowed := true, recurses := true, apart := false }
def TreeBlockSaid : Prop := treeBlockRow.holds Try.pinned (OpenSpec.ofChange treeBlockSpec)

/-- ITS FALSE NEIGHBOUR: 'it returns false'. Refute it at one input. -/
def treeBlockWrong : ChangeSpec := { name := "treeBlock", fn := fun _ => fun
  | [d] => { results := [.lit (.bool false)], args := [d] }
  | _ => none }
def TreeBlockWrongFalsely : Prop := treeBlockRow.holds Try.pinned (OpenSpec.ofChange treeBlockWrong)

/-- 'quarterdaylaw09.TreeRight': WHATEVER THE INPUT: true; the input reads as it did. -/
def treeRightSpec : ChangeSpec := { name := "treeRight", fn := fun _ => fun
  | [d] => { results := [.lit (.bool true)], args := [d] }
  | _ => none }
def treeRightRow : OpenClaim := { program := "ytmblooibnmahnaa", sum := "4926f63d33e7b33a57cd7bb6c969087924cff3888fac59cc5a70a094ac6ea904", func := "quarterday/quarterdaylaw09.TreeRight", spec := "treeRight", inPlace := ["internal/bytealg.IndexByteString"], unfollowed := true, recurses := true, apart := false }
def TreeRightSaid : Prop := treeRightRow.holds Try.pinned (OpenSpec.ofChange treeRightSpec)

/-- ITS FALSE NEIGHBOUR: 'it returns false'. Refute it at one input. -/
def treeRightWrong : ChangeSpec := { name := "treeRight", fn := fun _ => fun
  | [d] => { results := [.lit (.bool false)], args := [d] }
  | _ => none }
def TreeRightWrongFalsely : Prop := treeRightRow.holds Try.pinned (OpenSpec.ofChange treeRightWrong)

/-- 'quarterdaylaw09.TreeTells': WHATEVER THE INPUT: true; the input reads as it did. -/
def treeTellsSpec : ChangeSpec := { name := "treeTells", fn := fun _ => fun
  | [d1, d2] => { results := [.lit (.bool true)], args := [d1, d2] }
  | _ => none }
def treeTellsRow : OpenClaim := { program := "ytmblooibnmahnaa", sum := "4926f63d33e7b33a57cd7bb6c969087924cff3888fac59cc5a70a094ac6ea904", func := "quarterday/quarterdaylaw09.TreeTells", spec := "treeTells", inPlace := ["internal/bytealg.IndexByteString"], unfollowed := true, recurses := true, loops := true, apart := false }
def TreeTellsSaid : Prop := treeTellsRow.holds Try.pinned (OpenSpec.ofChange treeTellsSpec)

/-- ITS FALSE NEIGHBOUR: 'it returns false'. Refute it at one input. -/
def treeTellsWrong : ChangeSpec := { name := "treeTells", fn := fun _ => fun
  | [d1, d2] => { results := [.lit (.bool false)], args := [d1, d2] }
  | _ => none }
def TreeTellsWrongFalsely : Prop := treeTellsRow.holds Try.pinned (OpenSpec.ofChange treeTellsWrong)

/- THE SECOND FORM. 'bulk': how many values and letters a reading holds, each counted each time it is reached (what is shared counts as often as it is met; a slice's spare places count too). A statement '..UptoSaid' is the law's where the arguments, and the package variables that the reading takes, are together of bulk at most 1048576: NARROWER than '..Said'. Prove '..Said' where nothing that the law and all that it calls make is longer than what came in: it says more and counts as full. Else prove '..UptoSaid'. A law counts once. -/
mutual
def uptoBulk {H : Type} : DataW H → Nat
  | .lit (.string bytes) => bytes.length + 1
  | .lit _ => 1
  | .nil => 1
  | .ptr d => uptoBulk d + 1
  | .slice elems spare => uptoBulkAll elems + uptoBulkAll spare + 1
  | .agg parts => uptoBulkAll parts + 1
  | .iface _ d => uptoBulk d + 1
  | .map entries => uptoBulkEntries entries + 1
  | .held _ => 1
def uptoBulkAll {H : Type} : List (DataW H) → Nat
  | [] => 0
  | d :: r => uptoBulk d + uptoBulkAll r
def uptoBulkEntries {H : Type} : List (Lit × DataW H) → Nat
  | [] => 0
  | x :: r => uptoBulkEntry x + uptoBulkEntries r
def uptoBulkEntry {H : Type} : Lit × DataW H → Nat
  | (.string bytes, d) => bytes.length + uptoBulk d + 1
  | (_, d) => uptoBulk d + 1
 end
def uptoSmall : (H : Type) → List (DataW H) → Bool := fun _ ds => decide (uptoBulkAll ds ≤ 1048576)
def OpenSpec.upto (s : _root_.Go.ChangeSpec) : _root_.Go.OpenSpec := { _root_.Go.OpenSpec.ofChange s with cond := some uptoSmall }

/-- 'quarterdaylaw09.TreeDoes', WHERE WHAT IT READS IS OF BULK AT MOST 1048576: true; the input reads as it did. -/
def treeDoesUptoRow : OpenClaim := { program := "ytmblooibnmahnaa", sum := "4926f63d33e7b33a57cd7bb6c969087924cff3888fac59cc5a70a094ac6ea904", func := "quarterday/quarterdaylaw09.TreeDoes", spec := "treeDoes", inPlace := ["internal/bytealg.IndexByteString"], unfollowed := true, recurses := true, apart := false, narrowed := true }
def TreeDoesUptoSaid : Prop := treeDoesUptoRow.holds Try.pinned (OpenSpec.upto treeDoesSpec)

/-- 'quarterdaylaw09.TreeTokens', WHERE WHAT IT READS IS OF BULK AT MOST 1048576: true; the input reads as it did. -/
def treeTokensUptoRow : OpenClaim := { program := "ytmblooibnmahnaa", sum := "4926f63d33e7b33a57cd7bb6c969087924cff3888fac59cc5a70a094ac6ea904", func := "quarterday/quarterdaylaw09.TreeTokens", spec := "treeTokens", inPlace := ["internal/bytealg.IndexByteString"], unfollowed := true, recurses := true, apart := false, narrowed := true }
def TreeTokensUptoSaid : Prop := treeTokensUptoRow.holds Try.pinned (OpenSpec.upto treeTokensSpec)

/-- 'quarterdaylaw09.TreeOpen', WHERE WHAT IT READS IS OF BULK AT MOST 1048576: true; the input reads as it did. -/
def treeOpenUptoRow : OpenClaim := { program := "ytmblooibnmahnaa", sum := "4926f63d33e7b33a57cd7bb6c969087924cff3888fac59cc5a70a094ac6ea904", func := "quarterday/quarterdaylaw09.TreeOpen", spec := "treeOpen", inPlace := ["internal/bytealg.IndexByteString"], unfollowed := true, recurses := true, apart := false, narrowed := true }
def TreeOpenUptoSaid : Prop := treeOpenUptoRow.holds Try.pinned (OpenSpec.upto treeOpenSpec)

/-- 'quarterdaylaw09.TreeTwo', WHERE WHAT IT READS IS OF BULK AT MOST 1048576: true; the input reads as it did. -/
def treeTwoUptoRow : OpenClaim := { program := "ytmblooibnmahnaa", sum := "4926f63d33e7b33a57cd7bb6c969087924cff3888fac59cc5a70a094ac6ea904", func := "quarterday/quarterdaylaw09.TreeTwo", spec := "treeTwo", inPlace := ["internal/bytealg.IndexByteString"], unfollowed := true, recurses := true, apart := false, narrowed := true }
def TreeTwoUptoSaid : Prop := treeTwoUptoRow.holds Try.pinned (OpenSpec.upto treeTwoSpec)

/-- 'quarterdaylaw09.TreeBlock', WHERE WHAT IT READS IS OF BULK AT MOST 1048576: true; the input reads as it did. -/
def treeBlockUptoRow : OpenClaim := { program := "ytmblooibnmahnaa", sum := "4926f63d33e7b33a57cd7bb6c969087924cff3888fac59cc5a70a094ac6ea904", func := "quarterday/quarterdaylaw09.TreeBlock", spec := "treeBlock", inPlace := ["internal/bytealg.IndexByteString"], unfollowed := true, recurses := true, apart := false, narrowed := true }
def TreeBlockUptoSaid : Prop := treeBlockUptoRow.holds Try.pinned (OpenSpec.upto treeBlockSpec)

/-- 'quarterdaylaw09.TreeRight', WHERE WHAT IT READS IS OF BULK AT MOST 1048576: true; the input reads as it did. -/
def treeRightUptoRow : OpenClaim := { program := "ytmblooibnmahnaa", sum := "4926f63d33e7b33a57cd7bb6c969087924cff3888fac59cc5a70a094ac6ea904", func := "quarterday/quarterdaylaw09.TreeRight", spec := "treeRight", inPlace := ["internal/bytealg.IndexByteString"], unfollowed := true, recurses := true, apart := false, narrowed := true }
def TreeRightUptoSaid : Prop := treeRightUptoRow.holds Try.pinned (OpenSpec.upto treeRightSpec)

/-- 'quarterdaylaw09.TreeTells', WHERE WHAT IT READS IS OF BULK AT MOST 1048576: true; the input reads as it did. -/
def treeTellsUptoRow : OpenClaim := { program := "ytmblooibnmahnaa", sum := "4926f63d33e7b33a57cd7bb6c969087924cff3888fac59cc5a70a094ac6ea904", func := "quarterday/quarterdaylaw09.TreeTells", spec := "treeTells", inPlace := ["internal/bytealg.IndexByteString"], unfollowed := true, recurses := true, loops := true, apart := false, narrowed := true }
def TreeTellsUptoSaid : Prop := treeTellsUptoRow.holds Try.pinned (OpenSpec.upto treeTellsSpec)

end Rows
end Go.Proofs.Ytmblooibnmahnaa
