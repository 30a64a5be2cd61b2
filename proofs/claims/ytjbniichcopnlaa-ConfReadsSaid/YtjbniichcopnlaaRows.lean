/-
  No cell of these rows narrows 'for every input' (looked for: loops, veiled, ifaces, maps, wideKeys, modest, calm, conditions, laid).
  DERIVED. THE GIVEN ROWS OF THIS SEAT. 4 by the template 'for every input the law returns true; each argument reads behind the call as it read before'; 0 by the template 'total and deterministic' (their statements: YtjbniichcopnlaaTotals.lean).
  GIVEN WITH THE SEED: the statements are not yours to turn. If you find one false, say at which input.
  Laid BY PROGRAM, IN A SANDBOX (cutbox-rows.mjs): the forced cells as the released guide's own fill.sh prints them over the translation 496ab5b1e14fa230… (all of the seat's roots in one cut). By AI agents, Wed Nov 11 2026. No macro, syntax, notation, axiom, sorry.
-/
import Derived.Test.YtjbniichcopnlaaChecked
import GoSem.Claim
import GoSem.ClaimJoined
import GoSem.ClaimMapViews
import Derived.JoinedTies
import Derived.KernelRfl
namespace Go.Proofs.Ytjbniichcopnlaa
/- THE CELL 'sum', in the pinned program and in every row, IS THE sha256 OF THE DUMP (.gsa) THAT YtjbniichcopnlaaProg.lean LOADS. Nothing in Lean hashes anything: it is a label: what it is worth is what the hold of that sum in a sandbox is worth. -/
noncomputable def Try.pinned : Pinned := { name := "ytjbniichcopnlaa", sum := "496ab5b1e14fa230b2bd7c3f106f613ceea83cae27e9c054ffacae8c6f85b8d6", checked := Try.checked }
namespace Rows
def none {H : Type} : Left H := { results := [], args := [] }

/-- 'quarterdaylaw12.ConfReads': WHATEVER THE INPUT: true; the input reads as it did. -/
def confReadsSpec : ChangeSpec := { name := "confReads", fn := fun _ => fun
  | [d] => { results := [.lit (.bool true)], args := [d] }
  | _ => none }
def confReadsRow : OpenClaim := { program := "ytjbniichcopnlaa", sum := "496ab5b1e14fa230b2bd7c3f106f613ceea83cae27e9c054ffacae8c6f85b8d6", func := "quarterday/quarterdaylaw12.ConfReads", spec := "confReads", inPlace := ["internal/bytealg.IndexByteString"], unfollowed := true, recurses := true, apart := false }
def ConfReadsSaid : Prop := confReadsRow.holds Try.pinned (OpenSpec.ofChange confReadsSpec)

/-- ITS FALSE NEIGHBOUR: 'it returns false'. Refute it at one input. -/
def confReadsWrong : ChangeSpec := { name := "confReads", fn := fun _ => fun
  | [d] => { results := [.lit (.bool false)], args := [d] }
  | _ => none }
def ConfReadsWrongFalsely : Prop := confReadsRow.holds Try.pinned (OpenSpec.ofChange confReadsWrong)

/-- 'quarterdaylaw12.ConfTwo': WHATEVER THE INPUT: true; the input reads as it did. -/
def confTwoSpec : ChangeSpec := { name := "confTwo", fn := fun _ => fun
  | [d1, d2] => { results := [.lit (.bool true)], args := [d1, d2] }
  | _ => none }
def confTwoRow : OpenClaim := { program := "ytjbniichcopnlaa", sum := "496ab5b1e14fa230b2bd7c3f106f613ceea83cae27e9c054ffacae8c6f85b8d6", func := "quarterday/quarterdaylaw12.ConfTwo", spec := "confTwo", inPlace := ["internal/bytealg.IndexByteString"], unfollowed := true, recurses := true, apart := false }
def ConfTwoSaid : Prop := confTwoRow.holds Try.pinned (OpenSpec.ofChange confTwoSpec)

/-- ITS FALSE NEIGHBOUR: 'it returns false'. Refute it at one input. -/
def confTwoWrong : ChangeSpec := { name := "confTwo", fn := fun _ => fun
  | [d1, d2] => { results := [.lit (.bool false)], args := [d1, d2] }
  | _ => none }
def ConfTwoWrongFalsely : Prop := confTwoRow.holds Try.pinned (OpenSpec.ofChange confTwoWrong)

/-- 'quarterdaylaw12.ConfItems': WHATEVER THE INPUT: true; the input reads as it did. -/
def confItemsSpec : ChangeSpec := { name := "confItems", fn := fun _ => fun
  | [d] => { results := [.lit (.bool true)], args := [d] }
  | _ => none }
def confItemsRow : OpenClaim := { program := "ytjbniichcopnlaa", sum := "496ab5b1e14fa230b2bd7c3f106f613ceea83cae27e9c054ffacae8c6f85b8d6", func := "quarterday/quarterdaylaw12.ConfItems", spec := "confItems", inPlace := ["internal/bytealg.IndexByteString"], unfollowed := true, recurses := true, apart := false }
def ConfItemsSaid : Prop := confItemsRow.holds Try.pinned (OpenSpec.ofChange confItemsSpec)

/-- ITS FALSE NEIGHBOUR: 'it returns false'. Refute it at one input. -/
def confItemsWrong : ChangeSpec := { name := "confItems", fn := fun _ => fun
  | [d] => { results := [.lit (.bool false)], args := [d] }
  | _ => none }
def ConfItemsWrongFalsely : Prop := confItemsRow.holds Try.pinned (OpenSpec.ofChange confItemsWrong)

/-- 'quarterdaylaw12.ConfFinds': WHATEVER THE INPUT: true; the input reads as it did. -/
def confFindsSpec : ChangeSpec := { name := "confFinds", fn := fun _ => fun
  | [d1, d2] => { results := [.lit (.bool true)], args := [d1, d2] }
  | _ => none }
def confFindsRow : OpenClaim := { program := "ytjbniichcopnlaa", sum := "496ab5b1e14fa230b2bd7c3f106f613ceea83cae27e9c054ffacae8c6f85b8d6", func := "quarterday/quarterdaylaw12.ConfFinds", spec := "confFinds", inPlace := ["internal/bytealg.IndexByteString"], unfollowed := true, recurses := true, apart := false }
def ConfFindsSaid : Prop := confFindsRow.holds Try.pinned (OpenSpec.ofChange confFindsSpec)

/-- ITS FALSE NEIGHBOUR: 'it returns false'. Refute it at one input. -/
def confFindsWrong : ChangeSpec := { name := "confFinds", fn := fun _ => fun
  | [d1, d2] => { results := [.lit (.bool false)], args := [d1, d2] }
  | _ => none }
def ConfFindsWrongFalsely : Prop := confFindsRow.holds Try.pinned (OpenSpec.ofChange confFindsWrong)

/- THE SECOND FORM. 'bulk': how many values and letters a reading holds, each counted each time it is reached (what is shared counts as often as it is met; a slice's spare places count too). A statement '..UptoSaid' is the law's where the arguments, and the package variables that the reading takes, are together of bulk at most 1048576: NARROWER than '..Said'. Prove '..Said' where nothing that the law and all that it calls make is longer than what came in: it says more and counts as full. Else prove '..UptoSaid'. A law counts once. -/
mutual
def uptoBulk {H : Type} : DataW H → Nat
  | .lit (.string bytes) => bytes.length + 1
  | .lit _ => 1
  | .nil => 1
  | .ptr d => uptoBulk d + 1
  | .slice elems spare => uptoBulkAll elems + uptoBulkAll spare + 1
  | .agg parts => uptoBulkAll parts + 1
  | .iface _ d => uptoBulk d + 1
  | .map entries => uptoBulkEntries entries + 1
  | .held _ => 1
def uptoBulkAll {H : Type} : List (DataW H) → Nat
  | [] => 0
  | d :: r => uptoBulk d + uptoBulkAll r
def uptoBulkEntries {H : Type} : List (Lit × DataW H) → Nat
  | [] => 0
  | x :: r => uptoBulkEntry x + uptoBulkEntries r
def uptoBulkEntry {H : Type} : Lit × DataW H → Nat
  | (.string bytes, d) => bytes.length + uptoBulk d + 1
  | (_, d) => uptoBulk d + 1
 end
def uptoSmall : (H : Type) → List (DataW H) → Bool := fun _ ds => decide (uptoBulkAll ds ≤ 1048576)
def OpenSpec.upto (s : _root_.Go.ChangeSpec) : _root_.Go.OpenSpec := { _root_.Go.OpenSpec.ofChange s with cond := some uptoSmall }

/-- 'quarterdaylaw12.ConfReads', WHERE WHAT IT READS IS OF BULK AT MOST 1048576: true; the input reads as it did. -/
def confReadsUptoRow : OpenClaim := { program := "ytjbniichcopnlaa", sum := "496ab5b1e14fa230b2bd7c3f106f613ceea83cae27e9c054ffacae8c6f85b8d6", func := "quarterday/quarterdaylaw12.ConfReads", spec := "confReads", inPlace := ["internal/bytealg.IndexByteString"], unfollowed := true, recurses := true, apart := false, narrowed := true }
def ConfReadsUptoSaid : Prop := confReadsUptoRow.holds Try.pinned (OpenSpec.upto confReadsSpec)

/-- 'quarterdaylaw12.ConfTwo', WHERE WHAT IT READS IS OF BULK AT MOST 1048576: true; the input reads as it did. -/
def confTwoUptoRow : OpenClaim := { program := "ytjbniichcopnlaa", sum := "496ab5b1e14fa230b2bd7c3f106f613ceea83cae27e9c054ffacae8c6f85b8d6", func := "quarterday/quarterdaylaw12.ConfTwo", spec := "confTwo", inPlace := ["internal/bytealg.IndexByteString"], unfollowed := true, recurses := true, apart := false, narrowed := true }
def ConfTwoUptoSaid : Prop := confTwoUptoRow.holds Try.pinned (OpenSpec.upto confTwoSpec)

/-- 'quarterdaylaw12.ConfItems', WHERE WHAT IT READS IS OF BULK AT MOST 1048576: true; the input reads as it did. -/
def confItemsUptoRow : OpenClaim := { program := "ytjbniichcopnlaa", sum := "496ab5b1e14fa230b2bd7c3f106f613ceea83cae27e9c054ffacae8c6f85b8d6", func := "quarterday/quarterdaylaw12.ConfItems", spec := "confItems", inPlace := ["internal/bytealg.IndexByteString"], unfollowed := true, recurses := true, apart := false, narrowed := true }
def ConfItemsUptoSaid : Prop := confItemsUptoRow.holds Try.pinned (OpenSpec.upto confItemsSpec)

/-- 'quarterdaylaw12.ConfFinds', WHERE WHAT IT READS IS OF BULK AT MOST 1048576: true; the input reads as it did. -/
def confFindsUptoRow : OpenClaim := { program := "ytjbniichcopnlaa", sum := "496ab5b1e14fa230b2bd7c3f106f613ceea83cae27e9c054ffacae8c6f85b8d6", func := "quarterday/quarterdaylaw12.ConfFinds", spec := "confFinds", inPlace := ["internal/bytealg.IndexByteString"], unfollowed := true, recurses := true, apart := false, narrowed := true }
def ConfFindsUptoSaid : Prop := confFindsUptoRow.holds Try.pinned (OpenSpec.upto confFindsSpec)

end Rows
end Go.Proofs.Ytjbniichcopnlaa
