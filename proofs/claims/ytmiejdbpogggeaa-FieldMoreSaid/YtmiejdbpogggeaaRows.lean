/-
  NARROWER THAN 'FOR EVERY INPUT', by the rows' own cells (each row's printed sentence says how): FieldReads: loops · FieldRight: loops.
  DERIVED. THE GIVEN ROWS OF THIS SEAT. 8 by the template 'for every input the law returns true; each argument reads behind the call as it read before'; 0 by the template 'total and deterministic' (their statements: YtmiejdbpogggeaaTotals.lean).
  GIVEN WITH THE SEED: the statements are not yours to turn. If you find one false, say at which input.
  Laid BY PROGRAM, IN A SANDBOX (cutbox-rows.mjs): the forced cells as the released guide's own fill.sh prints them over the translation facb45fe7c36c76c… (all of the seat's roots in one cut). By AI agents, Wed Nov 11 2026. No macro, syntax, notation, axiom, sorry.
-/
import Derived.Test.YtmiejdbpogggeaaChecked
import GoSem.Claim
import GoSem.ClaimJoined
import GoSem.ClaimMapViews
import Derived.JoinedTies
import Derived.KernelRfl
namespace Go.Proofs.Ytmiejdbpogggeaa
/- THE CELL 'sum', in the pinned program and in every row, IS THE sha256 OF THE DUMP (.gsa) THAT YtmiejdbpogggeaaProg.lean LOADS. Nothing in Lean hashes anything: it is a label: what it is worth is what the hold of that sum in a sandbox is worth. -/
noncomputable def Try.pinned : Pinned := { name := "ytmiejdbpogggeaa", sum := "facb45fe7c36c76cc7ccce85e8423c716915b2b3b11b4e1ba360e5b4e2c1a1b2", checked := Try.checked }
namespace Rows
def none {H : Type} : Left H := { results := [], args := [] }

/-- 'quarterdaylaw11.FieldReads': WHATEVER THE INPUT: true; the input reads as it did. -/
def fieldReadsSpec : ChangeSpec := { name := "fieldReads", fn := fun _ => fun
  | [d] => { results := [.lit (.bool true)], args := [d] }
  | _ => none }
def fieldReadsRow : OpenClaim := { program := "ytmiejdbpogggeaa", sum := "facb45fe7c36c76cc7ccce85e8423c716915b2b3b11b4e1ba360e5b4e2c1a1b2", func := "quarterday/quarterdaylaw11.FieldReads", spec := "fieldReads", inPlace := ["internal/bytealg.IndexByteString"], unfollowed := true, recurses := true, loops := true, apart := false }
def FieldReadsSaid : Prop := fieldReadsRow.holds Try.pinned (OpenSpec.ofChange fieldReadsSpec)

/-- ITS FALSE NEIGHBOUR: 'it returns false'. Refute it at one input. -/
def fieldReadsWrong : ChangeSpec := { name := "fieldReads", fn := fun _ => fun
  | [d] => { results := [.lit (.bool false)], args := [d] }
  | _ => none }
def FieldReadsWrongFalsely : Prop := fieldReadsRow.holds Try.pinned (OpenSpec.ofChange fieldReadsWrong)

/-- 'quarterdaylaw11.FieldRight': WHATEVER THE INPUT: true; the input reads as it did. -/
def fieldRightSpec : ChangeSpec := { name := "fieldRight", fn := fun _ => fun
  | [d] => { results := [.lit (.bool true)], args := [d] }
  | _ => none }
def fieldRightRow : OpenClaim := { program := "ytmiejdbpogggeaa", sum := "facb45fe7c36c76cc7ccce85e8423c716915b2b3b11b4e1ba360e5b4e2c1a1b2", func := "quarterday/quarterdaylaw11.FieldRight", spec := "fieldRight", inPlace := ["internal/bytealg.IndexByteString"], unfollowed := true, recurses := true, loops := true, apart := false }
def FieldRightSaid : Prop := fieldRightRow.holds Try.pinned (OpenSpec.ofChange fieldRightSpec)

/-- ITS FALSE NEIGHBOUR: 'it returns false'. Refute it at one input. -/
def fieldRightWrong : ChangeSpec := { name := "fieldRight", fn := fun _ => fun
  | [d] => { results := [.lit (.bool false)], args := [d] }
  | _ => none }
def FieldRightWrongFalsely : Prop := fieldRightRow.holds Try.pinned (OpenSpec.ofChange fieldRightWrong)

/-- 'quarterdaylaw11.FieldBack': WHATEVER THE INPUT: true; the input reads as it did. -/
def fieldBackSpec : ChangeSpec := { name := "fieldBack", fn := fun _ => fun
  | [d] => { results := [.lit (.bool true)], args := [d] }
  | _ => none }
def fieldBackRow : OpenClaim := { program := "ytmiejdbpogggeaa", sum := "facb45fe7c36c76cc7ccce85e8423c716915b2b3b11b4e1ba360e5b4e2c1a1b2", func := "quarterday/quarterdaylaw11.FieldBack", spec := "fieldBack", inPlace := ["internal/bytealg.IndexByteString"], unfollowed := true, recurses := true, apart := false }
def FieldBackSaid : Prop := fieldBackRow.holds Try.pinned (OpenSpec.ofChange fieldBackSpec)

/-- ITS FALSE NEIGHBOUR: 'it returns false'. Refute it at one input. -/
def fieldBackWrong : ChangeSpec := { name := "fieldBack", fn := fun _ => fun
  | [d] => { results := [.lit (.bool false)], args := [d] }
  | _ => none }
def FieldBackWrongFalsely : Prop := fieldBackRow.holds Try.pinned (OpenSpec.ofChange fieldBackWrong)

/-- 'quarterdaylaw11.FieldOrder': WHATEVER THE INPUT: true; the input reads as it did. -/
def fieldOrderSpec : ChangeSpec := { name := "fieldOrder", fn := fun _ => fun
  | [d1, d2] => { results := [.lit (.bool true)], args := [d1, d2] }
  | _ => none }
def fieldOrderRow : OpenClaim := { program := "ytmiejdbpogggeaa", sum := "facb45fe7c36c76cc7ccce85e8423c716915b2b3b11b4e1ba360e5b4e2c1a1b2", func := "quarterday/quarterdaylaw11.FieldOrder", spec := "fieldOrder", inPlace := ["internal/bytealg.IndexByteString"], unfollowed := true, recurses := true, apart := false }
def FieldOrderSaid : Prop := fieldOrderRow.holds Try.pinned (OpenSpec.ofChange fieldOrderSpec)

/-- ITS FALSE NEIGHBOUR: 'it returns false'. Refute it at one input. -/
def fieldOrderWrong : ChangeSpec := { name := "fieldOrder", fn := fun _ => fun
  | [d1, d2] => { results := [.lit (.bool false)], args := [d1, d2] }
  | _ => none }
def FieldOrderWrongFalsely : Prop := fieldOrderRow.holds Try.pinned (OpenSpec.ofChange fieldOrderWrong)

/-- 'quarterdaylaw11.FieldMiss': WHATEVER THE INPUT: true; the input reads as it did. -/
def fieldMissSpec : ChangeSpec := { name := "fieldMiss", fn := fun _ => fun
  | [d1, d2] => { results := [.lit (.bool true)], args := [d1, d2] }
  | _ => none }
def fieldMissRow : OpenClaim := { program := "ytmiejdbpogggeaa", sum := "facb45fe7c36c76cc7ccce85e8423c716915b2b3b11b4e1ba360e5b4e2c1a1b2", func := "quarterday/quarterdaylaw11.FieldMiss", spec := "fieldMiss", inPlace := ["internal/bytealg.IndexByteString"], unfollowed := true, recurses := true, apart := false }
def FieldMissSaid : Prop := fieldMissRow.holds Try.pinned (OpenSpec.ofChange fieldMissSpec)

/-- ITS FALSE NEIGHBOUR: 'it returns false'. Refute it at one input. -/
def fieldMissWrong : ChangeSpec := { name := "fieldMiss", fn := fun _ => fun
  | [d1, d2] => { results := [.lit (.bool false)], args := [d1, d2] }
  | _ => none }
def FieldMissWrongFalsely : Prop := fieldMissRow.holds Try.pinned (OpenSpec.ofChange fieldMissWrong)

/-- 'quarterdaylaw11.FieldMore': WHATEVER THE INPUT: true; the input reads as it did. -/
def fieldMoreSpec : ChangeSpec := { name := "fieldMore", fn := fun _ => fun
  | [d1, d2, d3] => { results := [.lit (.bool true)], args := [d1, d2, d3] }
  | _ => none }
def fieldMoreRow : OpenClaim := { program := "ytmiejdbpogggeaa", sum := "facb45fe7c36c76cc7ccce85e8423c716915b2b3b11b4e1ba360e5b4e2c1a1b2", func := "quarterday/quarterdaylaw11.FieldMore", spec := "fieldMore", inPlace := ["internal/bytealg.IndexByteString"], unfollowed := true, recurses := true, apart := false }
def FieldMoreSaid : Prop := fieldMoreRow.holds Try.pinned (OpenSpec.ofChange fieldMoreSpec)

/-- ITS FALSE NEIGHBOUR: 'it returns false'. Refute it at one input. -/
def fieldMoreWrong : ChangeSpec := { name := "fieldMore", fn := fun _ => fun
  | [d1, d2, d3] => { results := [.lit (.bool false)], args := [d1, d2, d3] }
  | _ => none }
def FieldMoreWrongFalsely : Prop := fieldMoreRow.holds Try.pinned (OpenSpec.ofChange fieldMoreWrong)

/-- 'quarterdaylaw11.FieldEnds': WHATEVER THE INPUT: true; the input reads as it did. -/
def fieldEndsSpec : ChangeSpec := { name := "fieldEnds", fn := fun _ => fun
  | [d1, d2] => { results := [.lit (.bool true)], args := [d1, d2] }
  | _ => none }
def fieldEndsRow : OpenClaim := { program := "ytmiejdbpogggeaa", sum := "facb45fe7c36c76cc7ccce85e8423c716915b2b3b11b4e1ba360e5b4e2c1a1b2", func := "quarterday/quarterdaylaw11.FieldEnds", spec := "fieldEnds", inPlace := ["internal/bytealg.IndexByteString"], unfollowed := true, recurses := true, apart := false }
def FieldEndsSaid : Prop := fieldEndsRow.holds Try.pinned (OpenSpec.ofChange fieldEndsSpec)

/-- ITS FALSE NEIGHBOUR: 'it returns false'. Refute it at one input. -/
def fieldEndsWrong : ChangeSpec := { name := "fieldEnds", fn := fun _ => fun
  | [d1, d2] => { results := [.lit (.bool false)], args := [d1, d2] }
  | _ => none }
def FieldEndsWrongFalsely : Prop := fieldEndsRow.holds Try.pinned (OpenSpec.ofChange fieldEndsWrong)

/-- 'quarterdaylaw11.FieldTells': WHATEVER THE INPUT: true; the input reads as it did. -/
def fieldTellsSpec : ChangeSpec := { name := "fieldTells", fn := fun _ => fun
  | [d] => { results := [.lit (.bool true)], args := [d] }
  | _ => none }
def fieldTellsRow : OpenClaim := { program := "ytmiejdbpogggeaa", sum := "facb45fe7c36c76cc7ccce85e8423c716915b2b3b11b4e1ba360e5b4e2c1a1b2", func := "quarterday/quarterdaylaw11.FieldTells", spec := "fieldTells", inPlace := ["internal/bytealg.IndexByteString"], unfollowed := true, recurses := true, apart := false }
def FieldTellsSaid : Prop := fieldTellsRow.holds Try.pinned (OpenSpec.ofChange fieldTellsSpec)

/-- ITS FALSE NEIGHBOUR: 'it returns false'. Refute it at one input. -/
def fieldTellsWrong : ChangeSpec := { name := "fieldTells", fn := fun _ => fun
  | [d] => { results := [.lit (.bool false)], args := [d] }
  | _ => none }
def FieldTellsWrongFalsely : Prop := fieldTellsRow.holds Try.pinned (OpenSpec.ofChange fieldTellsWrong)

/- THE SECOND FORM. 'bulk': how many values and letters a reading holds, each counted each time it is reached (what is shared counts as often as it is met; a slice's spare places count too). A statement '..UptoSaid' is the law's where the arguments, and the package variables that the reading takes, are together of bulk at most 1048576: NARROWER than '..Said'. Prove '..Said' where nothing that the law and all that it calls make is longer than what came in: it says more and counts as full. Else prove '..UptoSaid'. A law counts once. -/
mutual
def uptoBulk {H : Type} : DataW H → Nat
  | .lit (.string bytes) => bytes.length + 1
  | .lit _ => 1
  | .nil => 1
  | .ptr d => uptoBulk d + 1
  | .slice elems spare => uptoBulkAll elems + uptoBulkAll spare + 1
  | .agg parts => uptoBulkAll parts + 1
  | .iface _ d => uptoBulk d + 1
  | .map entries => uptoBulkEntries entries + 1
  | .held _ => 1
def uptoBulkAll {H : Type} : List (DataW H) → Nat
  | [] => 0
  | d :: r => uptoBulk d + uptoBulkAll r
def uptoBulkEntries {H : Type} : List (Lit × DataW H) → Nat
  | [] => 0
  | x :: r => uptoBulkEntry x + uptoBulkEntries r
def uptoBulkEntry {H : Type} : Lit × DataW H → Nat
  | (.string bytes, d) => bytes.length + uptoBulk d + 1
  | (_, d) => uptoBulk d + 1
 end
def uptoSmall : (H : Type) → List (DataW H) → Bool := fun _ ds => decide (uptoBulkAll ds ≤ 1048576)
def OpenSpec.upto (s : _root_.Go.ChangeSpec) : _root_.Go.OpenSpec := { _root_.Go.OpenSpec.ofChange s with cond := some uptoSmall }

/-- 'quarterdaylaw11.FieldReads', WHERE WHAT IT READS IS OF BULK AT MOST 1048576: true; the input reads as it did. -/
def fieldReadsUptoRow : OpenClaim := { program := "ytmiejdbpogggeaa", sum := "facb45fe7c36c76cc7ccce85e8423c716915b2b3b11b4e1ba360e5b4e2c1a1b2", func := "quarterday/quarterdaylaw11.FieldReads", spec := "fieldReads", inPlace := ["internal/bytealg.IndexByteString"], unfollowed := true, recurses := true, loops := true, apart := false, narrowed := true }
def FieldReadsUptoSaid : Prop := fieldReadsUptoRow.holds Try.pinned (OpenSpec.upto fieldReadsSpec)

/-- 'quarterdaylaw11.FieldRight', WHERE WHAT IT READS IS OF BULK AT MOST 1048576: true; the input reads as it did. -/
def fieldRightUptoRow : OpenClaim := { program := "ytmiejdbpogggeaa", sum := "facb45fe7c36c76cc7ccce85e8423c716915b2b3b11b4e1ba360e5b4e2c1a1b2", func := "quarterday/quarterdaylaw11.FieldRight", spec := "fieldRight", inPlace := ["internal/bytealg.IndexByteString"], unfollowed := true, recurses := true, loops := true, apart := false, narrowed := true }
def FieldRightUptoSaid : Prop := fieldRightUptoRow.holds Try.pinned (OpenSpec.upto fieldRightSpec)

/-- 'quarterdaylaw11.FieldBack', WHERE WHAT IT READS IS OF BULK AT MOST 1048576: true; the input reads as it did. -/
def fieldBackUptoRow : OpenClaim := { program := "ytmiejdbpogggeaa", sum := "facb45fe7c36c76cc7ccce85e8423c716915b2b3b11b4e1ba360e5b4e2c1a1b2", func := "quarterday/quarterdaylaw11.FieldBack", spec := "fieldBack", inPlace := ["internal/bytealg.IndexByteString"], unfollowed := true, recurses := true, apart := false, narrowed := true }
def FieldBackUptoSaid : Prop := fieldBackUptoRow.holds Try.pinned (OpenSpec.upto fieldBackSpec)

/-- 'quarterdaylaw11.FieldOrder', WHERE WHAT IT READS IS OF BULK AT MOST 1048576: true; the input reads as it did. -/
def fieldOrderUptoRow : OpenClaim := { program := "ytmiejdbpogggeaa", sum := "facb45fe7c36c76cc7ccce85e8423c716915b2b3b11b4e1ba360e5b4e2c1a1b2", func := "quarterday/quarterdaylaw11.FieldOrder", spec := "fieldOrder", inPlace := ["internal/bytealg.IndexByteString"], unfollowed := true, recurses := true, apart := false, narrowed := true }
def FieldOrderUptoSaid : Prop := fieldOrderUptoRow.holds Try.pinned (OpenSpec.upto fieldOrderSpec)

/-- 'quarterdaylaw11.FieldMiss', WHERE WHAT IT READS IS OF BULK AT MOST 1048576: true; the input reads as it did. -/
def fieldMissUptoRow : OpenClaim := { program := "ytmiejdbpogggeaa", sum := "facb45fe7c36c76cc7ccce85e8423c716915b2b3b11b4e1ba360e5b4e2c1a1b2", func := "quarterday/quarterdaylaw11.FieldMiss", spec := "fieldMiss", inPlace := ["internal/bytealg.IndexByteString"], unfollowed := true, recurses := true, apart := false, narrowed := true }
def FieldMissUptoSaid : Prop := fieldMissUptoRow.holds Try.pinned (OpenSpec.upto fieldMissSpec)

/-- 'quarterdaylaw11.FieldMore', WHERE WHAT IT READS IS OF BULK AT MOST 1048576: true; the input reads as it did. -/
def fieldMoreUptoRow : OpenClaim := { program := "ytmiejdbpogggeaa", sum := "facb45fe7c36c76cc7ccce85e8423c716915b2b3b11b4e1ba360e5b4e2c1a1b2", func := "quarterday/quarterdaylaw11.FieldMore", spec := "fieldMore", inPlace := ["internal/bytealg.IndexByteString"], unfollowed := true, recurses := true, apart := false, narrowed := true }
def FieldMoreUptoSaid : Prop := fieldMoreUptoRow.holds Try.pinned (OpenSpec.upto fieldMoreSpec)

/-- 'quarterdaylaw11.FieldEnds', WHERE WHAT IT READS IS OF BULK AT MOST 1048576: true; the input reads as it did. -/
def fieldEndsUptoRow : OpenClaim := { program := "ytmiejdbpogggeaa", sum := "facb45fe7c36c76cc7ccce85e8423c716915b2b3b11b4e1ba360e5b4e2c1a1b2", func := "quarterday/quarterdaylaw11.FieldEnds", spec := "fieldEnds", inPlace := ["internal/bytealg.IndexByteString"], unfollowed := true, recurses := true, apart := false, narrowed := true }
def FieldEndsUptoSaid : Prop := fieldEndsUptoRow.holds Try.pinned (OpenSpec.upto fieldEndsSpec)

/-- 'quarterdaylaw11.FieldTells', WHERE WHAT IT READS IS OF BULK AT MOST 1048576: true; the input reads as it did. -/
def fieldTellsUptoRow : OpenClaim := { program := "ytmiejdbpogggeaa", sum := "facb45fe7c36c76cc7ccce85e8423c716915b2b3b11b4e1ba360e5b4e2c1a1b2", func := "quarterday/quarterdaylaw11.FieldTells", spec := "fieldTells", inPlace := ["internal/bytealg.IndexByteString"], unfollowed := true, recurses := true, apart := false, narrowed := true }
def FieldTellsUptoSaid : Prop := fieldTellsUptoRow.holds Try.pinned (OpenSpec.upto fieldTellsSpec)

end Rows
end Go.Proofs.Ytmiejdbpogggeaa
