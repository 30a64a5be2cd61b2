/- Layer 11 (field), in plain Lean: how a block of a calendar's keys is read. -/
import Derived.Test.YtjbniichcopnlaaGreatDoorPkS41
set_option linter.unusedVariables false
set_option linter.unusedSimpArgs false
set_option maxRecDepth 100000
namespace Go.Proofs.YtjbniichcopnlaaGreatDoor
section
variable {c : CalL} {l : List NodeL}
end
end Go.Proofs.YtjbniichcopnlaaGreatDoor
