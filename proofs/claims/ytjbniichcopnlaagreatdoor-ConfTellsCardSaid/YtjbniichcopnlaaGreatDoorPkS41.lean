/- Layer 11 (field), in plain Lean: a calendar's block is read as the calendar: the end, the other keys. Then: Layer 11 (field), in plain Lean: the keys of a calendar's block, in whatever order, lead to the calendar. Then: Layer 11 (field), in plain Lean: a block of a calendar's keys, in whatever order, is read as the calendar. -/
import Derived.Test.YtjbniichcopnlaaGreatDoorPkS40
set_option linter.unusedVariables false
set_option maxRecDepth 100000
namespace Go.Proofs.YtjbniichcopnlaaGreatDoor
section

end
section
section
variable {c : CalL} {l : List NodeL}
end
end
section
set_option linter.unusedSimpArgs false

end
end Go.Proofs.YtjbniichcopnlaaGreatDoor
