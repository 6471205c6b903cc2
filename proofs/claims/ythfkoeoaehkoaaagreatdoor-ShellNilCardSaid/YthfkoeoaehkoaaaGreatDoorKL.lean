/- A part of the proof layer, or functions of the given program in it: contracts and their proofs. -/
import Derived.Test.YthfkoeoaehkoaaaGreatDoorRows
import Derived.SevenTiedAt
namespace Go.V
set_option linter.unusedSimpArgs false
set_option linter.unnecessarySimpa false
open Go.Proofs Go.Proofs.YthfkoeoaehkoaaaGreatDoor
set_option maxRecDepth 100000
theorem looks_all : true = Tryz.pinned.checked.prog.looks [] := by kernel_rfl
end Go.V
