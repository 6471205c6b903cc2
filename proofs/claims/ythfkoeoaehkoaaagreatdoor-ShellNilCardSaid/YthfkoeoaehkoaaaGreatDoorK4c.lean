/- A part of the proof layer, or functions of the given program in it: contracts and their proofs. -/
import Derived.Test.YthfkoeoaehkoaaaGreatDoorVx
import Derived.Test.YthfkoeoaehkoaaaGreatDoorTie
import Derived.Test.YthfkoeoaehkoaaaGreatDoorCards
import Derived.SevenTiedAt
namespace Go.Proofs.YthfkoeoaehkoaaaGreatDoor.nothing
set_option linter.unusedSimpArgs false
set_option linter.unnecessarySimpa false
open Go.ChangeShapes Go.WideShapes Go.ChangeAt Go.RowKit Go.V
set_option linter.unusedVariables false
set_option maxRecDepth 100000
theorem j3 : (Rows.shellNilRow.recurses == Tryz.prog.recurses 4) = true := by kernel_rfl
end Go.Proofs.YthfkoeoaehkoaaaGreatDoor.nothing
