/- A part of the proof layer, or functions of the given program in it: contracts and their proofs. -/
import Derived.Test.YthfkoeoaehkoaaaGreatDoorK4a
import Derived.Test.YthfkoeoaehkoaaaGreatDoorK4b
import Derived.Test.YthfkoeoaehkoaaaGreatDoorK4c
import Derived.Test.YthfkoeoaehkoaaaGreatDoorK4d
import Derived.Test.YthfkoeoaehkoaaaGreatDoorVx
import Derived.Test.YthfkoeoaehkoaaaGreatDoorTie
import Derived.Test.YthfkoeoaehkoaaaGreatDoorCards
import Derived.SevenTiedAt
namespace Go.Proofs.YthfkoeoaehkoaaaGreatDoor.nothing
set_option linter.unusedSimpArgs false
set_option linter.unnecessarySimpa false
open Go.ChangeShapes Go.WideShapes Go.ChangeAt Go.RowKit Go.V
set_option linter.unusedVariables false
set_option maxRecDepth 100000
theorem j5 : (laidOutB Tryz.prog && mapsRowed Tryz.prog && Tryz.f4.params.all (Tryz.prog.readableRec ·) && (Tryz.prog.stops == []) && (Tryz.prog.stopKnobs == [])) = true := by kernel_rfl
theorem j6 : ((Rows.shellNilRow.plainKeys == Tryz.prog.plainKeys) && Tryz.prog.stopsHeard && Tryz.prog.mayEnter && (Rows.shellNilRow.lifted == Tryz.prog.liftsFinal) && (Tryz.prog.make == some Rows.shellNilRow.make)) = true := by kernel_rfl
theorem k1 : Rows.shellNilRow.wfByText (OpenSpec.ofChange Rows.shellNilSpec) = true := by kernel_rfl
theorem k2 : Tryz.pinned.checked.prog.mainIs = some (true, "fdbd7503069215aca646033b41418db05f8deeca0ca59d00e4d452c5404236a1".toList) := by kernel_rfl
theorem k4 : false = Rows.shellNilRow.goesBy Tryz.pinned.checked.prog := by kernel_rfl
theorem k5 : Tryz.prog.funcNamed Rows.shellNilRow.func = some 4 := by kernel_rfl
theorem closed : joinedFacts Tryz.prog 4 Tryz.f4 (OpenSpec.ofChange Rows.shellNilSpec).bare Rows.shellNilRow = true := by
 have h5 := j5
 have h6 := j6
 simp only [Bool.and_eq_true] at h5 h6
 obtain ⟨⟨⟨⟨a1, a2⟩, a3⟩, a4⟩, a5⟩ := h5
 obtain ⟨⟨⟨⟨b1, b2⟩, b3⟩, b4⟩, b5⟩ := h6
 unfold joinedFacts
 rw [j1, j2, j3, j4, a1, a2, a3, a4, a5, b1, b2, b3, b4, b5]
 show _ = true
 kernel_rfl
end Go.Proofs.YthfkoeoaehkoaaaGreatDoor.nothing
