/- A part of the proof layer, or functions of the given program in it: contracts and their proofs. -/
import Derived.Test.YthfkoeoaehkoaaaGreatDoorK7a
import Derived.Test.YthfkoeoaehkoaaaGreatDoorK7b
import Derived.Test.YthfkoeoaehkoaaaGreatDoorK7c
import Derived.Test.YthfkoeoaehkoaaaGreatDoorK7d
import Derived.Test.YthfkoeoaehkoaaaGreatDoorVx
import Derived.Test.YthfkoeoaehkoaaaGreatDoorTie
import Derived.Test.YthfkoeoaehkoaaaGreatDoorCards
import Derived.SevenTiedAt
namespace Go.Proofs.YthfkoeoaehkoaaaGreatDoor.words
set_option linter.unusedSimpArgs false
set_option linter.unnecessarySimpa false
open Go.ChangeShapes Go.WideShapes Go.ChangeAt Go.RowKit Go.V
set_option linter.unusedVariables false
set_option maxRecDepth 100000
theorem j5 : (laidOutB Tryz.prog && mapsRowed Tryz.prog && Tryz.f7.params.all (Tryz.prog.readableRec ·) && (Tryz.prog.stops == []) && (Tryz.prog.stopKnobs == [])) = true := by kernel_rfl
theorem j6 : ((Rows.shellWordsRow.plainKeys == Tryz.prog.plainKeys) && Tryz.prog.stopsHeard && Tryz.prog.mayEnter && (Rows.shellWordsRow.lifted == Tryz.prog.liftsFinal) && (Tryz.prog.make == some Rows.shellWordsRow.make)) = true := by kernel_rfl
theorem k1 : Rows.shellWordsRow.wfByText (OpenSpec.ofChange Rows.shellWordsSpec) = true := by kernel_rfl
theorem k2 : Tryz.pinned.checked.prog.mainIs = some (true, "fdbd7503069215aca646033b41418db05f8deeca0ca59d00e4d452c5404236a1".toList) := by kernel_rfl
theorem k4 : false = Rows.shellWordsRow.goesBy Tryz.pinned.checked.prog := by kernel_rfl
theorem k5 : Tryz.prog.funcNamed Rows.shellWordsRow.func = some 7 := by kernel_rfl
theorem closed : joinedFacts Tryz.prog 7 Tryz.f7 (OpenSpec.ofChange Rows.shellWordsSpec).bare Rows.shellWordsRow = true := by
 have h5 := j5
 have h6 := j6
 simp only [Bool.and_eq_true] at h5 h6
 obtain ⟨⟨⟨⟨a1, a2⟩, a3⟩, a4⟩, a5⟩ := h5
 obtain ⟨⟨⟨⟨b1, b2⟩, b3⟩, b4⟩, b5⟩ := h6
 unfold joinedFacts
 rw [j1, j2, j3, j4, a1, a2, a3, a4, a5, b1, b2, b3, b4, b5]
 show _ = true
 kernel_rfl
end Go.Proofs.YthfkoeoaehkoaaaGreatDoor.words
