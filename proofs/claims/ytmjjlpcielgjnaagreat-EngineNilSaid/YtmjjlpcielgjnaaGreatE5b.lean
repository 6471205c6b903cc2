/- A part of the proof layer, or functions of the given program in it: contracts and their proofs. -/
import Derived.Test.YtmjjlpcielgjnaaGreatVx
import Derived.Test.YtmjjlpcielgjnaaGreatRows
namespace Go.Proofs.YtmjjlpcielgjnaaGreat.nothing
set_option linter.unusedSimpArgs false
set_option linter.unnecessarySimpa false
open Go.ChangeShapes Go.WideShapes Go.ChangeAt Go.RowKit Go.V
set_option linter.unusedVariables false
set_option maxRecDepth 100000
theorem j1 : (Rows.engineNilRow.inPlace == Tryz.prog.inPlace 3) = true := by kernel_rfl
theorem j2 : (Rows.engineNilRow.unfollowed == Tryz.prog.unfollowed 3) = true := by kernel_rfl
theorem j3 : (Rows.engineNilRow.recurses == Tryz.prog.recurses 3) = true := by kernel_rfl
theorem j4 : (Rows.engineNilRow.named == Tryz.prog.varsNamed 3) = true := by kernel_rfl
theorem j5 : (laidOutB Tryz.prog && mapsRowed Tryz.prog && Tryz.f3.params.all (Tryz.prog.readableRec ·) && (Tryz.prog.stops == []) && (Tryz.prog.stopKnobs == [])) = true := by kernel_rfl
theorem j6 : ((Rows.engineNilRow.plainKeys == Tryz.prog.plainKeys) && Tryz.prog.stopsHeard && Tryz.prog.mayEnter && (Rows.engineNilRow.lifted == Tryz.prog.liftsFinal) && (Tryz.prog.make == some Rows.engineNilRow.make)) = true := by kernel_rfl
theorem closed : joinedFacts Tryz.prog 3 Tryz.f3 (OpenSpec.ofChange Rows.engineNilSpec).bare Rows.engineNilRow = true := by
 have h5 := j5
 have h6 := j6
 simp only [Bool.and_eq_true] at h5 h6
 obtain ⟨⟨⟨⟨a1, a2⟩, a3⟩, a4⟩, a5⟩ := h5
 obtain ⟨⟨⟨⟨b1, b2⟩, b3⟩, b4⟩, b5⟩ := h6
 unfold joinedFacts
 rw [j1, j2, j3, j4, a1, a2, a3, a4, a5, b1, b2, b3, b4, b5]
 show _ = true
 kernel_rfl
end Go.Proofs.YtmjjlpcielgjnaaGreat.nothing
