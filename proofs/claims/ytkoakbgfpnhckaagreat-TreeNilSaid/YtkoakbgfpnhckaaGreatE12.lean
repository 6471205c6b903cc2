/- A part of the proof layer, or functions of the given program in it: contracts and their proofs. -/
import Derived.Test.YtkoakbgfpnhckaaGreatVx
import Derived.Test.YtkoakbgfpnhckaaGreatRows
namespace Go.Proofs.YtkoakbgfpnhckaaGreat.nothing
set_option linter.unusedSimpArgs false
set_option linter.unnecessarySimpa false
open Go.ChangeShapes Go.WideShapes Go.ChangeAt Go.RowKit Go.V
set_option linter.unusedVariables false
set_option maxRecDepth 100000
theorem j1 : (Rows.treeNilRow.inPlace == Tryz.prog.inPlace 6) = true := by kernel_rfl
theorem j2 : (Rows.treeNilRow.unfollowed == Tryz.prog.unfollowed 6) = true := by kernel_rfl
theorem j3 : (Rows.treeNilRow.recurses == Tryz.prog.recurses 6) = true := by kernel_rfl
theorem j4 : (Rows.treeNilRow.named == Tryz.prog.varsNamed 6) = true := by kernel_rfl
theorem j5 : (laidOutB Tryz.prog && mapsRowed Tryz.prog && Tryz.f6.params.all (Tryz.prog.readableRec ·) && (Tryz.prog.stops == []) && (Tryz.prog.stopKnobs == [])) = true := by kernel_rfl
theorem j6 : ((Rows.treeNilRow.plainKeys == Tryz.prog.plainKeys) && Tryz.prog.stopsHeard && Tryz.prog.mayEnter && (Rows.treeNilRow.lifted == Tryz.prog.liftsFinal) && (Tryz.prog.make == some Rows.treeNilRow.make)) = true := by kernel_rfl
theorem closed : joinedFacts Tryz.prog 6 Tryz.f6 (OpenSpec.ofChange Rows.treeNilSpec).bare Rows.treeNilRow = true := by
 have h5 := j5
 have h6 := j6
 simp only [Bool.and_eq_true] at h5 h6
 obtain ⟨⟨⟨⟨a1, a2⟩, a3⟩, a4⟩, a5⟩ := h5
 obtain ⟨⟨⟨⟨b1, b2⟩, b3⟩, b4⟩, b5⟩ := h6
 unfold joinedFacts
 rw [j1, j2, j3, j4, a1, a2, a3, a4, a5, b1, b2, b3, b4, b5]
 show _ = true
 kernel_rfl
end Go.Proofs.YtkoakbgfpnhckaaGreat.nothing
