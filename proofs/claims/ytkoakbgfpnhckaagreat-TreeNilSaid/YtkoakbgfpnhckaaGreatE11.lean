/- A part of the proof layer, or functions of the given program in it: contracts and their proofs. -/
import Derived.Test.YtkoakbgfpnhckaaGreatME8
import Derived.Test.YtkoakbgfpnhckaaGreatX2
namespace Go.V
set_option linter.unusedSimpArgs false
set_option linter.unnecessarySimpa false
open Go.Proofs
set_option maxRecDepth 100000
set_option linter.unusedVariables false
attribute [local irreducible] rc
def Rn : Run := runF XT 10000 100
theorem rn_sound (f : Nat) : Sound Tryz.prog f (CX Rn f) := runF_sound XT_ok 10000 100 f
theorem isTrue_eq {o : Outs (SV × List SB)} (h : isTrue o = true) : o = some [(.bool true, [])] := by
 unfold isTrue at h
 split at h
 ·rfl
 ·cases h
theorem s9 : Sound Tryz.prog 9 C9 := by
 intro args hp K h
 unfold C9 at h
 split at h
 ·exact rn_sound 9 _ _ K ⟨_, isTrue_eq run9, by simpa using h⟩
 ·exact h.elim
theorem s6 : Sound Tryz.prog 6 C6 := s6_of s9 (callable_of_okF xk9)
end Go.V
