/- A part of the proof layer, or functions of the given program in it: contracts and their proofs. -/
import Derived.Test.YtbcmjkfdeikkhaaA1
import Derived.Test.YtbcmjkfdeikkhaaN3
namespace Go.V
open Go.Proofs
set_option maxRecDepth 100000
set_option linter.unusedSimpArgs false
set_option linter.unnecessarySimpa false
set_option linter.unusedVariables false
/-- All -/
def A28 (o : ByteArray) (l : List OutT.den) (m : List (ByteArray × Int)) : LoopAnn := {
  G := Nat
  I := fun i => ⟨[(3, .own 3), (11, .own 1), (12, .int .i64 l.length), (13, .int .i64 i)], [.struct [.str o, .own 1, .mp 2], .row false 72 OutT l, .map false .str (.int .u64) m, .row true 72 OutT (l.take i)]⟩
  R := fun _ i => i ≤ l.length
  μ := fun i => l.length - i }
end Go.V
