/- A part of the proof layer, or functions of the given program in it: contracts and their proofs. -/
import Derived.Test.YthfkoeoaehkoaaaGreatDoorX1
namespace Go.V
set_option linter.unusedSimpArgs false
set_option linter.unnecessarySimpa false
def isTrue (o : Outs (SV × List SB)) : Bool := match o with
 | some [(.bool true, [])] => true
 | _ => false
set_option maxRecDepth 100000
theorem run9 : isTrue (runF XT 10000 100 9 [] []) = true := by decide +kernel
end Go.V
