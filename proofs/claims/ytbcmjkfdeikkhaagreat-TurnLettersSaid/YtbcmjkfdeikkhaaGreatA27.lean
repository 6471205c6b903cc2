/- A part of the proof layer, or functions of the given program in it: contracts and their proofs. -/
import Derived.Test.YtbcmjkfdeikkhaaGreatA26
namespace Go.V
open Go.Proofs
set_option maxRecDepth 100000
set_option linter.unusedSimpArgs false
set_option linter.unnecessarySimpa false
set_option linter.unusedVariables false
def lastsE (ls : List LastT.den) : List UInt8 := ls.flatMap fun x => textB x.1 ++ numB x.2
def outR (o : ByteArray) (L : List OutT.den) (ls : List LastT.den) : List UInt8 := textB o ++ numB ls.length ++ lastsE ls ++ numB L.length ++ outsE L
end Go.V
