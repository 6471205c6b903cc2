/- A part of the proof layer, or functions of the given program in it: contracts and their proofs. -/
import Derived.Test.YtbcmjkfdeikkhaaA45
namespace Go.V
open Go.Proofs
set_option maxRecDepth 100000
set_option maxHeartbeats 4000000
set_option linter.unusedSimpArgs false
set_option linter.unnecessarySimpa false
set_option linter.unusedVariables false
/-! ### both actors, made of parts -/
structure GoodA (S : ActS) (ls : List LastT.den) (B : Int) : Prop where
  b8 : S.b.length = 8
  ev : S.ev.all okEv = true
  e16 : S.ev.length ≤ 16
  in8 : S.inb.length ≤ 8
  inf : S.inb.all fmL = true
  inv : Inv S.o S.l ls B
  rel : Rel S.m ls
theorem GoodA.ok {S : ActS} {ls : List LastT.den} {B : Int} (h : GoodA S ls B) : OkA S := ⟨h.b8, h.ev, h.e16, h.in8, h.inf, h.inv.outOk.rel h.inv.keys h.rel⟩
end Go.V
