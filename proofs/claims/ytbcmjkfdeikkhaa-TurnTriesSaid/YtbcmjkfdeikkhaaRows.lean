/-
  No cell of these rows narrows 'for every input' (looked for: loops, veiled, ifaces, maps, wideKeys, modest, calm, conditions, laid).
  DERIVED. THE GIVEN ROWS OF THIS SEAT. 5 by the template 'for every input the law returns true; each argument reads behind the call as it read before'; 0 by the template 'total and deterministic' (their statements: YtbcmjkfdeikkhaaTotals.lean).
  GIVEN WITH THE SEED: the statements are not yours to turn. If you find one false, say at which input.
  Laid BY PROGRAM, IN A SANDBOX (cutbox-rows.mjs): the forced cells as the released guide's own fill.sh prints them over the translation 63962df7b9b803cd… (all of the seat's roots in one cut). By AI agents, Wed Nov 11 2026. No macro, syntax, notation, axiom, sorry.
-/
import Derived.Test.YtbcmjkfdeikkhaaChecked
import GoSem.Claim
import GoSem.ClaimJoined
import GoSem.ClaimMapViews
import Derived.JoinedTies
import Derived.KernelRfl
namespace Go.Proofs.Ytbcmjkfdeikkhaa
/- THE CELL 'sum', in the pinned program and in every row, IS THE sha256 OF THE DUMP (.gsa) THAT YtbcmjkfdeikkhaaProg.lean LOADS. Nothing in Lean hashes anything: it is a label: what it is worth is what the hold of that sum in a sandbox is worth. -/
noncomputable def Try.pinned : Pinned := { name := "ytbcmjkfdeikkhaa", sum := "63962df7b9b803cd15709ae2508a2f162b034fd9db589b8ee248d5303a100c9d", checked := Try.checked }
namespace Rows
def none {H : Type} : Left H := { results := [], args := [] }

/-- 'reevelaw19.ActorEncodes': WHATEVER THE INPUT: true; the input reads as it did. -/
def actorEncodesSpec : ChangeSpec := { name := "actorEncodes", fn := fun _ => fun
  | [d1, d2, d3, d4, d5, d6] => { results := [.lit (.bool true)], args := [d1, d2, d3, d4, d5, d6] }
  | _ => none }
def actorEncodesRow : OpenClaim := { program := "ytbcmjkfdeikkhaa", sum := "63962df7b9b803cd15709ae2508a2f162b034fd9db589b8ee248d5303a100c9d", func := "reeve/reevelaw19.ActorEncodes", spec := "actorEncodes", unfollowed := true, recurses := true, apart := false }
def ActorEncodesSaid : Prop := actorEncodesRow.holds Try.pinned (OpenSpec.ofChange actorEncodesSpec)

/-- ITS FALSE NEIGHBOUR: 'it returns false'. Refute it at one input. -/
def actorEncodesWrong : ChangeSpec := { name := "actorEncodes", fn := fun _ => fun
  | [d1, d2, d3, d4, d5, d6] => { results := [.lit (.bool false)], args := [d1, d2, d3, d4, d5, d6] }
  | _ => none }
def ActorEncodesWrongFalsely : Prop := actorEncodesRow.holds Try.pinned (OpenSpec.ofChange actorEncodesWrong)

/-- 'reevelaw19.ActorParts': WHATEVER THE INPUT: true; the input reads as it did. -/
def actorPartsSpec : ChangeSpec := { name := "actorParts", fn := fun _ => fun
  | [d1, d2, d3] => { results := [.lit (.bool true)], args := [d1, d2, d3] }
  | _ => none }
def actorPartsRow : OpenClaim := { program := "ytbcmjkfdeikkhaa", sum := "63962df7b9b803cd15709ae2508a2f162b034fd9db589b8ee248d5303a100c9d", func := "reeve/reevelaw19.ActorParts", spec := "actorParts", unfollowed := true, recurses := true, apart := false }
def ActorPartsSaid : Prop := actorPartsRow.holds Try.pinned (OpenSpec.ofChange actorPartsSpec)

/-- ITS FALSE NEIGHBOUR: 'it returns false'. Refute it at one input. -/
def actorPartsWrong : ChangeSpec := { name := "actorParts", fn := fun _ => fun
  | [d1, d2, d3] => { results := [.lit (.bool false)], args := [d1, d2, d3] }
  | _ => none }
def ActorPartsWrongFalsely : Prop := actorPartsRow.holds Try.pinned (OpenSpec.ofChange actorPartsWrong)

/-- 'reevelaw20.TurnNil': WHATEVER THE INPUT: true; the input reads as it did. -/
def turnNilSpec : ChangeSpec := { name := "turnNil", fn := fun _ => fun
  | [d1, d2] => { results := [.lit (.bool true)], args := [d1, d2] }
  | _ => none }
def turnNilRow : OpenClaim := { program := "ytbcmjkfdeikkhaa", sum := "63962df7b9b803cd15709ae2508a2f162b034fd9db589b8ee248d5303a100c9d", func := "reeve/reevelaw20.TurnNil", spec := "turnNil", unfollowed := true, recurses := true, apart := false }
def TurnNilSaid : Prop := turnNilRow.holds Try.pinned (OpenSpec.ofChange turnNilSpec)

/-- ITS FALSE NEIGHBOUR: 'it returns false'. Refute it at one input. -/
def turnNilWrong : ChangeSpec := { name := "turnNil", fn := fun _ => fun
  | [d1, d2] => { results := [.lit (.bool false)], args := [d1, d2] }
  | _ => none }
def TurnNilWrongFalsely : Prop := turnNilRow.holds Try.pinned (OpenSpec.ofChange turnNilWrong)

/-- 'reevelaw20.TurnTries': WHATEVER THE INPUT: true; the input reads as it did. -/
def turnTriesSpec : ChangeSpec := { name := "turnTries", fn := fun _ => fun
  | [d1, d2] => { results := [.lit (.bool true)], args := [d1, d2] }
  | _ => none }
def turnTriesRow : OpenClaim := { program := "ytbcmjkfdeikkhaa", sum := "63962df7b9b803cd15709ae2508a2f162b034fd9db589b8ee248d5303a100c9d", func := "reeve/reevelaw20.TurnTries", spec := "turnTries", unfollowed := true, recurses := true, apart := false }
def TurnTriesSaid : Prop := turnTriesRow.holds Try.pinned (OpenSpec.ofChange turnTriesSpec)

/-- ITS FALSE NEIGHBOUR: 'it returns false'. Refute it at one input. -/
def turnTriesWrong : ChangeSpec := { name := "turnTries", fn := fun _ => fun
  | [d1, d2] => { results := [.lit (.bool false)], args := [d1, d2] }
  | _ => none }
def TurnTriesWrongFalsely : Prop := turnTriesRow.holds Try.pinned (OpenSpec.ofChange turnTriesWrong)

/-- 'reevelaw20.TurnFull': WHATEVER THE INPUT: true; the input reads as it did. -/
def turnFullSpec : ChangeSpec := { name := "turnFull", fn := fun _ => fun
  | [d1, d2] => { results := [.lit (.bool true)], args := [d1, d2] }
  | _ => none }
def turnFullRow : OpenClaim := { program := "ytbcmjkfdeikkhaa", sum := "63962df7b9b803cd15709ae2508a2f162b034fd9db589b8ee248d5303a100c9d", func := "reeve/reevelaw20.TurnFull", spec := "turnFull", unfollowed := true, recurses := true, apart := false }
def TurnFullSaid : Prop := turnFullRow.holds Try.pinned (OpenSpec.ofChange turnFullSpec)

/-- ITS FALSE NEIGHBOUR: 'it returns false'. Refute it at one input. -/
def turnFullWrong : ChangeSpec := { name := "turnFull", fn := fun _ => fun
  | [d1, d2] => { results := [.lit (.bool false)], args := [d1, d2] }
  | _ => none }
def TurnFullWrongFalsely : Prop := turnFullRow.holds Try.pinned (OpenSpec.ofChange turnFullWrong)

/- THE SECOND FORM. 'bulk': how many values and letters a reading holds, each counted each time it is reached (what is shared counts as often as it is met; a slice's spare places count too). A statement '..UptoSaid' is the law's where the arguments, and the package variables that the reading takes, are together of bulk at most 1048576: NARROWER than '..Said'. Prove '..Said' where nothing that the law and all that it calls make is longer than what came in: it says more and counts as full. Else prove '..UptoSaid'. A law counts once. -/
mutual
def uptoBulk {H : Type} : DataW H → Nat
  | .lit (.string bytes) => bytes.length + 1
  | .lit _ => 1
  | .nil => 1
  | .ptr d => uptoBulk d + 1
  | .slice elems spare => uptoBulkAll elems + uptoBulkAll spare + 1
  | .agg parts => uptoBulkAll parts + 1
  | .iface _ d => uptoBulk d + 1
  | .map entries => uptoBulkEntries entries + 1
  | .held _ => 1
def uptoBulkAll {H : Type} : List (DataW H) → Nat
  | [] => 0
  | d :: r => uptoBulk d + uptoBulkAll r
def uptoBulkEntries {H : Type} : List (Lit × DataW H) → Nat
  | [] => 0
  | x :: r => uptoBulkEntry x + uptoBulkEntries r
def uptoBulkEntry {H : Type} : Lit × DataW H → Nat
  | (.string bytes, d) => bytes.length + uptoBulk d + 1
  | (_, d) => uptoBulk d + 1
 end
def uptoSmall : (H : Type) → List (DataW H) → Bool := fun _ ds => decide (uptoBulkAll ds ≤ 1048576)
def OpenSpec.upto (s : _root_.Go.ChangeSpec) : _root_.Go.OpenSpec := { _root_.Go.OpenSpec.ofChange s with cond := some uptoSmall }

/-- 'reevelaw19.ActorEncodes', WHERE WHAT IT READS IS OF BULK AT MOST 1048576: true; the input reads as it did. -/
def actorEncodesUptoRow : OpenClaim := { program := "ytbcmjkfdeikkhaa", sum := "63962df7b9b803cd15709ae2508a2f162b034fd9db589b8ee248d5303a100c9d", func := "reeve/reevelaw19.ActorEncodes", spec := "actorEncodes", unfollowed := true, recurses := true, apart := false, narrowed := true }
def ActorEncodesUptoSaid : Prop := actorEncodesUptoRow.holds Try.pinned (OpenSpec.upto actorEncodesSpec)

/-- 'reevelaw19.ActorParts', WHERE WHAT IT READS IS OF BULK AT MOST 1048576: true; the input reads as it did. -/
def actorPartsUptoRow : OpenClaim := { program := "ytbcmjkfdeikkhaa", sum := "63962df7b9b803cd15709ae2508a2f162b034fd9db589b8ee248d5303a100c9d", func := "reeve/reevelaw19.ActorParts", spec := "actorParts", unfollowed := true, recurses := true, apart := false, narrowed := true }
def ActorPartsUptoSaid : Prop := actorPartsUptoRow.holds Try.pinned (OpenSpec.upto actorPartsSpec)

/-- 'reevelaw20.TurnNil', WHERE WHAT IT READS IS OF BULK AT MOST 1048576: true; the input reads as it did. -/
def turnNilUptoRow : OpenClaim := { program := "ytbcmjkfdeikkhaa", sum := "63962df7b9b803cd15709ae2508a2f162b034fd9db589b8ee248d5303a100c9d", func := "reeve/reevelaw20.TurnNil", spec := "turnNil", unfollowed := true, recurses := true, apart := false, narrowed := true }
def TurnNilUptoSaid : Prop := turnNilUptoRow.holds Try.pinned (OpenSpec.upto turnNilSpec)

/-- 'reevelaw20.TurnTries', WHERE WHAT IT READS IS OF BULK AT MOST 1048576: true; the input reads as it did. -/
def turnTriesUptoRow : OpenClaim := { program := "ytbcmjkfdeikkhaa", sum := "63962df7b9b803cd15709ae2508a2f162b034fd9db589b8ee248d5303a100c9d", func := "reeve/reevelaw20.TurnTries", spec := "turnTries", unfollowed := true, recurses := true, apart := false, narrowed := true }
def TurnTriesUptoSaid : Prop := turnTriesUptoRow.holds Try.pinned (OpenSpec.upto turnTriesSpec)

/-- 'reevelaw20.TurnFull', WHERE WHAT IT READS IS OF BULK AT MOST 1048576: true; the input reads as it did. -/
def turnFullUptoRow : OpenClaim := { program := "ytbcmjkfdeikkhaa", sum := "63962df7b9b803cd15709ae2508a2f162b034fd9db589b8ee248d5303a100c9d", func := "reeve/reevelaw20.TurnFull", spec := "turnFull", unfollowed := true, recurses := true, apart := false, narrowed := true }
def TurnFullUptoSaid : Prop := turnFullUptoRow.holds Try.pinned (OpenSpec.upto turnFullSpec)

end Rows
end Go.Proofs.Ytbcmjkfdeikkhaa
