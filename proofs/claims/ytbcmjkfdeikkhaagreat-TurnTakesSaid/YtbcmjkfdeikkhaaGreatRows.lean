/-
  No cell of these rows narrows 'for every input' (looked for: loops, veiled, ifaces, maps, wideKeys, modest, calm, conditions, laid).
  DERIVED. THE GIVEN ROWS OF THIS SEAT. 3 by the template 'for every input the law returns true; each argument reads behind the call as it read before'; 0 by the template 'total and deterministic' (their statements: YtbcmjkfdeikkhaaGreatTotals.lean).
  GIVEN WITH THE SEED: the statements are not yours to turn. If you find one false, say at which input.
  Laid BY PROGRAM, IN A SANDBOX (cutbox-rows.mjs): the forced cells as the released guide's own fill.sh prints them over the translation 2aa2df48a8d28a07… (all of the seat's roots in one cut). By AI agents, Wed Nov 11 2026. No macro, syntax, notation, axiom, sorry.
-/
import Derived.Test.YtbcmjkfdeikkhaaGreatChecked
import GoSem.Claim
import GoSem.ClaimJoined
import GoSem.ClaimMapViews
import Derived.JoinedTies
import Derived.KernelRfl
namespace Go.Proofs.YtbcmjkfdeikkhaaGreat
/- THE CELL 'sum', in the pinned program and in every row, IS THE sha256 OF THE DUMP (.gsa) THAT YtbcmjkfdeikkhaaGreatProg.lean LOADS. Nothing in Lean hashes anything: it is a label: what it is worth is what the hold of that sum in a sandbox is worth. -/
noncomputable def Tryz.pinned : Pinned := { name := "ytbcmjkfdeikkhaagreat", sum := "2aa2df48a8d28a0736a22a11ff54d372c246bed86d08b67c9e4a06aaa8d69d42", checked := Tryz.checked }
namespace Rows
def none {H : Type} : Left H := { results := [], args := [] }

/-- 'reevelaw20.TurnLetters': WHATEVER THE INPUT: true; the input reads as it did. -/
def turnLettersSpec : ChangeSpec := { name := "turnLetters", fn := fun _ => fun
  | [d1, d2, d3] => { results := [.lit (.bool true)], args := [d1, d2, d3] }
  | _ => none }
def turnLettersRow : OpenClaim := { program := "ytbcmjkfdeikkhaagreat", sum := "2aa2df48a8d28a0736a22a11ff54d372c246bed86d08b67c9e4a06aaa8d69d42", func := "reeve/reevelaw20.TurnLetters", spec := "turnLetters", unfollowed := true, recurses := true, apart := false }
def TurnLettersSaid : Prop := turnLettersRow.holds Tryz.pinned (OpenSpec.ofChange turnLettersSpec)

/-- ITS FALSE NEIGHBOUR: 'it returns false'. Refute it at one input. -/
def turnLettersWrong : ChangeSpec := { name := "turnLetters", fn := fun _ => fun
  | [d1, d2, d3] => { results := [.lit (.bool false)], args := [d1, d2, d3] }
  | _ => none }
def TurnLettersWrongFalsely : Prop := turnLettersRow.holds Tryz.pinned (OpenSpec.ofChange turnLettersWrong)

/-- 'reevelaw20.TurnTakes': WHATEVER THE INPUT: true; the input reads as it did. -/
def turnTakesSpec : ChangeSpec := { name := "turnTakes", fn := fun _ => fun
  | [d1, d2, d3, d4] => { results := [.lit (.bool true)], args := [d1, d2, d3, d4] }
  | _ => none }
def turnTakesRow : OpenClaim := { program := "ytbcmjkfdeikkhaagreat", sum := "2aa2df48a8d28a0736a22a11ff54d372c246bed86d08b67c9e4a06aaa8d69d42", func := "reeve/reevelaw20.TurnTakes", spec := "turnTakes", unfollowed := true, recurses := true, apart := false }
def TurnTakesSaid : Prop := turnTakesRow.holds Tryz.pinned (OpenSpec.ofChange turnTakesSpec)

/-- ITS FALSE NEIGHBOUR: 'it returns false'. Refute it at one input. -/
def turnTakesWrong : ChangeSpec := { name := "turnTakes", fn := fun _ => fun
  | [d1, d2, d3, d4] => { results := [.lit (.bool false)], args := [d1, d2, d3, d4] }
  | _ => none }
def TurnTakesWrongFalsely : Prop := turnTakesRow.holds Tryz.pinned (OpenSpec.ofChange turnTakesWrong)

/-- 'reevelaw20.TurnCopies': WHATEVER THE INPUT: true; the input reads as it did. -/
def turnCopiesSpec : ChangeSpec := { name := "turnCopies", fn := fun _ => fun
  | [d1, d2, d3] => { results := [.lit (.bool true)], args := [d1, d2, d3] }
  | _ => none }
def turnCopiesRow : OpenClaim := { program := "ytbcmjkfdeikkhaagreat", sum := "2aa2df48a8d28a0736a22a11ff54d372c246bed86d08b67c9e4a06aaa8d69d42", func := "reeve/reevelaw20.TurnCopies", spec := "turnCopies", unfollowed := true, recurses := true, apart := false }
def TurnCopiesSaid : Prop := turnCopiesRow.holds Tryz.pinned (OpenSpec.ofChange turnCopiesSpec)

/-- ITS FALSE NEIGHBOUR: 'it returns false'. Refute it at one input. -/
def turnCopiesWrong : ChangeSpec := { name := "turnCopies", fn := fun _ => fun
  | [d1, d2, d3] => { results := [.lit (.bool false)], args := [d1, d2, d3] }
  | _ => none }
def TurnCopiesWrongFalsely : Prop := turnCopiesRow.holds Tryz.pinned (OpenSpec.ofChange turnCopiesWrong)

/- THE SECOND FORM. 'bulk': how many values and letters a reading holds, each counted each time it is reached (what is shared counts as often as it is met; a slice's spare places count too). A statement '..UptoSaid' is the law's where the arguments, and the package variables that the reading takes, are together of bulk at most 1048576: NARROWER than '..Said'. Prove '..Said' where nothing that the law and all that it calls make is longer than what came in: it says more and counts as full. Else prove '..UptoSaid'. A law counts once. -/
mutual
def uptoBulk {H : Type} : DataW H → Nat
  | .lit (.string bytes) => bytes.length + 1
  | .lit _ => 1
  | .nil => 1
  | .ptr d => uptoBulk d + 1
  | .slice elems spare => uptoBulkAll elems + uptoBulkAll spare + 1
  | .agg parts => uptoBulkAll parts + 1
  | .iface _ d => uptoBulk d + 1
  | .map entries => uptoBulkEntries entries + 1
  | .held _ => 1
def uptoBulkAll {H : Type} : List (DataW H) → Nat
  | [] => 0
  | d :: r => uptoBulk d + uptoBulkAll r
def uptoBulkEntries {H : Type} : List (Lit × DataW H) → Nat
  | [] => 0
  | x :: r => uptoBulkEntry x + uptoBulkEntries r
def uptoBulkEntry {H : Type} : Lit × DataW H → Nat
  | (.string bytes, d) => bytes.length + uptoBulk d + 1
  | (_, d) => uptoBulk d + 1
 end
def uptoSmall : (H : Type) → List (DataW H) → Bool := fun _ ds => decide (uptoBulkAll ds ≤ 1048576)
def OpenSpec.upto (s : _root_.Go.ChangeSpec) : _root_.Go.OpenSpec := { _root_.Go.OpenSpec.ofChange s with cond := some uptoSmall }

/-- 'reevelaw20.TurnLetters', WHERE WHAT IT READS IS OF BULK AT MOST 1048576: true; the input reads as it did. -/
def turnLettersUptoRow : OpenClaim := { program := "ytbcmjkfdeikkhaagreat", sum := "2aa2df48a8d28a0736a22a11ff54d372c246bed86d08b67c9e4a06aaa8d69d42", func := "reeve/reevelaw20.TurnLetters", spec := "turnLetters", unfollowed := true, recurses := true, apart := false, narrowed := true }
def TurnLettersUptoSaid : Prop := turnLettersUptoRow.holds Tryz.pinned (OpenSpec.upto turnLettersSpec)

/-- 'reevelaw20.TurnTakes', WHERE WHAT IT READS IS OF BULK AT MOST 1048576: true; the input reads as it did. -/
def turnTakesUptoRow : OpenClaim := { program := "ytbcmjkfdeikkhaagreat", sum := "2aa2df48a8d28a0736a22a11ff54d372c246bed86d08b67c9e4a06aaa8d69d42", func := "reeve/reevelaw20.TurnTakes", spec := "turnTakes", unfollowed := true, recurses := true, apart := false, narrowed := true }
def TurnTakesUptoSaid : Prop := turnTakesUptoRow.holds Tryz.pinned (OpenSpec.upto turnTakesSpec)

/-- 'reevelaw20.TurnCopies', WHERE WHAT IT READS IS OF BULK AT MOST 1048576: true; the input reads as it did. -/
def turnCopiesUptoRow : OpenClaim := { program := "ytbcmjkfdeikkhaagreat", sum := "2aa2df48a8d28a0736a22a11ff54d372c246bed86d08b67c9e4a06aaa8d69d42", func := "reeve/reevelaw20.TurnCopies", spec := "turnCopies", unfollowed := true, recurses := true, apart := false, narrowed := true }
def TurnCopiesUptoSaid : Prop := turnCopiesUptoRow.holds Tryz.pinned (OpenSpec.upto turnCopiesSpec)

end Rows
end Go.Proofs.YtbcmjkfdeikkhaaGreat
