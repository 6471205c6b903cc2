/-
  No cell of these rows narrows 'for every input' (looked for: loops, veiled, ifaces, maps, wideKeys, modest, calm, conditions, laid).
  DERIVED. THE GIVEN ROWS OF THIS SEAT. 6 by the template 'for every input the law returns true; each argument reads behind the call as it read before'; 0 by the template 'total and deterministic' (their statements: YtkjecjgfkogkoaaTotals.lean).
  GIVEN WITH THE SEED: the statements are not yours to turn. If you find one false, say at which input.
  Laid BY PROGRAM, IN A SANDBOX (cutbox-rows.mjs): the forced cells as the released guide's own fill.sh prints them over the translation cb0382f363850356… (all of the seat's roots in one cut). By AI agents, Wed Nov 11 2026. No macro, syntax, notation, axiom, sorry.
-/
import Derived.Test.YtkjecjgfkogkoaaChecked
import GoSem.Claim
import GoSem.ClaimJoined
import GoSem.ClaimMapViews
import Derived.JoinedTies
import Derived.KernelRfl
namespace Go.Proofs.Ytkjecjgfkogkoaa
/- THE CELL 'sum', in the pinned program and in every row, IS THE sha256 OF THE DUMP (.gsa) THAT YtkjecjgfkogkoaaProg.lean LOADS. Nothing in Lean hashes anything: it is a label: what it is worth is what the hold of that sum in a sandbox is worth. -/
noncomputable def Try.pinned : Pinned := { name := "ytkjecjgfkogkoaa", sum := "cb0382f3638503565afb072ebeea2a8a520ea6a0564dd52248492aefa7e853d4", checked := Try.checked }
namespace Rows
def none {H : Type} : Left H := { results := [], args := [] }

/-- 'reevelaw14.OutboxKeys': WHATEVER THE INPUT: true; the input reads as it did. -/
def outboxKeysSpec : ChangeSpec := { name := "outboxKeys", fn := fun _ => fun
  | [d] => { results := [.lit (.bool true)], args := [d] }
  | _ => none }
def outboxKeysRow : OpenClaim := { program := "ytkjecjgfkogkoaa", sum := "cb0382f3638503565afb072ebeea2a8a520ea6a0564dd52248492aefa7e853d4", func := "reeve/reevelaw14.OutboxKeys", spec := "outboxKeys", apart := false }
def OutboxKeysSaid : Prop := outboxKeysRow.holds Try.pinned (OpenSpec.ofChange outboxKeysSpec)

/-- ITS FALSE NEIGHBOUR: 'it returns false'. Refute it at one input. -/
def outboxKeysWrong : ChangeSpec := { name := "outboxKeys", fn := fun _ => fun
  | [d] => { results := [.lit (.bool false)], args := [d] }
  | _ => none }
def OutboxKeysWrongFalsely : Prop := outboxKeysRow.holds Try.pinned (OpenSpec.ofChange outboxKeysWrong)

/-- 'reevelaw14.OutboxPlays': WHATEVER THE INPUT: true; the input reads as it did. -/
def outboxPlaysSpec : ChangeSpec := { name := "outboxPlays", fn := fun _ => fun
  | [d1, d2] => { results := [.lit (.bool true)], args := [d1, d2] }
  | _ => none }
def outboxPlaysRow : OpenClaim := { program := "ytkjecjgfkogkoaa", sum := "cb0382f3638503565afb072ebeea2a8a520ea6a0564dd52248492aefa7e853d4", func := "reeve/reevelaw14.OutboxPlays", spec := "outboxPlays", apart := false }
def OutboxPlaysSaid : Prop := outboxPlaysRow.holds Try.pinned (OpenSpec.ofChange outboxPlaysSpec)

/-- ITS FALSE NEIGHBOUR: 'it returns false'. Refute it at one input. -/
def outboxPlaysWrong : ChangeSpec := { name := "outboxPlays", fn := fun _ => fun
  | [d1, d2] => { results := [.lit (.bool false)], args := [d1, d2] }
  | _ => none }
def OutboxPlaysWrongFalsely : Prop := outboxPlaysRow.holds Try.pinned (OpenSpec.ofChange outboxPlaysWrong)

/-- 'reevelaw14.OutboxSerials': WHATEVER THE INPUT: true; the input reads as it did. -/
def outboxSerialsSpec : ChangeSpec := { name := "outboxSerials", fn := fun _ => fun
  | [d1, d2] => { results := [.lit (.bool true)], args := [d1, d2] }
  | _ => none }
def outboxSerialsRow : OpenClaim := { program := "ytkjecjgfkogkoaa", sum := "cb0382f3638503565afb072ebeea2a8a520ea6a0564dd52248492aefa7e853d4", func := "reeve/reevelaw14.OutboxSerials", spec := "outboxSerials", apart := false }
def OutboxSerialsSaid : Prop := outboxSerialsRow.holds Try.pinned (OpenSpec.ofChange outboxSerialsSpec)

/-- ITS FALSE NEIGHBOUR: 'it returns false'. Refute it at one input. -/
def outboxSerialsWrong : ChangeSpec := { name := "outboxSerials", fn := fun _ => fun
  | [d1, d2] => { results := [.lit (.bool false)], args := [d1, d2] }
  | _ => none }
def OutboxSerialsWrongFalsely : Prop := outboxSerialsRow.holds Try.pinned (OpenSpec.ofChange outboxSerialsWrong)

/-- 'reevelaw14.OutboxNil': WHATEVER THE INPUT: true; the input reads as it did. -/
def outboxNilSpec : ChangeSpec := { name := "outboxNil", fn := fun _ => fun
  | [d1, d2] => { results := [.lit (.bool true)], args := [d1, d2] }
  | _ => none }
def outboxNilRow : OpenClaim := { program := "ytkjecjgfkogkoaa", sum := "cb0382f3638503565afb072ebeea2a8a520ea6a0564dd52248492aefa7e853d4", func := "reeve/reevelaw14.OutboxNil", spec := "outboxNil", unfollowed := true, recurses := true, apart := false }
def OutboxNilSaid : Prop := outboxNilRow.holds Try.pinned (OpenSpec.ofChange outboxNilSpec)

/-- ITS FALSE NEIGHBOUR: 'it returns false'. Refute it at one input. -/
def outboxNilWrong : ChangeSpec := { name := "outboxNil", fn := fun _ => fun
  | [d1, d2] => { results := [.lit (.bool false)], args := [d1, d2] }
  | _ => none }
def OutboxNilWrongFalsely : Prop := outboxNilRow.holds Try.pinned (OpenSpec.ofChange outboxNilWrong)

/-- 'reevelaw14.OutboxDecodes': WHATEVER THE INPUT: true; the input reads as it did. -/
def outboxDecodesSpec : ChangeSpec := { name := "outboxDecodes", fn := fun _ => fun
  | [d1, d2] => { results := [.lit (.bool true)], args := [d1, d2] }
  | _ => none }
def outboxDecodesRow : OpenClaim := { program := "ytkjecjgfkogkoaa", sum := "cb0382f3638503565afb072ebeea2a8a520ea6a0564dd52248492aefa7e853d4", func := "reeve/reevelaw14.OutboxDecodes", spec := "outboxDecodes", unfollowed := true, recurses := true, apart := false }
def OutboxDecodesSaid : Prop := outboxDecodesRow.holds Try.pinned (OpenSpec.ofChange outboxDecodesSpec)

/-- ITS FALSE NEIGHBOUR: 'it returns false'. Refute it at one input. -/
def outboxDecodesWrong : ChangeSpec := { name := "outboxDecodes", fn := fun _ => fun
  | [d1, d2] => { results := [.lit (.bool false)], args := [d1, d2] }
  | _ => none }
def OutboxDecodesWrongFalsely : Prop := outboxDecodesRow.holds Try.pinned (OpenSpec.ofChange outboxDecodesWrong)

/-- 'reevelaw14.OutboxGoes': WHATEVER THE INPUT: true; the input reads as it did. -/
def outboxGoesSpec : ChangeSpec := { name := "outboxGoes", fn := fun _ => fun
  | [d1, d2] => { results := [.lit (.bool true)], args := [d1, d2] }
  | _ => none }
def outboxGoesRow : OpenClaim := { program := "ytkjecjgfkogkoaa", sum := "cb0382f3638503565afb072ebeea2a8a520ea6a0564dd52248492aefa7e853d4", func := "reeve/reevelaw14.OutboxGoes", spec := "outboxGoes", unfollowed := true, recurses := true, apart := false }
def OutboxGoesSaid : Prop := outboxGoesRow.holds Try.pinned (OpenSpec.ofChange outboxGoesSpec)

/-- ITS FALSE NEIGHBOUR: 'it returns false'. Refute it at one input. -/
def outboxGoesWrong : ChangeSpec := { name := "outboxGoes", fn := fun _ => fun
  | [d1, d2] => { results := [.lit (.bool false)], args := [d1, d2] }
  | _ => none }
def OutboxGoesWrongFalsely : Prop := outboxGoesRow.holds Try.pinned (OpenSpec.ofChange outboxGoesWrong)

/- THE SECOND FORM. 'bulk': how many values and letters a reading holds, each counted each time it is reached (what is shared counts as often as it is met; a slice's spare places count too). A statement '..UptoSaid' is the law's where the arguments, and the package variables that the reading takes, are together of bulk at most 1048576: NARROWER than '..Said'. Prove '..Said' where nothing that the law and all that it calls make is longer than what came in: it says more and counts as full. Else prove '..UptoSaid'. A law counts once. -/
mutual
def uptoBulk {H : Type} : DataW H → Nat
  | .lit (.string bytes) => bytes.length + 1
  | .lit _ => 1
  | .nil => 1
  | .ptr d => uptoBulk d + 1
  | .slice elems spare => uptoBulkAll elems + uptoBulkAll spare + 1
  | .agg parts => uptoBulkAll parts + 1
  | .iface _ d => uptoBulk d + 1
  | .map entries => uptoBulkEntries entries + 1
  | .held _ => 1
def uptoBulkAll {H : Type} : List (DataW H) → Nat
  | [] => 0
  | d :: r => uptoBulk d + uptoBulkAll r
def uptoBulkEntries {H : Type} : List (Lit × DataW H) → Nat
  | [] => 0
  | x :: r => uptoBulkEntry x + uptoBulkEntries r
def uptoBulkEntry {H : Type} : Lit × DataW H → Nat
  | (.string bytes, d) => bytes.length + uptoBulk d + 1
  | (_, d) => uptoBulk d + 1
 end
def uptoSmall : (H : Type) → List (DataW H) → Bool := fun _ ds => decide (uptoBulkAll ds ≤ 1048576)
def OpenSpec.upto (s : _root_.Go.ChangeSpec) : _root_.Go.OpenSpec := { _root_.Go.OpenSpec.ofChange s with cond := some uptoSmall }

/-- 'reevelaw14.OutboxKeys', WHERE WHAT IT READS IS OF BULK AT MOST 1048576: true; the input reads as it did. -/
def outboxKeysUptoRow : OpenClaim := { program := "ytkjecjgfkogkoaa", sum := "cb0382f3638503565afb072ebeea2a8a520ea6a0564dd52248492aefa7e853d4", func := "reeve/reevelaw14.OutboxKeys", spec := "outboxKeys", apart := false, narrowed := true }
def OutboxKeysUptoSaid : Prop := outboxKeysUptoRow.holds Try.pinned (OpenSpec.upto outboxKeysSpec)

/-- 'reevelaw14.OutboxPlays', WHERE WHAT IT READS IS OF BULK AT MOST 1048576: true; the input reads as it did. -/
def outboxPlaysUptoRow : OpenClaim := { program := "ytkjecjgfkogkoaa", sum := "cb0382f3638503565afb072ebeea2a8a520ea6a0564dd52248492aefa7e853d4", func := "reeve/reevelaw14.OutboxPlays", spec := "outboxPlays", apart := false, narrowed := true }
def OutboxPlaysUptoSaid : Prop := outboxPlaysUptoRow.holds Try.pinned (OpenSpec.upto outboxPlaysSpec)

/-- 'reevelaw14.OutboxSerials', WHERE WHAT IT READS IS OF BULK AT MOST 1048576: true; the input reads as it did. -/
def outboxSerialsUptoRow : OpenClaim := { program := "ytkjecjgfkogkoaa", sum := "cb0382f3638503565afb072ebeea2a8a520ea6a0564dd52248492aefa7e853d4", func := "reeve/reevelaw14.OutboxSerials", spec := "outboxSerials", apart := false, narrowed := true }
def OutboxSerialsUptoSaid : Prop := outboxSerialsUptoRow.holds Try.pinned (OpenSpec.upto outboxSerialsSpec)

/-- 'reevelaw14.OutboxNil', WHERE WHAT IT READS IS OF BULK AT MOST 1048576: true; the input reads as it did. -/
def outboxNilUptoRow : OpenClaim := { program := "ytkjecjgfkogkoaa", sum := "cb0382f3638503565afb072ebeea2a8a520ea6a0564dd52248492aefa7e853d4", func := "reeve/reevelaw14.OutboxNil", spec := "outboxNil", unfollowed := true, recurses := true, apart := false, narrowed := true }
def OutboxNilUptoSaid : Prop := outboxNilUptoRow.holds Try.pinned (OpenSpec.upto outboxNilSpec)

/-- 'reevelaw14.OutboxDecodes', WHERE WHAT IT READS IS OF BULK AT MOST 1048576: true; the input reads as it did. -/
def outboxDecodesUptoRow : OpenClaim := { program := "ytkjecjgfkogkoaa", sum := "cb0382f3638503565afb072ebeea2a8a520ea6a0564dd52248492aefa7e853d4", func := "reeve/reevelaw14.OutboxDecodes", spec := "outboxDecodes", unfollowed := true, recurses := true, apart := false, narrowed := true }
def OutboxDecodesUptoSaid : Prop := outboxDecodesUptoRow.holds Try.pinned (OpenSpec.upto outboxDecodesSpec)

/-- 'reevelaw14.OutboxGoes', WHERE WHAT IT READS IS OF BULK AT MOST 1048576: true; the input reads as it did. -/
def outboxGoesUptoRow : OpenClaim := { program := "ytkjecjgfkogkoaa", sum := "cb0382f3638503565afb072ebeea2a8a520ea6a0564dd52248492aefa7e853d4", func := "reeve/reevelaw14.OutboxGoes", spec := "outboxGoes", unfollowed := true, recurses := true, apart := false, narrowed := true }
def OutboxGoesUptoSaid : Prop := outboxGoesUptoRow.holds Try.pinned (OpenSpec.upto outboxGoesSpec)

end Rows
end Go.Proofs.Ytkjecjgfkogkoaa
