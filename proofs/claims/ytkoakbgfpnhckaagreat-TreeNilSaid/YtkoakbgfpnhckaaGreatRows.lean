/-
  No cell of these rows narrows 'for every input' (looked for: loops, veiled, ifaces, maps, wideKeys, modest, calm, conditions, laid).
  DERIVED. THE GIVEN ROWS OF THIS SEAT. 6 by the template 'for every input the law returns true; each argument reads behind the call as it read before'; 0 by the template 'total and deterministic' (their statements: YtkoakbgfpnhckaaGreatTotals.lean).
  GIVEN WITH THE SEED: the statements are not yours to turn. If you find one false, say at which input.
  Laid BY PROGRAM, IN A SANDBOX (cutbox-rows.mjs): the forced cells as the released guide's own fill.sh prints them over the translation de1c9d2292cd1e5c… (all of the seat's roots in one cut). By AI agents, Wed Nov 11 2026. No macro, syntax, notation, axiom, sorry.
-/
import Derived.Test.YtkoakbgfpnhckaaGreatChecked
import GoSem.Claim
import GoSem.ClaimJoined
import GoSem.ClaimMapViews
import Derived.JoinedTies
import Derived.KernelRfl
namespace Go.Proofs.YtkoakbgfpnhckaaGreat
/- THE CELL 'sum', in the pinned program and in every row, IS THE sha256 OF THE DUMP (.gsa) THAT YtkoakbgfpnhckaaGreatProg.lean LOADS. Nothing in Lean hashes anything: it is a label: what it is worth is what the hold of that sum in a sandbox is worth. -/
noncomputable def Tryz.pinned : Pinned := { name := "ytkoakbgfpnhckaagreat", sum := "de1c9d2292cd1e5cf2d5568191dde42b6e4389b5c2ec3904910972724011a98a", checked := Tryz.checked }
namespace Rows
def none {H : Type} : Left H := { results := [], args := [] }

/-- 'reevelaw09.TreeParts': WHATEVER THE INPUT: true; the input reads as it did. -/
def treePartsSpec : ChangeSpec := { name := "treeParts", fn := fun _ => fun
  | [d1, d2] => { results := [.lit (.bool true)], args := [d1, d2] }
  | _ => none }
def treePartsRow : OpenClaim := { program := "ytkoakbgfpnhckaagreat", sum := "de1c9d2292cd1e5cf2d5568191dde42b6e4389b5c2ec3904910972724011a98a", func := "reeve/reevelaw09.TreeParts", spec := "treeParts", inPlace := ["internal/bytealg.abigen_runtime_cmpstring"], unfollowed := true, recurses := true, apart := false }
def TreePartsSaid : Prop := treePartsRow.holds Tryz.pinned (OpenSpec.ofChange treePartsSpec)

/-- ITS FALSE NEIGHBOUR: 'it returns false'. Refute it at one input. -/
def treePartsWrong : ChangeSpec := { name := "treeParts", fn := fun _ => fun
  | [d1, d2] => { results := [.lit (.bool false)], args := [d1, d2] }
  | _ => none }
def TreePartsWrongFalsely : Prop := treePartsRow.holds Tryz.pinned (OpenSpec.ofChange treePartsWrong)

/-- 'reevelaw09.TreeGone': WHATEVER THE INPUT: true; the input reads as it did. -/
def treeGoneSpec : ChangeSpec := { name := "treeGone", fn := fun _ => fun
  | [d1, d2] => { results := [.lit (.bool true)], args := [d1, d2] }
  | _ => none }
def treeGoneRow : OpenClaim := { program := "ytkoakbgfpnhckaagreat", sum := "de1c9d2292cd1e5cf2d5568191dde42b6e4389b5c2ec3904910972724011a98a", func := "reeve/reevelaw09.TreeGone", spec := "treeGone", inPlace := ["internal/bytealg.abigen_runtime_cmpstring"], unfollowed := true, recurses := true, apart := false }
def TreeGoneSaid : Prop := treeGoneRow.holds Tryz.pinned (OpenSpec.ofChange treeGoneSpec)

/-- ITS FALSE NEIGHBOUR: 'it returns false'. Refute it at one input. -/
def treeGoneWrong : ChangeSpec := { name := "treeGone", fn := fun _ => fun
  | [d1, d2] => { results := [.lit (.bool false)], args := [d1, d2] }
  | _ => none }
def TreeGoneWrongFalsely : Prop := treeGoneRow.holds Tryz.pinned (OpenSpec.ofChange treeGoneWrong)

/-- 'reevelaw09.TreeLost': WHATEVER THE INPUT: true; the input reads as it did. -/
def treeLostSpec : ChangeSpec := { name := "treeLost", fn := fun _ => fun
  | [d1, d2, d3, d4] => { results := [.lit (.bool true)], args := [d1, d2, d3, d4] }
  | _ => none }
def treeLostRow : OpenClaim := { program := "ytkoakbgfpnhckaagreat", sum := "de1c9d2292cd1e5cf2d5568191dde42b6e4389b5c2ec3904910972724011a98a", func := "reeve/reevelaw09.TreeLost", spec := "treeLost", inPlace := ["internal/bytealg.abigen_runtime_cmpstring"], unfollowed := true, recurses := true, apart := false }
def TreeLostSaid : Prop := treeLostRow.holds Tryz.pinned (OpenSpec.ofChange treeLostSpec)

/-- ITS FALSE NEIGHBOUR: 'it returns false'. Refute it at one input. -/
def treeLostWrong : ChangeSpec := { name := "treeLost", fn := fun _ => fun
  | [d1, d2, d3, d4] => { results := [.lit (.bool false)], args := [d1, d2, d3, d4] }
  | _ => none }
def TreeLostWrongFalsely : Prop := treeLostRow.holds Tryz.pinned (OpenSpec.ofChange treeLostWrong)

/-- 'reevelaw09.TreeNil': WHATEVER THE INPUT: true; the input reads as it did. -/
def treeNilSpec : ChangeSpec := { name := "treeNil", fn := fun _ => fun
  | [d1, d2, d3] => { results := [.lit (.bool true)], args := [d1, d2, d3] }
  | _ => none }
def treeNilRow : OpenClaim := { program := "ytkoakbgfpnhckaagreat", sum := "de1c9d2292cd1e5cf2d5568191dde42b6e4389b5c2ec3904910972724011a98a", func := "reeve/reevelaw09.TreeNil", spec := "treeNil", inPlace := ["internal/bytealg.abigen_runtime_cmpstring"], unfollowed := true, recurses := true, apart := false }
def TreeNilSaid : Prop := treeNilRow.holds Tryz.pinned (OpenSpec.ofChange treeNilSpec)

/-- ITS FALSE NEIGHBOUR: 'it returns false'. Refute it at one input. -/
def treeNilWrong : ChangeSpec := { name := "treeNil", fn := fun _ => fun
  | [d1, d2, d3] => { results := [.lit (.bool false)], args := [d1, d2, d3] }
  | _ => none }
def TreeNilWrongFalsely : Prop := treeNilRow.holds Tryz.pinned (OpenSpec.ofChange treeNilWrong)

/-- 'reevelaw09.TreeSettles': WHATEVER THE INPUT: true; the input reads as it did. -/
def treeSettlesSpec : ChangeSpec := { name := "treeSettles", fn := fun _ => fun
  | [d] => { results := [.lit (.bool true)], args := [d] }
  | _ => none }
def treeSettlesRow : OpenClaim := { program := "ytkoakbgfpnhckaagreat", sum := "de1c9d2292cd1e5cf2d5568191dde42b6e4389b5c2ec3904910972724011a98a", func := "reeve/reevelaw09.TreeSettles", spec := "treeSettles", inPlace := ["internal/bytealg.abigen_runtime_cmpstring"], unfollowed := true, recurses := true, apart := false }
def TreeSettlesSaid : Prop := treeSettlesRow.holds Tryz.pinned (OpenSpec.ofChange treeSettlesSpec)

/-- ITS FALSE NEIGHBOUR: 'it returns false'. Refute it at one input. -/
def treeSettlesWrong : ChangeSpec := { name := "treeSettles", fn := fun _ => fun
  | [d] => { results := [.lit (.bool false)], args := [d] }
  | _ => none }
def TreeSettlesWrongFalsely : Prop := treeSettlesRow.holds Tryz.pinned (OpenSpec.ofChange treeSettlesWrong)

/-- 'reevelaw09.TreeOld': WHATEVER THE INPUT: true; the input reads as it did. -/
def treeOldSpec : ChangeSpec := { name := "treeOld", fn := fun _ => fun
  | [d1, d2, d3] => { results := [.lit (.bool true)], args := [d1, d2, d3] }
  | _ => none }
def treeOldRow : OpenClaim := { program := "ytkoakbgfpnhckaagreat", sum := "de1c9d2292cd1e5cf2d5568191dde42b6e4389b5c2ec3904910972724011a98a", func := "reeve/reevelaw09.TreeOld", spec := "treeOld", inPlace := ["internal/bytealg.abigen_runtime_cmpstring"], unfollowed := true, recurses := true, apart := false }
def TreeOldSaid : Prop := treeOldRow.holds Tryz.pinned (OpenSpec.ofChange treeOldSpec)

/-- ITS FALSE NEIGHBOUR: 'it returns false'. Refute it at one input. -/
def treeOldWrong : ChangeSpec := { name := "treeOld", fn := fun _ => fun
  | [d1, d2, d3] => { results := [.lit (.bool false)], args := [d1, d2, d3] }
  | _ => none }
def TreeOldWrongFalsely : Prop := treeOldRow.holds Tryz.pinned (OpenSpec.ofChange treeOldWrong)

/- THE SECOND FORM. 'bulk': how many values and letters a reading holds, each counted each time it is reached (what is shared counts as often as it is met; a slice's spare places count too). A statement '..UptoSaid' is the law's where the arguments, and the package variables that the reading takes, are together of bulk at most 1048576: NARROWER than '..Said'. Prove '..Said' where nothing that the law and all that it calls make is longer than what came in: it says more and counts as full. Else prove '..UptoSaid'. A law counts once. -/
mutual
def uptoBulk {H : Type} : DataW H → Nat
  | .lit (.string bytes) => bytes.length + 1
  | .lit _ => 1
  | .nil => 1
  | .ptr d => uptoBulk d + 1
  | .slice elems spare => uptoBulkAll elems + uptoBulkAll spare + 1
  | .agg parts => uptoBulkAll parts + 1
  | .iface _ d => uptoBulk d + 1
  | .map entries => uptoBulkEntries entries + 1
  | .held _ => 1
def uptoBulkAll {H : Type} : List (DataW H) → Nat
  | [] => 0
  | d :: r => uptoBulk d + uptoBulkAll r
def uptoBulkEntries {H : Type} : List (Lit × DataW H) → Nat
  | [] => 0
  | x :: r => uptoBulkEntry x + uptoBulkEntries r
def uptoBulkEntry {H : Type} : Lit × DataW H → Nat
  | (.string bytes, d) => bytes.length + uptoBulk d + 1
  | (_, d) => uptoBulk d + 1
 end
def uptoSmall : (H : Type) → List (DataW H) → Bool := fun _ ds => decide (uptoBulkAll ds ≤ 1048576)
def OpenSpec.upto (s : _root_.Go.ChangeSpec) : _root_.Go.OpenSpec := { _root_.Go.OpenSpec.ofChange s with cond := some uptoSmall }

/-- 'reevelaw09.TreeParts', WHERE WHAT IT READS IS OF BULK AT MOST 1048576: true; the input reads as it did. -/
def treePartsUptoRow : OpenClaim := { program := "ytkoakbgfpnhckaagreat", sum := "de1c9d2292cd1e5cf2d5568191dde42b6e4389b5c2ec3904910972724011a98a", func := "reeve/reevelaw09.TreeParts", spec := "treeParts", inPlace := ["internal/bytealg.abigen_runtime_cmpstring"], unfollowed := true, recurses := true, apart := false, narrowed := true }
def TreePartsUptoSaid : Prop := treePartsUptoRow.holds Tryz.pinned (OpenSpec.upto treePartsSpec)

/-- 'reevelaw09.TreeGone', WHERE WHAT IT READS IS OF BULK AT MOST 1048576: true; the input reads as it did. -/
def treeGoneUptoRow : OpenClaim := { program := "ytkoakbgfpnhckaagreat", sum := "de1c9d2292cd1e5cf2d5568191dde42b6e4389b5c2ec3904910972724011a98a", func := "reeve/reevelaw09.TreeGone", spec := "treeGone", inPlace := ["internal/bytealg.abigen_runtime_cmpstring"], unfollowed := true, recurses := true, apart := false, narrowed := true }
def TreeGoneUptoSaid : Prop := treeGoneUptoRow.holds Tryz.pinned (OpenSpec.upto treeGoneSpec)

/-- 'reevelaw09.TreeLost', WHERE WHAT IT READS IS OF BULK AT MOST 1048576: true; the input reads as it did. -/
def treeLostUptoRow : OpenClaim := { program := "ytkoakbgfpnhckaagreat", sum := "de1c9d2292cd1e5cf2d5568191dde42b6e4389b5c2ec3904910972724011a98a", func := "reeve/reevelaw09.TreeLost", spec := "treeLost", inPlace := ["internal/bytealg.abigen_runtime_cmpstring"], unfollowed := true, recurses := true, apart := false, narrowed := true }
def TreeLostUptoSaid : Prop := treeLostUptoRow.holds Tryz.pinned (OpenSpec.upto treeLostSpec)

/-- 'reevelaw09.TreeNil', WHERE WHAT IT READS IS OF BULK AT MOST 1048576: true; the input reads as it did. -/
def treeNilUptoRow : OpenClaim := { program := "ytkoakbgfpnhckaagreat", sum := "de1c9d2292cd1e5cf2d5568191dde42b6e4389b5c2ec3904910972724011a98a", func := "reeve/reevelaw09.TreeNil", spec := "treeNil", inPlace := ["internal/bytealg.abigen_runtime_cmpstring"], unfollowed := true, recurses := true, apart := false, narrowed := true }
def TreeNilUptoSaid : Prop := treeNilUptoRow.holds Tryz.pinned (OpenSpec.upto treeNilSpec)

/-- 'reevelaw09.TreeSettles', WHERE WHAT IT READS IS OF BULK AT MOST 1048576: true; the input reads as it did. -/
def treeSettlesUptoRow : OpenClaim := { program := "ytkoakbgfpnhckaagreat", sum := "de1c9d2292cd1e5cf2d5568191dde42b6e4389b5c2ec3904910972724011a98a", func := "reeve/reevelaw09.TreeSettles", spec := "treeSettles", inPlace := ["internal/bytealg.abigen_runtime_cmpstring"], unfollowed := true, recurses := true, apart := false, narrowed := true }
def TreeSettlesUptoSaid : Prop := treeSettlesUptoRow.holds Tryz.pinned (OpenSpec.upto treeSettlesSpec)

/-- 'reevelaw09.TreeOld', WHERE WHAT IT READS IS OF BULK AT MOST 1048576: true; the input reads as it did. -/
def treeOldUptoRow : OpenClaim := { program := "ytkoakbgfpnhckaagreat", sum := "de1c9d2292cd1e5cf2d5568191dde42b6e4389b5c2ec3904910972724011a98a", func := "reeve/reevelaw09.TreeOld", spec := "treeOld", inPlace := ["internal/bytealg.abigen_runtime_cmpstring"], unfollowed := true, recurses := true, apart := false, narrowed := true }
def TreeOldUptoSaid : Prop := treeOldUptoRow.holds Tryz.pinned (OpenSpec.upto treeOldSpec)

end Rows
end Go.Proofs.YtkoakbgfpnhckaaGreat
