/-
  No cell of these rows narrows 'for every input' (looked for: loops, veiled, ifaces, maps, wideKeys, modest, calm, conditions, laid).
  DERIVED. THE GIVEN ROWS OF THIS SEAT. 6 by the template 'for every input the law returns true; each argument reads behind the call as it read before'; 0 by the template 'total and deterministic' (their statements: YthnnbgaphjinnaaTotals.lean).
  GIVEN WITH THE SEED: the statements are not yours to turn. If you find one false, say at which input.
  Laid BY PROGRAM, IN A SANDBOX (cutbox-rows.mjs): the forced cells as the released guide's own fill.sh prints them over the translation 4c3d47c68e542c59… (all of the seat's roots in one cut). By AI agents, Wed Nov 11 2026. No macro, syntax, notation, axiom, sorry.
-/
import Derived.Test.YthnnbgaphjinnaaChecked
import GoSem.Claim
import GoSem.ClaimJoined
import GoSem.ClaimMapViews
import Derived.JoinedTies
import Derived.KernelRfl
namespace Go.Proofs.Ythnnbgaphjinnaa
/- THE CELL 'sum', in the pinned program and in every row, IS THE sha256 OF THE DUMP (.gsa) THAT YthnnbgaphjinnaaProg.lean LOADS. Nothing in Lean hashes anything: it is a label: what it is worth is what the hold of that sum in a sandbox is worth. -/
noncomputable def Try.pinned : Pinned := { name := "ythnnbgaphjinnaa", sum := "4c3d47c68e542c59461efdb3a887a2abce27a491740776e0b03c0758eb6d453e", checked := Try.checked }
namespace Rows
def none {H : Type} : Left H := { results := [], args := [] }

/-- 'reevelaw08.PagesLong': WHATEVER THE INPUT: true; the input reads as it did. -/
def pagesLongSpec : ChangeSpec := { name := "pagesLong", fn := fun _ => fun
  | [d1, d2] => { results := [.lit (.bool true)], args := [d1, d2] }
  | _ => none }
def pagesLongRow : OpenClaim := { program := "ythnnbgaphjinnaa", sum := "4c3d47c68e542c59461efdb3a887a2abce27a491740776e0b03c0758eb6d453e", func := "reeve/reevelaw08.PagesLong", spec := "pagesLong", unfollowed := true, recurses := true, apart := false }
def PagesLongSaid : Prop := pagesLongRow.holds Try.pinned (OpenSpec.ofChange pagesLongSpec)

/-- ITS FALSE NEIGHBOUR: 'it returns false'. Refute it at one input. -/
def pagesLongWrong : ChangeSpec := { name := "pagesLong", fn := fun _ => fun
  | [d1, d2] => { results := [.lit (.bool false)], args := [d1, d2] }
  | _ => none }
def PagesLongWrongFalsely : Prop := pagesLongRow.holds Try.pinned (OpenSpec.ofChange pagesLongWrong)

/-- 'reevelaw08.PagesNames': WHATEVER THE INPUT: true; the input reads as it did. -/
def pagesNamesSpec : ChangeSpec := { name := "pagesNames", fn := fun _ => fun
  | [d1, d2] => { results := [.lit (.bool true)], args := [d1, d2] }
  | _ => none }
def pagesNamesRow : OpenClaim := { program := "ythnnbgaphjinnaa", sum := "4c3d47c68e542c59461efdb3a887a2abce27a491740776e0b03c0758eb6d453e", func := "reeve/reevelaw08.PagesNames", spec := "pagesNames", unfollowed := true, recurses := true, apart := false }
def PagesNamesSaid : Prop := pagesNamesRow.holds Try.pinned (OpenSpec.ofChange pagesNamesSpec)

/-- ITS FALSE NEIGHBOUR: 'it returns false'. Refute it at one input. -/
def pagesNamesWrong : ChangeSpec := { name := "pagesNames", fn := fun _ => fun
  | [d1, d2] => { results := [.lit (.bool false)], args := [d1, d2] }
  | _ => none }
def PagesNamesWrongFalsely : Prop := pagesNamesRow.holds Try.pinned (OpenSpec.ofChange pagesNamesWrong)

/-- 'reevelaw08.PagesAgain': WHATEVER THE INPUT: true; the input reads as it did. -/
def pagesAgainSpec : ChangeSpec := { name := "pagesAgain", fn := fun _ => fun
  | [d1, d2, d3] => { results := [.lit (.bool true)], args := [d1, d2, d3] }
  | _ => none }
def pagesAgainRow : OpenClaim := { program := "ythnnbgaphjinnaa", sum := "4c3d47c68e542c59461efdb3a887a2abce27a491740776e0b03c0758eb6d453e", func := "reeve/reevelaw08.PagesAgain", spec := "pagesAgain", unfollowed := true, recurses := true, apart := false }
def PagesAgainSaid : Prop := pagesAgainRow.holds Try.pinned (OpenSpec.ofChange pagesAgainSpec)

/-- ITS FALSE NEIGHBOUR: 'it returns false'. Refute it at one input. -/
def pagesAgainWrong : ChangeSpec := { name := "pagesAgain", fn := fun _ => fun
  | [d1, d2, d3] => { results := [.lit (.bool false)], args := [d1, d2, d3] }
  | _ => none }
def PagesAgainWrongFalsely : Prop := pagesAgainRow.holds Try.pinned (OpenSpec.ofChange pagesAgainWrong)

/-- 'reevelaw08.PagesNil': WHATEVER THE INPUT: true; the input reads as it did. -/
def pagesNilSpec : ChangeSpec := { name := "pagesNil", fn := fun _ => fun
  | [d1, d2] => { results := [.lit (.bool true)], args := [d1, d2] }
  | _ => none }
def pagesNilRow : OpenClaim := { program := "ythnnbgaphjinnaa", sum := "4c3d47c68e542c59461efdb3a887a2abce27a491740776e0b03c0758eb6d453e", func := "reeve/reevelaw08.PagesNil", spec := "pagesNil", unfollowed := true, recurses := true, apart := false }
def PagesNilSaid : Prop := pagesNilRow.holds Try.pinned (OpenSpec.ofChange pagesNilSpec)

/-- ITS FALSE NEIGHBOUR: 'it returns false'. Refute it at one input. -/
def pagesNilWrong : ChangeSpec := { name := "pagesNil", fn := fun _ => fun
  | [d1, d2] => { results := [.lit (.bool false)], args := [d1, d2] }
  | _ => none }
def PagesNilWrongFalsely : Prop := pagesNilRow.holds Try.pinned (OpenSpec.ofChange pagesNilWrong)

/-- 'reevelaw08.PagesCuts': WHATEVER THE INPUT: true; the input reads as it did. -/
def pagesCutsSpec : ChangeSpec := { name := "pagesCuts", fn := fun _ => fun
  | [d] => { results := [.lit (.bool true)], args := [d] }
  | _ => none }
def pagesCutsRow : OpenClaim := { program := "ythnnbgaphjinnaa", sum := "4c3d47c68e542c59461efdb3a887a2abce27a491740776e0b03c0758eb6d453e", func := "reeve/reevelaw08.PagesCuts", spec := "pagesCuts", unfollowed := true, recurses := true, apart := false }
def PagesCutsSaid : Prop := pagesCutsRow.holds Try.pinned (OpenSpec.ofChange pagesCutsSpec)

/-- ITS FALSE NEIGHBOUR: 'it returns false'. Refute it at one input. -/
def pagesCutsWrong : ChangeSpec := { name := "pagesCuts", fn := fun _ => fun
  | [d] => { results := [.lit (.bool false)], args := [d] }
  | _ => none }
def PagesCutsWrongFalsely : Prop := pagesCutsRow.holds Try.pinned (OpenSpec.ofChange pagesCutsWrong)

/-- 'reevelaw08.PagesPlay': WHATEVER THE INPUT: true; the input reads as it did. -/
def pagesPlaySpec : ChangeSpec := { name := "pagesPlay", fn := fun _ => fun
  | [d1, d2, d3] => { results := [.lit (.bool true)], args := [d1, d2, d3] }
  | _ => none }
def pagesPlayRow : OpenClaim := { program := "ythnnbgaphjinnaa", sum := "4c3d47c68e542c59461efdb3a887a2abce27a491740776e0b03c0758eb6d453e", func := "reeve/reevelaw08.PagesPlay", spec := "pagesPlay", unfollowed := true, recurses := true, apart := false }
def PagesPlaySaid : Prop := pagesPlayRow.holds Try.pinned (OpenSpec.ofChange pagesPlaySpec)

/-- ITS FALSE NEIGHBOUR: 'it returns false'. Refute it at one input. -/
def pagesPlayWrong : ChangeSpec := { name := "pagesPlay", fn := fun _ => fun
  | [d1, d2, d3] => { results := [.lit (.bool false)], args := [d1, d2, d3] }
  | _ => none }
def PagesPlayWrongFalsely : Prop := pagesPlayRow.holds Try.pinned (OpenSpec.ofChange pagesPlayWrong)

/- THE SECOND FORM. 'bulk': how many values and letters a reading holds, each counted each time it is reached (what is shared counts as often as it is met; a slice's spare places count too). A statement '..UptoSaid' is the law's where the arguments, and the package variables that the reading takes, are together of bulk at most 1048576: NARROWER than '..Said'. Prove '..Said' where nothing that the law and all that it calls make is longer than what came in: it says more and counts as full. Else prove '..UptoSaid'. A law counts once. -/
mutual
def uptoBulk {H : Type} : DataW H → Nat
  | .lit (.string bytes) => bytes.length + 1
  | .lit _ => 1
  | .nil => 1
  | .ptr d => uptoBulk d + 1
  | .slice elems spare => uptoBulkAll elems + uptoBulkAll spare + 1
  | .agg parts => uptoBulkAll parts + 1
  | .iface _ d => uptoBulk d + 1
  | .map entries => uptoBulkEntries entries + 1
  | .held _ => 1
def uptoBulkAll {H : Type} : List (DataW H) → Nat
  | [] => 0
  | d :: r => uptoBulk d + uptoBulkAll r
def uptoBulkEntries {H : Type} : List (Lit × DataW H) → Nat
  | [] => 0
  | x :: r => uptoBulkEntry x + uptoBulkEntries r
def uptoBulkEntry {H : Type} : Lit × DataW H → Nat
  | (.string bytes, d) => bytes.length + uptoBulk d + 1
  | (_, d) => uptoBulk d + 1
 end
def uptoSmall : (H : Type) → List (DataW H) → Bool := fun _ ds => decide (uptoBulkAll ds ≤ 1048576)
def OpenSpec.upto (s : _root_.Go.ChangeSpec) : _root_.Go.OpenSpec := { _root_.Go.OpenSpec.ofChange s with cond := some uptoSmall }

/-- 'reevelaw08.PagesLong', WHERE WHAT IT READS IS OF BULK AT MOST 1048576: true; the input reads as it did. -/
def pagesLongUptoRow : OpenClaim := { program := "ythnnbgaphjinnaa", sum := "4c3d47c68e542c59461efdb3a887a2abce27a491740776e0b03c0758eb6d453e", func := "reeve/reevelaw08.PagesLong", spec := "pagesLong", unfollowed := true, recurses := true, apart := false, narrowed := true }
def PagesLongUptoSaid : Prop := pagesLongUptoRow.holds Try.pinned (OpenSpec.upto pagesLongSpec)

/-- 'reevelaw08.PagesNames', WHERE WHAT IT READS IS OF BULK AT MOST 1048576: true; the input reads as it did. -/
def pagesNamesUptoRow : OpenClaim := { program := "ythnnbgaphjinnaa", sum := "4c3d47c68e542c59461efdb3a887a2abce27a491740776e0b03c0758eb6d453e", func := "reeve/reevelaw08.PagesNames", spec := "pagesNames", unfollowed := true, recurses := true, apart := false, narrowed := true }
def PagesNamesUptoSaid : Prop := pagesNamesUptoRow.holds Try.pinned (OpenSpec.upto pagesNamesSpec)

/-- 'reevelaw08.PagesAgain', WHERE WHAT IT READS IS OF BULK AT MOST 1048576: true; the input reads as it did. -/
def pagesAgainUptoRow : OpenClaim := { program := "ythnnbgaphjinnaa", sum := "4c3d47c68e542c59461efdb3a887a2abce27a491740776e0b03c0758eb6d453e", func := "reeve/reevelaw08.PagesAgain", spec := "pagesAgain", unfollowed := true, recurses := true, apart := false, narrowed := true }
def PagesAgainUptoSaid : Prop := pagesAgainUptoRow.holds Try.pinned (OpenSpec.upto pagesAgainSpec)

/-- 'reevelaw08.PagesNil', WHERE WHAT IT READS IS OF BULK AT MOST 1048576: true; the input reads as it did. -/
def pagesNilUptoRow : OpenClaim := { program := "ythnnbgaphjinnaa", sum := "4c3d47c68e542c59461efdb3a887a2abce27a491740776e0b03c0758eb6d453e", func := "reeve/reevelaw08.PagesNil", spec := "pagesNil", unfollowed := true, recurses := true, apart := false, narrowed := true }
def PagesNilUptoSaid : Prop := pagesNilUptoRow.holds Try.pinned (OpenSpec.upto pagesNilSpec)

/-- 'reevelaw08.PagesCuts', WHERE WHAT IT READS IS OF BULK AT MOST 1048576: true; the input reads as it did. -/
def pagesCutsUptoRow : OpenClaim := { program := "ythnnbgaphjinnaa", sum := "4c3d47c68e542c59461efdb3a887a2abce27a491740776e0b03c0758eb6d453e", func := "reeve/reevelaw08.PagesCuts", spec := "pagesCuts", unfollowed := true, recurses := true, apart := false, narrowed := true }
def PagesCutsUptoSaid : Prop := pagesCutsUptoRow.holds Try.pinned (OpenSpec.upto pagesCutsSpec)

/-- 'reevelaw08.PagesPlay', WHERE WHAT IT READS IS OF BULK AT MOST 1048576: true; the input reads as it did. -/
def pagesPlayUptoRow : OpenClaim := { program := "ythnnbgaphjinnaa", sum := "4c3d47c68e542c59461efdb3a887a2abce27a491740776e0b03c0758eb6d453e", func := "reeve/reevelaw08.PagesPlay", spec := "pagesPlay", unfollowed := true, recurses := true, apart := false, narrowed := true }
def PagesPlayUptoSaid : Prop := pagesPlayUptoRow.holds Try.pinned (OpenSpec.upto pagesPlaySpec)

end Rows
end Go.Proofs.Ythnnbgaphjinnaa
