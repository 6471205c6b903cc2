/- DERIVED: THE SHELF's CONTRACTS AT THIS DUMP, IN PLAIN WORDS (tools/lay-plain.mjs out of 'TryShelfT2.lean', which tools/lay-shelf.mjs wrote): THE SAME DECLARATIONS UNDER THE SAME NAMES: 'import', 'namespace', 'open', 'def', 'theorem' AND NOTHING ELSE: no command of the shelf's: FOR A HAND-IN. Each laying: the table of numbers ('.._ren') and one theorem, a field a fact of the dump's own or the kernel's comparison; each contract: ONE APPLICATION. -/
import Derived.Shelf.SlSortCmp.WholeK
import Derived.Shelf.Small.Strs
import Derived.Ground.SlsfProg
import Derived.Ground.NamesProg
import Derived.Test.YtkoakbgfpnhckaaGreatProg
namespace Go.Proofs
set_option linter.unusedSimpArgs false
set_option linter.unnecessarySimpa false
open Go.Shelf
def Tryz.sortF_ren : Go.Shelf.Ren := ⟨fun | 6 => 62 | 15 => 86 | 14 => 85 | 28 => 104 | 29 => 105 | 20 => 96 | 21 => 97 | 22 => 98 | 23 => 99 | 24 => 100 | 25 => 101 | 26 => 102 | 27 => 103 | 46 => 120 | 47 => 121 | 48 => 122 | 49 => 123 | 50 => 124 | 57 => 129 | n => n, fun | 22 => 22 | 24 => 45 | 25 => 85 | 3 => 3 | 39 => 110 | 0 => 0 | 53 => 109 | 55 => 135 | 4 => 4 | 46 => 152 | 45 => 151 | 50 => 127 | 5 => 5 | 9 => 9 | 66 => 169 | 70 => 172 | 76 => 178 | 77 => 179 | n => n, fun | n => n⟩
theorem Tryz.sortF : Go.Proofs.SlLaysF0.n6 Tryz.prog Tryz.sortF_ren := {
 mixed := by kernel_rfl
 f6 := ⟨Tryz.f62.name, by decide, Tryz.func62.trans (congrArg some (by kernel_rfl))⟩
 f14 := ⟨Tryz.f85.name, by decide, Tryz.func85.trans (congrArg some (by kernel_rfl))⟩
 f15 := Tryz.func86.trans (congrArg some (by kernel_rfl))
 f20 := ⟨Tryz.f96.name, by decide, Tryz.func96.trans (congrArg some (by kernel_rfl))⟩
 f21 := ⟨Tryz.f97.name, by decide, Tryz.func97.trans (congrArg some (by kernel_rfl))⟩
 f22 := ⟨Tryz.f98.name, by decide, Tryz.func98.trans (congrArg some (by kernel_rfl))⟩
 f23 := ⟨Tryz.f99.name, by decide, Tryz.func99.trans (congrArg some (by kernel_rfl))⟩
 f24 := ⟨Tryz.f100.name, by decide, Tryz.func100.trans (congrArg some (by kernel_rfl))⟩
 f25 := ⟨Tryz.f101.name, by decide, Tryz.func101.trans (congrArg some (by kernel_rfl))⟩
 f26 := ⟨Tryz.f102.name, by decide, Tryz.func102.trans (congrArg some (by kernel_rfl))⟩
 f27 := ⟨Tryz.f103.name, by decide, Tryz.func103.trans (congrArg some (by kernel_rfl))⟩
 f28 := Tryz.func104.trans (congrArg some (by kernel_rfl))
 f29 := Tryz.func105.trans (congrArg some (by kernel_rfl))
 f46 := ⟨Tryz.f120.name, by decide, Tryz.func120.trans (congrArg some (by kernel_rfl))⟩
 f47 := Tryz.func121.trans (congrArg some (by kernel_rfl))
 f48 := Tryz.func122.trans (congrArg some (by kernel_rfl))
 f49 := ⟨Tryz.f123.name, by decide, Tryz.func123.trans (congrArg some (by kernel_rfl))⟩
 f50 := ⟨Tryz.f124.name, by decide, Tryz.func124.trans (congrArg some (by kernel_rfl))⟩
 f57 := ⟨Tryz.f129.name, by decide, Tryz.func129.trans (congrArg some (by kernel_rfl))⟩
 t0 := Tryz.underlying0
 a0 := Tryz.isAgg0
 z0 := Tryz.sizeOf0
 v0 := Tryz.zeroValue0
 t3 := Tryz.underlying3
 a3 := Tryz.isAgg3
 z3 := Tryz.sizeOf3
 v3 := Tryz.zeroValue3
 t4 := Tryz.underlying4
 a4 := Tryz.isAgg4
 z4 := Tryz.sizeOf4
 v4 := Tryz.zeroValue4
 t5 := Tryz.underlying5
 a5 := Tryz.isAgg5
 z5 := Tryz.sizeOf5
 v5 := Tryz.zeroValue5
 t9 := Tryz.underlying9
 a9 := Tryz.isAgg9
 z9 := Tryz.sizeOf9
 v9 := Tryz.zeroValue9
 t22 := Tryz.underlying22
 a22 := Tryz.isAgg22
 z22 := Tryz.sizeOf22
 v22 := Tryz.zeroValue22
 t25 := Tryz.underlying85
 a25 := Tryz.isAgg85
 z25 := Tryz.sizeOf85
 v25 := Tryz.zeroValue85
 t39 := Tryz.underlying110
 a39 := Tryz.isAgg110
 z39 := Tryz.sizeOf110
 v39 := Tryz.zeroValue110
 t45 := Tryz.underlying151
 a45 := Tryz.isAgg151
 z45 := Tryz.sizeOf151
 v45 := Tryz.zeroValue151
 t46 := Tryz.underlying152
 a46 := Tryz.isAgg152
 z46 := Tryz.sizeOf152
 v46 := Tryz.zeroValue152
 t50 := Tryz.underlying127
 a50 := Tryz.isAgg127
 z50 := Tryz.sizeOf127
 v50 := Tryz.zeroValue127
 t53 := Tryz.underlying109
 a53 := Tryz.isAgg109
 z53 := Tryz.sizeOf109
 v53 := Tryz.zeroValue109
 t55 := Tryz.underlying135
 a55 := Tryz.isAgg135
 z55 := Tryz.sizeOf135
 v55 := Tryz.zeroValue135
 t66 := Tryz.underlying169
 a66 := Tryz.isAgg169
 z66 := Tryz.sizeOf169
 v66 := Tryz.zeroValue169
 t70 := Tryz.underlying172
 a70 := Tryz.isAgg172
 z70 := Tryz.sizeOf172
 v70 := Tryz.zeroValue172
 t76 := Tryz.underlying178
 a76 := Tryz.isAgg178
 z76 := Tryz.sizeOf178
 v76 := Tryz.zeroValue178
 t77 := Tryz.underlying179
 a77 := Tryz.isAgg179
 z77 := Tryz.sizeOf179
 v77 := Tryz.zeroValue179 }
def Tryz.cmpS_ren : Go.Shelf.Ren := ⟨fun | 106 => 40 | 213 => 64 | 265 => 87 | n => n, fun | 9 => 9 | 3 => 3 | n => n, fun | n => n⟩
theorem Tryz.cmpS : Go.Proofs.Lays.n106 Tryz.prog Tryz.cmpS_ren := {
 mixed := by kernel_rfl
 f106 := Tryz.func40.trans (congrArg some (by kernel_rfl))
 f213 := Tryz.func64.trans (congrArg some (by kernel_rfl))
 f265 := Tryz.func87.trans (congrArg some (by kernel_rfl))
 t3 := Tryz.underlying3
 a3 := Tryz.isAgg3
 z3 := Tryz.sizeOf3
 v3 := Tryz.zeroValue3
 t9 := Tryz.underlying9
 a9 := Tryz.isAgg9
 z9 := Tryz.sizeOf9
 v9 := Tryz.zeroValue9 }
end Go.Proofs
