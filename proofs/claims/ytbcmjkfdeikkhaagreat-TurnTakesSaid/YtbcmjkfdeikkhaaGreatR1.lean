/- DERIVED: THE SHELF's CONTRACTS AT THIS DUMP, IN PLAIN WORDS (tools/lay-plain.mjs out of 'TryShelf.lean', which tools/lay-shelf.mjs wrote): THE SAME DECLARATIONS UNDER THE SAME NAMES: 'import', 'namespace', 'open', 'def', 'theorem' AND NOTHING ELSE: no command of the shelf's: FOR A HAND-IN. Each laying: the table of numbers ('.._ren') and one theorem, a field a fact of the dump's own or the kernel's comparison; each contract: ONE APPLICATION. -/
import Derived.Shelf.SlIter.Nil
import Derived.Shelf.SortM.Plain
import Derived.Shelf.SortM.SortNone
import Derived.Ground.GgzProg
import Derived.Ground.SlgmProg
import Derived.Shelf.SlGeneric
import Derived.Test.YtbcmjkfdeikkhaaGreatProg
namespace Go.Proofs
set_option linter.unusedSimpArgs false
set_option linter.unnecessarySimpa false
open Go.Shelf
def Tryz.keys96_ren : Go.Shelf.Ren := ⟨fun | 7 => 96 | 10 => 124 | n => n, fun | 23 => 167 | 26 => 9 | 3 => 76 | 28 => 186 | 0 => 0 | 27 => 185 | 33 => 165 | 4 => 4 | n => n, fun | n => n⟩
theorem Tryz.keys96 : Go.Proofs.SlLaysZ.n7 Tryz.prog Tryz.keys96_ren := {
 mixed := by kernel_rfl
 f7 := ⟨Tryz.f96.name, by decide, Tryz.func96.trans (congrArg some (by kernel_rfl))⟩
 f10 := ⟨Tryz.f124.name, by decide, Tryz.func124.trans (congrArg some (by kernel_rfl))⟩
 t0 := Tryz.underlying0
 a0 := Tryz.isAgg0
 z0 := Tryz.sizeOf0
 v0 := Tryz.zeroValue0
 t4 := Tryz.underlying4
 a4 := Tryz.isAgg4
 z4 := Tryz.sizeOf4
 v4 := Tryz.zeroValue4
 t23 := Tryz.underlying167
 a23 := Tryz.isAgg167
 z23 := Tryz.sizeOf167
 v23 := Tryz.zeroValue167
 t26 := Tryz.underlying9
 a26 := Tryz.isAgg9
 z26 := Tryz.sizeOf9
 v26 := Tryz.zeroValue9
 t27 := Tryz.underlying185
 a27 := Tryz.isAgg185
 z27 := Tryz.sizeOf185
 v27 := Tryz.zeroValue185
 t28 := Tryz.underlying186
 a28 := Tryz.isAgg186
 z28 := Tryz.sizeOf186
 v28 := Tryz.zeroValue186
 t33 := Tryz.underlying165
 a33 := Tryz.isAgg165
 z33 := Tryz.sizeOf165
 v33 := Tryz.zeroValue165 }
def Tryz.sorted95_ren : Go.Shelf.Ren := ⟨fun | 6 => 95 | 8 => 122 | 9 => 123 | 11 => 131 | 13 => 133 | 12 => 132 | 23 => 144 | 24 => 107 | 14 => 135 | 15 => 136 | 16 => 137 | 17 => 138 | 18 => 139 | 19 => 140 | 20 => 141 | 21 => 142 | 22 => 143 | 25 => 145 | 26 => 146 | 27 => 147 | 28 => 148 | 29 => 149 | 30 => 150 | 31 => 151 | n => n, fun | 26 => 9 | 28 => 186 | 24 => 22 | 0 => 0 | 3 => 3 | 37 => 212 | 48 => 244 | 50 => 76 | 4 => 4 | 40 => 236 | 39 => 235 | 45 => 241 | 5 => 5 | 9 => 9 | 51 => 245 | 55 => 248 | 57 => 250 | 58 => 226 | 33 => 165 | n => n, fun | n => n⟩
theorem Tryz.sorted95 : Go.Proofs.SlLaysZ.n6 Tryz.prog Tryz.sorted95_ren := {
 mixed := by kernel_rfl
 f6 := ⟨Tryz.f95.name, by decide, Tryz.func95.trans (congrArg some (by kernel_rfl))⟩
 f8 := ⟨Tryz.f122.name, by decide, Tryz.func122.trans (congrArg some (by kernel_rfl))⟩
 f11 := ⟨Tryz.f131.name, by decide, Tryz.func131.trans (congrArg some (by kernel_rfl))⟩
 t0 := Tryz.underlying0
 a0 := Tryz.isAgg0
 z0 := Tryz.sizeOf0
 v0 := Tryz.zeroValue0
 t24 := Tryz.underlying22
 a24 := Tryz.isAgg22
 z24 := Tryz.sizeOf22
 v24 := Tryz.zeroValue22
 t26 := Tryz.underlying9
 a26 := Tryz.isAgg9
 z26 := Tryz.sizeOf9
 v26 := Tryz.zeroValue9
 t28 := Tryz.underlying186
 a28 := Tryz.isAgg186
 z28 := Tryz.sizeOf186
 v28 := Tryz.zeroValue186
 i26 := by kernel_rfl }
def Tryz.sort123_ren : Go.Shelf.Ren := ⟨fun | 6 => 123 | 8 => 133 | 9 => 132 | 19 => 144 | 20 => 107 | 21 => 135 | 22 => 136 | 23 => 137 | 24 => 138 | 25 => 139 | 26 => 140 | 27 => 141 | 28 => 142 | 29 => 143 | 36 => 145 | 31 => 146 | 32 => 147 | 37 => 148 | 38 => 149 | 39 => 150 | 41 => 151 | n => n, fun | 27 => 22 | 29 => 9 | 3 => 3 | 32 => 212 | 26 => 22 | 0 => 0 | 44 => 244 | 46 => 76 | 4 => 4 | 36 => 236 | 35 => 235 | 41 => 241 | 5 => 5 | 9 => 9 | 53 => 245 | 57 => 248 | 63 => 250 | 64 => 226 | n => n, fun | n => n⟩
theorem Tryz.sort123 : Go.Proofs.SlLaysM.n6 Tryz.prog Tryz.sort123_ren := {
 mixed := by kernel_rfl
 f6 := ⟨Tryz.f123.name, by decide, Tryz.func123.trans (congrArg some (by kernel_rfl))⟩
 f8 := Tryz.func133.trans (congrArg some (by kernel_rfl))
 f9 := ⟨Tryz.f132.name, by decide, Tryz.func132.trans (congrArg some (by kernel_rfl))⟩
 f19 := Tryz.func144.trans (congrArg some (by kernel_rfl))
 f20 := Tryz.func107.trans (congrArg some (by kernel_rfl))
 f21 := ⟨Tryz.f135.name, by decide, Tryz.func135.trans (congrArg some (by kernel_rfl))⟩
 f22 := ⟨Tryz.f136.name, by decide, Tryz.func136.trans (congrArg some (by kernel_rfl))⟩
 f23 := ⟨Tryz.f137.name, by decide, Tryz.func137.trans (congrArg some (by kernel_rfl))⟩
 f24 := ⟨Tryz.f138.name, by decide, Tryz.func138.trans (congrArg some (by kernel_rfl))⟩
 f25 := ⟨Tryz.f139.name, by decide, Tryz.func139.trans (congrArg some (by kernel_rfl))⟩
 f26 := ⟨Tryz.f140.name, by decide, Tryz.func140.trans (congrArg some (by kernel_rfl))⟩
 f27 := ⟨Tryz.f141.name, by decide, Tryz.func141.trans (congrArg some (by kernel_rfl))⟩
 f28 := ⟨Tryz.f142.name, by decide, Tryz.func142.trans (congrArg some (by kernel_rfl))⟩
 f29 := ⟨Tryz.f143.name, by decide, Tryz.func143.trans (congrArg some (by kernel_rfl))⟩
 f31 := Tryz.func146.trans (congrArg some (by kernel_rfl))
 f32 := Tryz.func147.trans (congrArg some (by kernel_rfl))
 f36 := ⟨Tryz.f145.name, by decide, Tryz.func145.trans (congrArg some (by kernel_rfl))⟩
 f37 := ⟨Tryz.f148.name, by decide, Tryz.func148.trans (congrArg some (by kernel_rfl))⟩
 f38 := ⟨Tryz.f149.name, by decide, Tryz.func149.trans (congrArg some (by kernel_rfl))⟩
 f39 := ⟨Tryz.f150.name, by decide, Tryz.func150.trans (congrArg some (by kernel_rfl))⟩
 f41 := ⟨Tryz.f151.name, by decide, Tryz.func151.trans (congrArg some (by kernel_rfl))⟩
 t0 := Tryz.underlying0
 a0 := Tryz.isAgg0
 z0 := Tryz.sizeOf0
 v0 := Tryz.zeroValue0
 t3 := Tryz.underlying3
 a3 := Tryz.isAgg3
 z3 := Tryz.sizeOf3
 v3 := Tryz.zeroValue3
 t4 := Tryz.underlying4
 a4 := Tryz.isAgg4
 z4 := Tryz.sizeOf4
 v4 := Tryz.zeroValue4
 t5 := Tryz.underlying5
 a5 := Tryz.isAgg5
 z5 := Tryz.sizeOf5
 v5 := Tryz.zeroValue5
 t9 := Tryz.underlying9
 a9 := Tryz.isAgg9
 z9 := Tryz.sizeOf9
 v9 := Tryz.zeroValue9
 t26 := Tryz.underlying22
 a26 := Tryz.isAgg22
 z26 := Tryz.sizeOf22
 v26 := Tryz.zeroValue22
 t27 := Tryz.underlying22
 a27 := Tryz.isAgg22
 z27 := Tryz.sizeOf22
 v27 := Tryz.zeroValue22
 t29 := Tryz.underlying9
 a29 := Tryz.isAgg9
 z29 := Tryz.sizeOf9
 v29 := Tryz.zeroValue9
 t32 := Tryz.underlying212
 a32 := Tryz.isAgg212
 z32 := Tryz.sizeOf212
 v32 := Tryz.zeroValue212
 t35 := Tryz.underlying235
 a35 := Tryz.isAgg235
 z35 := Tryz.sizeOf235
 v35 := Tryz.zeroValue235
 t36 := Tryz.underlying236
 a36 := Tryz.isAgg236
 z36 := Tryz.sizeOf236
 v36 := Tryz.zeroValue236
 t41 := Tryz.underlying241
 a41 := Tryz.isAgg241
 z41 := Tryz.sizeOf241
 v41 := Tryz.zeroValue241
 t44 := Tryz.underlying244
 a44 := Tryz.isAgg244
 z44 := Tryz.sizeOf244
 v44 := Tryz.zeroValue244
 t46 := Tryz.underlying76
 a46 := Tryz.isAgg76
 z46 := Tryz.sizeOf76
 v46 := Tryz.zeroValue76
 t53 := Tryz.underlying245
 a53 := Tryz.isAgg245
 z53 := Tryz.sizeOf245
 v53 := Tryz.zeroValue245
 t57 := Tryz.underlying248
 a57 := Tryz.isAgg248
 z57 := Tryz.sizeOf248
 v57 := Tryz.zeroValue248
 t63 := Tryz.underlying250
 a63 := Tryz.isAgg250
 z63 := Tryz.sizeOf250
 v63 := Tryz.zeroValue250
 t64 := Tryz.underlying226
 a64 := Tryz.isAgg226
 z64 := Tryz.sizeOf226
 v64 := Tryz.zeroValue226 }
end Go.Proofs
