/- The layings of maps.Keys, slices.Sorted and the sort beneath, of strings, at this program (printed). -/
import Derived.Shelf.SlIter.Nil
import Derived.Shelf.SortM.Plain
import Derived.Shelf.SortM.SortNone
import Derived.Ground.GgzProg
import Derived.Ground.SlgmProg
import Derived.Shelf.SlGeneric
import Derived.Test.YtbcmjkfdeikkhaaProg
namespace Go.Proofs
set_option linter.unusedSimpArgs false
set_option linter.unnecessarySimpa false
open Go.Shelf
def Try.keys83_ren : Go.Shelf.Ren := ⟨fun | 7 => 83 | 10 => 102 | n => n, fun | 23 => 137 | 26 => 9 | 3 => 61 | 28 => 157 | 0 => 0 | 27 => 156 | 33 => 34 | 4 => 4 | n => n, fun | n => n⟩
theorem Try.keys83 : Go.Proofs.SlLaysZ.n7 Try.prog Try.keys83_ren := {
  mixed := by kernel_rfl
  f7 := ⟨Try.f83.name, by decide, Try.func83.trans (congrArg some (by kernel_rfl))⟩
  f10 := ⟨Try.f102.name, by decide, Try.func102.trans (congrArg some (by kernel_rfl))⟩
  t0 := Try.underlying0
  a0 := Try.isAgg0
  z0 := Try.sizeOf0
  v0 := Try.zeroValue0
  t4 := Try.underlying4
  a4 := Try.isAgg4
  z4 := Try.sizeOf4
  v4 := Try.zeroValue4
  t23 := Try.underlying137
  a23 := Try.isAgg137
  z23 := Try.sizeOf137
  v23 := Try.zeroValue137
  t26 := Try.underlying9
  a26 := Try.isAgg9
  z26 := Try.sizeOf9
  v26 := Try.zeroValue9
  t27 := Try.underlying156
  a27 := Try.isAgg156
  z27 := Try.sizeOf156
  v27 := Try.zeroValue156
  t28 := Try.underlying157
  a28 := Try.isAgg157
  z28 := Try.sizeOf157
  v28 := Try.zeroValue157
  t33 := Try.underlying34
  a33 := Try.isAgg34
  z33 := Try.sizeOf34
  v33 := Try.zeroValue34 }
def Try.sorted82_ren : Go.Shelf.Ren := ⟨fun | 6 => 82 | 8 => 100 | 9 => 101 | 11 => 112 | 13 => 114 | 12 => 113 | 23 => 125 | 24 => 80 | 14 => 116 | 15 => 117 | 16 => 118 | 17 => 119 | 18 => 120 | 19 => 121 | 20 => 122 | 21 => 123 | 22 => 124 | 25 => 126 | 26 => 127 | 27 => 128 | 28 => 129 | 29 => 130 | 30 => 131 | 31 => 132 | n => n, fun | 26 => 9 | 28 => 157 | 24 => 23 | 0 => 0 | 3 => 3 | 37 => 161 | 48 => 207 | 50 => 61 | 4 => 4 | 40 => 199 | 39 => 198 | 45 => 204 | 5 => 5 | 9 => 9 | 51 => 208 | 55 => 211 | 57 => 213 | 58 => 214 | 33 => 34 | n => n, fun | n => n⟩
theorem Try.sorted82 : Go.Proofs.SlLaysZ.n6 Try.prog Try.sorted82_ren := {
  mixed := by kernel_rfl
  f6 := ⟨Try.f82.name, by decide, Try.func82.trans (congrArg some (by kernel_rfl))⟩
  f8 := ⟨Try.f100.name, by decide, Try.func100.trans (congrArg some (by kernel_rfl))⟩
  f11 := ⟨Try.f112.name, by decide, Try.func112.trans (congrArg some (by kernel_rfl))⟩
  t0 := Try.underlying0
  a0 := Try.isAgg0
  z0 := Try.sizeOf0
  v0 := Try.zeroValue0
  t24 := Try.underlying23
  a24 := Try.isAgg23
  z24 := Try.sizeOf23
  v24 := Try.zeroValue23
  t26 := Try.underlying9
  a26 := Try.isAgg9
  z26 := Try.sizeOf9
  v26 := Try.zeroValue9
  t28 := Try.underlying157
  a28 := Try.isAgg157
  z28 := Try.sizeOf157
  v28 := Try.zeroValue157
  i26 := by kernel_rfl }
def Try.sort101_ren : Go.Shelf.Ren := ⟨fun | 6 => 101 | 8 => 114 | 9 => 113 | 19 => 125 | 20 => 80 | 21 => 116 | 22 => 117 | 23 => 118 | 24 => 119 | 25 => 120 | 26 => 121 | 27 => 122 | 28 => 123 | 29 => 124 | 36 => 126 | 31 => 127 | 32 => 128 | 37 => 129 | 38 => 130 | 39 => 131 | 41 => 132 | n => n, fun | 27 => 23 | 29 => 9 | 3 => 3 | 32 => 161 | 26 => 23 | 0 => 0 | 44 => 207 | 46 => 61 | 4 => 4 | 36 => 199 | 35 => 198 | 41 => 204 | 5 => 5 | 9 => 9 | 53 => 208 | 57 => 211 | 63 => 213 | 64 => 214 | n => n, fun | n => n⟩
theorem Try.sort101 : Go.Proofs.SlLaysM.n6 Try.prog Try.sort101_ren := {
  mixed := by kernel_rfl
  f6 := ⟨Try.f101.name, by decide, Try.func101.trans (congrArg some (by kernel_rfl))⟩
  f8 := Try.func114.trans (congrArg some (by kernel_rfl))
  f9 := ⟨Try.f113.name, by decide, Try.func113.trans (congrArg some (by kernel_rfl))⟩
  f19 := Try.func125.trans (congrArg some (by kernel_rfl))
  f20 := Try.func80.trans (congrArg some (by kernel_rfl))
  f21 := ⟨Try.f116.name, by decide, Try.func116.trans (congrArg some (by kernel_rfl))⟩
  f22 := ⟨Try.f117.name, by decide, Try.func117.trans (congrArg some (by kernel_rfl))⟩
  f23 := ⟨Try.f118.name, by decide, Try.func118.trans (congrArg some (by kernel_rfl))⟩
  f24 := ⟨Try.f119.name, by decide, Try.func119.trans (congrArg some (by kernel_rfl))⟩
  f25 := ⟨Try.f120.name, by decide, Try.func120.trans (congrArg some (by kernel_rfl))⟩
  f26 := ⟨Try.f121.name, by decide, Try.func121.trans (congrArg some (by kernel_rfl))⟩
  f27 := ⟨Try.f122.name, by decide, Try.func122.trans (congrArg some (by kernel_rfl))⟩
  f28 := ⟨Try.f123.name, by decide, Try.func123.trans (congrArg some (by kernel_rfl))⟩
  f29 := ⟨Try.f124.name, by decide, Try.func124.trans (congrArg some (by kernel_rfl))⟩
  f31 := Try.func127.trans (congrArg some (by kernel_rfl))
  f32 := Try.func128.trans (congrArg some (by kernel_rfl))
  f36 := ⟨Try.f126.name, by decide, Try.func126.trans (congrArg some (by kernel_rfl))⟩
  f37 := ⟨Try.f129.name, by decide, Try.func129.trans (congrArg some (by kernel_rfl))⟩
  f38 := ⟨Try.f130.name, by decide, Try.func130.trans (congrArg some (by kernel_rfl))⟩
  f39 := ⟨Try.f131.name, by decide, Try.func131.trans (congrArg some (by kernel_rfl))⟩
  f41 := ⟨Try.f132.name, by decide, Try.func132.trans (congrArg some (by kernel_rfl))⟩
  t0 := Try.underlying0
  a0 := Try.isAgg0
  z0 := Try.sizeOf0
  v0 := Try.zeroValue0
  t3 := Try.underlying3
  a3 := Try.isAgg3
  z3 := Try.sizeOf3
  v3 := Try.zeroValue3
  t4 := Try.underlying4
  a4 := Try.isAgg4
  z4 := Try.sizeOf4
  v4 := Try.zeroValue4
  t5 := Try.underlying5
  a5 := Try.isAgg5
  z5 := Try.sizeOf5
  v5 := Try.zeroValue5
  t9 := Try.underlying9
  a9 := Try.isAgg9
  z9 := Try.sizeOf9
  v9 := Try.zeroValue9
  t26 := Try.underlying23
  a26 := Try.isAgg23
  z26 := Try.sizeOf23
  v26 := Try.zeroValue23
  t27 := Try.underlying23
  a27 := Try.isAgg23
  z27 := Try.sizeOf23
  v27 := Try.zeroValue23
  t29 := Try.underlying9
  a29 := Try.isAgg9
  z29 := Try.sizeOf9
  v29 := Try.zeroValue9
  t32 := Try.underlying161
  a32 := Try.isAgg161
  z32 := Try.sizeOf161
  v32 := Try.zeroValue161
  t35 := Try.underlying198
  a35 := Try.isAgg198
  z35 := Try.sizeOf198
  v35 := Try.zeroValue198
  t36 := Try.underlying199
  a36 := Try.isAgg199
  z36 := Try.sizeOf199
  v36 := Try.zeroValue199
  t41 := Try.underlying204
  a41 := Try.isAgg204
  z41 := Try.sizeOf204
  v41 := Try.zeroValue204
  t44 := Try.underlying207
  a44 := Try.isAgg207
  z44 := Try.sizeOf207
  v44 := Try.zeroValue207
  t46 := Try.underlying61
  a46 := Try.isAgg61
  z46 := Try.sizeOf61
  v46 := Try.zeroValue61
  t53 := Try.underlying208
  a53 := Try.isAgg208
  z53 := Try.sizeOf208
  v53 := Try.zeroValue208
  t57 := Try.underlying211
  a57 := Try.isAgg211
  z57 := Try.sizeOf211
  v57 := Try.zeroValue211
  t63 := Try.underlying213
  a63 := Try.isAgg213
  z63 := Try.sizeOf213
  v63 := Try.zeroValue213
  t64 := Try.underlying214
  a64 := Try.isAgg214
  z64 := Try.sizeOf214
  v64 := Try.zeroValue214 }
end Go.Proofs
