/- A part of the proof layer, or functions of the given program in it: contracts and their proofs. -/
import Derived.Test.YthfkoeoaehkoaaaGreatDoorMS10
import Derived.Test.YthfkoeoaehkoaaaGreatDoorX2
import Derived.Test.YthfkoeoaehkoaaaGreatDoorMVzb
import Derived.Test.YthfkoeoaehkoaaaGreatDoorProg
import Derived.Shelf.Strings.OnBuilder
import Derived.Shelf.Strconv.Itoa4
import Derived.Shelf.LaysM
namespace Go.V
open Go.Proofs
set_option maxRecDepth 100000
set_option maxHeartbeats 8000000
set_option linter.unusedSimpArgs false
set_option linter.unnecessarySimpa false
set_option linter.unusedVariables false
attribute [local irreducible] rc
def Rn : Run := runF XT 10000 100
theorem rn_sound (f : Nat) : Sound Tryz.prog f (CX Rn f) := runF_sound XT_ok 10000 100 f
theorem isTrue_eq {o : Outs (SV × List SB)} (h : isTrue o = true) : o = some [(.bool true, [])] := by
 unfold isTrue at h
 split at h
 ·rfl
 ·cases h
def C9 : Contract := fun args hp K => match args, hp with
 | [], [] => K (.bool true) []
 | _, _ => False
theorem s9 : Sound Tryz.prog 9 C9 := by
 intro args hp K h
 unfold C9 at h
 split at h
 ·exact rn_sound 9 _ _ K ⟨_, isTrue_eq run9, by simpa using h⟩
 ·exact h.elim
theorem s9_c : Callable Tryz.prog 9 := callable_of_okF xk9
end Go.V
namespace Go.V
open Go.Proofs
set_option maxRecDepth 100000
set_option maxHeartbeats 8000000
set_option linter.unusedSimpArgs false
set_option linter.unnecessarySimpa false
set_option linter.unusedVariables false
attribute [local irreducible] rc
section use
variable {K : SV → List SB → Prop}
theorem use9 (h : K (.bool true) []) : C9 [] [] K := h
theorem useP {s : ByteArray} (hs : s.size ≤ 1000000) (h1 : ∀ e, parseC s = .error e → K (.tup [zeroC, .int .i64 e]) []) (h2 : ∀ c, parseC s = .ok c → K (.tup [cmdV c, .int .i64 0]) []) : CParse [.str s] [] K := ⟨hs, h1, h2⟩
end use
theorem errP {s : ByteArray} {e : Int} (h : parseC s = .error e) : e = 4 ∨ e = 2 := by
 unfold parseC at h
 split at h
 ·cases h; exact .inl rfl
 ·split at h
  ·cases h; exact .inr rfl
  ·split at h
   ·split at h
    ·cases h
    ·cases h; exact .inr rfl
   ·cases h; exact .inr rfl
attribute [local irreducible] C9 CParse C12 C13
end Go.V
namespace Go.V
set_option linter.unusedSimpArgs false
set_option linter.unnecessarySimpa false
open Go.Proofs
def a5 : AS := qS [q 1 (.box (.t 0)), q 2 (.mv qf)] [1] (.seq (qS [q 7 (.call 9 [] []), q 8 (.not (.t 7)), q0 9 8, qF 10 (.ldA 5 (.t 1)) 9, qF 11 (.call 15 [none] [.t 10]) 9, qF 12 (.not (.t 11)) 9, q 13 (.pick (.t 9) qt (.t 12))] [1,13] (.cond (.t 13) (qS
 [q 14 (.call 9 [] []), q0 2 14] [2] .ret) .skip)) (qS [q 16 (.ldA 5 (.t 1)), qX 17 17 [.t 16], qX 16 18 [.t 17], q0 15 18, q 19 (.ext (.t 15) 0), q 20 (.ext (.t 15) 1), q0 3 19, q0 4 20] [1,3,4] (qS [q 22 (.ldA 5 (.t 1)), qX 18 23 [.t 22],
 q0 21 23, q 24 (.ext (.t 21) 0), q 25 (.ext (.t 21) 1), q0 5 24, q0 6 25] [3,4,5,6] (qS [q0 26 3, q0 27 5, q 28 (.bin .eql (.t 26) (.t 27)), q0 29 28, q1 30 4 29, q1 31 6 29, qT 32 (.bin .eql (.t 30) (.t 31)) 29, q 33 (.pick (.t 29) (.t 32)
 qf), q0 2 33] [2] .ret))))
def r5 : List RT := [.t 2]
def r6 : List RT := [.t 4]
def r7 : List RT := [.t 4]
def a37 : AS := qS [q 2 (.mv (.c (qE)))] [0] (qS [q0 3 0, qX 94 4 [.t 3], q0 2 4] [2] .ret)
def a44 : AS := qS [q 1 (.box (.t 0)), q 2 (.mv (.c (qE)))] [1] (qS [q3 8 0 1, q4 9 8, q0 3 9] [1,3] (qS [q 4 (.mv (qI 0)), q 5 (.mv (qI 0))] [1,3,4,5] (qS [q3 10 0 1, q4 11 10, qX 32 12 [.t 11], q0 6 12] [1,3,4,5,6] (.seq (qS [q0 13 6, q 14 (.rng (.t 13))]
 [1,3,4,5,6,14] (.block 0 (.loop 1 [1,3,4,5,6,14] (qS [q 15 (.nxt (.t 14)), q 16 (.ext (.t 15) 0)] [1,3,4,5,6,14,15,16] (.seq (.cond (.t 16) .skip (.exit 0)) (.block 1 (qS [q 17 (.ext (.t 15) 1), q0 7 17] [1,3,4,5,6,7,14] (qS [q0 18 6, q0 19
 7, q 20 (.ixS (.t 18) (.t 19))] [1,3,4,5,6,14,20] (.block 2 (qS [q 22 (.bin .eql (.t 20) (.c (.int .u8 99))), q0 21 22] [1,3,4,5,6,14,20,21] (.cond (.t 21) (.reg [q0 23 3, q 24 (.bin .add (.t 23) (.c (.str ⟨#[32]⟩))), q3 25 2 1, q4 26 25, qX
 100 27 [.t 26], q 28 (.bin .add (.t 24) (.t 27)), q0 3 28] [1,3,4,5,6,14]) (qS [q 30 (.bin .eql (.t 20) (.c (.int .u8 115))), q0 29 30] [1,3,4,5,6,14,20,29] (.cond (.t 29) (.reg [q0 31 3, q 32 (.bin .add (.t 31) (.c (.str ⟨#[32]⟩))), q3 33 3
 1, q4 34 33, qX 100 35 [.t 34], q 36 (.bin .add (.t 32) (.t 35)), q0 3 36] [1,3,4,5,6,14]) (.seq (qS [q 38 (.bin .eql (.t 20) (.c (.int .u8 107))), q0 37 38] [1,3,4,5,6,14,20,37] (.cond (.t 37) .skip (.reg [q 39 (.bin .eql (.t 20) (.c (.int
 .u8 110))), q0 37 39] [1,3,4,5,6,14,20,37]))) (.cond (.t 37) (.seq (qS [q0 40 4, q3 41 1 1, q4 42 41, q 43 (.len .s (.t 42)), q 44 (.bin .lss (.t 40) (.t 43))] [1,3,4,5,6,14,44] (.cond (.t 44) (.reg [q0 45 3, q 46 (.bin .add (.t 45) (.c
 (.str ⟨#[32]⟩))), q3 47 1 1, q4 48 47, q0 49 4, q 50 (.ia 1 (.t 48) (.t 49)), q4 51 50, qX 101 52 [.t 51], q 53 (.bin .add (.t 46) (.t 52)), q0 3 53] [1,3,4,5,6,14]) .skip)) (.reg [q0 54 4, q 55 (.bin .add (.t 54) (qI 1)), q0 4 55]
 [1,3,4,5,6,14])) (qS [q 57 (.bin .eql (.t 20) (.c (.int .u8 105))), q0 56 57] [1,3,4,5,6,14,20,56] (.cond (.t 56) (.seq (qS [q0 58 5, q3 59 4 1, q4 60 59, q 61 (.len .s (.t 60)), q 62 (.bin .lss (.t 58) (.t 61))] [1,3,4,5,6,14,62] (.cond (.t
 62) (.reg [q0 63 3, q 64 (.bin .add (.t 63) (.c (.str ⟨#[32]⟩))), q3 65 4 1, q4 66 65, q0 67 5, q 68 (.ia 1 (.t 66) (.t 67)), q4 69 68, qX 102 70 [.t 69], q 71 (.bin .add (.t 64) (.t 70)), q0 3 71] [1,3,4,5,6,14]) .skip)) (.reg [q0 72 5, q
 73 (.bin .add (.t 72) (qI 1)), q0 5 73] [1,3,4,5,6,14])) (qS [q 75 (.bin .eql (.t 20) (.c (.int .u8 97))), q0 74 75] [1,3,4,5,6,14,74] (.cond (.t 74) (.block 3 (.loop 2 [1,3,4,5,6,14] (.seq (qS [q0 76 5, q3 77 4 1, q4 78 77, q 79 (.len .s
 (.t 78)), q 80 (.bin .lss (.t 76) (.t 79)), q0 81 80, q1 82 3 81, qT 83 (.len .i (.t 82)) 81, qT 84 (.bin .lss (.t 83) (qI 2000)) 81, q 85 (.pick (.t 81) (.t 84) qf)] [1,3,4,5,6,14,85] (.cond (.t 85) .skip (.exit 3))) (.seq (.block 4 (.reg
 [q0 88 3, q 89 (.bin .add (.t 88) (.c (.str ⟨#[32]⟩))), q3 90 4 1, q4 91 90, q0 92 5, q 93 (.ia 1 (.t 91) (.t 92)), q4 94 93, qX 102 95 [.t 94], q 96 (.bin .add (.t 89) (.t 95)), q0 3 96] [1,3,4,5,6,14])) (.reg [q0 86 5, q 87 (.bin .add (.t
 86) (qI 1)), q0 5 87] [1,3,4,5,6,14]))))) .skip))))))))))))))))))) (qS [q0 97 3, q0 2 97] [2] .ret)))))
end Go.V
namespace Go.Proofs
set_option linter.unusedSimpArgs false
set_option linter.unnecessarySimpa false
open Go.Shelf
def Tryz.itoa_ren : Go.Shelf.Ren := ⟨fun | 171 => 37 | 243 => 94 | 246 => 96 | 283 => 173 | 284 => 174 | 285 => 175 | 286 => 176 | 129 => 261 | 317 => 260 | 318 => 262 | 319 => 263 | 320 => 264 | 337 => 313 | 338 => 314 | n => n, fun | 3 => 3 | 9 => 9 | 2 => 2 | 4 => 4 | 171 => 295 | 0 => 0 | 53 => 24 | 37 => 89 | 5 => 5 | 173 => 298 | 212 => 400 | 51 => 310 | 20 => 20 | 213 => 401 | 46 => 144 | 232 => 484 | 233 => 485 | n => n, fun | 17 => 0 | 18 => 6 | 19 => 7 | n => n⟩
theorem Tryz.itoa : Go.Proofs.LaysM.n171 Tryz.prog Tryz.itoa_ren := {
 mixed := by kernel_rfl
 f129 := Tryz.func261.trans (congrArg some (by kernel_rfl))
 f171 := Tryz.func37.trans (congrArg some (by kernel_rfl))
 f243 := Tryz.func94.trans (congrArg some (by kernel_rfl))
 f246 := Tryz.func96.trans (congrArg some (by kernel_rfl))
 f283 := Tryz.func173.trans (congrArg some (by kernel_rfl))
 f284 := Tryz.func174.trans (congrArg some (by kernel_rfl))
 f285 := Tryz.func175.trans (congrArg some (by kernel_rfl))
 f286 := Tryz.func176.trans (congrArg some (by kernel_rfl))
 f317 := Tryz.func260.trans (congrArg some (by kernel_rfl))
 f318 := Tryz.func262.trans (congrArg some (by kernel_rfl))
 f319 := Tryz.func263.trans (congrArg some (by kernel_rfl))
 f320 := Tryz.func264.trans (congrArg some (by kernel_rfl))
 f337 := Tryz.func313.trans (congrArg some (by kernel_rfl))
 f338 := Tryz.func314.trans (congrArg some (by kernel_rfl))
 t0 := Tryz.underlying0
 a0 := Tryz.isAgg0
 z0 := Tryz.sizeOf0
 v0 := Tryz.zeroValue0
 t2 := Tryz.underlying2
 a2 := Tryz.isAgg2
 z2 := Tryz.sizeOf2
 v2 := Tryz.zeroValue2
 t3 := Tryz.underlying3
 a3 := Tryz.isAgg3
 z3 := Tryz.sizeOf3
 v3 := Tryz.zeroValue3
 t4 := Tryz.underlying4
 a4 := Tryz.isAgg4
 z4 := Tryz.sizeOf4
 v4 := Tryz.zeroValue4
 t5 := Tryz.underlying5
 a5 := Tryz.isAgg5
 z5 := Tryz.sizeOf5
 v5 := Tryz.zeroValue5
 t9 := Tryz.underlying9
 a9 := Tryz.isAgg9
 z9 := Tryz.sizeOf9
 v9 := Tryz.zeroValue9
 t20 := Tryz.underlying20
 a20 := Tryz.isAgg20
 z20 := Tryz.sizeOf20
 v20 := Tryz.zeroValue20
 t37 := Tryz.underlying89
 a37 := Tryz.isAgg89
 z37 := Tryz.sizeOf89
 v37 := Tryz.zeroValue89
 t46 := Tryz.underlying144
 a46 := Tryz.isAgg144
 z46 := Tryz.sizeOf144
 v46 := Tryz.zeroValue144
 t51 := Tryz.underlying310
 a51 := Tryz.isAgg310
 z51 := Tryz.sizeOf310
 v51 := Tryz.zeroValue310
 t53 := Tryz.underlying24
 a53 := Tryz.isAgg24
 z53 := Tryz.sizeOf24
 v53 := Tryz.zeroValue24
 t171 := Tryz.underlying295
 a171 := Tryz.isAgg295
 z171 := Tryz.sizeOf295
 v171 := Tryz.zeroValue295
 t173 := Tryz.underlying298
 a173 := Tryz.isAgg298
 z173 := Tryz.sizeOf298
 v173 := Tryz.zeroValue298
 t212 := Tryz.underlying400
 a212 := Tryz.isAgg400
 z212 := Tryz.sizeOf400
 v212 := Tryz.zeroValue400
 t213 := Tryz.underlying401
 a213 := Tryz.isAgg401
 z213 := Tryz.sizeOf401
 t232 := Tryz.underlying484
 a232 := Tryz.isAgg484
 z232 := Tryz.sizeOf484
 v232 := Tryz.zeroValue484
 t233 := Tryz.underlying485
 a233 := Tryz.isAgg485
 z233 := Tryz.sizeOf485
 v233 := Tryz.zeroValue485
 g17 := by kernel_rfl
 g18 := by kernel_rfl
 g19 := by kernel_rfl
 i0 := by kernel_rfl
 i2 := by kernel_rfl
 i3 := by kernel_rfl
 i4 := by kernel_rfl
 i5 := by kernel_rfl
 i9 := by kernel_rfl
 i20 := by kernel_rfl
 i37 := by kernel_rfl
 i46 := by kernel_rfl
 i51 := by kernel_rfl
 i53 := by kernel_rfl
 i171 := by kernel_rfl
 i173 := by kernel_rfl
 i212 := by kernel_rfl
 i232 := by kernel_rfl
 i233 := by kernel_rfl
 m17 := by kernel_rfl
 m18 := by kernel_rfl
 m19 := by kernel_rfl }
end Go.Proofs
namespace Go.V
open Go.Proofs Go.Shelf Go.RowKit
set_option maxRecDepth 100000
set_option maxHeartbeats 8000000
set_option linter.unusedSimpArgs false
set_option linter.unnecessarySimpa false
set_option linter.unusedVariables false
attribute [local irreducible] rc
/-! ### lists alike, in the package -/
/-! ### numbers and keys as words -/
def C37 : Contract := fun args hp K => match args, hp with
 | [.int .i64 n], [] => (itoaB n).size ≤ maxLen ∧ K (.str (itoaB n)) []
 | _, _ => False
theorem s37 : Sound Tryz.prog 37 C37 := by
 refine sound_plain ?_
 intro args hp K h E vs hg hd
 unfold C37 at h
 split at h
 ·rename_i n
  obtain ⟨h1, h⟩ := h
  simp only [denL, den] at hd
  obtain ⟨v, r, rfl, ⟨rfl, hs⟩, rfl⟩ := hd
  have e1 : IntKind.i64.min = -9223372036854775808 := by decide
  have e2 : IntKind.i64.max = 9223372036854775807 := by decide
  rw [e1, e2] at hs
  refine (Any.strconv_Itoa Tryz.itoa n hs.1 hs.2 E.w (pow_tab hg)).mono ?_
  rintro e w' ⟨rfl, k, os, rfl⟩
  exact ⟨_, _, rfl, Chg.below (Lib.below_grow _ _ (Nat.le_refl _) _ _), h, fun E' => by simp only [den]; exact ⟨rfl, h1⟩⟩
 ·exact h.elim
theorem s37_c : Callable Tryz.prog 37 := ⟨_, Tryz.func37, rfl, by decide⟩
end Go.V
namespace Go.V
open Go.Proofs
set_option maxRecDepth 100000
set_option maxHeartbeats 8000000
set_option linter.unusedSimpArgs false
set_option linter.unnecessarySimpa false
set_option linter.unusedVariables false
attribute [local irreducible] rc
def errW (e : Int) : ByteArray := ⟨#[101, 114, 114, 111, 114, 32]⟩ ++ itoaB e
theorem use37 {n : Int} {K : SV → List SB → Prop} (h1 : (itoaB n).size ≤ maxLen) (h : K (.str (itoaB n)) []) : C37 [.int .i64 n] [] K := ⟨h1, h⟩
def C14 : Contract := fun args hp K => match args, hp with
 | [.nilp, .str s], [] => s.size ≤ 1000000 ∧ (∀ e, parseC s = .error e → K (.str (errW e)) []) ∧ (∀ c, parseC s = .ok c → K (.str (errW 1)) [])
 | _, _ => False
def C36 : Contract := fun _ _ _ => False
theorem s36 : Sound Tryz.prog 36 C36 := fun _ _ _ h => h.elim
theorem s36_c : Callable Tryz.prog 36 := ⟨_, Tryz.func36, rfl, by decide⟩
attribute [local irreducible] C9 CParse C37
theorem itoa_124 : itoaB 1 = ⟨#[49]⟩ ∧ itoaB 2 = ⟨#[50]⟩ ∧ itoaB 4 = ⟨#[52]⟩ := by
 refine ⟨?_, ?_, ?_⟩ <;> (unfold itoaB; rw [Lib.itoa, if_neg (by decide), dec_small (by decide)]; rfl)
theorem s14 : Sound Tryz.prog 14 C14 := by
 refine sound_of_okF ok14 (.cons s10 (callable_of_okF ok10) (.cons s36 s36_c (.cons s37 s37_c .nil))) ?_
 intro args hp K h
 unfold C14 at h
 split at h
 ·rename_i s
  obtain ⟨hs, h1, h2⟩ := h
  refine ⟨by simp, [], ?_⟩
  have hm := maxLen_val
  obtain ⟨t1, t2, t4⟩ := itoa_124
  have z1 : (itoaB 1).size = 1 := by rw [t1]; rfl
  have z2 : (itoaB 2).size = 1 := by rw [t2]; rfl
  have z4 : (itoaB 4).size = 1 := by rw [t4]; rfl
  simp (maxSteps:=9^9) only [a14, r14, go_sem, eq_self, and_self, Int.natCast_pos, Int.le_refl, Nat.le_refl, Int.natCast_nonneg, Int.ofNat_lt, Int.ofNat_le, Int.reduceLT, Int.reduceLE, Int.reduceEq, Int.reduceNe, Int.reduceAdd, Int.reduceSub, Int.reduceMul, Int.reduceToNat, Int.reduceNeg, Nat.reduceEqDiff, Nat.reduceLeDiff, Nat.reduceSub, Nat.reduceMul, Nat.reduceLT, Nat.reduceBEq, Nat.reduceAdd, Nat.reduceDiv, Nat.reduceMod]
  refine useP hs (fun e he => ?_) (fun c he => ?_)
  ·have h3 := h1 e he
   unfold errW at h3
   rcases errP he with rfl | rfl
   ·simp (maxSteps:=9^9) only [zeroC, go_sem, eq_self, and_self, Int.natCast_pos, Int.le_refl, Nat.le_refl, Int.natCast_nonneg, Int.ofNat_lt, Int.ofNat_le, Int.reduceLT, Int.reduceLE, Int.reduceEq, Int.reduceNe, Int.reduceAdd, Int.reduceSub, Int.reduceMul, Int.reduceToNat, Int.reduceNeg, Nat.reduceEqDiff, Nat.reduceLeDiff, Nat.reduceSub, Nat.reduceMul, Nat.reduceLT, Nat.reduceBEq, Nat.reduceAdd, Nat.reduceDiv, Nat.reduceMod]
    refine use37 (by omega) ?_
    simp (maxSteps:=9^9) only [go_sem, eq_self, and_self, Int.natCast_pos, Int.le_refl, Nat.le_refl, Int.natCast_nonneg, Int.ofNat_lt, Int.ofNat_le, Int.reduceLT, Int.reduceLE, Int.reduceEq, Int.reduceNe, Int.reduceAdd, Int.reduceSub, Int.reduceMul, Int.reduceToNat, Int.reduceNeg, Nat.reduceEqDiff, Nat.reduceLeDiff, Nat.reduceSub, Nat.reduceMul, Nat.reduceLT, Nat.reduceBEq, Nat.reduceAdd, Nat.reduceDiv, Nat.reduceMod]
    exact ⟨by have e6 : (#[101, 114, 114, 111, 114, 32] : Array UInt8).size = 6 := rfl; rw [e6]; omega, fun u e => e ▸ h3⟩
   ·simp (maxSteps:=9^9) only [zeroC, go_sem, eq_self, and_self, Int.natCast_pos, Int.le_refl, Nat.le_refl, Int.natCast_nonneg, Int.ofNat_lt, Int.ofNat_le, Int.reduceLT, Int.reduceLE, Int.reduceEq, Int.reduceNe, Int.reduceAdd, Int.reduceSub, Int.reduceMul, Int.reduceToNat, Int.reduceNeg, Nat.reduceEqDiff, Nat.reduceLeDiff, Nat.reduceSub, Nat.reduceMul, Nat.reduceLT, Nat.reduceBEq, Nat.reduceAdd, Nat.reduceDiv, Nat.reduceMod]
    refine use37 (by omega) ?_
    simp (maxSteps:=9^9) only [go_sem, eq_self, and_self, Int.natCast_pos, Int.le_refl, Nat.le_refl, Int.natCast_nonneg, Int.ofNat_lt, Int.ofNat_le, Int.reduceLT, Int.reduceLE, Int.reduceEq, Int.reduceNe, Int.reduceAdd, Int.reduceSub, Int.reduceMul, Int.reduceToNat, Int.reduceNeg, Nat.reduceEqDiff, Nat.reduceLeDiff, Nat.reduceSub, Nat.reduceMul, Nat.reduceLT, Nat.reduceBEq, Nat.reduceAdd, Nat.reduceDiv, Nat.reduceMod]
    exact ⟨by have e6 : (#[101, 114, 114, 111, 114, 32] : Array UInt8).size = 6 := rfl; rw [e6]; omega, fun u e => e ▸ h3⟩
  ·have h3 := h2 c he
   unfold errW at h3
   simp (maxSteps:=9^9) only [cmdV, go_sem, eq_self, and_self, Int.natCast_pos, Int.le_refl, Nat.le_refl, Int.natCast_nonneg, Int.ofNat_lt, Int.ofNat_le, Int.reduceLT, Int.reduceLE, Int.reduceEq, Int.reduceNe, Int.reduceAdd, Int.reduceSub, Int.reduceMul, Int.reduceToNat, Int.reduceNeg, Nat.reduceEqDiff, Nat.reduceLeDiff, Nat.reduceSub, Nat.reduceMul, Nat.reduceLT, Nat.reduceBEq, Nat.reduceAdd, Nat.reduceDiv, Nat.reduceMod]
   refine use37 (by omega) ?_
   simp (maxSteps:=9^9) only [go_sem, eq_self, and_self, Int.natCast_pos, Int.le_refl, Nat.le_refl, Int.natCast_nonneg, Int.ofNat_lt, Int.ofNat_le, Int.reduceLT, Int.reduceLE, Int.reduceEq, Int.reduceNe, Int.reduceAdd, Int.reduceSub, Int.reduceMul, Int.reduceToNat, Int.reduceNeg, Nat.reduceEqDiff, Nat.reduceLeDiff, Nat.reduceSub, Nat.reduceMul, Nat.reduceLT, Nat.reduceBEq, Nat.reduceAdd, Nat.reduceDiv, Nat.reduceMod]
   exact ⟨by have e6 : (#[101, 114, 114, 111, 114, 32] : Array UInt8).size = 6 := rfl; rw [e6]; omega, fun u e => e ▸ h3⟩
 ·exact h.elim
def C4 : Contract := fun args hp K => match args, hp with
 | [.str s], [] => K (.bool true) []
 | _, _ => False
theorem use14 {s : ByteArray} {K : SV → List SB → Prop} (hs : s.size ≤ 1000000) (h1 : ∀ e, parseC s = .error e → K (.str (errW e)) []) (h2 : ∀ c, parseC s = .ok c → K (.str (errW 1)) []) : C14 [.nilp, .str s] [] K := ⟨hs, h1, h2⟩
attribute [local irreducible] C14
theorem s4 : Sound Tryz.prog 4 C4 := by
 refine sound_of_okF ok4 (.cons s9 s9_c (.cons s11 (callable_of_okF ok11) (.cons s14 (callable_of_okF ok14) .nil))) ?_
 intro args hp K h
 unfold C4 at h
 split at h
 ·rename_i s
  refine ⟨by simp, [], ?_⟩
  obtain ⟨t1, t2, t4⟩ := itoa_124
  have w1 : errW 1 = ⟨#[101, 114, 114, 111, 114, 32, 49]⟩ := by unfold errW; rw [t1]; rfl
  have w2 : errW 2 = ⟨#[101, 114, 114, 111, 114, 32, 50]⟩ := by unfold errW; rw [t2]; rfl
  have w4 : errW 4 = ⟨#[101, 114, 114, 111, 114, 32, 52]⟩ := by unfold errW; rw [t4]; rfl
  simp (maxSteps:=9^9) only [a4, r4, go_sem, eq_self, and_self, Int.natCast_pos, Int.le_refl, Nat.le_refl, Int.natCast_nonneg, Int.ofNat_lt, Int.ofNat_le, Int.reduceLT, Int.reduceLE, Int.reduceEq, Int.reduceNe, Int.reduceAdd, Int.reduceSub, Int.reduceMul, Int.reduceToNat, Int.reduceNeg, Nat.reduceEqDiff, Nat.reduceLeDiff, Nat.reduceSub, Nat.reduceMul, Nat.reduceLT, Nat.reduceBEq, Nat.reduceAdd, Nat.reduceDiv, Nat.reduceMod]
  refine use9 ?_
  simp (maxSteps:=9^9) only [go_sem, eq_self, and_self, Int.natCast_pos, Int.le_refl, Nat.le_refl, Int.natCast_nonneg, Int.ofNat_lt, Int.ofNat_le, Int.reduceLT, Int.reduceLE, Int.reduceEq, Int.reduceNe, Int.reduceAdd, Int.reduceSub, Int.reduceMul, Int.reduceToNat, Int.reduceNeg, Nat.reduceEqDiff, Nat.reduceLeDiff, Nat.reduceSub, Nat.reduceMul, Nat.reduceLT, Nat.reduceBEq, Nat.reduceAdd, Nat.reduceDiv, Nat.reduceMod]
  intro _ m hm c hc
  refine swd9 hc (fun hl => ?_) (fun hl => ?_)
  ·refine use9 ?_
   simp (maxSteps:=9^9) only [go_sem, eq_self, and_self, Int.natCast_pos, Int.le_refl, Nat.le_refl, Int.natCast_nonneg, Int.ofNat_lt, Int.ofNat_le, Int.reduceLT, Int.reduceLE, Int.reduceEq, Int.reduceNe, Int.reduceAdd, Int.reduceSub, Int.reduceMul, Int.reduceToNat, Int.reduceNeg, Nat.reduceEqDiff, Nat.reduceLeDiff, Nat.reduceSub, Nat.reduceMul, Nat.reduceLT, Nat.reduceBEq, Nat.reduceAdd, Nat.reduceDiv, Nat.reduceMod]
   exact h
  refine useP (by omega) (fun e he => ?_) (fun c he => ?_)
  ·have h5 := errP he
   rcases h5 with rfl | rfl
   ·simp (maxSteps:=9^9) only [zeroC, go_sem, eq_self, and_self, Int.natCast_pos, Int.le_refl, Nat.le_refl, Int.natCast_nonneg, Int.ofNat_lt, Int.ofNat_le, Int.reduceLT, Int.reduceLE, Int.reduceEq, Int.reduceNe, Int.reduceAdd, Int.reduceSub, Int.reduceMul, Int.reduceToNat, Int.reduceNeg, Nat.reduceEqDiff, Nat.reduceLeDiff, Nat.reduceSub, Nat.reduceMul, Nat.reduceLT, Nat.reduceBEq, Nat.reduceAdd, Nat.reduceDiv, Nat.reduceMod]
    refine use14 (by omega) (fun e' he' => ?_) (fun c he' => ?_)
    ·rw [he] at he'
     cases he'
     rw [w4]
     simp (maxSteps:=9^9) only [go_sem, eq_self, and_self, Int.natCast_pos, Int.le_refl, Nat.le_refl, Int.natCast_nonneg, Int.ofNat_lt, Int.ofNat_le, Int.reduceLT, Int.reduceLE, Int.reduceEq, Int.reduceNe, Int.reduceAdd, Int.reduceSub, Int.reduceMul, Int.reduceToNat, Int.reduceNeg, Nat.reduceEqDiff, Nat.reduceLeDiff, Nat.reduceSub, Nat.reduceMul, Nat.reduceLT, Nat.reduceBEq, Nat.reduceAdd, Nat.reduceDiv, Nat.reduceMod]
     exact h
    ·rw [he] at he'; cases he'
   ·simp (maxSteps:=9^9) only [zeroC, go_sem, eq_self, and_self, Int.natCast_pos, Int.le_refl, Nat.le_refl, Int.natCast_nonneg, Int.ofNat_lt, Int.ofNat_le, Int.reduceLT, Int.reduceLE, Int.reduceEq, Int.reduceNe, Int.reduceAdd, Int.reduceSub, Int.reduceMul, Int.reduceToNat, Int.reduceNeg, Nat.reduceEqDiff, Nat.reduceLeDiff, Nat.reduceSub, Nat.reduceMul, Nat.reduceLT, Nat.reduceBEq, Nat.reduceAdd, Nat.reduceDiv, Nat.reduceMod]
    refine use14 (by omega) (fun e' he' => ?_) (fun c he' => ?_)
    ·rw [he] at he'
     cases he'
     rw [w2]
     simp (maxSteps:=9^9) only [go_sem, eq_self, and_self, Int.natCast_pos, Int.le_refl, Nat.le_refl, Int.natCast_nonneg, Int.ofNat_lt, Int.ofNat_le, Int.reduceLT, Int.reduceLE, Int.reduceEq, Int.reduceNe, Int.reduceAdd, Int.reduceSub, Int.reduceMul, Int.reduceToNat, Int.reduceNeg, Nat.reduceEqDiff, Nat.reduceLeDiff, Nat.reduceSub, Nat.reduceMul, Nat.reduceLT, Nat.reduceBEq, Nat.reduceAdd, Nat.reduceDiv, Nat.reduceMod]
     exact h
    ·rw [he] at he'; cases he'
  ·simp (maxSteps:=9^9) only [cmdV, go_sem, eq_self, and_self, Int.natCast_pos, Int.le_refl, Nat.le_refl, Int.natCast_nonneg, Int.ofNat_lt, Int.ofNat_le, Int.reduceLT, Int.reduceLE, Int.reduceEq, Int.reduceNe, Int.reduceAdd, Int.reduceSub, Int.reduceMul, Int.reduceToNat, Int.reduceNeg, Nat.reduceEqDiff, Nat.reduceLeDiff, Nat.reduceSub, Nat.reduceMul, Nat.reduceLT, Nat.reduceBEq, Nat.reduceAdd, Nat.reduceDiv, Nat.reduceMod]
   refine use14 (by omega) (fun e' he' => ?_) (fun c he' => ?_)
   ·rw [he] at he'; cases he'
   ·rw [he] at he'
    cases he'
    rw [w1]
    simp (maxSteps:=9^9) only [go_sem, eq_self, and_self, Int.natCast_pos, Int.le_refl, Nat.le_refl, Int.natCast_nonneg, Int.ofNat_lt, Int.ofNat_le, Int.reduceLT, Int.reduceLE, Int.reduceEq, Int.reduceNe, Int.reduceAdd, Int.reduceSub, Int.reduceMul, Int.reduceToNat, Int.reduceNeg, Nat.reduceEqDiff, Nat.reduceLeDiff, Nat.reduceSub, Nat.reduceMul, Nat.reduceLT, Nat.reduceBEq, Nat.reduceAdd, Nat.reduceDiv, Nat.reduceMod]
    exact h
 ·exact h.elim
end Go.V
