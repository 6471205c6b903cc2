/- A part of the proof layer, or functions of the given program in it: contracts and their proofs. -/
import Derived.Test.YtmjjlpcielgjnaaGreatMN2
import Derived.Test.YtmjjlpcielgjnaaGreatX2
namespace Go.V
open Go.Proofs
set_option maxRecDepth 100000
set_option maxHeartbeats 2000000
set_option linter.unusedSimpArgs false
set_option linter.unnecessarySimpa false
set_option linter.unusedVariables false
attribute [local irreducible] rc
theorem isTrue_eq {o : Outs (SV × List SB)} (h : isTrue o = true) : o = some [(.bool true, [])] := by
 unfold isTrue at h
 split at h
 ·rfl
 ·cases h
def C4 : Contract := fun args hp K => match args, hp with
 | [], [] => K (.bool true) []
 | _, _ => False
theorem s4 : Sound Tryz.prog 4 C4 := by
 intro args hp K h
 unfold C4 at h
 split at h
 ·exact rn_sound 4 _ _ K ⟨_, isTrue_eq run4, by simpa using h⟩
 ·exact h.elim
theorem use4 {K : SV → List SB → Prop} (k : K (.bool true) []) : C4 [] [] K := k
theorem use5 {K : SV → List SB → Prop} {xs : List OpT.den} (h1 : xs.length ≤ 1) (h : ∀ o ∈ xs, (opNs o).length * 16 ≤ 140737488351232) (k : ∀ b : Bool, K (.bool b) [.row false 152 OpT xs]) : C5 [.own 0] [.row false 152 OpT xs] K := ⟨xs, rfl, rfl, h1, h, k⟩
theorem use7 {K : SV → List SB → Prop} {k c s : Int} {key name : ByteArray} {n due per : Int} {az : List Int} {ns : List ByteArray} {cd : List EvI.den}
  (h : ∀ (t : ByteArray) (e : Int), (1 ≤ k ∧ k ≤ 10 → e = 1) → K (.tup [.str t, .int .i64 e]) [.struct [.nilp, .nilp, .nilp, .nilp, .int .i64 0, .bool false]]) :
  C7 [.ptr 0 0, .agg [.int .i64 k, .int .u64 c, .int .u64 s, .str key, .str name, .int .i64 n, .int .i64 due, .int .i64 per, .sl true 8 (.int .i64) az, .sl true 16 .str ns, .sl true 16 (.pair (.int .i64) (.int .i64)) cd]] [.struct [.nilp, .nilp, .nilp, .nilp, .int .i64 0, .bool false]] K :=
 ⟨k, c, s, key, name, n, due, per, az, ns, cd, rfl, rfl, h⟩
def C3 : Contract := fun args hp K => ∃ (k c s : Int) (key name : ByteArray) (n due per : Int) (az : List Int) (ns : List ByteArray) (cd : List EvI.den),
 args = [.agg [.int .i64 k, .int .u64 c, .int .u64 s, .str key, .str name, .int .i64 n, .int .i64 due, .int .i64 per, .sl true 8 (.int .i64) az, .sl true 16 .str ns, .sl true 16 (.pair (.int .i64) (.int .i64)) cd]] ∧ hp = [] ∧
 ns.length * 16 ≤ 140737488351232 ∧ K (.bool true) []
theorem s3 : Sound Tryz.prog 3 C3 := by
 refine sound_of_okF ok3 (.cons s4 (callable_of_okF xk4) (.cons s5 (callable_of_okF ok5) (.cons s6 (callable_of_okF xk6) (.cons s7 (callable_of_okF ok7) (.cons s8 (callable_of_okF xk8) (.cons s9 (callable_of_okF xk9) (.cons s10 (callable_of_okF xk10) (.cons s11 (callable_of_okF xk11) (.cons s12 (callable_of_okF xk12) (.cons s13 (callable_of_okF xk13) (.cons s14 (callable_of_okF xk14) (.cons s15 (callable_of_okF xk15) (.cons s16 (callable_of_okF xk16) (.cons s17 (callable_of_okF xk17) .nil)))))))))))))) ?_
 rintro args hp K ⟨k, c, s, key, name, n, due, per, az, ns, cd, rfl, rfl, hn, h⟩
 refine ⟨by simp, [], ?_⟩
 simp (maxSteps:=9^9) only [a3, r3, go_sem, eq_self, and_self, Int.natCast_pos, Int.le_refl, Nat.le_refl, Int.natCast_nonneg, Int.ofNat_lt, Int.ofNat_le, Int.reduceLT, Int.reduceLE, Int.reduceEq, Int.reduceNe, Int.reduceAdd, Int.reduceSub, Int.reduceMul, Int.reduceToNat, Int.reduceNeg, Nat.reduceEqDiff, Nat.reduceLeDiff, Nat.reduceSub, Nat.reduceMul, Nat.reduceLT, Nat.reduceBEq, Nat.reduceAdd, Nat.reduceDiv, Nat.reduceMod]
 refine use4 ?_
 simp (maxSteps:=9^9) only [go_sem, eq_self, and_self, Int.natCast_pos, Int.le_refl, Nat.le_refl, Int.natCast_nonneg, Int.ofNat_lt, Int.ofNat_le, Int.reduceLT, Int.reduceLE, Int.reduceEq, Int.reduceNe, Int.reduceAdd, Int.reduceSub, Int.reduceMul, Int.reduceToNat, Int.reduceNeg, Nat.reduceEqDiff, Nat.reduceLeDiff, Nat.reduceSub, Nat.reduceMul, Nat.reduceLT, Nat.reduceBEq, Nat.reduceAdd, Nat.reduceDiv, Nat.reduceMod]
 refine use5 (Nat.le_refl _) (fun o ho => by rw [List.mem_singleton] at ho; subst ho; exact hn) (fun b => ?_)
 simp (maxSteps:=9^9) only [go_sem, eq_self, and_self, Int.natCast_pos, Int.le_refl, Nat.le_refl, Int.natCast_nonneg, Int.ofNat_lt, Int.ofNat_le, Int.reduceLT, Int.reduceLE, Int.reduceEq, Int.reduceNe, Int.reduceAdd, Int.reduceSub, Int.reduceMul, Int.reduceToNat, Int.reduceNeg, Nat.reduceEqDiff, Nat.reduceLeDiff, Nat.reduceSub, Nat.reduceMul, Nat.reduceLT, Nat.reduceBEq, Nat.reduceAdd, Nat.reduceDiv, Nat.reduceMod]
 cases b
 ·simp (maxSteps:=9^9) only [go_sem, eq_self, and_self, Int.natCast_pos, Int.le_refl, Nat.le_refl, Int.natCast_nonneg, Int.ofNat_lt, Int.ofNat_le, Int.reduceLT, Int.reduceLE, Int.reduceEq, Int.reduceNe, Int.reduceAdd, Int.reduceSub, Int.reduceMul, Int.reduceToNat, Int.reduceNeg, Nat.reduceEqDiff, Nat.reduceLeDiff, Nat.reduceSub, Nat.reduceMul, Nat.reduceLT, Nat.reduceBEq, Nat.reduceAdd, Nat.reduceDiv, Nat.reduceMod]
  refine use4 ?_
  simp (maxSteps:=9^9) only [go_sem, eq_self, and_self, Int.natCast_pos, Int.le_refl, Nat.le_refl, Int.natCast_nonneg, Int.ofNat_lt, Int.ofNat_le, Int.reduceLT, Int.reduceLE, Int.reduceEq, Int.reduceNe, Int.reduceAdd, Int.reduceSub, Int.reduceMul, Int.reduceToNat, Int.reduceNeg, Nat.reduceEqDiff, Nat.reduceLeDiff, Nat.reduceSub, Nat.reduceMul, Nat.reduceLT, Nat.reduceBEq, Nat.reduceAdd, Nat.reduceDiv, Nat.reduceMod]
  exact h
 simp (maxSteps:=9^9) only [C6, go_sem, eq_self, and_self, Int.natCast_pos, Int.le_refl, Nat.le_refl, Int.natCast_nonneg, Int.ofNat_lt, Int.ofNat_le, Int.reduceLT, Int.reduceLE, Int.reduceEq, Int.reduceNe, Int.reduceAdd, Int.reduceSub, Int.reduceMul, Int.reduceToNat, Int.reduceNeg, Nat.reduceEqDiff, Nat.reduceLeDiff, Nat.reduceSub, Nat.reduceMul, Nat.reduceLT, Nat.reduceBEq, Nat.reduceAdd, Nat.reduceDiv, Nat.reduceMod]
 refine use7 (fun t e he => ?_)
 simp (maxSteps:=9^9) only [C8, C9, C10, C11, C12, C13, C14, C15, C16, C17, go_sem, eq_self, and_self, Int.natCast_pos, Int.le_refl, Nat.le_refl, Int.natCast_nonneg, Int.ofNat_lt, Int.ofNat_le, Int.reduceLT, Int.reduceLE, Int.reduceEq, Int.reduceNe, Int.reduceAdd, Int.reduceSub, Int.reduceMul, Int.reduceToNat, Int.reduceNeg, Nat.reduceEqDiff, Nat.reduceLeDiff, Nat.reduceSub, Nat.reduceMul, Nat.reduceLT, Nat.reduceBEq, Nat.reduceAdd, Nat.reduceDiv, Nat.reduceMod]
 exact swd (fun _ => h) (fun h1 => swd (fun _ => h) (fun h2 => swd (fun _ => h) (fun h3 => absurd (he ⟨by omega, by omega⟩) h3)))
end Go.V
