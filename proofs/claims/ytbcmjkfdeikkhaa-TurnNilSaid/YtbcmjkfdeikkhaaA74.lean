/- A part of the proof layer, or functions of the given program in it: contracts and their proofs. -/
import Derived.Test.YtbcmjkfdeikkhaaA73
namespace Go.V
open Go.Proofs
set_option maxRecDepth 100000
set_option maxHeartbeats 8000000
set_option linter.unusedSimpArgs false
set_option linter.unnecessarySimpa false
set_option linter.unusedVariables false
/-- TurnNil -/
def C5 : Contract := fun args hp K => match args, hp with
  | [.agg [.sl p 16 .str names, .sl q 16 (.pair (.int .i64) (.int .i64)) code], .int .i64 now], [] => K (.bool true) []
  | _, _ => False
theorem s5 : Sound Try.prog 5 C5 := by
  refine sound_of_okF ok5 (Γ := [(19, C19), (20, C20), (22, C22), (21, C21), (11, C11), (23, C23)]) (.cons s19 (callable_of_okF ok19) (.cons s20 (callable_of_okF ok20) (.cons s22 (callable_of_okF ok22) (.cons s21 (callable_of_okF ok21) (.cons s11 (callable_of_okF ok11) (.cons s23 (callable_of_okF ok23) .nil)))))) ?_
  intro args hp K h
  unfold C5 at h
  split at h
  · rename_i p names q code now
    refine ⟨by simp, [], ?_⟩
    have hmx := maxLen_val
    simp (maxSteps := 2000000) only [a5, r5, C19, C20, C22, C11, newS, acH, go_sem, eq_self, and_self, Int.natCast_pos, Int.le_refl, Nat.le_refl, Int.natCast_nonneg, Int.ofNat_lt, Int.ofNat_le, Int.reduceLT, Int.reduceLE, Int.reduceEq, Int.reduceNe, Int.reduceAdd, Int.reduceSub, Int.reduceMul, Int.reduceToNat, Int.reduceNeg, Nat.reduceEqDiff, Nat.reduceLeDiff, Nat.reduceSub, Nat.reduceMul, Nat.reduceLT, Nat.reduceBEq, Nat.reduceAdd]
    refine sw_intro (fun hf => ?_) (fun _ => h)
    rw [fewP_iff] at hf
    refine ⟨by omega, by omega, rfl, ?_⟩
    simp (maxSteps := 2000000) only [C22, out0, go_sem, eq_self, and_self, Int.natCast_pos, Int.le_refl, Nat.le_refl, Int.natCast_nonneg, Int.ofNat_lt, Int.ofNat_le, Int.reduceLT, Int.reduceLE, Int.reduceEq, Int.reduceNe, Int.reduceAdd, Int.reduceSub, Int.reduceMul, Int.reduceToNat, Int.reduceNeg, Nat.reduceEqDiff, Nat.reduceLeDiff, Nat.reduceSub, Nat.reduceMul, Nat.reduceLT, Nat.reduceBEq, Nat.reduceAdd]
    refine ⟨by omega, by omega, .inr ⟨names, rfl, .inr ⟨3, newS ByteArray.empty, rfl, ?_⟩⟩⟩
    simp (maxSteps := 2000000) only [C22, C11, out0, newS, acH, go_sem, eq_self, and_self, Int.natCast_pos, Int.le_refl, Nat.le_refl, Int.natCast_nonneg, Int.ofNat_lt, Int.ofNat_le, Int.reduceLT, Int.reduceLE, Int.reduceEq, Int.reduceNe, Int.reduceAdd, Int.reduceSub, Int.reduceMul, Int.reduceToNat, Int.reduceNeg, Nat.reduceEqDiff, Nat.reduceLeDiff, Nat.reduceSub, Nat.reduceMul, Nat.reduceLT, Nat.reduceBEq, Nat.reduceAdd]
    refine ⟨fun _ => ⟨by omega, by omega, ?_⟩, fun h9 => absurd h9 (by decide)⟩
    refine c21_sl (S := newS ⟨#[109, 101]⟩) (goodA_new rfl) (takeK_none rfl (fun ok => ?_) (fun ok => ?_))
    · simp (maxSteps := 2000000) only [C23, out0, newS, acH, go_sem, eq_self, and_self, Int.natCast_pos, Int.le_refl, Nat.le_refl, Int.natCast_nonneg, Int.ofNat_lt, Int.ofNat_le, Int.reduceLT, Int.reduceLE, Int.reduceEq, Int.reduceNe, Int.reduceAdd, Int.reduceSub, Int.reduceMul, Int.reduceToNat, Int.reduceNeg, Nat.reduceEqDiff, Nat.reduceLeDiff, Nat.reduceSub, Nat.reduceMul, Nat.reduceLT, Nat.reduceBEq, Nat.reduceAdd]
      rintro c rfl
      refine sw_intro (fun h1 => ?_) (fun h1 => ?_) <;> simp only [decide_eq_true_eq, decide_eq_false_iff_not] at h1
      · exact absurd ok.2.2 (by omega)
      refine sw_intro (fun _ => h) (fun h2 => ?_)
      rw [ok.2.1] at h2
      cases h2
    · simp (maxSteps := 2000000) only [C23, out0, newS, acH, go_sem, eq_self, and_self, Int.natCast_pos, Int.le_refl, Nat.le_refl, Int.natCast_nonneg, Int.ofNat_lt, Int.ofNat_le, Int.reduceLT, Int.reduceLE, Int.reduceEq, Int.reduceNe, Int.reduceAdd, Int.reduceSub, Int.reduceMul, Int.reduceToNat, Int.reduceNeg, Nat.reduceEqDiff, Nat.reduceLeDiff, Nat.reduceSub, Nat.reduceMul, Nat.reduceLT, Nat.reduceBEq, Nat.reduceAdd]
      rintro c rfl
      refine sw_intro (fun h1 => h) (fun h1 => ?_) <;> simp only [decide_eq_true_eq, decide_eq_false_iff_not] at h1
      refine sw_intro (fun h2 => ?_) (fun _ => h)
      exact (ok ⟨rfl, h2, by omega⟩).elim
  · exact h.elim
end Go.V
