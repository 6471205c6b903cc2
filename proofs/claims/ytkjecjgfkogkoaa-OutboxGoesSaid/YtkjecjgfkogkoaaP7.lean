/- A part of the proof layer, or functions of the given program in it: contracts and their proofs. -/
import Derived.Test.YtkjecjgfkogkoaaP6
namespace Go.V
open Go.Proofs
set_option maxRecDepth 100000
set_option linter.unusedSimpArgs false
set_option linter.unnecessarySimpa false
set_option linter.unusedVariables false

/-- SameInts: of equal ones. -/
def C21 : Contract := fun args hp K => match args, hp with
  | [x, y], [] => ∃ p q xs, x = .sl p 8 (.int .i64) xs ∧ y = .sl q 8 (.int .i64) xs ∧ K (.bool true) []
  | _, _ => False
theorem s21 : Sound Try.prog 21 C21 := by
  refine sound_of_okF ok21 (Γ := []) .nil ?_
  intro args hp K h
  unfold C21 at h
  split at h
  · obtain ⟨p, q, xs, rfl, rfl, h⟩ := h
    refine ⟨by simp, [(1, cntA (fun i => ⟨[(0, .sl p 8 (.int .i64) xs), (1, .sl q 8 (.int .i64) xs), (12, .int .i64 xs.length), (13, .int .i64 i)], []⟩) xs.length)], ?_⟩
    simp (maxSteps := 2000000) only [a21, r21, go_sem, eq_self, and_self, Int.natCast_pos, Int.le_refl, Nat.le_refl, Int.natCast_nonneg, Int.ofNat_lt, Int.ofNat_le, Int.reduceLT, Int.reduceLE, Int.reduceEq, Int.reduceNe, Int.reduceAdd, Int.reduceSub, Int.reduceMul, Int.reduceToNat, Int.reduceNeg, Nat.reduceEqDiff, Nat.reduceLeDiff, Nat.reduceSub, Nat.reduceMul, Nat.reduceLT, Nat.reduceBEq, Nat.reduceAdd]
    rintro _ _ n rfl _ _ n2 rfl c hc
    have hc' : c = false := by simp [hc]
    subst hc'
    rintro _ _ m rfl
    refine loop_intro (0 : Nat) ?_ (Nat.zero_le _) ?_
    · simp (maxSteps := 2000000) only [cntA_I, go_sem, eq_self, and_self, Int.natCast_pos, Int.le_refl, Nat.le_refl, Int.natCast_nonneg, Int.ofNat_lt, Int.ofNat_le, Int.reduceLT, Int.reduceLE, Int.reduceEq, Int.reduceNe, Int.reduceAdd, Int.reduceSub, Int.reduceMul, Int.reduceToNat, Int.reduceNeg, Nat.reduceEqDiff, Nat.reduceLeDiff, Nat.reduceSub, Nat.reduceMul, Nat.reduceLT, Nat.reduceBEq, Nat.reduceAdd]
      rfl
    · intro (i : Nat) (hi : i ≤ xs.length)
      simp (maxSteps := 2000000) only [cntA_I, go_sem, eq_self, and_self, Int.natCast_pos, Int.le_refl, Nat.le_refl, Int.natCast_nonneg, Int.ofNat_lt, Int.ofNat_le, Int.reduceLT, Int.reduceLE, Int.reduceEq, Int.reduceNe, Int.reduceAdd, Int.reduceSub, Int.reduceMul, Int.reduceToNat, Int.reduceNeg, Nat.reduceEqDiff, Nat.reduceLeDiff, Nat.reduceSub, Nat.reduceMul, Nat.reduceLT, Nat.reduceBEq, Nat.reduceAdd]
      rintro c rfl
      refine sw_intro (fun hc => ?_) (fun _ => h)
      have hlt : i < xs.length := by simpa using hc
      refine nd_intro hlt ?_
      intro _ _ m hm
      have := maxLen_val
      rw [w64 (by omega)] at hm
      subst hm
      exact cntA_next hlt (by simp (maxSteps := 2000000) only [go_sem, eq_self, and_self, Int.natCast_pos, Int.le_refl, Nat.le_refl, Int.natCast_nonneg, Int.ofNat_lt, Int.ofNat_le, Int.reduceLT, Int.reduceLE, Int.reduceEq, Int.reduceNe, Int.reduceAdd, Int.reduceSub, Int.reduceMul, Int.reduceToNat, Int.reduceNeg, Nat.reduceEqDiff, Nat.reduceLeDiff, Nat.reduceSub, Nat.reduceMul, Nat.reduceLT, Nat.reduceBEq, Nat.reduceAdd]; rfl)
  · exact h.elim

/-- Same: of equal ones. -/
def C59 : Contract := fun args hp K => match args, hp with
  | [.agg [.str f, .int .u64 s, .int .i64 k, x], .agg [.str f', .int .u64 s', .int .i64 k', y]], [] => f = f' ∧ s = s' ∧ k = k' ∧ (∃ p q xs, x = .sl p 8 (.int .i64) xs ∧ y = .sl q 8 (.int .i64) xs) ∧ K (.bool true) []
  | _, _ => False
theorem s59 : Sound Try.prog 59 C59 := by
  refine sound_of_okF ok59 (Γ := [(21, C21)]) (.cons s21 (callable_of_okF ok21) .nil) ?_
  intro args hp K h
  unfold C59 at h
  split at h
  · obtain ⟨rfl, rfl, rfl, ⟨p, q, xs, rfl, rfl⟩, h⟩ := h
    refine ⟨by simp, [], ?_⟩
    simp (maxSteps := 2000000) only [a59, r59, C21, go_sem, eq_self, and_self, Int.natCast_pos, Int.le_refl, Nat.le_refl, Int.natCast_nonneg, Int.ofNat_lt, Int.ofNat_le, Int.reduceLT, Int.reduceLE, Int.reduceEq, Int.reduceNe, Int.reduceAdd, Int.reduceSub, Int.reduceMul, Int.reduceToNat, Int.reduceNeg, Nat.reduceEqDiff, Nat.reduceLeDiff, Nat.reduceSub, Nat.reduceMul, Nat.reduceLT, Nat.reduceBEq, Nat.reduceAdd]
    exact ⟨false, false, xs, rfl, rfl, h⟩
  · exact h.elim

/-- out -/
def C33 : Contract := fun args hp K => match args, hp with
  | [.agg [.str t, .str f, .int .u64 s, .int .i64 k, x]], [] => (x = .nils ∨ ∃ xs, x = .sl true 8 (.int .i64) xs) ∧ K (.agg [.str t, .str f, .int .u64 s, .int .i64 k, x]) []
  | _, _ => False
theorem s33 : Sound Try.prog 33 C33 := by
  refine sound_of_okF ok33 (Γ := []) .nil ?_
  intro args hp K h
  unfold C33 at h
  split at h
  · obtain ⟨hx, h⟩ := h
    refine ⟨by simp, [], ?_⟩
    rcases hx with rfl | ⟨xs, rfl⟩
    · simp (maxSteps := 2000000) only [a33, r33, go_sem, eq_self, and_self, Int.natCast_pos, Int.le_refl, Nat.le_refl, Int.natCast_nonneg, Int.ofNat_lt, Int.ofNat_le, Int.reduceLT, Int.reduceLE, Int.reduceEq, Int.reduceNe, Int.reduceAdd, Int.reduceSub, Int.reduceMul, Int.reduceToNat, Int.reduceNeg, Nat.reduceEqDiff, Nat.reduceLeDiff, Nat.reduceSub, Nat.reduceMul, Nat.reduceLT, Nat.reduceBEq, Nat.reduceAdd]
      exact h
    · simp (maxSteps := 2000000) only [a33, r33, go_sem, eq_self, and_self, Int.natCast_pos, Int.le_refl, Nat.le_refl, Int.natCast_nonneg, Int.ofNat_lt, Int.ofNat_le, Int.reduceLT, Int.reduceLE, Int.reduceEq, Int.reduceNe, Int.reduceAdd, Int.reduceSub, Int.reduceMul, Int.reduceToNat, Int.reduceNeg, Nat.reduceEqDiff, Nat.reduceLeDiff, Nat.reduceSub, Nat.reduceMul, Nat.reduceLT, Nat.reduceBEq, Nat.reduceAdd]
      exact h
  · exact h.elim

/-- SameOuts: of equal ones. -/
def C32 : Contract := fun args hp K => match args, hp with
  | [x, y], [] => ∃ p q xs, x = .sl p 72 OutT xs ∧ y = .sl q 72 OutT xs ∧ K (.bool true) []
  | _, _ => False
theorem s32 : Sound Try.prog 32 C32 := by
  refine sound_of_okF ok32 (Γ := [(59, C59)]) (.cons s59 (callable_of_okF ok59) .nil) ?_
  intro args hp K h
  unfold C32 at h
  split at h
  · obtain ⟨p, q, xs, rfl, rfl, h⟩ := h
    refine ⟨by simp, [(1, cntA (fun i => ⟨[(0, .sl p 72 OutT xs), (1, .sl q 72 OutT xs), (12, .int .i64 xs.length), (13, .int .i64 i)], []⟩) xs.length)], ?_⟩
    simp (maxSteps := 2000000) only [a32, r32, go_sem, eq_self, and_self, Int.natCast_pos, Int.le_refl, Nat.le_refl, Int.natCast_nonneg, Int.ofNat_lt, Int.ofNat_le, Int.reduceLT, Int.reduceLE, Int.reduceEq, Int.reduceNe, Int.reduceAdd, Int.reduceSub, Int.reduceMul, Int.reduceToNat, Int.reduceNeg, Nat.reduceEqDiff, Nat.reduceLeDiff, Nat.reduceSub, Nat.reduceMul, Nat.reduceLT, Nat.reduceBEq, Nat.reduceAdd]
    rintro _ _ n rfl _ _ n2 rfl c hc
    have hc' : c = false := by simp [hc]
    subst hc'
    rintro _ _ m rfl
    refine loop_intro (0 : Nat) ?_ (Nat.zero_le _) ?_
    · simp (maxSteps := 2000000) only [cntA_I, go_sem, eq_self, and_self, Int.natCast_pos, Int.le_refl, Nat.le_refl, Int.natCast_nonneg, Int.ofNat_lt, Int.ofNat_le, Int.reduceLT, Int.reduceLE, Int.reduceEq, Int.reduceNe, Int.reduceAdd, Int.reduceSub, Int.reduceMul, Int.reduceToNat, Int.reduceNeg, Nat.reduceEqDiff, Nat.reduceLeDiff, Nat.reduceSub, Nat.reduceMul, Nat.reduceLT, Nat.reduceBEq, Nat.reduceAdd]
      rfl
    · intro (i : Nat) (hi : i ≤ xs.length)
      simp (maxSteps := 2000000) only [cntA_I, C59, go_sem, eq_self, and_self, Int.natCast_pos, Int.le_refl, Nat.le_refl, Int.natCast_nonneg, Int.ofNat_lt, Int.ofNat_le, Int.reduceLT, Int.reduceLE, Int.reduceEq, Int.reduceNe, Int.reduceAdd, Int.reduceSub, Int.reduceMul, Int.reduceToNat, Int.reduceNeg, Nat.reduceEqDiff, Nat.reduceLeDiff, Nat.reduceSub, Nat.reduceMul, Nat.reduceLT, Nat.reduceBEq, Nat.reduceAdd]
      rintro c rfl
      refine sw_intro (fun hc => ?_) (fun _ => h)
      have hlt : i < xs.length := by simpa using hc
      refine nd_intro hlt ⟨⟨p, q, _, rfl, rfl⟩, ?_⟩
      intro _ _ m hm
      have := maxLen_val
      rw [w64 (by omega)] at hm
      subst hm
      exact cntA_next hlt (by simp (maxSteps := 2000000) only [go_sem, eq_self, and_self, Int.natCast_pos, Int.le_refl, Nat.le_refl, Int.natCast_nonneg, Int.ofNat_lt, Int.ofNat_le, Int.reduceLT, Int.reduceLE, Int.reduceEq, Int.reduceNe, Int.reduceAdd, Int.reduceSub, Int.reduceMul, Int.reduceToNat, Int.reduceNeg, Nat.reduceEqDiff, Nat.reduceLeDiff, Nat.reduceSub, Nat.reduceMul, Nat.reduceLT, Nat.reduceBEq, Nat.reduceAdd]; rfl)
  · exact h.elim
end Go.V
