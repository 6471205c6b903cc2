/- A part of the proof layer, or functions of the given program in it: contracts and their proofs. -/
import Derived.Test.YtbcmjkfdeikkhaaGreatA71
namespace Go.V
open Go.Proofs
set_option maxRecDepth 100000
set_option maxHeartbeats 8000000
set_option linter.unusedSimpArgs false
set_option linter.unnecessarySimpa false
set_option linter.unusedVariables false
/-- Theirs -/
def C10 : Contract := fun args hp K => match args, hp with
  | [.agg [x, y]], [] => onL .str 16 x fun names => onL EvT 16 y fun code => names.length ≤ 100000 ∧ (code : List EvT.den).length ≤ 100000 ∧ K (.agg [.sl true 16 .str names, .sl true 16 EvT code]) []
  | _, _ => False
def L10 (x y : SV) (names : List ByteArray) (code : List EvT.den) : LoopAnn := { G := Nat, I := fun i => ⟨[(1, .ptr 0 0), (2, .ptr 1 0), (3, .ptr 4 0), (12, .int .i64 code.length), (13, .int .i64 i)], [.struct [x, y], .struct [.own 2, .own 3], .row true 16 .str [], .row true 16 EvT [], .struct [.own 5, .own 6], .row true 16 .str names, .row true 16 EvT (code.take i)]⟩, R := fun _ i => i ≤ code.length, μ := fun i => code.length - i }
theorem L10_I {x y names code} (i : Nat) : (L10 x y names code).I i = ⟨[(1, .ptr 0 0), (2, .ptr 1 0), (3, .ptr 4 0), (12, .int .i64 code.length), (13, .int .i64 i)], [.struct [x, y], .struct [.own 2, .own 3], .row true 16 .str [], .row true 16 EvT [], .struct [.own 5, .own 6], .row true 16 .str names, .row true 16 EvT (code.take i)]⟩ := rfl
theorem s10 : Sound Tryz.prog 10 C10 := by
  refine sound_of_okF ok10 (Γ := []) .nil ?_
  intro args hp K h
  unfold C10 at h
  split at h
  · rename_i x y
    have hmx := maxLen_val
    rcases h with ⟨rfl, ⟨rfl, hn, hc, h⟩ | ⟨q, code, rfl, hn, hc, h⟩⟩ | ⟨p, names, rfl, ⟨rfl, hn, hc, h⟩ | ⟨q, code, rfl, hn, hc, h⟩⟩
    · refine ⟨by simp, [(1, L10 .nils .nils ([] : List ByteArray) ([] : List EvT.den))], ?_⟩
      simp (maxSteps := 2000000) only [a10, r10, go_sem, eq_self, and_self, Int.natCast_pos, Int.le_refl, Nat.le_refl, Int.natCast_nonneg, Int.ofNat_lt, Int.ofNat_le, Int.reduceLT, Int.reduceLE, Int.reduceEq, Int.reduceNe, Int.reduceAdd, Int.reduceSub, Int.reduceMul, Int.reduceToNat, Int.reduceNeg, Nat.reduceEqDiff, Nat.reduceLeDiff, Nat.reduceSub, Nat.reduceMul, Nat.reduceLT, Nat.reduceBEq, Nat.reduceAdd]
      refine loop_intro (A := L10 .nils .nils ([] : List ByteArray) ([] : List EvT.den)) (0 : Nat) ?_ (Nat.zero_le _) ?_
      · simp (maxSteps := 2000000) only [L10_I, go_sem, eq_self, and_self, Int.natCast_pos, Int.le_refl, Nat.le_refl, Int.natCast_nonneg, Int.ofNat_lt, Int.ofNat_le, Int.reduceLT, Int.reduceLE, Int.reduceEq, Int.reduceNe, Int.reduceAdd, Int.reduceSub, Int.reduceMul, Int.reduceToNat, Int.reduceNeg, Nat.reduceEqDiff, Nat.reduceLeDiff, Nat.reduceSub, Nat.reduceMul, Nat.reduceLT, Nat.reduceBEq, Nat.reduceAdd]
        rfl
      · intro (i : Nat) (hi : i ≤ ([] : List EvT.den).length)
        simp (maxSteps := 2000000) only [L10_I, go_sem, eq_self, and_self, Int.natCast_pos, Int.le_refl, Nat.le_refl, Int.natCast_nonneg, Int.ofNat_lt, Int.ofNat_le, Int.reduceLT, Int.reduceLE, Int.reduceEq, Int.reduceNe, Int.reduceAdd, Int.reduceSub, Int.reduceMul, Int.reduceToNat, Int.reduceNeg, Nat.reduceEqDiff, Nat.reduceLeDiff, Nat.reduceSub, Nat.reduceMul, Nat.reduceLT, Nat.reduceBEq, Nat.reduceAdd]
        rintro c rfl
        refine sw_intro (fun hc => ?_) (fun hc => ?_) <;> simp only [decide_eq_true_eq, decide_eq_false_iff_not] at hc
        · exact absurd hc (by omega)
        · rw [List.take_nil]
          exact h
    · refine ⟨by simp, [(1, L10 .nils (.sl q 16 EvT code) ([] : List ByteArray) (code : List EvT.den))], ?_⟩
      simp (maxSteps := 2000000) only [a10, r10, go_sem, eq_self, and_self, Int.natCast_pos, Int.le_refl, Nat.le_refl, Int.natCast_nonneg, Int.ofNat_lt, Int.ofNat_le, Int.reduceLT, Int.reduceLE, Int.reduceEq, Int.reduceNe, Int.reduceAdd, Int.reduceSub, Int.reduceMul, Int.reduceToNat, Int.reduceNeg, Nat.reduceEqDiff, Nat.reduceLeDiff, Nat.reduceSub, Nat.reduceMul, Nat.reduceLT, Nat.reduceBEq, Nat.reduceAdd]
      rintro _ _ m rfl
      refine loop_intro (A := L10 .nils (.sl q 16 EvT code) ([] : List ByteArray) (code : List EvT.den)) (0 : Nat) ?_ (Nat.zero_le _) ?_
      · simp (maxSteps := 2000000) only [L10_I, go_sem, eq_self, and_self, Int.natCast_pos, Int.le_refl, Nat.le_refl, Int.natCast_nonneg, Int.ofNat_lt, Int.ofNat_le, Int.reduceLT, Int.reduceLE, Int.reduceEq, Int.reduceNe, Int.reduceAdd, Int.reduceSub, Int.reduceMul, Int.reduceToNat, Int.reduceNeg, Nat.reduceEqDiff, Nat.reduceLeDiff, Nat.reduceSub, Nat.reduceMul, Nat.reduceLT, Nat.reduceBEq, Nat.reduceAdd]
        rfl
      · intro (i : Nat) (hi : i ≤ (code : List EvT.den).length)
        simp (maxSteps := 2000000) only [L10_I, go_sem, eq_self, and_self, Int.natCast_pos, Int.le_refl, Nat.le_refl, Int.natCast_nonneg, Int.ofNat_lt, Int.ofNat_le, Int.reduceLT, Int.reduceLE, Int.reduceEq, Int.reduceNe, Int.reduceAdd, Int.reduceSub, Int.reduceMul, Int.reduceToNat, Int.reduceNeg, Nat.reduceEqDiff, Nat.reduceLeDiff, Nat.reduceSub, Nat.reduceMul, Nat.reduceLT, Nat.reduceBEq, Nat.reduceAdd]
        rintro c rfl
        refine sw_intro (fun hc => ?_) (fun hc => ?_) <;> simp only [decide_eq_true_eq, decide_eq_false_iff_not] at hc
        · refine nd_intro hc ⟨fun h9 => by rw [List.length_take]; omega, fun h9 => ?_⟩
          rintro _ _ m hm
          rw [w64 (by omega)] at hm
          subst hm
          refine lpE_intro (A := L10 .nils (.sl q 16 EvT code) ([] : List ByteArray) (code : List EvT.den)) (i + 1 : Nat) ?_ (by show i + 1 ≤ code.length; omega) (by show code.length - (i + 1) < code.length - i; omega)
          have e := take_elt (t := EvT) hc
          simp (maxSteps := 2000000) only [L10_I, ← e, go_sem, eq_self, and_self, Int.natCast_pos, Int.le_refl, Nat.le_refl, Int.natCast_nonneg, Int.ofNat_lt, Int.ofNat_le, Int.reduceLT, Int.reduceLE, Int.reduceEq, Int.reduceNe, Int.reduceAdd, Int.reduceSub, Int.reduceMul, Int.reduceToNat, Int.reduceNeg, Nat.reduceEqDiff, Nat.reduceLeDiff, Nat.reduceSub, Nat.reduceMul, Nat.reduceLT, Nat.reduceBEq, Nat.reduceAdd]
          rfl
        · rw [List.take_of_length_le (by omega)]
          exact h
    · refine ⟨by simp, [(1, L10 (.sl p 16 .str names) .nils (names : List ByteArray) ([] : List EvT.den))], ?_⟩
      simp (maxSteps := 2000000) only [a10, r10, go_sem, eq_self, and_self, Int.natCast_pos, Int.le_refl, Nat.le_refl, Int.natCast_nonneg, Int.ofNat_lt, Int.ofNat_le, Int.reduceLT, Int.reduceLE, Int.reduceEq, Int.reduceNe, Int.reduceAdd, Int.reduceSub, Int.reduceMul, Int.reduceToNat, Int.reduceNeg, Nat.reduceEqDiff, Nat.reduceLeDiff, Nat.reduceSub, Nat.reduceMul, Nat.reduceLT, Nat.reduceBEq, Nat.reduceAdd]
      refine ⟨fun h9 => h9, fun hl => ?_⟩
      refine loop_intro (A := L10 (.sl p 16 .str names) .nils (names : List ByteArray) ([] : List EvT.den)) (0 : Nat) ?_ (Nat.zero_le _) ?_
      · simp (maxSteps := 2000000) only [L10_I, go_sem, eq_self, and_self, Int.natCast_pos, Int.le_refl, Nat.le_refl, Int.natCast_nonneg, Int.ofNat_lt, Int.ofNat_le, Int.reduceLT, Int.reduceLE, Int.reduceEq, Int.reduceNe, Int.reduceAdd, Int.reduceSub, Int.reduceMul, Int.reduceToNat, Int.reduceNeg, Nat.reduceEqDiff, Nat.reduceLeDiff, Nat.reduceSub, Nat.reduceMul, Nat.reduceLT, Nat.reduceBEq, Nat.reduceAdd]
        rfl
      · intro (i : Nat) (hi : i ≤ ([] : List EvT.den).length)
        simp (maxSteps := 2000000) only [L10_I, go_sem, eq_self, and_self, Int.natCast_pos, Int.le_refl, Nat.le_refl, Int.natCast_nonneg, Int.ofNat_lt, Int.ofNat_le, Int.reduceLT, Int.reduceLE, Int.reduceEq, Int.reduceNe, Int.reduceAdd, Int.reduceSub, Int.reduceMul, Int.reduceToNat, Int.reduceNeg, Nat.reduceEqDiff, Nat.reduceLeDiff, Nat.reduceSub, Nat.reduceMul, Nat.reduceLT, Nat.reduceBEq, Nat.reduceAdd]
        rintro c rfl
        refine sw_intro (fun hc => ?_) (fun hc => ?_) <;> simp only [decide_eq_true_eq, decide_eq_false_iff_not] at hc
        · exact absurd hc (by omega)
        · rw [List.take_nil]
          exact h
    · refine ⟨by simp, [(1, L10 (.sl p 16 .str names) (.sl q 16 EvT code) (names : List ByteArray) (code : List EvT.den))], ?_⟩
      simp (maxSteps := 2000000) only [a10, r10, go_sem, eq_self, and_self, Int.natCast_pos, Int.le_refl, Nat.le_refl, Int.natCast_nonneg, Int.ofNat_lt, Int.ofNat_le, Int.reduceLT, Int.reduceLE, Int.reduceEq, Int.reduceNe, Int.reduceAdd, Int.reduceSub, Int.reduceMul, Int.reduceToNat, Int.reduceNeg, Nat.reduceEqDiff, Nat.reduceLeDiff, Nat.reduceSub, Nat.reduceMul, Nat.reduceLT, Nat.reduceBEq, Nat.reduceAdd]
      refine ⟨fun h9 => h9, fun hl => ?_⟩
      rintro _ _ m rfl
      refine loop_intro (A := L10 (.sl p 16 .str names) (.sl q 16 EvT code) (names : List ByteArray) (code : List EvT.den)) (0 : Nat) ?_ (Nat.zero_le _) ?_
      · simp (maxSteps := 2000000) only [L10_I, go_sem, eq_self, and_self, Int.natCast_pos, Int.le_refl, Nat.le_refl, Int.natCast_nonneg, Int.ofNat_lt, Int.ofNat_le, Int.reduceLT, Int.reduceLE, Int.reduceEq, Int.reduceNe, Int.reduceAdd, Int.reduceSub, Int.reduceMul, Int.reduceToNat, Int.reduceNeg, Nat.reduceEqDiff, Nat.reduceLeDiff, Nat.reduceSub, Nat.reduceMul, Nat.reduceLT, Nat.reduceBEq, Nat.reduceAdd]
        rfl
      · intro (i : Nat) (hi : i ≤ (code : List EvT.den).length)
        simp (maxSteps := 2000000) only [L10_I, go_sem, eq_self, and_self, Int.natCast_pos, Int.le_refl, Nat.le_refl, Int.natCast_nonneg, Int.ofNat_lt, Int.ofNat_le, Int.reduceLT, Int.reduceLE, Int.reduceEq, Int.reduceNe, Int.reduceAdd, Int.reduceSub, Int.reduceMul, Int.reduceToNat, Int.reduceNeg, Nat.reduceEqDiff, Nat.reduceLeDiff, Nat.reduceSub, Nat.reduceMul, Nat.reduceLT, Nat.reduceBEq, Nat.reduceAdd]
        rintro c rfl
        refine sw_intro (fun hc => ?_) (fun hc => ?_) <;> simp only [decide_eq_true_eq, decide_eq_false_iff_not] at hc
        · refine nd_intro hc ⟨fun h9 => by rw [List.length_take]; omega, fun h9 => ?_⟩
          rintro _ _ m hm
          rw [w64 (by omega)] at hm
          subst hm
          refine lpE_intro (A := L10 (.sl p 16 .str names) (.sl q 16 EvT code) (names : List ByteArray) (code : List EvT.den)) (i + 1 : Nat) ?_ (by show i + 1 ≤ code.length; omega) (by show code.length - (i + 1) < code.length - i; omega)
          have e := take_elt (t := EvT) hc
          simp (maxSteps := 2000000) only [L10_I, ← e, go_sem, eq_self, and_self, Int.natCast_pos, Int.le_refl, Nat.le_refl, Int.natCast_nonneg, Int.ofNat_lt, Int.ofNat_le, Int.reduceLT, Int.reduceLE, Int.reduceEq, Int.reduceNe, Int.reduceAdd, Int.reduceSub, Int.reduceMul, Int.reduceToNat, Int.reduceNeg, Nat.reduceEqDiff, Nat.reduceLeDiff, Nat.reduceSub, Nat.reduceMul, Nat.reduceLT, Nat.reduceBEq, Nat.reduceAdd]
          rfl
        · rw [List.take_of_length_le (by omega)]
          exact h
  · exact h.elim
end Go.V
