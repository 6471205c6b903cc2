/- A part of the proof layer, or functions of the given program in it: contracts and their proofs. -/
import Derived.Test.YtbcmjkfdeikkhaaA1
import Derived.Test.YtbcmjkfdeikkhaaN3
namespace Go.V
open Go.Proofs
set_option maxRecDepth 100000
set_option linter.unusedSimpArgs false
set_option linter.unnecessarySimpa false
set_option linter.unusedVariables false
/-- All -/
def A28 (o : ByteArray) (l : List OutT.den) (m : List (ByteArray × Int)) : LoopAnn := {
  G := Nat
  I := fun i => ⟨[(3, .own 3), (11, .own 1), (12, .int .i64 l.length), (13, .int .i64 i)], [.struct [.str o, .own 1, .mp 2], .row false 72 OutT l, .map false .str (.int .u64) m, .row true 72 OutT (l.take i)]⟩
  R := fun _ i => i ≤ l.length
  μ := fun i => l.length - i }
theorem I28 (o l m) (i : Nat) : (A28 o l m).I i = ⟨[(3, .own 3), (11, .own 1), (12, .int .i64 l.length), (13, .int .i64 i)], [.struct [.str o, .own 1, .mp 2], .row false 72 OutT l, .map false .str (.int .u64) m, .row true 72 OutT (l.take i)]⟩ := rfl

def C28 : Contract := fun args hp K => match args with
  | [.ptr 0 0] => onOb hp fun o l m => o ≠ ByteArray.empty ∧ K (.own 3) (hp ++ [.row true 72 OutT l])
  | _ => False
theorem s28 : Sound Try.prog 28 C28 := by
  refine sound_of_okF ok28 (Γ := [(66, C66), (65, C65)]) (.cons s66 (callable_of_okF ok66) (.cons s65 (callable_of_okF ok65) .nil)) ?_
  intro args hp K h
  unfold C28 at h
  split at h
  · obtain ⟨o, l, m, rfl, h0, h⟩ := h
    refine ⟨by simp, [(1, A28 o l m)], ?_⟩
    unfold obH at h ⊢
    simp (maxSteps := 2000000) only [a28, r28, C66, go_sem, eq_self, and_self, Int.natCast_pos, Int.le_refl, Nat.le_refl, Int.natCast_nonneg, Int.ofNat_lt, Int.ofNat_le, Int.reduceLT, Int.reduceLE, Int.reduceEq, Int.reduceNe, Int.reduceAdd, Int.reduceSub, Int.reduceMul, Int.reduceToNat, Int.reduceNeg, Nat.reduceEqDiff, Nat.reduceLeDiff, Nat.reduceSub, Nat.reduceMul, Nat.reduceLT, Nat.reduceBEq, Nat.reduceAdd]
    refine sw_intro (fun h => absurd (by simpa using h) h0) (fun _ => ?_)
    intro hl1 hl2 n hn
    refine loop_intro (A := A28 o l m) (0 : Nat) ?_ (Nat.zero_le _) ?_
    · subst hn
      simp (maxSteps := 2000000) only [I28, go_sem, eq_self, and_self, Int.natCast_pos, Int.le_refl, Nat.le_refl, Int.natCast_nonneg, Int.ofNat_lt, Int.ofNat_le, Int.reduceLT, Int.reduceLE, Int.reduceEq, Int.reduceNe, Int.reduceAdd, Int.reduceSub, Int.reduceMul, Int.reduceToNat, Int.reduceNeg, Nat.reduceEqDiff, Nat.reduceLeDiff, Nat.reduceSub, Nat.reduceMul, Nat.reduceLT, Nat.reduceBEq, Nat.reduceAdd]
      rfl
    · intro (i : Nat) (hi : i ≤ l.length)
      simp (maxSteps := 2000000) only [I28, C65, go_sem, eq_self, and_self, Int.natCast_pos, Int.le_refl, Nat.le_refl, Int.natCast_nonneg, Int.ofNat_lt, Int.ofNat_le, Int.reduceLT, Int.reduceLE, Int.reduceEq, Int.reduceNe, Int.reduceAdd, Int.reduceSub, Int.reduceMul, Int.reduceToNat, Int.reduceNeg, Nat.reduceEqDiff, Nat.reduceLeDiff, Nat.reduceSub, Nat.reduceMul, Nat.reduceLT, Nat.reduceBEq, Nat.reduceAdd]
      rintro c rfl
      refine sw_intro (fun hc => ?_) (fun hc => ?_)
      · have hlt : i < l.length := by simp at hc; exact hc
        refine nd_intro hlt ⟨fun _ => ?_, ?_⟩
        · rw [List.length_take]; omega
        · rintro _ _ _ i' hi'
          rw [w64 (by have := maxLen_val; omega)] at hi'
          subst hi'
          refine lpE_intro (A := A28 o l m) (i + 1 : Nat) ?_ hlt ?_
          · simp (maxSteps := 2000000) only [I28, go_sem, eq_self, and_self, Int.natCast_pos, Int.le_refl, Nat.le_refl, Int.natCast_nonneg, Int.ofNat_lt, Int.ofNat_le, Int.reduceLT, Int.reduceLE, Int.reduceEq, Int.reduceNe, Int.reduceAdd, Int.reduceSub, Int.reduceMul, Int.reduceToNat, Int.reduceNeg, Nat.reduceEqDiff, Nat.reduceLeDiff, Nat.reduceSub, Nat.reduceMul, Nat.reduceLT, Nat.reduceBEq, Nat.reduceAdd]
            have e := take_eltO hlt
            rw [e]
            rfl
          · show l.length - (i + 1) < l.length - i
            omega
      · have : i = l.length := by simp at hc; omega
        subst this
        rw [List.take_length]
        exact h
  · exact h.elim

end Go.V
