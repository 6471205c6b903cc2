/- A part of the proof layer, or functions of the given program in it: contracts and their proofs. -/
import Derived.Test.YtkjecjgfkogkoaaP11
import Derived.Test.YtkjecjgfkogkoaaO2
namespace Go.V
open Go.Proofs
set_option maxRecDepth 100000
set_option linter.unusedSimpArgs false
set_option linter.unnecessarySimpa false
set_option linter.unusedVariables false

structure G6 where
  i : Nat
  ys : List Int
def outs6 (xs : List Int) : List OutT.den := [(⟨#[120]⟩, me, 1, 0, xs)]
def mp6 : List (ByteArray × Int) := [(⟨#[120]⟩, 1)]
def A6 (to : ByteArray) (xs : List Int) : LoopAnn := {
  G := G6
  I := fun g => ⟨[(0, .str to), (1, .sl true 8 (.int .i64) xs), (5, .nilp), (6, .ptr 0 0), (8, .int .i64 1), (10, .int .i64 1), (12, .bool false), (14, .bool false), (15, .ptr 1 0), (17, .own 4), (74, .int .i64 xs.length), (75, .int .i64 g.i)],
    [.struct [.str ByteArray.empty, .nils, .nilm], .struct [.str me, .own 2, .mp 3], .row true 72 OutT (outs6 xs), .map false .str (.int .u64) mp6, .row true 8 (.int .i64) g.ys]⟩
  R := fun _ g => g.i ≤ xs.length ∧ g.ys.length = xs.length
  μ := fun g => xs.length - g.i }
theorem I6 (to xs) (g : G6) : (A6 to xs).I g = ⟨[(0, .str to), (1, .sl true 8 (.int .i64) xs), (5, .nilp), (6, .ptr 0 0), (8, .int .i64 1), (10, .int .i64 1), (12, .bool false), (14, .bool false), (15, .ptr 1 0), (17, .own 4), (74, .int .i64 xs.length), (75, .int .i64 g.i)],
    [.struct [.str ByteArray.empty, .nils, .nilm], .struct [.str me, .own 2, .mp 3], .row true 72 OutT (outs6 xs), .map false .str (.int .u64) mp6, .row true 8 (.int .i64) g.ys]⟩ := rfl

def B6 (to : ByteArray) (xs : List Int) : LoopAnn := {
  G := G6
  I := fun g => ⟨[(0, .str to), (1, .sl true 8 (.int .i64) xs), (5, .nilp), (6, .ptr 0 0), (8, .int .i64 1), (10, .int .i64 1), (12, .bool false), (14, .bool false), (15, .ptr 1 0), (19, .ptr 4 0), (93, .int .i64 xs.length), (94, .int .i64 g.i)],
    [.struct [.str ByteArray.empty, .nils, .nilm], .struct [.str me, .own 2, .mp 3], .row true 72 OutT (outs6 xs), .map false .str (.int .u64) mp6, .struct [.str ⟨#[120]⟩, .str me, .int .u64 1, .int .i64 0, .own 5], .row true 8 (.int .i64) g.ys]⟩
  R := fun _ g => g.i ≤ xs.length ∧ g.ys.length = xs.length
  μ := fun g => xs.length - g.i }
theorem J6 (to xs) (g : G6) : (B6 to xs).I g = ⟨[(0, .str to), (1, .sl true 8 (.int .i64) xs), (5, .nilp), (6, .ptr 0 0), (8, .int .i64 1), (10, .int .i64 1), (12, .bool false), (14, .bool false), (15, .ptr 1 0), (19, .ptr 4 0), (93, .int .i64 xs.length), (94, .int .i64 g.i)],
    [.struct [.str ByteArray.empty, .nils, .nilm], .struct [.str me, .own 2, .mp 3], .row true 72 OutT (outs6 xs), .map false .str (.int .u64) mp6, .struct [.str ⟨#[120]⟩, .str me, .int .u64 1, .int .i64 0, .own 5], .row true 8 (.int .i64) g.ys]⟩ := rfl

def D12 : Contract := fun args hp K => Z12 args hp K ∨ C12 args hp K
def D18 : Contract := fun args hp K => Z18 args hp K ∨ C18 args hp K
def D11 : Contract := fun args hp K => Z11 args hp K ∨ C11 args hp K
def C6 : Contract := fun args hp K => match args, hp with
  | [.str to, x], [] => (∃ xs, x = .sl true 8 (.int .i64) xs) ∧ K (.bool true) []
  | _, _ => False
theorem s6 : Sound Try.prog 6 C6 := by
  refine sound_of_okF ok6 (Γ := [(9, C9), (12, D12), (18, D18), (11, D11), (10, C10), (19, C19), (17, Z17), (16, Z16), (20, Z20), (21, C21)])
    (.cons s9 (callable_of_okF ok9) (.cons (z12.or s12) (callable_of_okF ok12) (.cons (z18.or s18) (callable_of_okF ok18) (.cons (z11.or s11) (callable_of_okF ok11) (.cons s10 (callable_of_okF ok10) (.cons s19 (callable_of_okF ok19) (.cons z17 (callable_of_okF ok17) (.cons z16 (callable_of_okF ok16) (.cons z20 (callable_of_okF ok20) (.cons s21 (callable_of_okF ok21) .nil)))))))))) ?_
  intro args hp K h
  unfold C6 at h
  split at h
  · rename_i to x
    obtain ⟨⟨xs, rfl⟩, h⟩ := h
    refine ⟨by simp, [(1, A6 to xs), (2, B6 to xs)], ?_⟩
    simp (maxSteps := 2000000) only [a6, r6, C9, D12, D18, D11, Z12, Z18, Z11, C12, C18, C11, C10, obH, false_or, or_false, go_sem, eq_self, and_self, Int.natCast_pos, Int.le_refl, Nat.le_refl, Int.natCast_nonneg, Int.ofNat_lt, Int.ofNat_le, Int.reduceLT, Int.reduceLE, Int.reduceEq, Int.reduceNe, Int.reduceAdd, Int.reduceSub, Int.reduceMul, Int.reduceToNat, Int.reduceNeg, Nat.reduceEqDiff, Nat.reduceLeDiff, Nat.reduceSub, Nat.reduceMul, Nat.reduceLT, Nat.reduceBEq, Nat.reduceAdd]
    have k1 : keyOk me = true := by decide
    have k2 : keyOk ⟨#[120]⟩ = true := by decide
    have kne : me ≠ ByteArray.empty := by decide
    have hM := maxLen_val
    rintro _ _ n rfl c hc
    refine sw_intro (fun _ => h) (fun hc1 => ?_)
    have h4 : xs.length ≤ 4 := by simp [hc] at hc1; omega
    rintro _ m rfl c2 hc2
    refine sw_intro (fun _ => h) (fun _ => ⟨fun _ => ⟨id, fun _ => ⟨rfl, kne, by omega, fun hk => absurd ⟨k2, h4⟩ hk, fun _ hf => ?_, fun _ _ s hs => ?_⟩⟩, fun hk => ?_⟩)
    · exact hf.2.elim
    · have hs1 : s = 1 := hs.trans (by decide)
      subst hs1
      rintro _ _ m rfl
      refine loop_intro (A := A6 to xs) (⟨0, xs⟩ : G6) ?_ ⟨Nat.zero_le _, rfl⟩ ?_
      · simp (maxSteps := 2000000) only [I6, go_sem, eq_self, and_self, Int.natCast_pos, Int.le_refl, Nat.le_refl, Int.natCast_nonneg, Int.ofNat_lt, Int.ofNat_le, Int.reduceLT, Int.reduceLE, Int.reduceEq, Int.reduceNe, Int.reduceAdd, Int.reduceSub, Int.reduceMul, Int.reduceToNat, Int.reduceNeg, Nat.reduceEqDiff, Nat.reduceLeDiff, Nat.reduceSub, Nat.reduceMul, Nat.reduceLT, Nat.reduceBEq, Nat.reduceAdd]
        rfl
      · rintro (⟨i, ys⟩ : G6) ⟨hi, hy⟩
        change i ≤ xs.length at hi
        change ys.length = xs.length at hy
        simp (maxSteps := 2000000) only [I6, D18, Z18, C18, obH, false_or, or_false, go_sem, eq_self, and_self, Int.natCast_pos, Int.le_refl, Nat.le_refl, Int.natCast_nonneg, Int.ofNat_lt, Int.ofNat_le, Int.reduceLT, Int.reduceLE, Int.reduceEq, Int.reduceNe, Int.reduceAdd, Int.reduceSub, Int.reduceMul, Int.reduceToNat, Int.reduceNeg, Nat.reduceEqDiff, Nat.reduceLeDiff, Nat.reduceSub, Nat.reduceMul, Nat.reduceLT, Nat.reduceBEq, Nat.reduceAdd]
        rintro c rfl
        refine sw_intro (fun hc => ?_) (fun _ => ?_)
        · have hlt : i < xs.length := by simpa using hc
          rw [hy]
          refine nd_intro hlt ?_
          intro _ _ y hy'
          refine nd_intro hlt ?_
          intro _ _ n hn
          rw [w64 (by omega)] at hn
          subst hn
          refine lpE_intro (A := A6 to xs) (⟨i + 1, ys.set i y⟩ : G6) ?_ ⟨hlt, by simpa using hy⟩ ?_
          · simp (maxSteps := 2000000) only [I6, go_sem, eq_self, and_self, Int.natCast_pos, Int.le_refl, Nat.le_refl, Int.natCast_nonneg, Int.ofNat_lt, Int.ofNat_le, Int.reduceLT, Int.reduceLE, Int.reduceEq, Int.reduceNe, Int.reduceAdd, Int.reduceSub, Int.reduceMul, Int.reduceToNat, Int.reduceNeg, Nat.reduceEqDiff, Nat.reduceLeDiff, Nat.reduceSub, Nat.reduceMul, Nat.reduceLT, Nat.reduceBEq, Nat.reduceAdd]
            rfl
          · show xs.length - (i + 1) < xs.length - i
            omega
        · refine ⟨kne, fun hl => by simp [outs6] at hl, ?_⟩
          intro x r hl
          simp only [outs6, List.cons.injEq] at hl
          obtain ⟨rfl, rfl⟩ := hl
          rintro _ _ m rfl
          refine loop_intro (A := B6 to xs) (⟨0, xs⟩ : G6) ?_ ⟨Nat.zero_le _, rfl⟩ ?_
          · simp (maxSteps := 2000000) only [J6, go_sem, eq_self, and_self, Int.natCast_pos, Int.le_refl, Nat.le_refl, Int.natCast_nonneg, Int.ofNat_lt, Int.ofNat_le, Int.reduceLT, Int.reduceLE, Int.reduceEq, Int.reduceNe, Int.reduceAdd, Int.reduceSub, Int.reduceMul, Int.reduceToNat, Int.reduceNeg, Nat.reduceEqDiff, Nat.reduceLeDiff, Nat.reduceSub, Nat.reduceMul, Nat.reduceLT, Nat.reduceBEq, Nat.reduceAdd]
            rfl
          · rintro (⟨i, ys⟩ : G6) ⟨hi, hy⟩
            change i ≤ xs.length at hi
            change ys.length = xs.length at hy
            simp (maxSteps := 2000000) only [J6, D11, Z11, C11, C19, Z17, Z16, Z20, C21, obH, false_or, or_false, go_sem, eq_self, and_self, Int.natCast_pos, Int.le_refl, Nat.le_refl, Int.natCast_nonneg, Int.ofNat_lt, Int.ofNat_le, Int.reduceLT, Int.reduceLE, Int.reduceEq, Int.reduceNe, Int.reduceAdd, Int.reduceSub, Int.reduceMul, Int.reduceToNat, Int.reduceNeg, Nat.reduceEqDiff, Nat.reduceLeDiff, Nat.reduceSub, Nat.reduceMul, Nat.reduceLT, Nat.reduceBEq, Nat.reduceAdd]
            rintro c rfl
            refine sw_intro (fun hc => ?_) (fun _ => ?_)
            · have hlt : i < xs.length := by simpa using hc
              rw [hy]
              refine nd_intro hlt ?_
              intro _ _ y hy'
              refine nd_intro hlt ?_
              intro _ _ n hn
              rw [w64 (by omega)] at hn
              subst hn
              refine lpE_intro (A := B6 to xs) (⟨i + 1, ys.set i y⟩ : G6) ?_ ⟨hlt, by simpa using hy⟩ ?_
              · simp (maxSteps := 2000000) only [J6, go_sem, eq_self, and_self, Int.natCast_pos, Int.le_refl, Nat.le_refl, Int.natCast_nonneg, Int.ofNat_lt, Int.ofNat_le, Int.reduceLT, Int.reduceLE, Int.reduceEq, Int.reduceNe, Int.reduceAdd, Int.reduceSub, Int.reduceMul, Int.reduceToNat, Int.reduceNeg, Nat.reduceEqDiff, Nat.reduceLeDiff, Nat.reduceSub, Nat.reduceMul, Nat.reduceLT, Nat.reduceBEq, Nat.reduceAdd]
                rfl
              · show xs.length - (i + 1) < xs.length - i
                omega
            · refine ⟨kne, fun hl => by simp [outs6] at hl, ?_⟩
              intro x r hl
              simp only [outs6, List.cons.injEq] at hl
              obtain ⟨rfl, rfl⟩ := hl
              rintro _ _ rfl c rfl
              refine sw_intro (fun _ => ?_) (fun h => by simp at h)
              rintro _ _ rfl c rfl
              refine sw_intro (fun _ => ⟨rfl, false, false, xs, rfl, rfl, h⟩) (fun h => by simp at h)
    · exact absurd (k1.symm.trans hk) (by decide)
  · exact h.elim
end Go.V
