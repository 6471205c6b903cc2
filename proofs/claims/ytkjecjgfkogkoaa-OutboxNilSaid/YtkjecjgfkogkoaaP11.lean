/- A part of the proof layer, or functions of the given program in it: contracts and their proofs. -/
import Derived.Test.YtkjecjgfkogkoaaP9
import Derived.Test.YtkjecjgfkogkoaaO3
namespace Go.V
open Go.Proofs
set_option maxRecDepth 100000
set_option linter.unusedSimpArgs false
set_option linter.unnecessarySimpa false
set_option linter.unusedVariables false

theorem Sound.or {P : Program} {f : FuncId} {C1 C2 : Contract} (h1 : Sound P f C1) (h2 : Sound P f C2) : Sound P f (fun args hp K => C1 args hp K ∨ C2 args hp K) :=
  fun args hp K h => h.elim (h1 args hp K) (h2 args hp K)
theorem GOk.one {P : Program} {f : Nat} {C : Contract} (h1 : Sound P f C) (h2 : Callable P f) : GOk P [(f, C)] := .cons h1 h2 .nil

/-- A zero outbox. -/
abbrev zH : List SB := [.struct [.str ByteArray.empty, .nils, .nilm]]
@[go_sem] theorem onOb_z {o k} : onOb [.struct [.str o, .nils, .nilm]] k = False := by
  apply propext; constructor
  · rintro ⟨o', l', m', h, hk⟩
    unfold obH at h
    cases h
  · exact False.elim
@[go_sem] theorem onOb_n {k} : onOb [] k = False := by
  apply propext; constructor
  · rintro ⟨o', l', m', h, hk⟩
    unfold obH at h
    cases h
  · exact False.elim

def Z27 : Contract := fun args hp K => match args, hp with
  | [.nilp], [] => K (.bool true) []
  | [.ptr 0 0], [.struct [.str o, .nils, .nilm]] => K (.bool (decide (o = ByteArray.empty))) hp
  | _, _ => False
theorem z27 : Sound Try.prog 27 Z27 := by
  refine sound_of_okF ok27 (Γ := []) .nil ?_
  intro args hp K h
  unfold Z27 at h
  split at h
  · refine ⟨by simp, [], ?_⟩
    simp (maxSteps := 2000000) only [a27, r27, go_sem, eq_self, and_self, Int.natCast_pos, Int.le_refl, Nat.le_refl, Int.natCast_nonneg, Int.ofNat_lt, Int.ofNat_le, Int.reduceLT, Int.reduceLE, Int.reduceEq, Int.reduceNe, Int.reduceAdd, Int.reduceSub, Int.reduceMul, Int.reduceToNat, Int.reduceNeg, Nat.reduceEqDiff, Nat.reduceLeDiff, Nat.reduceSub, Nat.reduceMul, Nat.reduceLT, Nat.reduceBEq, Nat.reduceAdd]
    exact h
  · refine ⟨by simp, [], ?_⟩
    simp (maxSteps := 2000000) only [a27, r27, go_sem, eq_self, and_self, Int.natCast_pos, Int.le_refl, Nat.le_refl, Int.natCast_nonneg, Int.ofNat_lt, Int.ofNat_le, Int.reduceLT, Int.reduceLE, Int.reduceEq, Int.reduceNe, Int.reduceAdd, Int.reduceSub, Int.reduceMul, Int.reduceToNat, Int.reduceNeg, Nat.reduceEqDiff, Nat.reduceLeDiff, Nat.reduceSub, Nat.reduceMul, Nat.reduceLT, Nat.reduceBEq, Nat.reduceAdd]
    rintro c rfl
    exact h
  · exact h.elim

def Z12 : Contract := fun args hp K => match args, hp with
  | [.nilp, .str to, .int .i64 k, .sl p 8 (.int .i64) xs], [] => K (.tup [.int .u64 0, .int .i64 1]) []
  | [.ptr 0 0, .str to, .int .i64 k, .sl p 8 (.int .i64) xs], [.struct [.str o, .nils, .nilm]] => o = ByteArray.empty ∧ K (.tup [.int .u64 0, .int .i64 1]) hp
  | _, _ => False
theorem z12 : Sound Try.prog 12 Z12 := by
  refine sound_of_okF ok12 (Γ := [(27, Z27)]) (.one z27 (callable_of_okF ok27)) ?_
  intro args hp K h
  unfold Z12 at h
  split at h
  · refine ⟨by simp, [], ?_⟩
    simp (maxSteps := 2000000) only [a12, r12, Z27, go_sem, eq_self, and_self, Int.natCast_pos, Int.le_refl, Nat.le_refl, Int.natCast_nonneg, Int.ofNat_lt, Int.ofNat_le, Int.reduceLT, Int.reduceLE, Int.reduceEq, Int.reduceNe, Int.reduceAdd, Int.reduceSub, Int.reduceMul, Int.reduceToNat, Int.reduceNeg, Nat.reduceEqDiff, Nat.reduceLeDiff, Nat.reduceSub, Nat.reduceMul, Nat.reduceLT, Nat.reduceBEq, Nat.reduceAdd]
    exact h
  · obtain ⟨rfl, h⟩ := h
    refine ⟨by simp, [], ?_⟩
    simp (maxSteps := 2000000) only [a12, r12, Z27, go_sem, eq_self, and_self, Int.natCast_pos, Int.le_refl, Nat.le_refl, Int.natCast_nonneg, Int.ofNat_lt, Int.ofNat_le, Int.reduceLT, Int.reduceLE, Int.reduceEq, Int.reduceNe, Int.reduceAdd, Int.reduceSub, Int.reduceMul, Int.reduceToNat, Int.reduceNeg, Nat.reduceEqDiff, Nat.reduceLeDiff, Nat.reduceSub, Nat.reduceMul, Nat.reduceLT, Nat.reduceBEq, Nat.reduceAdd]
    exact h
  · exact h.elim

def Z18 : Contract := fun args hp K => match args, hp with
  | [.nilp], [] => K (.tup [.agg [.str ByteArray.empty, .str ByteArray.empty, .int .u64 0, .int .i64 0, .nils], .bool false]) []
  | [.ptr 0 0], [.struct [.str o, .nils, .nilm]] => o = ByteArray.empty ∧ K (.tup [.agg [.str ByteArray.empty, .str ByteArray.empty, .int .u64 0, .int .i64 0, .nils], .bool false]) hp
  | _, _ => False
theorem z18 : Sound Try.prog 18 Z18 := by
  refine sound_of_okF ok18 (Γ := [(27, Z27)]) (.one z27 (callable_of_okF ok27)) ?_
  intro args hp K h
  unfold Z18 at h
  split at h
  · refine ⟨by simp, [], ?_⟩
    simp (maxSteps := 2000000) only [a18, r18, Z27, go_sem, eq_self, and_self, Int.natCast_pos, Int.le_refl, Nat.le_refl, Int.natCast_nonneg, Int.ofNat_lt, Int.ofNat_le, Int.reduceLT, Int.reduceLE, Int.reduceEq, Int.reduceNe, Int.reduceAdd, Int.reduceSub, Int.reduceMul, Int.reduceToNat, Int.reduceNeg, Nat.reduceEqDiff, Nat.reduceLeDiff, Nat.reduceSub, Nat.reduceMul, Nat.reduceLT, Nat.reduceBEq, Nat.reduceAdd]
    exact h
  · obtain ⟨rfl, h⟩ := h
    refine ⟨by simp, [], ?_⟩
    simp (maxSteps := 2000000) only [a18, r18, Z27, go_sem, eq_self, and_self, Int.natCast_pos, Int.le_refl, Nat.le_refl, Int.natCast_nonneg, Int.ofNat_lt, Int.ofNat_le, Int.reduceLT, Int.reduceLE, Int.reduceEq, Int.reduceNe, Int.reduceAdd, Int.reduceSub, Int.reduceMul, Int.reduceToNat, Int.reduceNeg, Nat.reduceEqDiff, Nat.reduceLeDiff, Nat.reduceSub, Nat.reduceMul, Nat.reduceLT, Nat.reduceBEq, Nat.reduceAdd]
    exact h
  · exact h.elim

def Z11 : Contract := fun args hp K => match args, hp with
  | [.ptr 0 0], [.struct [.str o, .nils, .nilm]] => o = ByteArray.empty ∧ K (.tup [.agg [.str ByteArray.empty, .str ByteArray.empty, .int .u64 0, .int .i64 0, .nils], .bool false]) hp
  | _, _ => False
theorem z11 : Sound Try.prog 11 Z11 := by
  refine sound_of_okF ok11 (Γ := [(18, Z18)]) (.one z18 (callable_of_okF ok18)) ?_
  intro args hp K h
  unfold Z11 at h
  split at h
  · obtain ⟨rfl, h⟩ := h
    refine ⟨by simp, [], ?_⟩
    simp (maxSteps := 2000000) only [a11, r11, Z18, go_sem, eq_self, and_self, Int.natCast_pos, Int.le_refl, Nat.le_refl, Int.natCast_nonneg, Int.ofNat_lt, Int.ofNat_le, Int.reduceLT, Int.reduceLE, Int.reduceEq, Int.reduceNe, Int.reduceAdd, Int.reduceSub, Int.reduceMul, Int.reduceToNat, Int.reduceNeg, Nat.reduceEqDiff, Nat.reduceLeDiff, Nat.reduceSub, Nat.reduceMul, Nat.reduceLT, Nat.reduceBEq, Nat.reduceAdd]
    exact h
  · exact h.elim

def Z17 : Contract := fun args hp K => match args, hp with
  | [.ptr 0 0, .str to], [.struct [.str o, .nils, .nilm]] => o = ByteArray.empty ∧ K (.int .u64 0) hp
  | _, _ => False
theorem z17 : Sound Try.prog 17 Z17 := by
  refine sound_of_okF ok17 (Γ := [(27, Z27)]) (.one z27 (callable_of_okF ok27)) ?_
  intro args hp K h
  unfold Z17 at h
  split at h
  · obtain ⟨rfl, h⟩ := h
    refine ⟨by simp, [], ?_⟩
    simp (maxSteps := 2000000) only [a17, r17, Z27, go_sem, eq_self, and_self, Int.natCast_pos, Int.le_refl, Nat.le_refl, Int.natCast_nonneg, Int.ofNat_lt, Int.ofNat_le, Int.reduceLT, Int.reduceLE, Int.reduceEq, Int.reduceNe, Int.reduceAdd, Int.reduceSub, Int.reduceMul, Int.reduceToNat, Int.reduceNeg, Nat.reduceEqDiff, Nat.reduceLeDiff, Nat.reduceSub, Nat.reduceMul, Nat.reduceLT, Nat.reduceBEq, Nat.reduceAdd]
    exact h
  · exact h.elim

def Z16 : Contract := fun args hp K => match args, hp with
  | [.ptr 0 0], [.struct [.str o, .nils, .nilm]] => o = ByteArray.empty ∧ K (.own 1) (hp ++ [.row true 72 OutT []])
  | _, _ => False
theorem z16 : Sound Try.prog 16 Z16 := by
  refine sound_of_okF ok16 (Γ := [(27, Z27)]) (.one z27 (callable_of_okF ok27)) ?_
  intro args hp K h
  unfold Z16 at h
  split at h
  · obtain ⟨rfl, h⟩ := h
    refine ⟨by simp, [], ?_⟩
    simp (maxSteps := 2000000) only [a16, r16, Z27, go_sem, eq_self, and_self, Int.natCast_pos, Int.le_refl, Nat.le_refl, Int.natCast_nonneg, Int.ofNat_lt, Int.ofNat_le, Int.reduceLT, Int.reduceLE, Int.reduceEq, Int.reduceNe, Int.reduceAdd, Int.reduceSub, Int.reduceMul, Int.reduceToNat, Int.reduceNeg, Nat.reduceEqDiff, Nat.reduceLeDiff, Nat.reduceSub, Nat.reduceMul, Nat.reduceLT, Nat.reduceBEq, Nat.reduceAdd]
    exact h
  · exact h.elim

def Z20 : Contract := fun args hp K => match args, hp with
  | [.nilp], [] => K (.own 0) [.row true 1 .byte []]
  | _, _ => False
theorem z20 : Sound Try.prog 20 Z20 := by
  refine sound_of_okF ok20 (Γ := [(27, Z27)]) (.one z27 (callable_of_okF ok27)) ?_
  intro args hp K h
  unfold Z20 at h
  split at h
  · refine ⟨by simp, [], ?_⟩
    simp (maxSteps := 2000000) only [a20, r20, Z27, go_sem, eq_self, and_self, Int.natCast_pos, Int.le_refl, Nat.le_refl, Int.natCast_nonneg, Int.ofNat_lt, Int.ofNat_le, Int.reduceLT, Int.reduceLE, Int.reduceEq, Int.reduceNe, Int.reduceAdd, Int.reduceSub, Int.reduceMul, Int.reduceToNat, Int.reduceNeg, Nat.reduceEqDiff, Nat.reduceLeDiff, Nat.reduceSub, Nat.reduceMul, Nat.reduceLT, Nat.reduceBEq, Nat.reduceAdd]
    exact h
  · exact h.elim
end Go.V
