/- A part of the proof layer, or functions of the given program in it: contracts and their proofs. -/
import Derived.Test.YthfkoeoaehkoaaaGreatDoorMS10
import Derived.Test.YthfkoeoaehkoaaaGreatDoorX2
namespace Go.V
open Go.Proofs
set_option maxRecDepth 100000
set_option maxHeartbeats 8000000
set_option linter.unusedSimpArgs false
set_option linter.unnecessarySimpa false
set_option linter.unusedVariables false
attribute [local irreducible] rc
def Rn : Run := runF XT 10000 100
theorem rn_sound (f : Nat) : Sound Tryz.prog f (CX Rn f) := runF_sound XT_ok 10000 100 f
theorem isTrue_eq {o : Outs (SV × List SB)} (h : isTrue o = true) : o = some [(.bool true, [])] := by
 unfold isTrue at h
 split at h
 ·rfl
 ·cases h
def C9 : Contract := fun args hp K => match args, hp with
 | [], [] => K (.bool true) []
 | _, _ => False
theorem s9 : Sound Tryz.prog 9 C9 := by
 intro args hp K h
 unfold C9 at h
 split at h
 ·exact rn_sound 9 _ _ K ⟨_, isTrue_eq run9, by simpa using h⟩
 ·exact h.elim
theorem s9_c : Callable Tryz.prog 9 := callable_of_okF xk9
end Go.V
namespace Go.V
open Go.Proofs
set_option maxRecDepth 100000
set_option maxHeartbeats 8000000
set_option linter.unusedSimpArgs false
set_option linter.unnecessarySimpa false
set_option linter.unusedVariables false
attribute [local irreducible] rc
section use
variable {K : SV → List SB → Prop}
theorem use9 (h : K (.bool true) []) : C9 [] [] K := h
theorem useP {s : ByteArray} (hs : s.size ≤ 1000000) (h1 : ∀ e, parseC s = .error e → K (.tup [zeroC, .int .i64 e]) []) (h2 : ∀ c, parseC s = .ok c → K (.tup [cmdV c, .int .i64 0]) []) : CParse [.str s] [] K := ⟨hs, h1, h2⟩
theorem use13z (h : K zeroC []) : C13 [zeroC] [] K := ⟨.inl ⟨rfl, rfl⟩, h⟩
theorem use13c {c : Cmd} (h : K (cmdV c) []) : C13 [cmdV c] [] K := ⟨.inr ⟨_, _, rfl, rfl⟩, h⟩
theorem use12z (h : K (.bool true) []) : C12 [zeroC, zeroC] [] K := .inl ⟨rfl, .inl ⟨rfl, .inl ⟨rfl, .inl ⟨rfl, h⟩⟩⟩⟩
theorem use12c {c : Cmd} (h : K (.bool true) []) : C12 [cmdV c, cmdV c] [] K := .inr ⟨_, _, rfl, .inr ⟨_, _, rfl, .inr ⟨_, _, rfl, .inr ⟨_, _, rfl, by
 have e : (decide (c.word = c.word ∧ (c.client : Int) = c.client ∧ (c.serial : Int) = c.serial ∧ c.keys = c.keys ∧ c.ints = c.ints)) = true := decide_eq_true ⟨rfl, rfl, rfl, rfl, rfl⟩
 show K (.bool (decide (c.word = c.word ∧ (c.client : Int) = c.client ∧ (c.serial : Int) = c.serial ∧ c.keys = c.keys ∧ c.ints = c.ints))) []
 rw [e]
 exact h⟩⟩⟩⟩
end use
def C3 : Contract := fun args hp K => match args, hp with
 | [.str s], [] => K (.bool true) []
 | _, _ => False
attribute [local irreducible] C9 CParse C12 C13
theorem s3 : Sound Tryz.prog 3 C3 := by
 refine sound_of_okF ok3 (.cons s9 s9_c (.cons s10 (callable_of_okF ok10) (.cons s11 (callable_of_okF ok11) (.cons s12 (callable_of_okF ok12) (.cons s13 (callable_of_okF ok13) .nil))))) ?_
 intro args hp K h
 unfold C3 at h
 split at h
 ·rename_i s
  refine ⟨by simp, [], ?_⟩
  simp (maxSteps:=9^9) only [a3, r3, go_sem, eq_self, and_self, Int.natCast_pos, Int.le_refl, Nat.le_refl, Int.natCast_nonneg, Int.ofNat_lt, Int.ofNat_le, Int.reduceLT, Int.reduceLE, Int.reduceEq, Int.reduceNe, Int.reduceAdd, Int.reduceSub, Int.reduceMul, Int.reduceToNat, Int.reduceNeg, Nat.reduceEqDiff, Nat.reduceLeDiff, Nat.reduceSub, Nat.reduceMul, Nat.reduceLT, Nat.reduceBEq, Nat.reduceAdd, Nat.reduceDiv, Nat.reduceMod]
  refine use9 ?_
  simp (maxSteps:=9^9) only [go_sem, eq_self, and_self, Int.natCast_pos, Int.le_refl, Nat.le_refl, Int.natCast_nonneg, Int.ofNat_lt, Int.ofNat_le, Int.reduceLT, Int.reduceLE, Int.reduceEq, Int.reduceNe, Int.reduceAdd, Int.reduceSub, Int.reduceMul, Int.reduceToNat, Int.reduceNeg, Nat.reduceEqDiff, Nat.reduceLeDiff, Nat.reduceSub, Nat.reduceMul, Nat.reduceLT, Nat.reduceBEq, Nat.reduceAdd, Nat.reduceDiv, Nat.reduceMod]
  intro _ m hm c hc
  refine swd9 hc (fun hl => ?_) (fun hl => ?_)
  ·refine use9 ?_
   simp (maxSteps:=9^9) only [go_sem, eq_self, and_self, Int.natCast_pos, Int.le_refl, Nat.le_refl, Int.natCast_nonneg, Int.ofNat_lt, Int.ofNat_le, Int.reduceLT, Int.reduceLE, Int.reduceEq, Int.reduceNe, Int.reduceAdd, Int.reduceSub, Int.reduceMul, Int.reduceToNat, Int.reduceNeg, Nat.reduceEqDiff, Nat.reduceLeDiff, Nat.reduceSub, Nat.reduceMul, Nat.reduceLT, Nat.reduceBEq, Nat.reduceAdd, Nat.reduceDiv, Nat.reduceMod]
   exact h
  refine useP (by omega) (fun e he => ?_) (fun c he => ?_)
  ·simp (maxSteps:=9^9) only [zeroC, go_sem, eq_self, and_self, Int.natCast_pos, Int.le_refl, Nat.le_refl, Int.natCast_nonneg, Int.ofNat_lt, Int.ofNat_le, Int.reduceLT, Int.reduceLE, Int.reduceEq, Int.reduceNe, Int.reduceAdd, Int.reduceSub, Int.reduceMul, Int.reduceToNat, Int.reduceNeg, Nat.reduceEqDiff, Nat.reduceLeDiff, Nat.reduceSub, Nat.reduceMul, Nat.reduceLT, Nat.reduceBEq, Nat.reduceAdd, Nat.reduceDiv, Nat.reduceMod]
   refine useP (by omega) (fun e' he' => ?_) (fun c he' => ?_)
   ·rw [he] at he'
    cases he'
    simp (maxSteps:=9^9) only [zeroC, go_sem, eq_self, and_self, Int.natCast_pos, Int.le_refl, Nat.le_refl, Int.natCast_nonneg, Int.ofNat_lt, Int.ofNat_le, Int.reduceLT, Int.reduceLE, Int.reduceEq, Int.reduceNe, Int.reduceAdd, Int.reduceSub, Int.reduceMul, Int.reduceToNat, Int.reduceNeg, Nat.reduceEqDiff, Nat.reduceLeDiff, Nat.reduceSub, Nat.reduceMul, Nat.reduceLT, Nat.reduceBEq, Nat.reduceAdd, Nat.reduceDiv, Nat.reduceMod]
    refine use13z ?_
    simp (maxSteps:=9^9) only [zeroC, go_sem, eq_self, and_self, Int.natCast_pos, Int.le_refl, Nat.le_refl, Int.natCast_nonneg, Int.ofNat_lt, Int.ofNat_le, Int.reduceLT, Int.reduceLE, Int.reduceEq, Int.reduceNe, Int.reduceAdd, Int.reduceSub, Int.reduceMul, Int.reduceToNat, Int.reduceNeg, Nat.reduceEqDiff, Nat.reduceLeDiff, Nat.reduceSub, Nat.reduceMul, Nat.reduceLT, Nat.reduceBEq, Nat.reduceAdd, Nat.reduceDiv, Nat.reduceMod]
    refine use12z ?_
    simp (maxSteps:=9^9) only [go_sem, eq_self, and_self, Int.natCast_pos, Int.le_refl, Nat.le_refl, Int.natCast_nonneg, Int.ofNat_lt, Int.ofNat_le, Int.reduceLT, Int.reduceLE, Int.reduceEq, Int.reduceNe, Int.reduceAdd, Int.reduceSub, Int.reduceMul, Int.reduceToNat, Int.reduceNeg, Nat.reduceEqDiff, Nat.reduceLeDiff, Nat.reduceSub, Nat.reduceMul, Nat.reduceLT, Nat.reduceBEq, Nat.reduceAdd, Nat.reduceDiv, Nat.reduceMod]
    exact h
   ·rw [he] at he'
    cases he'
  ·simp (maxSteps:=9^9) only [cmdV, go_sem, eq_self, and_self, Int.natCast_pos, Int.le_refl, Nat.le_refl, Int.natCast_nonneg, Int.ofNat_lt, Int.ofNat_le, Int.reduceLT, Int.reduceLE, Int.reduceEq, Int.reduceNe, Int.reduceAdd, Int.reduceSub, Int.reduceMul, Int.reduceToNat, Int.reduceNeg, Nat.reduceEqDiff, Nat.reduceLeDiff, Nat.reduceSub, Nat.reduceMul, Nat.reduceLT, Nat.reduceBEq, Nat.reduceAdd, Nat.reduceDiv, Nat.reduceMod]
   refine useP (by omega) (fun e' he' => ?_) (fun c he' => ?_)
   ·rw [he] at he'
    cases he'
   ·rw [he] at he'
    cases he'
    simp (maxSteps:=9^9) only [cmdV, go_sem, eq_self, and_self, Int.natCast_pos, Int.le_refl, Nat.le_refl, Int.natCast_nonneg, Int.ofNat_lt, Int.ofNat_le, Int.reduceLT, Int.reduceLE, Int.reduceEq, Int.reduceNe, Int.reduceAdd, Int.reduceSub, Int.reduceMul, Int.reduceToNat, Int.reduceNeg, Nat.reduceEqDiff, Nat.reduceLeDiff, Nat.reduceSub, Nat.reduceMul, Nat.reduceLT, Nat.reduceBEq, Nat.reduceAdd, Nat.reduceDiv, Nat.reduceMod]
    refine use13c ?_
    simp (maxSteps:=9^9) only [cmdV, go_sem, eq_self, and_self, Int.natCast_pos, Int.le_refl, Nat.le_refl, Int.natCast_nonneg, Int.ofNat_lt, Int.ofNat_le, Int.reduceLT, Int.reduceLE, Int.reduceEq, Int.reduceNe, Int.reduceAdd, Int.reduceSub, Int.reduceMul, Int.reduceToNat, Int.reduceNeg, Nat.reduceEqDiff, Nat.reduceLeDiff, Nat.reduceSub, Nat.reduceMul, Nat.reduceLT, Nat.reduceBEq, Nat.reduceAdd, Nat.reduceDiv, Nat.reduceMod]
    refine use12c ?_
    simp (maxSteps:=9^9) only [go_sem, eq_self, and_self, Int.natCast_pos, Int.le_refl, Nat.le_refl, Int.natCast_nonneg, Int.ofNat_lt, Int.ofNat_le, Int.reduceLT, Int.reduceLE, Int.reduceEq, Int.reduceNe, Int.reduceAdd, Int.reduceSub, Int.reduceMul, Int.reduceToNat, Int.reduceNeg, Nat.reduceEqDiff, Nat.reduceLeDiff, Nat.reduceSub, Nat.reduceMul, Nat.reduceLT, Nat.reduceBEq, Nat.reduceAdd, Nat.reduceDiv, Nat.reduceMod]
    exact h
 ·exact h.elim
end Go.V
