/- A part of the proof layer, or functions of the given program in it: contracts and their proofs. -/
import Derived.Test.YtbcmjkfdeikkhaaGreatA62
namespace Go.V
open Go.Proofs
set_option maxRecDepth 100000
set_option maxHeartbeats 4000000
set_option linter.unusedSimpArgs false
set_option linter.unnecessarySimpa false
set_option linter.unusedVariables false
/-! ### what a step keeps -/
structure KeepM (M N : Mc) : Prop where
  names : N.names = M.names
  code : N.code = M.code
  args : N.args = M.args
  steps : N.steps = M.steps
  pc : N.pc = M.pc
  st : N.st = M.st
  ev : N.ev = M.ev
  sent : N.sent = M.sent
  tim : N.tim = M.tim
  stack : M.stack.length ≤ 16 → N.stack.length ≤ 16
theorem KeepM.refl (M : Mc) : KeepM M M := ⟨rfl, rfl, rfl, rfl, rfl, rfl, rfl, rfl, rfl, id⟩
theorem KeepM.trans {M N P : Mc} (a : KeepM M N) (b : KeepM N P) : KeepM M P := ⟨b.names.trans a.names, b.code.trans a.code, b.args.trans a.args, b.steps.trans a.steps, b.pc.trans a.pc, b.st.trans a.st, b.ev.trans a.ev, b.sent.trans a.sent, b.tim.trans a.tim, fun h => b.stack (a.stack h)⟩
theorem pushM_k (M : Mc) (xs : List Int) : KeepM M (pushM M xs) := by
  unfold pushM
  split
  · exact .refl M
  · split
    · exact ⟨rfl, rfl, rfl, rfl, rfl, rfl, rfl, rfl, rfl, id⟩
    · rename_i h
      exact ⟨rfl, rfl, rfl, rfl, rfl, rfl, rfl, rfl, rfl, fun _ => by simp only [List.length_append]; omega⟩
theorem popM_k (M : Mc) : KeepM M (popM M).2 := by
  refine ⟨?_, ?_, ?_, ?_, ?_, ?_, ?_, ?_, ?_, popM_stack⟩ <;> (unfold popM; split <;> (try rfl); split <;> rfl)
theorem twoM_k (M : Mc) : KeepM M (twoM M).2 := by
  unfold twoM
  exact (popM_k M).trans (popM_k _)
theorem refM_k (M : Mc) (b : Bool) : KeepM M (refM M b) := by
  refine ⟨?_, ?_, ?_, ?_, ?_, ?_, ?_, ?_, ?_, fun h => ?_⟩ <;> (unfold refM; split <;> first | rfl | exact h)
structure StepK (M N : Mc) (n : Nat) (arg : Int) : Prop where
  names : N.names = M.names
  code : N.code = M.code
  args : N.args = M.args
  steps : N.steps = M.steps
  pc : N.pc = M.pc ∨ (N.pc = arg ∧ (n = 15 ∨ n = 16))
  st : N.st.length = M.st.length
  ev : N.ev.length ≤ M.ev.length + 1
  sent : N.sent.length ≤ M.sent.length + 1
  tim : N.tim.length ≤ M.tim.length + 1
  stack : M.stack.length ≤ 16 → N.stack.length ≤ 16
theorem KeepM.step {M N : Mc} {n : Nat} {arg : Int} (h : KeepM M N) : StepK M N n arg :=
  ⟨h.names, h.code, h.args, h.steps, .inl h.pc, by rw [h.st], by rw [h.ev]; omega, by rw [h.sent]; omega, by rw [h.tim]; omega, h.stack⟩
theorem sendM_k {M T : Mc} {to : ByteArray} {x y : Int} {n : Nat} {arg : Int} (h : KeepM M T) : StepK M (sendM T to x y) n arg := by
  unfold sendM
  split
  · exact h.step
  have hr := h.trans (refM_k T (decide (4 ≤ (T.sent.length : Int))))
  split
  · exact ⟨hr.names, hr.code, hr.args, hr.steps, .inl hr.pc, by show _ = _; rw [hr.st], by show List.length (refM T _).ev ≤ _; rw [hr.ev]; omega, by simp only [List.length_append, List.length_cons, List.length_nil]; rw [hr.sent]; omega, by show List.length (refM T _).tim ≤ _; rw [hr.tim]; omega, hr.stack⟩
  · exact hr.step
theorem remM_k {M T : Mc} {nm : ByteArray} {x y : Int} {b : Bool} {n : Nat} {arg : Int} (h : KeepM M T) : StepK M (remM T nm x y b) n arg := by
  unfold remM
  have hr := h.trans (refM_k T b)
  split
  · exact ⟨hr.names, hr.code, hr.args, hr.steps, .inl hr.pc, by show _ = _; rw [hr.st], by show List.length (refM T _).ev ≤ _; rw [hr.ev]; omega, by show List.length (refM T _).sent ≤ _; rw [hr.sent]; omega, by simp only [List.length_append, List.length_cons, List.length_nil]; rw [hr.tim]; omega, hr.stack⟩
  · exact hr.step
theorem stepN_k (M : Mc) (n : Nat) (arg : Int) : StepK M (stepN M n arg) n arg := by
  unfold stepN
  split
  · exact ⟨rfl, rfl, rfl, rfl, .inl rfl, rfl, by simp, by simp, by simp, id⟩
  · exact (pushM_k _ _).step
  · exact (pushM_k _ _).step
  · have h := popM_k M
    split
    · exact ⟨h.names, h.code, h.args, h.steps, .inl h.pc, by show (List.set _ _ _).length = _; rw [List.length_set, h.st], by simp only [List.length_append, List.length_cons, List.length_nil]; rw [h.ev]; omega, by show List.length (popM M).2.sent ≤ _; rw [h.sent]; omega, by show List.length (popM M).2.tim ≤ _; rw [h.tim]; omega, h.stack⟩
    · exact h.step
  · split <;> exact (pushM_k _ _).step
  · exact (pushM_k _ _).step
  · exact ((twoM_k M).trans (pushM_k _ _)).step
  · exact ((twoM_k M).trans (pushM_k _ _)).step
  · exact ((twoM_k M).trans (pushM_k _ _)).step
  · exact ((twoM_k M).trans (pushM_k _ _)).step
  · exact ((twoM_k M).trans (pushM_k _ _)).step
  · exact ((popM_k M).trans (pushM_k _ _)).step
  · exact ((popM_k M).trans (pushM_k _ _)).step
  · exact (popM_k M).step
  · exact ((twoM_k M).trans (pushM_k _ _)).step
  · exact ⟨rfl, rfl, rfl, rfl, .inr ⟨rfl, .inl rfl⟩, rfl, by simp, by simp, by simp, id⟩
  · have h := popM_k M
    split
    · exact ⟨h.names, h.code, h.args, h.steps, .inr ⟨rfl, .inr rfl⟩, by show List.length (popM M).2.st = _; rw [h.st], by show List.length (popM M).2.ev ≤ _; rw [h.ev]; omega, by show List.length (popM M).2.sent ≤ _; rw [h.sent]; omega, by show List.length (popM M).2.tim ≤ _; rw [h.tim]; omega, h.stack⟩
    · exact h.step
  · exact (refM_k _ _).step
  · exact (pushM_k _ _).step
  · exact (pushM_k _ _).step
  · unfold outM
    split
    · exact sendM_k (twoM_k M)
    split
    · exact sendM_k (twoM_k M)
    split
    · exact remM_k (twoM_k M)
    split
    · exact ⟨rfl, rfl, rfl, rfl, .inl rfl, rfl, by simp, by simp, by simp, id⟩
    · exact (KeepM.refl M).step
end Go.V
