/- A part of the proof layer, or functions of the given program in it: contracts and their proofs. -/
import Derived.Test.YtbcmjkfdeikkhaaGreatA65
import Derived.Test.YtbcmjkfdeikkhaaGreatA40
namespace Go.V
open Go.Proofs
set_option maxRecDepth 100000
set_option maxHeartbeats 4000000
set_option linter.unusedSimpArgs false
set_option linter.unnecessarySimpa false
set_option linter.unusedVariables false
/-! ### what a run keeps -/
theorem sendM_ev {M T : Mc} {to : ByteArray} {x y : Int} (h : T.ev = M.ev) : (sendM T to x y).ev = M.ev := by
  unfold sendM
  split
  · exact h
  have hr := (refM_k T (decide (4 ≤ (T.sent.length : Int)))).ev
  split
  · show (refM T _).ev = _
    rw [hr, h]
  · rw [hr, h]
theorem remM_ev {M T : Mc} {nm : ByteArray} {x y : Int} {b : Bool} (h : T.ev = M.ev) : (remM T nm x y b).ev = M.ev := by
  unfold remM
  have hr := (refM_k T b).ev
  split
  · show (refM T _).ev = _
    rw [hr, h]
  · rw [hr, h]
theorem stepN_ev (M : Mc) (n : Nat) (arg : Int) : (stepN M n arg).ev = M.ev ∨ (n = 3 ∧ ∃ x, (stepN M n arg).ev = M.ev ++ [(arg, x)]) := by
  unfold stepN
  split
  · exact .inl rfl
  · exact .inl (pushM_k _ _).ev
  · exact .inl (pushM_k _ _).ev
  · have h := popM_k M
    split
    · refine .inr ⟨rfl, (popM M).1, ?_⟩
      show (popM M).2.ev ++ _ = _
      rw [h.ev]
    · exact .inl h.ev
  · split <;> exact .inl (pushM_k _ _).ev
  · exact .inl (pushM_k _ _).ev
  · exact .inl ((twoM_k M).trans (pushM_k _ _)).ev
  · exact .inl ((twoM_k M).trans (pushM_k _ _)).ev
  · exact .inl ((twoM_k M).trans (pushM_k _ _)).ev
  · exact .inl ((twoM_k M).trans (pushM_k _ _)).ev
  · exact .inl ((twoM_k M).trans (pushM_k _ _)).ev
  · exact .inl ((popM_k M).trans (pushM_k _ _)).ev
  · exact .inl ((popM_k M).trans (pushM_k _ _)).ev
  · exact .inl (popM_k M).ev
  · exact .inl ((twoM_k M).trans (pushM_k _ _)).ev
  · exact .inl rfl
  · have h := popM_k M
    split <;> exact .inl h.ev
  · exact .inl (refM_k _ _).ev
  · exact .inl (pushM_k _ _).ev
  · exact .inl (pushM_k _ _).ev
  · left
    unfold outM
    split
    · exact sendM_ev (twoM_k M).ev
    split
    · exact sendM_ev (twoM_k M).ev
    split
    · exact remM_ev (twoM_k M).ev
    split
    · rfl
    · rfl
structure RunOk (N : Mc) : Prop where
  ev : N.ev.all okEv = true
  e5 : N.ev.length ≤ 500
  s5 : N.sent.length ≤ 500
  t5 : N.tim.length ≤ 500
  steps : 0 ≤ N.steps ∧ N.steps ≤ 500
  st8 : N.st.length = 8
theorem InvM.run {names code args M} (h : InvM names code args M) (he : M.ev.all okEv = true) : RunOk M :=
  ⟨he, by have := h.ev; have := h.steps; omega, by have := h.sent; have := h.steps; omega, by have := h.tim; have := h.steps; omega, h.steps, h.st8⟩
theorem iterM_run {names code args M} (h : InvM names code args M) (hc : code.length ≤ 200) (hi : code.all (insOk names.length code.length) = true) (hp : M.pc < (code.length : Int)) (h5 : ¬ M.steps = 500) (he : M.ev.all okEv = true) : RunOk (iterM M (elt EvT code M.pc.toNat)) := by
  have hs := h.steps
  have hpc := h.pc
  have hlt : M.pc.toNat < code.length := by omega
  have ho := insOk_arg (List.all_eq_true.1 hi _ (List.mem_of_getElem? (elt_get hlt)))
  have k := stepN_k { M with steps := M.steps + 1, pc := M.pc + 1 } (elt EvT code M.pc.toNat).1.toNat (elt EvT code M.pc.toNat).2
  have h1 := h.ev
  have h2 := h.sent
  have h3 := h.tim
  have k1 : (iterM M (elt EvT code M.pc.toNat)).ev.length ≤ M.ev.length + 1 := k.ev
  have k2 : (iterM M (elt EvT code M.pc.toNat)).sent.length ≤ M.sent.length + 1 := k.sent
  have k3 : (iterM M (elt EvT code M.pc.toNat)).tim.length ≤ M.tim.length + 1 := k.tim
  have k4 : (iterM M (elt EvT code M.pc.toNat)).steps = M.steps + 1 := k.steps
  refine ⟨?_, by omega, by omega, by omega, ⟨by omega, by omega⟩, k.st.trans h.st8⟩
  rcases stepN_ev { M with steps := M.steps + 1, pc := M.pc + 1 } (elt EvT code M.pc.toNat).1.toNat (elt EvT code M.pc.toNat).2 with e | ⟨en, x, e⟩
  · have e : (iterM M (elt EvT code M.pc.toNat)).ev = M.ev := e
    rw [e]
    exact he
  · have e : (iterM M (elt EvT code M.pc.toNat)).ev = M.ev ++ [((elt EvT code M.pc.toNat).2, x)] := e
    obtain ⟨⟨h1, _⟩, h4, _⟩ := ho
    have h4 := h4 (.inr (toNat_is h1 en))
    rw [e, List.all_append, he]
    simp only [List.all_cons, List.all_nil, okEv, Bool.true_and, Bool.and_true, Bool.and_eq_true, decide_eq_true_eq]
    exact h4
theorem runI_ok {names code args} (hc : code.length ≤ 200) (hi : code.all (insOk names.length code.length) = true) : ∀ (n : Nat) (M : Mc), InvM names code args M → M.ev.all okEv = true → RunOk (runI n M).1
  | 0, M, h, he => h.run he
  | n + 1, M, h, he => by
    by_cases h1 : M.done = true ∨ ¬ (M.pc < (M.code.length : Int))
    · rw [runI_end h1]
      exact h.run he
    by_cases h5 : M.steps = 500
    · rw [runI_budget h1 h5]
      exact h.run he
    have hp : M.pc < (code.length : Int) := by
      rw [← h.code]
      exact Decidable.not_not.1 (fun hh => h1 (.inr hh))
    have hr := iterM_run h hc hi hp h5 he
    by_cases hf : (iterM M (elt EvT M.code M.pc.toNat)).failed ≠ 0
    · rw [runI_fail h1 h5 hf, h.code]
      exact hr
    · rw [runI_next h1 h5 hf]
      rw [h.code] at hf ⊢
      exact runI_ok hc hi n _ (h.next hc hi hp h5 hf) hr.ev
theorem startM_inv {names code f s k args now st} (h8 : st.length = 8) : InvM names code args (startM names code f s k args now st) :=
  ⟨rfl, rfl, rfl, ⟨Int.le_refl 0, by show (0 : Int) ≤ 500; omega⟩, ⟨Int.le_refl 0, by show (0 : Int) ≤ 200; omega⟩, by show 0 ≤ 16; omega, h8, by show ((0 : Nat) : Int) ≤ 0; omega, by show ((0 : Nat) : Int) ≤ 0; omega, by show ((0 : Nat) : Int) ≤ 0; omega, rfl⟩
end Go.V
