/- A part of the proof layer, or functions of the given program in it: contracts and their proofs. -/
import Derived.Test.YtbcmjkfdeikkhaaA4
namespace Go.V
open Go.Proofs
set_option maxRecDepth 100000
set_option linter.unusedSimpArgs false
set_option linter.unnecessarySimpa false
set_option linter.unusedVariables false
abbrev LastT : Ty := .pair .str (.int .u64)
def placeF (ls : List LastT.den) (to : ByteArray) : Nat := (ls.takeWhile fun x => ltS x.1 to).length
def thereL (ls : List LastT.den) (to : ByteArray) : Option Int :=
  match ls[placeF ls to]? with
  | some x => if x.1 = to then some x.2 else none
  | none => none
def setF (ls : List LastT.den) (to : ByteArray) (s : Int) : List LastT.den :=
  if (thereL ls to).isSome then ls.set (placeF ls to) (to, s) else ls.take (placeF ls to) ++ ((to, s) :: ls.drop (placeF ls to))

/-- Key -/
def C12 : Contract := fun args hp K => match args, hp with
  | [.str s], [] => K (.bool (keyOk s)) []
  | _, _ => False
theorem keyOk_eq (s : ByteArray) : keyOk s = (decide (1 ≤ s.size) && decide (s.size ≤ 40)) := by
  unfold keyOk
  congr 1
  apply decide_eq_decide.2
  constructor
  · intro h
    rcases Nat.eq_zero_or_pos s.size with h0 | h0
    · exfalso; apply h
      have : s.data = #[] := Array.eq_empty_of_size_eq_zero h0
      cases s; simp at this; subst this; rfl
    · exact h0
  · rintro h rfl
    have h' : 1 ≤ 0 := h
    omega
theorem s12 : Sound Try.prog 12 C12 := by
  refine sound_of_okF ok12 (Γ := []) .nil ?_
  intro args hp K h
  unfold C12 at h
  split at h
  · rename_i s
    refine ⟨by simp, [], ?_⟩
    simp (maxSteps := 2000000) only [a12, r12, go_sem, eq_self, and_self, Int.natCast_pos, Int.le_refl, Nat.le_refl, Int.natCast_nonneg, Int.ofNat_lt, Int.ofNat_le, Int.reduceLT, Int.reduceLE, Int.reduceEq, Int.reduceNe, Int.reduceAdd, Int.reduceSub, Int.reduceMul, Int.reduceToNat, Int.reduceNeg, Nat.reduceEqDiff, Nat.reduceLeDiff, Nat.reduceSub, Nat.reduceMul, Nat.reduceLT, Nat.reduceBEq, Nat.reduceAdd]
    intro _ n hn c hc
    refine sw_intro (fun hc1 => ?_) (fun hc1 => ?_)
    · intro _ m hm c' hc'
      have h1 : 1 ≤ s.size := by simp [hc1, hn] at hc; omega
      have e : keyOk s = c' := by rw [keyOk_eq, hc', hm]; simp [h1]; omega
      rw [← e]; exact h
    · have e : keyOk s = false := by
        have h1 : ¬ 1 ≤ s.size := by simp [hc1, hn] at hc; omega
        rw [keyOk_eq]; simp [h1]
      rw [← e]; exact h
  · exact h.elim

end Go.V
