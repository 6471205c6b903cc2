/- A part of the proof layer, or functions of the given program in it: contracts and their proofs. -/
import Derived.Test.YtkjecjgfkogkoaaP31
namespace Go.V
open Go.Proofs
set_option maxRecDepth 100000
set_option linter.unusedSimpArgs false
set_option linter.unnecessarySimpa false
set_option linter.unusedVariables false

/-- OutboxGoes -/
def C8 : Contract := fun args hp K => match args, hp with
  | [x, y], [] => (∃ sc, x = .sl true 56 OpT sc) ∧ (∃ sc, y = .sl true 56 OpT sc) ∧ K (.bool true) []
  | _, _ => False
theorem s8 : Sound Try.prog 8 C8 := by
  refine sound_of_okF ok8 (Γ := [(9, C9), (13, C13), (10, C10), (14, C14), (15, C15), (20, C20), (23, C23)]) (.cons s9 (callable_of_okF ok9) (.cons s13 (callable_of_okF ok13) (.cons s10 (callable_of_okF ok10) (.cons s14 (callable_of_okF ok14) (.cons s15 (callable_of_okF ok15) (.cons s20 (callable_of_okF ok20) (.cons s23 (callable_of_okF ok23) .nil))))))) ?_
  intro args hp K h
  unfold C8 at h
  split at h
  · rename_i x y
    obtain ⟨⟨sc, rfl⟩, ⟨sc2, rfl⟩, h⟩ := h
    refine ⟨by simp, [], ?_⟩
    simp (maxSteps := 2000000) only [a8, r8, C9, C13, C10, C14, C15, obH, rfH, boH, go_sem, eq_self, and_self, Int.natCast_pos, Int.le_refl, Nat.le_refl, Int.natCast_nonneg, Int.ofNat_lt, Int.ofNat_le, Int.reduceLT, Int.reduceLE, Int.reduceEq, Int.reduceNe, Int.reduceAdd, Int.reduceSub, Int.reduceMul, Int.reduceToNat, Int.reduceNeg, Nat.reduceEqDiff, Nat.reduceLeDiff, Nat.reduceSub, Nat.reduceMul, Nat.reduceLT, Nat.reduceBEq, Nat.reduceAdd]
    have hme : keyOk ⟨#[109, 101]⟩ = true := by decide
    have hnk : keyOk ⟨#[109, 101]⟩ = false → False := fun h9 => by rw [hme] at h9; cases h9
    refine ⟨⟨sc, rfl⟩, fun b => sw_intro (fun _ => ⟨⟨sc2, rfl⟩, fun b => sw_intro (fun _ => ⟨fun _ => ⟨fun _ => ⟨⟨sc, rfl⟩, 0, Int.le_refl _, by decide, Inv.new hme, Rel.nil, fun l m ls hI hr => ?_⟩, hnk⟩, fun h9 => (hnk h9).elim⟩) (fun _ => h)⟩) (fun _ => h)⟩
    simp (maxSteps := 2000000) only [C20, C23, decK2, obH, C15, boH, go_sem, eq_self, and_self, Int.natCast_pos, Int.le_refl, Nat.le_refl, Int.natCast_nonneg, Int.ofNat_lt, Int.ofNat_le, Int.reduceLT, Int.reduceLE, Int.reduceEq, Int.reduceNe, Int.reduceAdd, Int.reduceSub, Int.reduceMul, Int.reduceToNat, Int.reduceNeg, Nat.reduceEqDiff, Nat.reduceLeDiff, Nat.reduceSub, Nat.reduceMul, Nat.reduceLT, Nat.reduceBEq, Nat.reduceAdd]
    refine ⟨hI.outOk.rel hI.keys hr, fun hg => ?_⟩
    rw [enc_rel hI.keys hr, dec_enc hI hg]
    refine ⟨rfl, fun h9 => (by cases h9), fun o' l' ls' h9 => ?_⟩
    simp only [Option.some.injEq, Prod.mk.injEq] at h9
    obtain ⟨rfl, rfl, rfl⟩ := h9
    exact ⟨rfl, rfl, ⟨sc2, rfl⟩, 140737488355328, by decide, by decide, hI.mono (by decide), Rel.self hI.keys, fun _ _ _ _ _ => h⟩
  · exact h.elim
/-- OutboxDecodes -/
def C7 : Contract := fun args hp K => match args, hp with
  | [x, y], [] => (∃ sc, x = .sl true 56 OpT sc) ∧ (∃ bs, y = .sl true 1 .byte bs) ∧ K (.bool true) []
  | _, _ => False
theorem s7 : Sound Try.prog 7 C7 := by
  refine sound_of_okF ok7 (Γ := [(9, C9), (13, C13), (10, C10), (14, C14), (15, C15), (20, C20), (22, C22), (23, C23), (24, C24), (25, C25)]) (.cons s9 (callable_of_okF ok9) (.cons s13 (callable_of_okF ok13) (.cons s10 (callable_of_okF ok10) (.cons s14 (callable_of_okF ok14) (.cons s15 (callable_of_okF ok15) (.cons s20 (callable_of_okF ok20) (.cons s22 (callable_of_okF ok22) (.cons s23 (callable_of_okF ok23) (.cons s24 (callable_of_okF ok24) (.cons s25 (callable_of_okF ok25) .nil)))))))))) ?_
  intro args hp K h
  unfold C7 at h
  split at h
  · rename_i x y
    obtain ⟨⟨sc, rfl⟩, ⟨bs, rfl⟩, h⟩ := h
    refine ⟨by simp, [], ?_⟩
    simp (maxSteps := 2000000) only [a7, r7, C9, C13, C10, C14, C15, obH, rfH, boH, go_sem, eq_self, and_self, Int.natCast_pos, Int.le_refl, Nat.le_refl, Int.natCast_nonneg, Int.ofNat_lt, Int.ofNat_le, Int.reduceLT, Int.reduceLE, Int.reduceEq, Int.reduceNe, Int.reduceAdd, Int.reduceSub, Int.reduceMul, Int.reduceToNat, Int.reduceNeg, Nat.reduceEqDiff, Nat.reduceLeDiff, Nat.reduceSub, Nat.reduceMul, Nat.reduceLT, Nat.reduceBEq, Nat.reduceAdd]
    have hme : keyOk ⟨#[109, 101]⟩ = true := by decide
    have hnk : keyOk ⟨#[109, 101]⟩ = false → False := fun h9 => by rw [hme] at h9; cases h9
    refine ⟨⟨sc, rfl⟩, fun b => sw_intro (fun _ => ⟨fun _ => ⟨fun _ => ⟨⟨sc, rfl⟩, 0, Int.le_refl _, by decide, Inv.new hme, Rel.nil, fun l m ls hI hr => ?_⟩, hnk⟩, fun h9 => (hnk h9).elim⟩) (fun _ => h)⟩
    simp (maxSteps := 2000000) only [C20, C22, obH, rfH, go_sem, eq_self, and_self, Int.natCast_pos, Int.le_refl, Nat.le_refl, Int.natCast_nonneg, Int.ofNat_lt, Int.ofNat_le, Int.reduceLT, Int.reduceLE, Int.reduceEq, Int.reduceNe, Int.reduceAdd, Int.reduceSub, Int.reduceMul, Int.reduceToNat, Int.reduceNeg, Nat.reduceEqDiff, Nat.reduceLeDiff, Nat.reduceSub, Nat.reduceMul, Nat.reduceLT, Nat.reduceBEq, Nat.reduceAdd]
    refine ⟨hI.outOk.rel hI.keys hr, fun hg => ?_⟩
    rw [enc_rel hI.keys hr]
    rintro u rfl
    refine ⟨hI.outOk, fun _ h9 => by rw [h9], ?_⟩
    rintro u rfl cc rfl
    rw [decide_eq_true rfl]
    refine sw_intro (fun h9 => by cases h9) (fun _ => ⟨hI.outOk, rfl, ?_⟩)
    simp (maxSteps := 2000000) only [C23, C24, C25, C20, decK2, dec_enc hI hg, obH, rfH, boH, go_sem, eq_self, and_self, Int.natCast_pos, Int.le_refl, Nat.le_refl, Int.natCast_nonneg, Int.ofNat_lt, Int.ofNat_le, Int.reduceLT, Int.reduceLE, Int.reduceEq, Int.reduceNe, Int.reduceAdd, Int.reduceSub, Int.reduceMul, Int.reduceToNat, Int.reduceNeg, Nat.reduceEqDiff, Nat.reduceLeDiff, Nat.reduceSub, Nat.reduceMul, Nat.reduceLT, Nat.reduceBEq, Nat.reduceAdd]
    refine ⟨fun h9 => (by cases h9), fun o l1 ls1 h9 => ?_⟩
    simp only [Option.some.injEq, Prod.mk.injEq] at h9
    obtain ⟨rfl, rfl, rfl⟩ := h9
    have hne := keyOk_ne hme
    have hlk : ∀ to, lookM .str (.int .u64) ls to = thereL ls to := fun to => (there_lookM hI.keys.srt to).symm
    refine ⟨fun hd => ⟨fun _ => ⟨rfl, rfl, hne, hlk, h⟩, fun o2 l2 ls2 hd2 => (by rw [hd] at hd2; cases hd2)⟩, fun o1 l2 ls2 hd => ⟨fun hd2 => (by rw [hd] at hd2; cases hd2), fun o2 l3 ls3 hd2 => ⟨rfl, rfl, hne, hlk, ?_⟩⟩⟩
    rw [hd] at hd2
    simp only [Option.some.injEq, Prod.mk.injEq] at hd2
    obtain ⟨rfl, rfl, rfl⟩ := hd2
    obtain ⟨hb, hI2⟩ := dec_back hd
    refine ⟨rfl, rfl, keyOk_ne hI2.ko, fun to => (there_lookM hI2.keys.srt to).symm, ?_⟩
    rintro u rfl
    refine ⟨hI2.outOk, fun _ => ⟨fun _ h9 => by rw [h9], ?_⟩⟩
    rintro u rfl cc rfl
    rw [enc_rel hI2.keys (Rel.self hI2.keys), ← hb, decide_eq_true rfl]
    exact h
  · exact h.elim
end Go.V
