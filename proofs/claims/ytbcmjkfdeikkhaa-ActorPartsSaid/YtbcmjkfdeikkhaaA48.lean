/- A part of the proof layer, or functions of the given program in it: contracts and their proofs. -/
import Derived.Test.YtbcmjkfdeikkhaaA47
namespace Go.V
open Go.Proofs
set_option maxRecDepth 100000
set_option maxHeartbeats 4000000
set_option linter.unusedSimpArgs false
set_option linter.unnecessarySimpa false
set_option linter.unusedVariables false

/-- ActorParts -/
def C4 : Contract := fun args hp K => match args, hp with
  | [.int .u8 w, .sl true 56 (.pair .str (.pair (.int .u64) (.pair (.int .i64) (.sl 8 (.int .i64))))) poison, .int .i64 tries], [] => (0 ≤ w ∧ w ≤ 255) ∧ K (.bool true) []
  | _, _ => False
theorem s4 : Sound Try.prog 4 C4 := by
  refine sound_of_okF ok4 (Γ := [(8, C8), (9, C9), (10, C10), (11, C11), (18, C18), (13, C13), (14, C14)]) (.cons s8 (callable_of_okF ok8) (.cons s9 (callable_of_okF ok9) (.cons s10 (callable_of_okF ok10) (.cons s11 (callable_of_okF ok11) (.cons s18 (callable_of_okF ok18) (.cons s13 (callable_of_okF ok13) (.cons s14 (callable_of_okF ok14) .nil))))))) ?_
  intro args hp K h
  unfold C4 at h
  split at h
  · rename_i w poison tries
    obtain ⟨hw, h⟩ := h
    refine ⟨by simp, [], ?_⟩
    simp (maxSteps := 2000000) only [a4, r4, C8, C9, C11, C18, acH, newS, inH, go_sem, eq_self, and_self, Int.natCast_pos, Int.le_refl, Nat.le_refl, Int.natCast_nonneg, Int.ofNat_lt, Int.ofNat_le, Int.reduceLT, Int.reduceLE, Int.reduceEq, Int.reduceNe, Int.reduceAdd, Int.reduceSub, Int.reduceMul, Int.reduceToNat, Int.reduceNeg, Nat.reduceEqDiff, Nat.reduceLeDiff, Nat.reduceSub, Nat.reduceMul, Nat.reduceLT, Nat.reduceBEq, Nat.reduceAdd]
    have hk : keyOk ⟨#[109, 101]⟩ = true := by decide
    intro b hb
    refine sw_intro (fun hb1 => ⟨fun _ => ?_, fun h9 => by rw [hk] at h9; cases h9⟩) (fun _ => h)
    have q2 := hb hb1
    rintro _ _ m hm c rfl
    refine sw_intro (fun _ => ?_) (fun c0 => ?_)
    · simp (maxSteps := 2000000) only [C13, go_sem, eq_self, and_self, Int.natCast_pos, Int.le_refl, Nat.le_refl, Int.natCast_nonneg, Int.ofNat_lt, Int.ofNat_le, Int.reduceLT, Int.reduceLE, Int.reduceEq, Int.reduceNe, Int.reduceAdd, Int.reduceSub, Int.reduceMul, Int.reduceToNat, Int.reduceNeg, Nat.reduceEqDiff, Nat.reduceLeDiff, Nat.reduceSub, Nat.reduceMul, Nat.reduceLT, Nat.reduceBEq, Nat.reduceAdd]
      refine .inr ⟨0, newS ⟨#[109, 101]⟩, rfl, ?_⟩
      rintro _ m0 rfl c rfl
      exact h
    rintro c rfl
    refine sw_intro (fun _ => ?_) (fun c0 => ?_)
    · simp (maxSteps := 2000000) only [C13, go_sem, eq_self, and_self, Int.natCast_pos, Int.le_refl, Nat.le_refl, Int.natCast_nonneg, Int.ofNat_lt, Int.ofNat_le, Int.reduceLT, Int.reduceLE, Int.reduceEq, Int.reduceNe, Int.reduceAdd, Int.reduceSub, Int.reduceMul, Int.reduceToNat, Int.reduceNeg, Nat.reduceEqDiff, Nat.reduceLeDiff, Nat.reduceSub, Nat.reduceMul, Nat.reduceLT, Nat.reduceBEq, Nat.reduceAdd]
      refine .inr ⟨1, newS ⟨#[109, 101]⟩, rfl, ?_⟩
      rintro _ m0 rfl c rfl
      exact h
    rintro c rfl
    refine sw_intro (fun _ => ?_) (fun c0 => ?_)
    · simp (maxSteps := 2000000) only [C13, go_sem, eq_self, and_self, Int.natCast_pos, Int.le_refl, Nat.le_refl, Int.natCast_nonneg, Int.ofNat_lt, Int.ofNat_le, Int.reduceLT, Int.reduceLE, Int.reduceEq, Int.reduceNe, Int.reduceAdd, Int.reduceSub, Int.reduceMul, Int.reduceToNat, Int.reduceNeg, Nat.reduceEqDiff, Nat.reduceLeDiff, Nat.reduceSub, Nat.reduceMul, Nat.reduceLT, Nat.reduceBEq, Nat.reduceAdd]
      refine .inr ⟨2, newS ⟨#[109, 101]⟩, rfl, ?_⟩
      rintro _ m0 rfl c rfl
      exact h
    rintro c rfl
    refine sw_intro (fun _ => ?_) (fun c0 => ?_)
    · simp (maxSteps := 2000000) only [C13, go_sem, eq_self, and_self, Int.natCast_pos, Int.le_refl, Nat.le_refl, Int.natCast_nonneg, Int.ofNat_lt, Int.ofNat_le, Int.reduceLT, Int.reduceLE, Int.reduceEq, Int.reduceNe, Int.reduceAdd, Int.reduceSub, Int.reduceMul, Int.reduceToNat, Int.reduceNeg, Nat.reduceEqDiff, Nat.reduceLeDiff, Nat.reduceSub, Nat.reduceMul, Nat.reduceLT, Nat.reduceBEq, Nat.reduceAdd]
      rintro _ m0 rfl c rfl
      exact h
    rintro c rfl
    refine sw_intro (fun _ => ?_) (fun c0 => ?_)
    · simp (maxSteps := 2000000) only [C13, go_sem, eq_self, and_self, Int.natCast_pos, Int.le_refl, Nat.le_refl, Int.natCast_nonneg, Int.ofNat_lt, Int.ofNat_le, Int.reduceLT, Int.reduceLE, Int.reduceEq, Int.reduceNe, Int.reduceAdd, Int.reduceSub, Int.reduceMul, Int.reduceToNat, Int.reduceNeg, Nat.reduceEqDiff, Nat.reduceLeDiff, Nat.reduceSub, Nat.reduceMul, Nat.reduceLT, Nat.reduceBEq, Nat.reduceAdd]
      refine .inr ⟨3, newS ⟨#[109, 101]⟩, rfl, ?_⟩
      rintro _ m0 rfl c rfl
      exact h
    · simp (maxSteps := 2000000) only [C10, go_sem, eq_self, and_self, Int.natCast_pos, Int.le_refl, Nat.le_refl, Int.natCast_nonneg, Int.ofNat_lt, Int.ofNat_le, Int.reduceLT, Int.reduceLE, Int.reduceEq, Int.reduceNe, Int.reduceAdd, Int.reduceSub, Int.reduceMul, Int.reduceToNat, Int.reduceNeg, Nat.reduceEqDiff, Nat.reduceLeDiff, Nat.reduceSub, Nat.reduceMul, Nat.reduceLT, Nat.reduceBEq, Nat.reduceAdd]
      refine ⟨⟨by simp, by simp, by simp, by omega⟩, fun h9 => (by rw [hk] at h9; cases h9), ?_⟩
      rintro _ S ls ho ht hp hi hG
      have h0 : S.inb = [] := List.eq_nil_of_length_eq_zero (by omega)
      simp (maxSteps := 2000000) only [C13, C14, twoH, acH, wc8, wcH, go_sem, eq_self, and_self, Int.natCast_pos, Int.le_refl, Nat.le_refl, Int.natCast_nonneg, Int.ofNat_lt, Int.ofNat_le, Int.reduceLT, Int.reduceLE, Int.reduceEq, Int.reduceNe, Int.reduceAdd, Int.reduceSub, Int.reduceMul, Int.reduceToNat, Int.reduceNeg, Nat.reduceEqDiff, Nat.reduceLeDiff, Nat.reduceSub, Nat.reduceMul, Nat.reduceLT, Nat.reduceBEq, Nat.reduceAdd]
      rw [ht, hp, h0]
      have hN : OkA { (newS ⟨#[109, 101]⟩) with tries := tries, poi := poison } := ⟨(newOk hk).b8, rfl, Nat.zero_le _, Nat.zero_le _, rfl, (newOk hk).out⟩
      have hff : ∀ {x : Bool}, x = false → x = true → False := fun a b => by rw [a] at b; cases b
      exact .inl ⟨hN, fun a => ⟨hG.b8, hG.ev, hG.e16, by simp, rfl, hG.inv.outOk, fun _ => h, fun b => (hff a b).elim⟩, fun a _ => ⟨hG.b8, hG.ev, hG.e16, by simp, rfl, hG.inv.outOk, fun b => (hff b a).elim, fun _ => h⟩⟩
  · exact h.elim
end Go.V
