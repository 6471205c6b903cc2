/- A part of the proof layer, or functions of the given program in it: contracts and their proofs. -/
import Derived.Test.YtbcmjkfdeikkhaaA46
namespace Go.V
open Go.Proofs
set_option maxRecDepth 100000
set_option maxHeartbeats 4000000
set_option linter.unusedSimpArgs false
set_option linter.unnecessarySimpa false
set_option linter.unusedVariables false

theorem newOk {key : ByteArray} (h : keyOk key = true) : OkA (newS key) := ⟨by simp [newS], rfl, Nat.zero_le _, Nat.zero_le _, rfl, by
  have := (Inv.new h).outOk
  exact this⟩
theorem frS_rel {o : ByteArray} {l : List OutT.den} {m ls : List (ByteArray × Int)} {b : List Int} {ev : List EvT.den} {v : Int} {inb : List LetT.den} {t : Int} {poi : List LetT.den} (h : m.length = ls.length) : frS ⟨o, l, m, b, ev, v, inb, t, poi⟩ = frS ⟨o, l, ls, b, ev, v, inb, t, poi⟩ := by
  unfold frS
  simp only [h]
/-- awake -/
def C8 : Contract := fun args hp K => match args, hp with
  | [], [] => K (.bool true) []
  | _, _ => False
theorem s8 : Sound Try.prog 8 C8 := by
  refine sound_of_okF ok8 (Γ := [(11, C11), (15, C15), (17, C17), (13, C13)]) (.cons s11 (callable_of_okF ok11) (.cons s15 (callable_of_okF ok15) (.cons s17 (callable_of_okF ok17) (.cons s13 (callable_of_okF ok13) .nil)))) ?_
  intro args hp K h
  unfold C8 at h
  split at h
  · refine ⟨by simp, [], ?_⟩
    simp (maxSteps := 2000000) only [a8, r8, C11, acH, newS, C15, go_sem, eq_self, and_self, Int.natCast_pos, Int.le_refl, Nat.le_refl, Int.natCast_nonneg, Int.ofNat_lt, Int.ofNat_le, Int.reduceLT, Int.reduceLE, Int.reduceEq, Int.reduceNe, Int.reduceAdd, Int.reduceSub, Int.reduceMul, Int.reduceToNat, Int.reduceNeg, Nat.reduceEqDiff, Nat.reduceLeDiff, Nat.reduceSub, Nat.reduceMul, Nat.reduceLT, Nat.reduceBEq, Nat.reduceAdd]
    have hk : keyOk ⟨#[97]⟩ = true := by decide
    refine ⟨fun _ => ⟨keyOk_ne hk, sw_intro (fun _ => ?_) (fun h9 => ?_)⟩, fun h9 => by rw [hk] at h9; cases h9⟩
    · simp (maxSteps := 2000000) only [C17, go_sem, eq_self, and_self, Int.natCast_pos, Int.le_refl, Nat.le_refl, Int.natCast_nonneg, Int.ofNat_lt, Int.ofNat_le, Int.reduceLT, Int.reduceLE, Int.reduceEq, Int.reduceNe, Int.reduceAdd, Int.reduceSub, Int.reduceMul, Int.reduceToNat, Int.reduceNeg, Nat.reduceEqDiff, Nat.reduceLeDiff, Nat.reduceSub, Nat.reduceMul, Nat.reduceLT, Nat.reduceBEq, Nat.reduceAdd]
      refine .inl ?_
      rintro c rfl
      refine sw_intro (fun h9 => absurd h9 (by decide)) (fun _ => ?_)
      simp (maxSteps := 2000000) only [C13, go_sem, eq_self, and_self, Int.natCast_pos, Int.le_refl, Nat.le_refl, Int.natCast_nonneg, Int.ofNat_lt, Int.ofNat_le, Int.reduceLT, Int.reduceLE, Int.reduceEq, Int.reduceNe, Int.reduceAdd, Int.reduceSub, Int.reduceMul, Int.reduceToNat, Int.reduceNeg, Nat.reduceEqDiff, Nat.reduceLeDiff, Nat.reduceSub, Nat.reduceMul, Nat.reduceLT, Nat.reduceBEq, Nat.reduceAdd]
      refine .inl ⟨newOk hk, fun h9 => absurd h9 (by decide), fun _ _ => h⟩
    · exact absurd h9 (by decide)
  · exact h.elim
/-- ActorEncodes -/
def C3 : Contract := fun args hp K => match args, hp with
  | [.str key, .sl true 56 (.pair .str (.pair (.int .u64) (.pair (.int .i64) (.sl 8 (.int .i64))))) letters, .sl true 16 .str to, .sl true 16 (.pair (.int .i64) (.int .i64)) events, .int .i64 tries, .sl true 56 (.pair .str (.pair (.int .u64) (.pair (.int .i64) (.sl 8 (.int .i64))))) poison], [] => K (.bool true) []
  | _, _ => False
theorem s3 : Sound Try.prog 3 C3 := by
  refine sound_of_okF ok3 (Γ := [(8, C8), (9, C9), (10, C10), (11, C11), (12, C12), (13, C13), (14, C14), (15, C15), (16, C16), (17, C17)]) (.cons s8 (callable_of_okF ok8) (.cons s9 (callable_of_okF ok9) (.cons s10 (callable_of_okF ok10) (.cons s11 (callable_of_okF ok11) (.cons s12 (callable_of_okF ok12) (.cons s13 (callable_of_okF ok13) (.cons s14 (callable_of_okF ok14) (.cons s15 (callable_of_okF ok15) (.cons s16 (callable_of_okF ok16) (.cons s17 (callable_of_okF ok17) .nil)))))))))) ?_
  intro args hp K h
  unfold C3 at h
  split at h
  · rename_i key letters to events tries poison
    refine ⟨by simp, [], ?_⟩
    simp (maxSteps := 2000000) only [a3, r3, C8, C9, C10, C11, C12, twoH, acH, wc8, go_sem, eq_self, and_self, Int.natCast_pos, Int.le_refl, Nat.le_refl, Int.natCast_nonneg, Int.ofNat_lt, Int.ofNat_le, Int.reduceLT, Int.reduceLE, Int.reduceEq, Int.reduceNe, Int.reduceAdd, Int.reduceSub, Int.reduceMul, Int.reduceToNat, Int.reduceNeg, Nat.reduceEqDiff, Nat.reduceLeDiff, Nat.reduceSub, Nat.reduceMul, Nat.reduceLT, Nat.reduceBEq, Nat.reduceAdd]
    have hmx := maxLen_val
    intro b hb
    refine sw_intro (fun hb1 => ?_) (fun _ => h)
    obtain ⟨q1, q2, q3, q4⟩ := hb hb1
    rintro _ m rfl c rfl
    refine sw_intro (fun _ => h) (fun _ => ?_)
    refine ⟨⟨by omega, by omega, by omega, by omega⟩, fun a => ⟨fun b => (by rw [a] at b; cases b), fun _ => by rw [a]; exact h⟩, ?_⟩
    rintro hk S ls rfl rfl rfl _ hG
    have hne := keyOk_ne hG.inv.ko
    have hi8 := hG.in8
    have hm64 := hG.inv.m64
    simp (maxSteps := 2000000) only [C13, acH, go_sem, eq_self, and_self, Int.natCast_pos, Int.le_refl, Nat.le_refl, Int.natCast_nonneg, Int.ofNat_lt, Int.ofNat_le, Int.reduceLT, Int.reduceLE, Int.reduceEq, Int.reduceNe, Int.reduceAdd, Int.reduceSub, Int.reduceMul, Int.reduceToNat, Int.reduceNeg, Nat.reduceEqDiff, Nat.reduceLeDiff, Nat.reduceSub, Nat.reduceMul, Nat.reduceLT, Nat.reduceBEq, Nat.reduceAdd]
    refine .inl ⟨hG.ok, fun hs => ?_, fun hs hr => ?_⟩
    · simp (maxSteps := 2000000) only [C14, wcH, go_sem, eq_self, and_self, Int.natCast_pos, Int.le_refl, Nat.le_refl, Int.natCast_nonneg, Int.ofNat_lt, Int.ofNat_le, Int.reduceLT, Int.reduceLE, Int.reduceEq, Int.reduceNe, Int.reduceAdd, Int.reduceSub, Int.reduceMul, Int.reduceToNat, Int.reduceNeg, Nat.reduceEqDiff, Nat.reduceLeDiff, Nat.reduceSub, Nat.reduceMul, Nat.reduceLT, Nat.reduceBEq, Nat.reduceAdd]
      refine ⟨hG.b8, hG.ev, hG.e16, hG.in8, hG.inf, hG.inv.outOk, fun _ => ?_, fun h9 => by rw [hs] at h9; cases h9⟩
      rintro u rfl u1 rfl c rfl
      rw [decide_eq_true rfl]
      refine sw_intro (fun _ => ?_) (fun h9 => by cases h9)
      simp (maxSteps := 2000000) only [C15, C16, wcH, acH, go_sem, eq_self, and_self, Int.natCast_pos, Int.le_refl, Nat.le_refl, Int.natCast_nonneg, Int.ofNat_lt, Int.ofNat_le, Int.reduceLT, Int.reduceLE, Int.reduceEq, Int.reduceNe, Int.reduceAdd, Int.reduceSub, Int.reduceMul, Int.reduceToNat, Int.reduceNeg, Nat.reduceEqDiff, Nat.reduceLeDiff, Nat.reduceSub, Nat.reduceMul, Nat.reduceLT, Nat.reduceBEq, Nat.reduceAdd]
      refine ⟨by omega, hne, by omega, ?_⟩
      rintro c rfl
      rw [frS_rel hG.rel.1, beq_self_eq_true]
      refine sw_intro (fun _ => ?_) (fun h9 => by cases h9)
      simp (maxSteps := 2000000) only [C17, go_sem, eq_self, and_self, Int.natCast_pos, Int.le_refl, Nat.le_refl, Int.natCast_nonneg, Int.ofNat_lt, Int.ofNat_le, Int.reduceLT, Int.reduceLE, Int.reduceEq, Int.reduceNe, Int.reduceAdd, Int.reduceSub, Int.reduceMul, Int.reduceToNat, Int.reduceNeg, Nat.reduceEqDiff, Nat.reduceLeDiff, Nat.reduceSub, Nat.reduceMul, Nat.reduceLT, Nat.reduceBEq, Nat.reduceAdd]
      refine .inl ?_
      rintro c rfl
      exact h
    · simp (maxSteps := 2000000) only [C14, wcH, go_sem, eq_self, and_self, Int.natCast_pos, Int.le_refl, Nat.le_refl, Int.natCast_nonneg, Int.ofNat_lt, Int.ofNat_le, Int.reduceLT, Int.reduceLE, Int.reduceEq, Int.reduceNe, Int.reduceAdd, Int.reduceSub, Int.reduceMul, Int.reduceToNat, Int.reduceNeg, Nat.reduceEqDiff, Nat.reduceLeDiff, Nat.reduceSub, Nat.reduceMul, Nat.reduceLT, Nat.reduceBEq, Nat.reduceAdd]
      refine ⟨hG.b8, hG.ev, hG.e16, hG.in8, hG.inf, hG.inv.outOk, fun h9 => (by rw [hs] at h9; cases h9), fun _ => ?_⟩
      rw [enc_rel hG.inv.keys hG.rel]
      rintro u rfl u1 rfl c rfl
      unfold actB
      rw [decide_eq_true rfl]
      refine sw_intro (fun _ => ?_) (fun h9 => by cases h9)
      simp (maxSteps := 2000000) only [C15, C16, wcH, acH, go_sem, eq_self, and_self, Int.natCast_pos, Int.le_refl, Nat.le_refl, Int.natCast_nonneg, Int.ofNat_lt, Int.ofNat_le, Int.reduceLT, Int.reduceLE, Int.reduceEq, Int.reduceNe, Int.reduceAdd, Int.reduceSub, Int.reduceMul, Int.reduceToNat, Int.reduceNeg, Nat.reduceEqDiff, Nat.reduceLeDiff, Nat.reduceSub, Nat.reduceMul, Nat.reduceLT, Nat.reduceBEq, Nat.reduceAdd]
      refine ⟨by omega, hne, by omega, ?_⟩
      rintro c rfl
      rw [frS_rel hG.rel.1, beq_self_eq_true]
      refine sw_intro (fun _ => ?_) (fun h9 => by cases h9)
      simp (maxSteps := 2000000) only [C17, go_sem, eq_self, and_self, Int.natCast_pos, Int.le_refl, Nat.le_refl, Int.natCast_nonneg, Int.ofNat_lt, Int.ofNat_le, Int.reduceLT, Int.reduceLE, Int.reduceEq, Int.reduceNe, Int.reduceAdd, Int.reduceSub, Int.reduceMul, Int.reduceToNat, Int.reduceNeg, Nat.reduceEqDiff, Nat.reduceLeDiff, Nat.reduceSub, Nat.reduceMul, Nat.reduceLT, Nat.reduceBEq, Nat.reduceAdd]
      refine .inl ?_
      rintro c rfl
      exact h
  · exact h.elim
end Go.V
