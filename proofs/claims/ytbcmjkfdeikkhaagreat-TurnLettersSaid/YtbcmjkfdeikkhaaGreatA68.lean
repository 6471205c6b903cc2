/- A part of the proof layer, or functions of the given program in it: contracts and their proofs. -/
import Derived.Test.YtbcmjkfdeikkhaaGreatA67
import Derived.Test.YtbcmjkfdeikkhaaGreatA46
namespace Go.V
open Go.Proofs
set_option maxRecDepth 100000
set_option maxHeartbeats 8000000
set_option linter.unusedSimpArgs false
set_option linter.unnecessarySimpa false
set_option linter.unusedVariables false
def out0 : SV := .agg [.bool false, .bool false, .int .i64 0, .int .i64 0, .nils]
@[go_sem] theorem ActS.fold (S : ActS) : ActS.mk S.o S.l S.m S.b S.ev S.v S.inb S.tries S.poi = S := rfl
/-- An actor of which some rows may be new. -/
def acG (fi : Bool) (S : ActS) : List SB := [.struct [.ptr 1 0, .ptr 3 0, .ptr 5 0, .int .i64 S.tries, .sl true 56 LetT S.poi], .struct [.arr 8 (.int .i64) S.b, .own 2, .int .u64 S.v], .row false 16 EvT S.ev, .struct [.own 4], .row fi 56 LetT S.inb,
  .struct [.str S.o, .own 6, .mp 7], .row false 72 OutT S.l, .map false .str (.int .u64) S.m]
/-- fail -/
def C32 : Contract := fun args hp K => match args with
  | [.ptr 0 0, .agg [.bool false, .bool false, .int .i64 e, .int .i64 n, .nils]] => onA hp fun S => (0 ≤ S.tries ∧ S.tries < 3) ∧ S.inb ≠ [] ∧ S.inb.length ≤ 1000 ∧ S.poi.length ≤ 8 ∧
      (S.tries + 1 < 3 → K (.tup [.agg [.bool false, .bool false, .int .i64 e, .int .i64 n, .nils], .int .i64 0]) (acH false { S with tries := S.tries + 1 })) ∧
      (¬ S.tries + 1 < 3 → 8 ≤ S.poi.length → K (.tup [out0, .int .i64 8]) (acH false S)) ∧
      (¬ S.tries + 1 < 3 → ¬ 8 ≤ S.poi.length → ∀ x r, S.inb = x :: r → K (.tup [.agg [.bool false, .bool true, .int .i64 e, .int .i64 n, .nils], .int .i64 0]) (acG true { S with inb := r, poi := S.poi ++ [x], tries := 0 }))
  | _ => False
theorem s32 : Sound Tryz.prog 32 C32 := by
  refine sound_of_okF ok32 (Γ := [(35, C35), (92, C92)]) (.cons s35 (callable_of_okF ok35) (.cons s92 (callable_of_okF ok92) .nil)) ?_
  intro args hp K h
  unfold C32 at h
  split at h
  · rename_i e n
    obtain ⟨S, rfl, h0, h1, h2, h3, k1, k2, k3⟩ := h
    refine ⟨by simp, [], ?_⟩
    have hmx := maxLen_val
    unfold acH at k1 k2 ⊢
    unfold acG at k3
    simp (maxSteps := 2000000) only [a32, r32, C35, C92, inH, acH, go_sem, eq_self, and_self, Int.natCast_pos, Int.le_refl, Nat.le_refl, Int.natCast_nonneg, Int.ofNat_lt, Int.ofNat_le, Int.reduceLT, Int.reduceLE, Int.reduceEq, Int.reduceNe, Int.reduceAdd, Int.reduceSub, Int.reduceMul, Int.reduceToNat, Int.reduceNeg, Nat.reduceEqDiff, Nat.reduceLeDiff, Nat.reduceSub, Nat.reduceMul, Nat.reduceLT, Nat.reduceBEq, Nat.reduceAdd]
    rintro _ _ m hm c rfl
    rw [w64 (by omega)] at hm
    subst hm
    refine sw_intro (fun hc => ?_) (fun hc => ?_) <;> simp only [decide_eq_true_eq, decide_eq_false_iff_not] at hc
    · rintro _ _ m hm
      rw [w64 (by omega)] at hm
      subst hm
      exact k1 hc
    rintro _ _ m rfl c rfl
    refine sw_intro (fun hd => ?_) (fun hd => ?_) <;> simp only [decide_eq_true_eq, decide_eq_false_iff_not] at hd
    · exact k2 hc (by omega)
    refine ⟨h2, fun h9 => (h1 h9).elim, fun f s k xs r hr => ⟨by omega, fun _ => by omega, fun _ => k3 hc (by omega) (f, s, k, xs) r hr⟩⟩
  · exact h.elim
end Go.V
