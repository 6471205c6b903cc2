/- A part of the proof layer, or functions of the given program in it: contracts and their proofs. -/
import Derived.Test.YtbcmjkfdeikkhaaA44
namespace Go.V
open Go.Proofs
set_option maxRecDepth 100000
set_option maxHeartbeats 4000000
set_option linter.unusedSimpArgs false
set_option linter.unnecessarySimpa false
set_option linter.unusedVariables false

def frS (S : ActS) : Bool := decide (S.v = 0 ∧ S.inb.length = 0 ∧ (S.m.length = 0 ∧ S.l.length = 0) ∧ S.tries = 0 ∧ S.poi.length = 0)
/-- Fresh -/
def C15 : Contract := fun args hp K => match args with
  | [.ptr 0 0] => onA hp fun S => S.inb.length ≤ 1000 ∧ S.o ≠ ByteArray.empty ∧ K (.bool (frS S)) hp
  | _ => False
theorem s15 : Sound Try.prog 15 C15 := by
  refine sound_of_okF ok15 (Γ := [(26, C26), (25, C25), (53, C53)]) (.cons s26 (callable_of_okF ok26) (.cons s25 (callable_of_okF ok25) (.cons s53 (callable_of_okF ok53) .nil))) ?_
  intro args hp K h
  unfold C15 at h
  split at h
  · obtain ⟨S, rfl, hi, ho, h⟩ := h
    refine ⟨by simp, [], ?_⟩
    obtain ⟨o, l, m, b, ev, v, inb, tries, poi⟩ := S
    unfold acH at h ⊢
    simp (maxSteps := 2000000) only [a15, r15, C26, C25, C53, go_sem, eq_self, and_self, Int.natCast_pos, Int.le_refl, Nat.le_refl, Int.natCast_nonneg, Int.ofNat_lt, Int.ofNat_le, Int.reduceLT, Int.reduceLE, Int.reduceEq, Int.reduceNe, Int.reduceAdd, Int.reduceSub, Int.reduceMul, Int.reduceToNat, Int.reduceNeg, Nat.reduceEqDiff, Nat.reduceLeDiff, Nat.reduceSub, Nat.reduceMul, Nat.reduceLT, Nat.reduceBEq, Nat.reduceAdd]
    simp only at hi ho h
    have fail : ¬ (v = 0 ∧ inb.length = 0 ∧ (m.length = 0 ∧ l.length = 0) ∧ tries = 0 ∧ poi.length = 0) → K (.bool false) _ := fun hf => by rw [frS, decide_eq_false hf] at h; exact h
    have good : (v = 0 ∧ inb.length = 0 ∧ (m.length = 0 ∧ l.length = 0) ∧ tries = 0 ∧ poi.length = 0) → K (.bool true) _ := fun hf => by rw [frS, decide_eq_true hf] at h; exact h
    rintro c rfl
    refine sw_intro (fun h1 => ⟨hi, ?_⟩) (fun h1 => fail (fun hh => by simp [hh.1] at h1))
    rintro c rfl
    refine sw_intro (fun h2 => ⟨ho, sw_intro (fun h3 => ?_) (fun h3 => fail (fun hh => by simp [hh.2.2.1.1, hh.2.2.1.2] at h3))⟩) (fun h2 => fail (fun hh => by simp [hh.2.1] at h2))
    rintro c rfl
    refine sw_intro (fun h4 => ?_) (fun h4 => fail (fun hh => by simp [hh.2.2.2.1] at h4))
    simp only [Bool.and_eq_true, decide_eq_true_eq] at h1 h2 h3 h4
    rintro _ _ m1 rfl c rfl
    by_cases h5 : poi.length = 0
    · rw [decide_eq_true (by omega)]
      exact good ⟨h1, by omega, h3, h4, h5⟩
    · rw [decide_eq_false (by omega)]
      exact fail (fun hh => h5 hh.2.2.2.2)
  · exact h.elim
/-- Fresh, of the document -/
def C16 : Contract := fun args hp K => match args with
  | [.ptr 0 0] => onW hp fun S => S.m.length ≤ 1000 ∧ K (.bool (frS S)) hp
  | _ => False
theorem s16 : Sound Try.prog 16 C16 := by
  refine sound_of_okF ok16 (Γ := [(54, C54)]) (.cons s54 (callable_of_okF ok54) .nil) ?_
  intro args hp K h
  unfold C16 at h
  split at h
  · obtain ⟨S, rfl, hm, h⟩ := h
    refine ⟨by simp, [], ?_⟩
    obtain ⟨o, l, m, b, ev, v, inb, tries, poi⟩ := S
    unfold wcH at h ⊢
    simp (maxSteps := 2000000) only [a16, r16, C54, rfH, go_sem, eq_self, and_self, Int.natCast_pos, Int.le_refl, Nat.le_refl, Int.natCast_nonneg, Int.ofNat_lt, Int.ofNat_le, Int.reduceLT, Int.reduceLE, Int.reduceEq, Int.reduceNe, Int.reduceAdd, Int.reduceSub, Int.reduceMul, Int.reduceToNat, Int.reduceNeg, Nat.reduceEqDiff, Nat.reduceLeDiff, Nat.reduceSub, Nat.reduceMul, Nat.reduceLT, Nat.reduceBEq, Nat.reduceAdd]
    simp only at hm h
    have fail : ¬ (v = 0 ∧ inb.length = 0 ∧ (m.length = 0 ∧ l.length = 0) ∧ tries = 0 ∧ poi.length = 0) → K (.bool false) _ := fun hf => by rw [frS, decide_eq_false hf] at h; exact h
    have good : (v = 0 ∧ inb.length = 0 ∧ (m.length = 0 ∧ l.length = 0) ∧ tries = 0 ∧ poi.length = 0) → K (.bool true) _ := fun hf => by rw [frS, decide_eq_true hf] at h; exact h
    rintro c rfl
    refine sw_intro (fun h1 => ?_) (fun h1 => fail (fun hh => by simp [hh.1] at h1))
    rintro _ _ m1 rfl c rfl
    refine sw_intro (fun h2 => ?_) (fun h2 => fail (fun hh => by simp [hh.2.1] at h2))
    rintro _ _ m1 rfl c rfl
    refine sw_intro (fun h3 => ?_) (fun h3 => fail (fun hh => by simp [hh.2.2.1.2] at h3))
    rintro _ _ m1 rfl c rfl
    rw [List.length_map]
    refine sw_intro (fun h6 => ?_) (fun h6 => fail (fun hh => by simp [hh.2.2.1.1] at h6))
    rintro c rfl
    refine sw_intro (fun h4 => ?_) (fun h4 => fail (fun hh => by simp [hh.2.2.2.1] at h4))
    simp only [Bool.and_eq_true, decide_eq_true_eq] at h1 h2 h3 h4 h6
    rintro _ _ m1 rfl c rfl
    by_cases h5 : poi.length = 0
    · rw [decide_eq_true (by omega)]
      exact good ⟨h1, by omega, ⟨by omega, by omega⟩, h4, h5⟩
    · rw [decide_eq_false (by omega)]
      exact fail (fun hh => h5 hh.2.2.2.2)
  · exact h.elim
/-- few -/
def C9 : Contract := fun args hp K => match args, hp with
  | [.sl p1 56 (.pair .str (.pair (.int .u64) (.pair (.int .i64) (.sl 8 (.int .i64))))) l1, .sl p2 56 (.pair .str (.pair (.int .u64) (.pair (.int .i64) (.sl 8 (.int .i64))))) l2, .sl p3 16 .str l3, .sl p4 16 (.pair (.int .i64) (.int .i64)) l4], [] =>
      ∀ b : Bool, (b = true → (l1 : List LetT.den).length ≤ 100 ∧ (l2 : List LetT.den).length ≤ 100 ∧ (l3 : List ByteArray).length ≤ 200 ∧ (l4 : List EvT.den).length ≤ 500) → K (.bool b) []
  | _, _ => False
def L9 (p1 p2 p3 p4 : Bool) (l1 l2 : List LetT.den) (l3 : List ByteArray) (l4 : List EvT.den) : LoopAnn := cntA (fun i => ⟨[(0, .sl p1 56 LetT l1), (1, .sl p2 56 LetT l2), (2, .sl p3 16 .str l3), (3, .sl p4 16 EvT l4), (13, .int .i64 l1.length), (14, .int .i64 i)], []⟩) l1.length
def M9 (p1 p2 p3 p4 : Bool) (l1 l2 : List LetT.den) (l3 : List ByteArray) (l4 : List EvT.den) : LoopAnn := cntA (fun i => ⟨[(0, .sl p1 56 LetT l1), (1, .sl p2 56 LetT l2), (2, .sl p3 16 .str l3), (3, .sl p4 16 EvT l4), (35, .int .i64 l2.length), (36, .int .i64 i)], []⟩) l2.length
def D9 (p1 p2 p3 p4 : Bool) (l1 l2 : List LetT.den) (l3 : List ByteArray) (l4 : List EvT.den) : LoopAnn := cntA (fun i => ⟨[(0, .sl p1 56 LetT l1), (1, .sl p2 56 LetT l2), (2, .sl p3 16 .str l3), (3, .sl p4 16 EvT l4), (57, .int .i64 l3.length), (58, .int .i64 i)], []⟩) l3.length
theorem s9 : Sound Try.prog 9 C9 := by
  refine sound_of_okF ok9 (Γ := []) .nil ?_
  intro args hp K h
  unfold C9 at h
  split at h
  · rename_i p1 l1 p2 l2 p3 l3 p4 l4
    refine ⟨by simp, [(1, L9 p1 p2 p3 p4 l1 l2 l3 l4), (2, M9 p1 p2 p3 p4 l1 l2 l3 l4), (3, D9 p1 p2 p3 p4 l1 l2 l3 l4)], ?_⟩
    simp (maxSteps := 2000000) only [a9, r9, go_sem, eq_self, and_self, Int.natCast_pos, Int.le_refl, Nat.le_refl, Int.natCast_nonneg, Int.ofNat_lt, Int.ofNat_le, Int.reduceLT, Int.reduceLE, Int.reduceEq, Int.reduceNe, Int.reduceAdd, Int.reduceSub, Int.reduceMul, Int.reduceToNat, Int.reduceNeg, Nat.reduceEqDiff, Nat.reduceLeDiff, Nat.reduceSub, Nat.reduceMul, Nat.reduceLT, Nat.reduceBEq, Nat.reduceAdd]
    have hmx := maxLen_val
    have hf := h false (fun h9 => by cases h9)
    rintro _ _ m rfl
    refine loop_intro (A := L9 p1 p2 p3 p4 l1 l2 l3 l4) (0 : Nat) ?_ (Nat.zero_le _) ?_
    · simp (maxSteps := 2000000) only [L9, cntA_I, go_sem, eq_self, and_self, Int.natCast_pos, Int.le_refl, Nat.le_refl, Int.natCast_nonneg, Int.ofNat_lt, Int.ofNat_le, Int.reduceLT, Int.reduceLE, Int.reduceEq, Int.reduceNe, Int.reduceAdd, Int.reduceSub, Int.reduceMul, Int.reduceToNat, Int.reduceNeg, Nat.reduceEqDiff, Nat.reduceLeDiff, Nat.reduceSub, Nat.reduceMul, Nat.reduceLT, Nat.reduceBEq, Nat.reduceAdd]
      rfl
    · intro (i : Nat) (hi : i ≤ l1.length)
      simp (maxSteps := 2000000) only [L9, cntA_I, go_sem, eq_self, and_self, Int.natCast_pos, Int.le_refl, Nat.le_refl, Int.natCast_nonneg, Int.ofNat_lt, Int.ofNat_le, Int.reduceLT, Int.reduceLE, Int.reduceEq, Int.reduceNe, Int.reduceAdd, Int.reduceSub, Int.reduceMul, Int.reduceToNat, Int.reduceNeg, Nat.reduceEqDiff, Nat.reduceLeDiff, Nat.reduceSub, Nat.reduceMul, Nat.reduceLT, Nat.reduceBEq, Nat.reduceAdd]
      rintro c rfl
      refine sw_intro (fun hc => ?_) (fun hc => ?_) <;> simp only [decide_eq_true_eq, decide_eq_false_iff_not] at hc
      · refine nd_intro hc ?_
        rintro _ _ m rfl c rfl
        refine sw_intro (fun _ => hf) (fun _ => nd_intro hc ?_)
        rintro _ m rfl c rfl
        refine sw_intro (fun _ => hf) (fun _ => ?_)
        rintro _ _ m hm
        rw [w64 (by omega)] at hm
        subst hm
        exact cntA_next hc (by simp (maxSteps := 2000000) only [go_sem, eq_self, and_self, Int.natCast_pos, Int.le_refl, Nat.le_refl, Int.natCast_nonneg, Int.ofNat_lt, Int.ofNat_le, Int.reduceLT, Int.reduceLE, Int.reduceEq, Int.reduceNe, Int.reduceAdd, Int.reduceSub, Int.reduceMul, Int.reduceToNat, Int.reduceNeg, Nat.reduceEqDiff, Nat.reduceLeDiff, Nat.reduceSub, Nat.reduceMul, Nat.reduceLT, Nat.reduceBEq, Nat.reduceAdd]; rfl)
      · rintro _ _ m rfl
        refine loop_intro (A := M9 p1 p2 p3 p4 l1 l2 l3 l4) (0 : Nat) ?_ (Nat.zero_le _) ?_
        · simp (maxSteps := 2000000) only [M9, cntA_I, go_sem, eq_self, and_self, Int.natCast_pos, Int.le_refl, Nat.le_refl, Int.natCast_nonneg, Int.ofNat_lt, Int.ofNat_le, Int.reduceLT, Int.reduceLE, Int.reduceEq, Int.reduceNe, Int.reduceAdd, Int.reduceSub, Int.reduceMul, Int.reduceToNat, Int.reduceNeg, Nat.reduceEqDiff, Nat.reduceLeDiff, Nat.reduceSub, Nat.reduceMul, Nat.reduceLT, Nat.reduceBEq, Nat.reduceAdd]
          rfl
        · intro (i : Nat) (hi : i ≤ l2.length)
          simp (maxSteps := 2000000) only [M9, cntA_I, go_sem, eq_self, and_self, Int.natCast_pos, Int.le_refl, Nat.le_refl, Int.natCast_nonneg, Int.ofNat_lt, Int.ofNat_le, Int.reduceLT, Int.reduceLE, Int.reduceEq, Int.reduceNe, Int.reduceAdd, Int.reduceSub, Int.reduceMul, Int.reduceToNat, Int.reduceNeg, Nat.reduceEqDiff, Nat.reduceLeDiff, Nat.reduceSub, Nat.reduceMul, Nat.reduceLT, Nat.reduceBEq, Nat.reduceAdd]
          rintro c rfl
          refine sw_intro (fun hc => ?_) (fun hc => ?_) <;> simp only [decide_eq_true_eq, decide_eq_false_iff_not] at hc
          · refine nd_intro hc ?_
            rintro _ _ m rfl c rfl
            refine sw_intro (fun _ => hf) (fun _ => nd_intro hc ?_)
            rintro _ m rfl c rfl
            refine sw_intro (fun _ => hf) (fun _ => ?_)
            rintro _ _ m hm
            rw [w64 (by omega)] at hm
            subst hm
            exact cntA_next hc (by simp (maxSteps := 2000000) only [go_sem, eq_self, and_self, Int.natCast_pos, Int.le_refl, Nat.le_refl, Int.natCast_nonneg, Int.ofNat_lt, Int.ofNat_le, Int.reduceLT, Int.reduceLE, Int.reduceEq, Int.reduceNe, Int.reduceAdd, Int.reduceSub, Int.reduceMul, Int.reduceToNat, Int.reduceNeg, Nat.reduceEqDiff, Nat.reduceLeDiff, Nat.reduceSub, Nat.reduceMul, Nat.reduceLT, Nat.reduceBEq, Nat.reduceAdd]; rfl)
          · rintro _ _ m rfl
            refine loop_intro (A := D9 p1 p2 p3 p4 l1 l2 l3 l4) (0 : Nat) ?_ (Nat.zero_le _) ?_
            · simp (maxSteps := 2000000) only [D9, cntA_I, go_sem, eq_self, and_self, Int.natCast_pos, Int.le_refl, Nat.le_refl, Int.natCast_nonneg, Int.ofNat_lt, Int.ofNat_le, Int.reduceLT, Int.reduceLE, Int.reduceEq, Int.reduceNe, Int.reduceAdd, Int.reduceSub, Int.reduceMul, Int.reduceToNat, Int.reduceNeg, Nat.reduceEqDiff, Nat.reduceLeDiff, Nat.reduceSub, Nat.reduceMul, Nat.reduceLT, Nat.reduceBEq, Nat.reduceAdd]
              rfl
            · intro (i : Nat) (hi : i ≤ l3.length)
              simp (maxSteps := 2000000) only [D9, cntA_I, go_sem, eq_self, and_self, Int.natCast_pos, Int.le_refl, Nat.le_refl, Int.natCast_nonneg, Int.ofNat_lt, Int.ofNat_le, Int.reduceLT, Int.reduceLE, Int.reduceEq, Int.reduceNe, Int.reduceAdd, Int.reduceSub, Int.reduceMul, Int.reduceToNat, Int.reduceNeg, Nat.reduceEqDiff, Nat.reduceLeDiff, Nat.reduceSub, Nat.reduceMul, Nat.reduceLT, Nat.reduceBEq, Nat.reduceAdd]
              rintro c rfl
              refine sw_intro (fun hc => ?_) (fun hc => ?_) <;> simp only [decide_eq_true_eq, decide_eq_false_iff_not] at hc
              · refine nd_intro hc ?_
                rintro _ m rfl c rfl
                refine sw_intro (fun _ => hf) (fun _ => ?_)
                rintro _ _ m hm
                rw [w64 (by omega)] at hm
                subst hm
                exact cntA_next hc (by simp (maxSteps := 2000000) only [go_sem, eq_self, and_self, Int.natCast_pos, Int.le_refl, Nat.le_refl, Int.natCast_nonneg, Int.ofNat_lt, Int.ofNat_le, Int.reduceLT, Int.reduceLE, Int.reduceEq, Int.reduceNe, Int.reduceAdd, Int.reduceSub, Int.reduceMul, Int.reduceToNat, Int.reduceNeg, Nat.reduceEqDiff, Nat.reduceLeDiff, Nat.reduceSub, Nat.reduceMul, Nat.reduceLT, Nat.reduceBEq, Nat.reduceAdd]; rfl)
              · rintro _ _ m rfl c rfl
                refine sw_intro (fun h1 => ?_) (fun _ => hf)
                rintro _ _ m rfl c rfl
                refine sw_intro (fun h2 => ?_) (fun _ => hf)
                rintro _ _ m rfl c rfl
                refine sw_intro (fun h3 => ?_) (fun _ => hf)
                rintro _ _ m rfl c rfl
                simp only [decide_eq_true_eq] at h1 h2 h3
                exact h _ (fun h4 => by simp only [decide_eq_true_eq] at h4; omega)
  · exact h.elim
end Go.V
