/- A part of the proof layer, or functions of the given program in it: contracts and their proofs. -/
import Derived.Test.YtbcmjkfdeikkhaaGreatA64
namespace Go.V
open Go.Proofs
set_option maxRecDepth 100000
set_option maxHeartbeats 8000000
set_option linter.unusedSimpArgs false
set_option linter.unnecessarySimpa false
set_option linter.unusedVariables false
/-! ### programs: sizes that are looked at, and the other package's -/
def fewP (names : List ByteArray) (code : List EvT.den) : Bool := (decide (names.length ≤ 51) && names.all (fun s => decide (s.size ≤ 1000))) && decide (code.length ≤ 1000)
theorem fewP_iff {names : List ByteArray} {code : List EvT.den} : fewP names code = true ↔ (names.length ≤ 51 ∧ names.all (fun s => decide (s.size ≤ 1000)) = true) ∧ code.length ≤ 1000 := by
  simp [fewP]
/-- Few -/
def C21 : Contract := fun args hp K => match args, hp with
  | [.agg [x, y]], [] => onL .str 16 x fun names => onL EvT 16 y fun code => K (.bool (fewP names code)) []
  | _, _ => False
def L21 (x y : SV) (names : List ByteArray) : LoopAnn := { G := Nat, I := fun i => ⟨[(1, .ptr 0 0), (6, .int .i64 names.length), (7, .int .i64 i)], [.struct [x, y]]⟩, R := fun _ i => i ≤ names.length ∧ i ≤ 51 ∧ (names.take i).all (fun s => decide (s.size ≤ 1000)) = true, μ := fun i => names.length - i }
theorem L21_I {x y names} (i : Nat) : (L21 x y names).I i = ⟨[(1, .ptr 0 0), (6, .int .i64 names.length), (7, .int .i64 i)], [.struct [x, y]]⟩ := rfl
theorem s21 : Sound Tryz.prog 21 C21 := by
  refine sound_of_okF ok21 (Γ := []) .nil ?_
  intro args hp K h
  unfold C21 at h
  split at h
  · rename_i x y
    have hmx := maxLen_val
    obtain ⟨names, hx, h1⟩ : ∃ names, (x = .nils ∧ names = [] ∨ ∃ p, x = .sl p 16 .str names) ∧ onL EvT 16 y fun code => K (.bool (fewP names code)) [] := by
      rcases h with ⟨hx, h2⟩ | ⟨p, names, hx, h2⟩
      · exact ⟨[], .inl ⟨hx, rfl⟩, h2⟩
      · exact ⟨names, .inr ⟨p, hx⟩, h2⟩
    clear h
    obtain ⟨code, hy, h⟩ : ∃ code, (y = .nils ∧ code = [] ∨ ∃ p, y = .sl p 16 EvT code) ∧ K (.bool (fewP names code)) [] := by
      rcases h1 with ⟨hy, h2⟩ | ⟨p, code, hy, h2⟩
      · exact ⟨[], .inl ⟨hy, rfl⟩, h2⟩
      · exact ⟨code, .inr ⟨p, hy⟩, h2⟩
    clear h1
    have hf : ¬ ((names.length ≤ 51 ∧ names.all (fun s => decide (s.size ≤ 1000)) = true) ∧ (code : List EvT.den).length ≤ 1000) → K (.bool false) [] := fun hh => by rw [← fewP_iff, Bool.not_eq_true] at hh; rw [hh] at h; exact h
    have hend : ∀ {i : Nat}, i ≤ names.length ∧ i ≤ 51 ∧ (names.take i).all (fun s => decide (s.size ≤ 1000)) = true → ¬ i < names.length → ∀ c, c = decide ((code.length : Int) ≤ 1000) → K (.bool c) [] := by
      intro i hi hc c hcc
      have e : i = names.length := by omega
      subst e
      rw [List.take_length] at hi
      have e2 : c = fewP names code := by
        rw [hcc]
        unfold fewP
        rw [hi.2.2, decide_eq_true hi.2.1]
        simp only [Bool.true_and]
        exact decide_eq_decide.2 (by omega)
      rw [e2]
      exact h
    rcases hx with ⟨rfl, rfl⟩ | ⟨p, rfl⟩ <;> rcases hy with ⟨rfl, rfl⟩ | ⟨q, rfl⟩
    · refine ⟨by simp, [(1, L21 .nils .nils ([] : List ByteArray))], ?_⟩
      simp (maxSteps := 2000000) only [a21, r21, go_sem, eq_self, and_self, Int.natCast_pos, Int.le_refl, Nat.le_refl, Int.natCast_nonneg, Int.ofNat_lt, Int.ofNat_le, Int.reduceLT, Int.reduceLE, Int.reduceEq, Int.reduceNe, Int.reduceAdd, Int.reduceSub, Int.reduceMul, Int.reduceToNat, Int.reduceNeg, Nat.reduceEqDiff, Nat.reduceLeDiff, Nat.reduceSub, Nat.reduceMul, Nat.reduceLT, Nat.reduceBEq, Nat.reduceAdd]
      refine loop_intro (A := L21 .nils .nils ([] : List ByteArray)) (0 : Nat) ?_ ⟨Nat.zero_le _, by omega, rfl⟩ ?_
      · simp (maxSteps := 2000000) only [L21_I, go_sem, eq_self, and_self, Int.natCast_pos, Int.le_refl, Nat.le_refl, Int.natCast_nonneg, Int.ofNat_lt, Int.ofNat_le, Int.reduceLT, Int.reduceLE, Int.reduceEq, Int.reduceNe, Int.reduceAdd, Int.reduceSub, Int.reduceMul, Int.reduceToNat, Int.reduceNeg, Nat.reduceEqDiff, Nat.reduceLeDiff, Nat.reduceSub, Nat.reduceMul, Nat.reduceLT, Nat.reduceBEq, Nat.reduceAdd]
        rfl
      · intro (i : Nat) (hi : i ≤ ([] : List ByteArray).length ∧ i ≤ 51 ∧ (([] : List ByteArray).take i).all (fun s => decide (s.size ≤ 1000)) = true)
        simp (maxSteps := 2000000) only [L21_I, go_sem, eq_self, and_self, Int.natCast_pos, Int.le_refl, Nat.le_refl, Int.natCast_nonneg, Int.ofNat_lt, Int.ofNat_le, Int.reduceLT, Int.reduceLE, Int.reduceEq, Int.reduceNe, Int.reduceAdd, Int.reduceSub, Int.reduceMul, Int.reduceToNat, Int.reduceNeg, Nat.reduceEqDiff, Nat.reduceLeDiff, Nat.reduceSub, Nat.reduceMul, Nat.reduceLT, Nat.reduceBEq, Nat.reduceAdd]
        rintro c rfl
        refine sw_intro (fun hc => ?_) (fun hc => ?_) <;> simp only [decide_eq_true_eq, decide_eq_false_iff_not] at hc
        · exact absurd hc (by omega)
        exact hend hi hc true rfl
    · refine ⟨by simp, [(1, L21 .nils (.sl q 16 EvT code) ([] : List ByteArray))], ?_⟩
      simp (maxSteps := 2000000) only [a21, r21, go_sem, eq_self, and_self, Int.natCast_pos, Int.le_refl, Nat.le_refl, Int.natCast_nonneg, Int.ofNat_lt, Int.ofNat_le, Int.reduceLT, Int.reduceLE, Int.reduceEq, Int.reduceNe, Int.reduceAdd, Int.reduceSub, Int.reduceMul, Int.reduceToNat, Int.reduceNeg, Nat.reduceEqDiff, Nat.reduceLeDiff, Nat.reduceSub, Nat.reduceMul, Nat.reduceLT, Nat.reduceBEq, Nat.reduceAdd]
      refine loop_intro (A := L21 .nils (.sl q 16 EvT code) ([] : List ByteArray)) (0 : Nat) ?_ ⟨Nat.zero_le _, by omega, rfl⟩ ?_
      · simp (maxSteps := 2000000) only [L21_I, go_sem, eq_self, and_self, Int.natCast_pos, Int.le_refl, Nat.le_refl, Int.natCast_nonneg, Int.ofNat_lt, Int.ofNat_le, Int.reduceLT, Int.reduceLE, Int.reduceEq, Int.reduceNe, Int.reduceAdd, Int.reduceSub, Int.reduceMul, Int.reduceToNat, Int.reduceNeg, Nat.reduceEqDiff, Nat.reduceLeDiff, Nat.reduceSub, Nat.reduceMul, Nat.reduceLT, Nat.reduceBEq, Nat.reduceAdd]
        rfl
      · intro (i : Nat) (hi : i ≤ ([] : List ByteArray).length ∧ i ≤ 51 ∧ (([] : List ByteArray).take i).all (fun s => decide (s.size ≤ 1000)) = true)
        simp (maxSteps := 2000000) only [L21_I, go_sem, eq_self, and_self, Int.natCast_pos, Int.le_refl, Nat.le_refl, Int.natCast_nonneg, Int.ofNat_lt, Int.ofNat_le, Int.reduceLT, Int.reduceLE, Int.reduceEq, Int.reduceNe, Int.reduceAdd, Int.reduceSub, Int.reduceMul, Int.reduceToNat, Int.reduceNeg, Nat.reduceEqDiff, Nat.reduceLeDiff, Nat.reduceSub, Nat.reduceMul, Nat.reduceLT, Nat.reduceBEq, Nat.reduceAdd]
        rintro c rfl
        refine sw_intro (fun hc => ?_) (fun hc => ?_) <;> simp only [decide_eq_true_eq, decide_eq_false_iff_not] at hc
        · exact absurd hc (by omega)
        rintro _ _ m rfl c hcc
        exact hend hi hc c hcc
    · refine ⟨by simp, [(1, L21 (.sl p 16 .str names) .nils names)], ?_⟩
      simp (maxSteps := 2000000) only [a21, r21, go_sem, eq_self, and_self, Int.natCast_pos, Int.le_refl, Nat.le_refl, Int.natCast_nonneg, Int.ofNat_lt, Int.ofNat_le, Int.reduceLT, Int.reduceLE, Int.reduceEq, Int.reduceNe, Int.reduceAdd, Int.reduceSub, Int.reduceMul, Int.reduceToNat, Int.reduceNeg, Nat.reduceEqDiff, Nat.reduceLeDiff, Nat.reduceSub, Nat.reduceMul, Nat.reduceLT, Nat.reduceBEq, Nat.reduceAdd]
      rintro _ _ m rfl
      refine loop_intro (A := L21 (.sl p 16 .str names) .nils names) (0 : Nat) ?_ ⟨Nat.zero_le _, by omega, rfl⟩ ?_
      · simp (maxSteps := 2000000) only [L21_I, go_sem, eq_self, and_self, Int.natCast_pos, Int.le_refl, Nat.le_refl, Int.natCast_nonneg, Int.ofNat_lt, Int.ofNat_le, Int.reduceLT, Int.reduceLE, Int.reduceEq, Int.reduceNe, Int.reduceAdd, Int.reduceSub, Int.reduceMul, Int.reduceToNat, Int.reduceNeg, Nat.reduceEqDiff, Nat.reduceLeDiff, Nat.reduceSub, Nat.reduceMul, Nat.reduceLT, Nat.reduceBEq, Nat.reduceAdd]
        rfl
      · intro (i : Nat) (hi : i ≤ names.length ∧ i ≤ 51 ∧ (names.take i).all (fun s => decide (s.size ≤ 1000)) = true)
        simp (maxSteps := 2000000) only [L21_I, go_sem, eq_self, and_self, Int.natCast_pos, Int.le_refl, Nat.le_refl, Int.natCast_nonneg, Int.ofNat_lt, Int.ofNat_le, Int.reduceLT, Int.reduceLE, Int.reduceEq, Int.reduceNe, Int.reduceAdd, Int.reduceSub, Int.reduceMul, Int.reduceToNat, Int.reduceNeg, Nat.reduceEqDiff, Nat.reduceLeDiff, Nat.reduceSub, Nat.reduceMul, Nat.reduceLT, Nat.reduceBEq, Nat.reduceAdd]
        rintro c rfl
        refine sw_intro (fun hc => ?_) (fun hc => ?_) <;> simp only [decide_eq_true_eq, decide_eq_false_iff_not] at hc
        · refine nd_intro hc ?_
          rintro _ m rfl c rfl
          have hall : names.all (fun s => decide (s.size ≤ 1000)) = true → (elt .str names i).size ≤ 1000 := fun hh => by
            have := List.all_eq_true.1 hh (elt .str names i) (List.mem_of_getElem? (elt_get hc))
            simpa using this
          refine sw_intro (fun h1 => ?_) (fun h1 => ?_) <;> simp only [decide_eq_true_eq, decide_eq_false_iff_not] at h1
          · refine hf (fun hh => ?_)
            have := hall hh.1.2
            omega
          rintro c rfl
          refine sw_intro (fun h2 => ?_) (fun h2 => ?_) <;> simp only [decide_eq_true_eq, decide_eq_false_iff_not] at h2
          · exact hf (fun hh => by have := hh.1.1; omega)
          rintro _ _ m hm
          rw [w64 (by omega)] at hm
          subst hm
          refine lpE_intro (A := L21 (.sl p 16 .str names) .nils names) (i + 1) (by simp (maxSteps := 2000000) only [L21_I, go_sem, eq_self, and_self, Int.natCast_pos, Int.le_refl, Nat.le_refl, Int.natCast_nonneg, Int.ofNat_lt, Int.ofNat_le, Int.reduceLT, Int.reduceLE, Int.reduceEq, Int.reduceNe, Int.reduceAdd, Int.reduceSub, Int.reduceMul, Int.reduceToNat, Int.reduceNeg, Nat.reduceEqDiff, Nat.reduceLeDiff, Nat.reduceSub, Nat.reduceMul, Nat.reduceLT, Nat.reduceBEq, Nat.reduceAdd]; rfl) ⟨by omega, by omega, ?_⟩ (by show names.length - (i + 1) < names.length - i; omega)
          have e3 := take_elt (t := .str) hc
          show List.all (List.take (i + 1) names) _ = true
          rw [← e3, List.all_append, hi.2.2]
          simp only [List.all_cons, List.all_nil, Bool.and_true, Bool.true_and, decide_eq_true_eq]
          omega
        exact hend hi hc true rfl
    · refine ⟨by simp, [(1, L21 (.sl p 16 .str names) (.sl q 16 EvT code) names)], ?_⟩
      simp (maxSteps := 2000000) only [a21, r21, go_sem, eq_self, and_self, Int.natCast_pos, Int.le_refl, Nat.le_refl, Int.natCast_nonneg, Int.ofNat_lt, Int.ofNat_le, Int.reduceLT, Int.reduceLE, Int.reduceEq, Int.reduceNe, Int.reduceAdd, Int.reduceSub, Int.reduceMul, Int.reduceToNat, Int.reduceNeg, Nat.reduceEqDiff, Nat.reduceLeDiff, Nat.reduceSub, Nat.reduceMul, Nat.reduceLT, Nat.reduceBEq, Nat.reduceAdd]
      rintro _ _ m rfl
      refine loop_intro (A := L21 (.sl p 16 .str names) (.sl q 16 EvT code) names) (0 : Nat) ?_ ⟨Nat.zero_le _, by omega, rfl⟩ ?_
      · simp (maxSteps := 2000000) only [L21_I, go_sem, eq_self, and_self, Int.natCast_pos, Int.le_refl, Nat.le_refl, Int.natCast_nonneg, Int.ofNat_lt, Int.ofNat_le, Int.reduceLT, Int.reduceLE, Int.reduceEq, Int.reduceNe, Int.reduceAdd, Int.reduceSub, Int.reduceMul, Int.reduceToNat, Int.reduceNeg, Nat.reduceEqDiff, Nat.reduceLeDiff, Nat.reduceSub, Nat.reduceMul, Nat.reduceLT, Nat.reduceBEq, Nat.reduceAdd]
        rfl
      · intro (i : Nat) (hi : i ≤ names.length ∧ i ≤ 51 ∧ (names.take i).all (fun s => decide (s.size ≤ 1000)) = true)
        simp (maxSteps := 2000000) only [L21_I, go_sem, eq_self, and_self, Int.natCast_pos, Int.le_refl, Nat.le_refl, Int.natCast_nonneg, Int.ofNat_lt, Int.ofNat_le, Int.reduceLT, Int.reduceLE, Int.reduceEq, Int.reduceNe, Int.reduceAdd, Int.reduceSub, Int.reduceMul, Int.reduceToNat, Int.reduceNeg, Nat.reduceEqDiff, Nat.reduceLeDiff, Nat.reduceSub, Nat.reduceMul, Nat.reduceLT, Nat.reduceBEq, Nat.reduceAdd]
        rintro c rfl
        refine sw_intro (fun hc => ?_) (fun hc => ?_) <;> simp only [decide_eq_true_eq, decide_eq_false_iff_not] at hc
        · refine nd_intro hc ?_
          rintro _ m rfl c rfl
          have hall : names.all (fun s => decide (s.size ≤ 1000)) = true → (elt .str names i).size ≤ 1000 := fun hh => by
            have := List.all_eq_true.1 hh (elt .str names i) (List.mem_of_getElem? (elt_get hc))
            simpa using this
          refine sw_intro (fun h1 => ?_) (fun h1 => ?_) <;> simp only [decide_eq_true_eq, decide_eq_false_iff_not] at h1
          · refine hf (fun hh => ?_)
            have := hall hh.1.2
            omega
          rintro c rfl
          refine sw_intro (fun h2 => ?_) (fun h2 => ?_) <;> simp only [decide_eq_true_eq, decide_eq_false_iff_not] at h2
          · exact hf (fun hh => by have := hh.1.1; omega)
          rintro _ _ m hm
          rw [w64 (by omega)] at hm
          subst hm
          refine lpE_intro (A := L21 (.sl p 16 .str names) (.sl q 16 EvT code) names) (i + 1) (by simp (maxSteps := 2000000) only [L21_I, go_sem, eq_self, and_self, Int.natCast_pos, Int.le_refl, Nat.le_refl, Int.natCast_nonneg, Int.ofNat_lt, Int.ofNat_le, Int.reduceLT, Int.reduceLE, Int.reduceEq, Int.reduceNe, Int.reduceAdd, Int.reduceSub, Int.reduceMul, Int.reduceToNat, Int.reduceNeg, Nat.reduceEqDiff, Nat.reduceLeDiff, Nat.reduceSub, Nat.reduceMul, Nat.reduceLT, Nat.reduceBEq, Nat.reduceAdd]; rfl) ⟨by omega, by omega, ?_⟩ (by show names.length - (i + 1) < names.length - i; omega)
          have e3 := take_elt (t := .str) hc
          show List.all (List.take (i + 1) names) _ = true
          rw [← e3, List.all_append, hi.2.2]
          simp only [List.all_cons, List.all_nil, Bool.and_true, Bool.true_and, decide_eq_true_eq]
          omega
        rintro _ _ m rfl c hcc
        exact hend hi hc c hcc
  · exact h.elim
end Go.V
