/- A part of the proof layer, or functions of the given program in it: contracts and their proofs. -/
import Derived.Test.YtbcmjkfdeikkhaaGreatA65
namespace Go.V
open Go.Proofs
set_option maxRecDepth 100000
set_option maxHeartbeats 8000000
set_option linter.unusedSimpArgs false
set_option linter.unnecessarySimpa false
set_option linter.unusedVariables false
/-- State -/
def C20 : Contract := fun args hp K => match args with
  | [.ptr 0 0] => onJ hp fun b ev v => b.length = 8 ∧ ev.all okEv = true ∧ ev.length ≤ 1000 ∧ K (.agg [.arr 8 (.int .i64) (appE b ev)]) hp
  | _ => False
def L20 (b : List Int) (ev : List EvT.den) (v : Int) : LoopAnn := cntA (fun i => ⟨[(2, .ptr 2 0), (3, .ptr 3 0), (16, .own 1), (17, .int .i64 ev.length), (18, .int .i64 i)], jH false b ev v ++ [.struct [.arr 8 (.int .i64) z8], .struct [.arr 8 (.int .i64) (appE b (ev.take i))]]⟩) ev.length
theorem s20 : Sound Tryz.prog 20 C20 := by
  refine sound_of_okF ok20 (Γ := []) .nil ?_
  intro args hp K h
  unfold C20 at h
  split at h
  · obtain ⟨b, ev, v, rfl, h8, hk, hl, h⟩ := h
    refine ⟨by simp, [(1, L20 b ev v)], ?_⟩
    have hmx := maxLen_val
    unfold jH at h ⊢
    simp (maxSteps := 2000000) only [a20, r20, jH, go_sem, eq_self, and_self, Int.natCast_pos, Int.le_refl, Nat.le_refl, Int.natCast_nonneg, Int.ofNat_lt, Int.ofNat_le, Int.reduceLT, Int.reduceLE, Int.reduceEq, Int.reduceNe, Int.reduceAdd, Int.reduceSub, Int.reduceMul, Int.reduceToNat, Int.reduceNeg, Nat.reduceEqDiff, Nat.reduceLeDiff, Nat.reduceSub, Nat.reduceMul, Nat.reduceLT, Nat.reduceBEq, Nat.reduceAdd]
    rintro _ _ m rfl
    refine loop_intro (A := L20 b ev v) (0 : Nat) ?_ (Nat.zero_le _) ?_
    · simp (maxSteps := 2000000) only [L20, cntA_I, jH, go_sem, eq_self, and_self, Int.natCast_pos, Int.le_refl, Nat.le_refl, Int.natCast_nonneg, Int.ofNat_lt, Int.ofNat_le, Int.reduceLT, Int.reduceLE, Int.reduceEq, Int.reduceNe, Int.reduceAdd, Int.reduceSub, Int.reduceMul, Int.reduceToNat, Int.reduceNeg, Nat.reduceEqDiff, Nat.reduceLeDiff, Nat.reduceSub, Nat.reduceMul, Nat.reduceLT, Nat.reduceBEq, Nat.reduceAdd]
      rfl
    · intro (i : Nat) (hi : i ≤ ev.length)
      simp (maxSteps := 2000000) only [L20, cntA_I, jH, go_sem, eq_self, and_self, Int.natCast_pos, Int.le_refl, Nat.le_refl, Int.natCast_nonneg, Int.ofNat_lt, Int.ofNat_le, Int.reduceLT, Int.reduceLE, Int.reduceEq, Int.reduceNe, Int.reduceAdd, Int.reduceSub, Int.reduceMul, Int.reduceToNat, Int.reduceNeg, Nat.reduceEqDiff, Nat.reduceLeDiff, Nat.reduceSub, Nat.reduceMul, Nat.reduceLT, Nat.reduceBEq, Nat.reduceAdd]
      rintro c rfl
      refine sw_intro (fun hc => ?_) (fun hc => ?_) <;> simp only [decide_eq_true_eq, decide_eq_false_iff_not] at hc
      · have hok : okEv (elt EvT ev i) = true := List.all_eq_true.1 hk _ (List.mem_of_getElem? (elt_get hc))
        simp only [okEv, Bool.and_eq_true, decide_eq_true_eq] at hok
        refine nd_intro hc (nd_intro hok (nd_intro (toNat_lt8 hok) ?_))
        rintro _ _ m hm
        rw [w64 (by omega)] at hm
        subst hm
        rw [← appE_snoc, take_elt (t := EvT) hc]
        exact cntA_next hc (by simp (maxSteps := 2000000) only [go_sem, eq_self, and_self, Int.natCast_pos, Int.le_refl, Nat.le_refl, Int.natCast_nonneg, Int.ofNat_lt, Int.ofNat_le, Int.reduceLT, Int.reduceLE, Int.reduceEq, Int.reduceNe, Int.reduceAdd, Int.reduceSub, Int.reduceMul, Int.reduceToNat, Int.reduceNeg, Nat.reduceEqDiff, Nat.reduceLeDiff, Nat.reduceSub, Nat.reduceMul, Nat.reduceLT, Nat.reduceBEq, Nat.reduceAdd]; rfl)
      · rw [List.take_of_length_le (by omega)]
        exact h
  · exact h.elim
/-- First -/
def C30 : Contract := fun args hp K => match args with
  | [.ptr 0 0] => onIn hp fun l => l.length ≤ 1000 ∧ (l = [] → K (.tup [.agg [.str ByteArray.empty, .int .u64 0, .int .i64 0, .nils], .bool false]) (inH false l)) ∧
      (∀ f s k xs r, l = (f, s, k, xs) :: r → K (.tup [.agg [.str f, .int .u64 s, .int .i64 k, .own 2], .bool true]) (inH false l ++ [.row true 8 (.int .i64) xs]))
  | _ => False
theorem s30 : Sound Tryz.prog 30 C30 := by
  refine sound_of_okF ok30 (Γ := [(11, C11), (75, C75)]) (.cons s11 (callable_of_okF ok11) (.cons s75 (callable_of_okF ok75) .nil)) ?_
  intro args hp K h
  unfold C30 at h
  split at h
  · obtain ⟨l, rfl, hl, h0, h1⟩ := h
    refine ⟨by simp, [], ?_⟩
    have hmx := maxLen_val
    unfold inH at h0 h1 ⊢
    simp (maxSteps := 2000000) only [a30, r30, inH, C11, C75, go_sem, eq_self, and_self, Int.natCast_pos, Int.le_refl, Nat.le_refl, Int.natCast_nonneg, Int.ofNat_lt, Int.ofNat_le, Int.reduceLT, Int.reduceLE, Int.reduceEq, Int.reduceNe, Int.reduceAdd, Int.reduceSub, Int.reduceMul, Int.reduceToNat, Int.reduceNeg, Nat.reduceEqDiff, Nat.reduceLeDiff, Nat.reduceSub, Nat.reduceMul, Nat.reduceLT, Nat.reduceBEq, Nat.reduceAdd]
    refine ⟨hl, ?_⟩
    rintro c rfl
    refine sw_intro (fun hc => ?_) (fun hc => ?_) <;> simp only [decide_eq_true_eq, decide_eq_false_iff_not] at hc
    · exact h0 (List.length_eq_zero_iff.1 (by omega))
    · match l, h1, hc with
      | (f, s, k, xs) :: r, h1, _ => exact nd_intro (by simp only [List.length_cons]; omega) (h1 f s k xs r rfl)
  · exact h.elim
/-- Pop -/
def C35 : Contract := fun args hp K => match args with
  | [.ptr 0 0] => onIn hp fun l => l.length ≤ 1000 ∧ (l = [] → K (.tup [.agg [.str ByteArray.empty, .int .u64 0, .int .i64 0, .nils], .bool false]) (inH false l)) ∧
      (∀ f s k xs r, l = (f, s, k, xs) :: r → K (.tup [.agg [.str f, .int .u64 s, .int .i64 k, .own 2], .bool true]) (inH true r ++ [.row true 8 (.int .i64) xs]))
  | _ => False
theorem s35 : Sound Tryz.prog 35 C35 := by
  refine sound_of_okF ok35 (Γ := [(30, C30)]) (.cons s30 (callable_of_okF ok30) .nil) ?_
  intro args hp K h
  unfold C35 at h
  split at h
  · obtain ⟨l, rfl, hl, h0, h1⟩ := h
    refine ⟨by simp, [], ?_⟩
    have hmx := maxLen_val
    unfold inH at h0 h1 ⊢
    simp (maxSteps := 2000000) only [a35, r35, inH, C30, go_sem, eq_self, and_self, Int.natCast_pos, Int.le_refl, Nat.le_refl, Int.natCast_nonneg, Int.ofNat_lt, Int.ofNat_le, Int.reduceLT, Int.reduceLE, Int.reduceEq, Int.reduceNe, Int.reduceAdd, Int.reduceSub, Int.reduceMul, Int.reduceToNat, Int.reduceNeg, Nat.reduceEqDiff, Nat.reduceLeDiff, Nat.reduceSub, Nat.reduceMul, Nat.reduceLT, Nat.reduceBEq, Nat.reduceAdd]
    refine ⟨hl, h0, fun f s k xs r e => ?_⟩
    have h2 := h1 f s k xs r e
    subst e
    refine nd_intro (by simp only [List.length_cons]; omega) ?_
    simpa using h2
  · exact h.elim
theorem take_eltL {l : List LetT.den} {i : Nat} (h : i < l.length) : l.take i ++ [((elt LetT l i).1, (elt LetT l i).2.1, (elt LetT l i).2.2.1, (elt LetT l i).2.2.2)] = l.take (i + 1) := take_elt (t := LetT) h
/-- All -/
def C92 : Contract := fun args hp K => match args, hp with
  | [x], [] => onL LetT 56 x fun l => l.length ≤ 1000 ∧ K (.own 0) [.row true 56 LetT l]
  | _, _ => False
def L92 (p : Bool) (l : List LetT.den) : LoopAnn := cntA (fun i => ⟨[(3, .own 0), (6, .sl p 56 LetT l), (7, .int .i64 l.length), (8, .int .i64 i)], [.row true 56 LetT (l.take i)]⟩) l.length
theorem s92 : Sound Tryz.prog 92 C92 := by
  refine sound_of_okF ok92 (Γ := [(75, C75)]) (.cons s75 (callable_of_okF ok75) .nil) ?_
  intro args hp K h
  unfold C92 at h
  split at h
  · rename_i x
    have hmx := maxLen_val
    rcases h with ⟨rfl, hl, h⟩ | ⟨p, l, rfl, hl, h⟩
    · refine ⟨by simp, [(1, cntA (fun i => ⟨[(3, .own 0), (6, .nils), (7, .int .i64 0), (8, .int .i64 i)], [.row true 56 LetT []]⟩) 0)], ?_⟩
      simp (maxSteps := 2000000) only [a92, r92, C75, go_sem, eq_self, and_self, Int.natCast_pos, Int.le_refl, Nat.le_refl, Int.natCast_nonneg, Int.ofNat_lt, Int.ofNat_le, Int.reduceLT, Int.reduceLE, Int.reduceEq, Int.reduceNe, Int.reduceAdd, Int.reduceSub, Int.reduceMul, Int.reduceToNat, Int.reduceNeg, Nat.reduceEqDiff, Nat.reduceLeDiff, Nat.reduceSub, Nat.reduceMul, Nat.reduceLT, Nat.reduceBEq, Nat.reduceAdd]
      refine loop_intro (A := cntA _ 0) (0 : Nat) ?_ (Nat.zero_le _) ?_
      · simp (maxSteps := 2000000) only [cntA_I, go_sem, eq_self, and_self, Int.natCast_pos, Int.le_refl, Nat.le_refl, Int.natCast_nonneg, Int.ofNat_lt, Int.ofNat_le, Int.reduceLT, Int.reduceLE, Int.reduceEq, Int.reduceNe, Int.reduceAdd, Int.reduceSub, Int.reduceMul, Int.reduceToNat, Int.reduceNeg, Nat.reduceEqDiff, Nat.reduceLeDiff, Nat.reduceSub, Nat.reduceMul, Nat.reduceLT, Nat.reduceBEq, Nat.reduceAdd]
        rfl
      · intro (i : Nat) (hi : i ≤ 0)
        simp (maxSteps := 2000000) only [cntA_I, go_sem, eq_self, and_self, Int.natCast_pos, Int.le_refl, Nat.le_refl, Int.natCast_nonneg, Int.ofNat_lt, Int.ofNat_le, Int.reduceLT, Int.reduceLE, Int.reduceEq, Int.reduceNe, Int.reduceAdd, Int.reduceSub, Int.reduceMul, Int.reduceToNat, Int.reduceNeg, Nat.reduceEqDiff, Nat.reduceLeDiff, Nat.reduceSub, Nat.reduceMul, Nat.reduceLT, Nat.reduceBEq, Nat.reduceAdd]
        rintro c rfl
        refine sw_intro (fun hc => ?_) (fun hc => ?_) <;> simp only [decide_eq_true_eq, decide_eq_false_iff_not] at hc
        · exact absurd hc (by omega)
        · exact h
    · refine ⟨by simp, [(1, L92 p l)], ?_⟩
      simp (maxSteps := 2000000) only [a92, r92, C75, go_sem, eq_self, and_self, Int.natCast_pos, Int.le_refl, Nat.le_refl, Int.natCast_nonneg, Int.ofNat_lt, Int.ofNat_le, Int.reduceLT, Int.reduceLE, Int.reduceEq, Int.reduceNe, Int.reduceAdd, Int.reduceSub, Int.reduceMul, Int.reduceToNat, Int.reduceNeg, Nat.reduceEqDiff, Nat.reduceLeDiff, Nat.reduceSub, Nat.reduceMul, Nat.reduceLT, Nat.reduceBEq, Nat.reduceAdd]
      rintro _ _ m rfl
      refine loop_intro (A := L92 p l) (0 : Nat) ?_ (Nat.zero_le _) ?_
      · simp (maxSteps := 2000000) only [L92, cntA_I, go_sem, eq_self, and_self, Int.natCast_pos, Int.le_refl, Nat.le_refl, Int.natCast_nonneg, Int.ofNat_lt, Int.ofNat_le, Int.reduceLT, Int.reduceLE, Int.reduceEq, Int.reduceNe, Int.reduceAdd, Int.reduceSub, Int.reduceMul, Int.reduceToNat, Int.reduceNeg, Nat.reduceEqDiff, Nat.reduceLeDiff, Nat.reduceSub, Nat.reduceMul, Nat.reduceLT, Nat.reduceBEq, Nat.reduceAdd]
        rfl
      · intro (i : Nat) (hi : i ≤ l.length)
        simp (maxSteps := 2000000) only [L92, cntA_I, C75, go_sem, eq_self, and_self, Int.natCast_pos, Int.le_refl, Nat.le_refl, Int.natCast_nonneg, Int.ofNat_lt, Int.ofNat_le, Int.reduceLT, Int.reduceLE, Int.reduceEq, Int.reduceNe, Int.reduceAdd, Int.reduceSub, Int.reduceMul, Int.reduceToNat, Int.reduceNeg, Nat.reduceEqDiff, Nat.reduceLeDiff, Nat.reduceSub, Nat.reduceMul, Nat.reduceLT, Nat.reduceBEq, Nat.reduceAdd]
        rintro c rfl
        refine sw_intro (fun hc => ?_) (fun hc => ?_) <;> simp only [decide_eq_true_eq, decide_eq_false_iff_not] at hc
        · refine nd_intro hc ⟨fun _ => by rw [List.length_take]; omega, ?_⟩
          rintro _ _ _ m hm
          rw [w64 (by omega)] at hm
          subst hm
          rw [take_eltL hc]
          exact cntA_next hc (by simp (maxSteps := 2000000) only [go_sem, eq_self, and_self, Int.natCast_pos, Int.le_refl, Nat.le_refl, Int.natCast_nonneg, Int.ofNat_lt, Int.ofNat_le, Int.reduceLT, Int.reduceLE, Int.reduceEq, Int.reduceNe, Int.reduceAdd, Int.reduceSub, Int.reduceMul, Int.reduceToNat, Int.reduceNeg, Nat.reduceEqDiff, Nat.reduceLeDiff, Nat.reduceSub, Nat.reduceMul, Nat.reduceLT, Nat.reduceBEq, Nat.reduceAdd]; rfl)
        · rw [List.take_of_length_le (by omega)]
          exact h
  · exact h.elim
end Go.V
