/- A part of the proof layer, or functions of the given program in it: contracts and their proofs. -/
import Derived.Test.YtbcmjkfdeikkhaaGreatA61
namespace Go.V
open Go.Proofs
set_option maxRecDepth 100000
set_option maxHeartbeats 8000000
set_option linter.unusedSimpArgs false
set_option linter.unnecessarySimpa false
set_option linter.unusedVariables false
def stepN (M : Mc) (n : Nat) (arg : Int) : Mc :=
  match n with
  | 0 => { M with done := true }
  | 1 => pushM M [arg]
  | 2 => pushM M [elt (.int .i64) M.st arg.toNat]
  | 3 => if (popM M).2.failed = 0 then { (popM M).2 with st := (popM M).2.st.set arg.toNat (popM M).1, ev := (popM M).2.ev ++ [(arg, (popM M).1)] } else (popM M).2
  | 4 => if arg < (M.args.length : Int) then pushM M [elt (.int .i64) M.args arg.toNat] else pushM M [0]
  | 5 => pushM M [M.k]
  | 6 => pushM (twoM M).2 [opI 6 (twoM M).1.1 (twoM M).1.2]
  | 7 => pushM (twoM M).2 [opI 7 (twoM M).1.1 (twoM M).1.2]
  | 8 => pushM (twoM M).2 [opI 8 (twoM M).1.1 (twoM M).1.2]
  | 9 => pushM (twoM M).2 [opI 9 (twoM M).1.1 (twoM M).1.2]
  | 10 => pushM (twoM M).2 [opI 10 (twoM M).1.1 (twoM M).1.2]
  | 11 => pushM (popM M).2 [truthI (decide ((popM M).1 = 0))]
  | 12 => pushM (popM M).2 [(popM M).1, (popM M).1]
  | 13 => (popM M).2
  | 14 => pushM (twoM M).2 [(twoM M).1.2, (twoM M).1.1]
  | 15 => { M with pc := arg }
  | 16 => if (popM M).1 = 0 ∧ (popM M).2.failed = 0 then { (popM M).2 with pc := arg } else (popM M).2
  | 21 => refM M true
  | 22 => pushM M [M.now]
  | 23 => pushM M [IntKind.i64.wrap M.s]
  | n => outM M n arg
/-- What an integer must be, by its operation. -/
def argOk (M : Mc) (n : Nat) (arg : Int) : Prop :=
  ((n = 2 ∨ n = 3) → 0 ≤ arg ∧ arg < 8) ∧ (n = 4 → 0 ≤ arg ∧ arg < 4) ∧ (n = 17 ∨ n = 19 ∨ n = 20 → 0 ≤ arg ∧ arg < M.names.length)
structure OkM (M : Mc) : Prop where
  stack : M.stack.length ≤ 16
  st8 : M.st.length = 8
  ev : M.ev.length ≤ 1000
  sent : M.sent.length ≤ 1000
  tim : M.tim.length ≤ 1000
/-- step -/
def C91 : Contract := fun args hp K => match args with
  | [.ptr 0 0, .agg [.int .i64 op, .int .i64 arg]] => onM hp fun M => OkM M ∧ (0 ≤ op ∧ op ≤ 23) ∧ argOk M op.toNat arg ∧ K (.tup []) (mcH true (stepN M op.toNat arg))
  | _ => False
theorem s91 : Sound Tryz.prog 91 C91 := by
  refine sound_of_okF ok91 (Γ := [(115, C115), (116, C116), (117, C117), (118, C118), (119, C119), (120, C120), (121, C121)]) (.cons s115 (callable_of_okF ok115) (.cons s116 (callable_of_okF ok116) (.cons s117 (callable_of_okF ok117) (.cons s118 (callable_of_okF ok118) (.cons s119 (callable_of_okF ok119) (.cons s120 (callable_of_okF ok120) (.cons s121 (callable_of_okF ok121) .nil))))))) ?_
  intro args hp K h
  unfold C91 at h
  split at h
  · rename_i op arg
    obtain ⟨M, rfl, hM, ho, ha, h⟩ := h
    refine ⟨by simp, [], ?_⟩
    have hmx := maxLen_val
    have h1 := hM.stack
    have hp1 := popM_stack h1
    have ht1 := twoM_stack h1
    have pk := popM_keep M
    obtain ⟨a1, a2, a3⟩ := ha
    have hn : op = 0 ∨ op = 1 ∨ op = 2 ∨ op = 3 ∨ op = 4 ∨ op = 5 ∨ op = 6 ∨ op = 7 ∨ op = 8 ∨ op = 9 ∨ op = 10 ∨ op = 11 ∨ op = 12 ∨ op = 13 ∨ op = 14 ∨ op = 15 ∨ op = 16 ∨ op = 17 ∨ op = 18 ∨ op = 19 ∨ op = 20 ∨ op = 21 ∨ op = 22 ∨ op = 23 := by omega
    unfold mcH at h ⊢
    rcases hn with rfl | rfl | rfl | rfl | rfl | rfl | rfl | rfl | rfl | rfl | rfl | rfl | rfl | rfl | rfl | rfl | rfl | rfl | rfl | rfl | rfl | rfl | rfl | rfl
    · simp (maxSteps := 2000000) only [a91, r91, C115, C116, C117, C118, C119, C120, C121, mcH, go_sem, eq_self, and_self, Int.natCast_pos, Int.le_refl, Nat.le_refl, Int.natCast_nonneg, Int.ofNat_lt, Int.ofNat_le, Int.reduceLT, Int.reduceLE, Int.reduceEq, Int.reduceNe, Int.reduceAdd, Int.reduceSub, Int.reduceMul, Int.reduceToNat, Int.reduceNeg, Nat.reduceEqDiff, Nat.reduceLeDiff, Nat.reduceSub, Nat.reduceMul, Nat.reduceLT, Nat.reduceBEq, Nat.reduceAdd]
      exact h
    · simp (maxSteps := 2000000) only [a91, r91, C115, C116, C117, C118, C119, C120, C121, mcH, go_sem, eq_self, and_self, Int.natCast_pos, Int.le_refl, Nat.le_refl, Int.natCast_nonneg, Int.ofNat_lt, Int.ofNat_le, Int.reduceLT, Int.reduceLE, Int.reduceEq, Int.reduceNe, Int.reduceAdd, Int.reduceSub, Int.reduceMul, Int.reduceToNat, Int.reduceNeg, Nat.reduceEqDiff, Nat.reduceLeDiff, Nat.reduceSub, Nat.reduceMul, Nat.reduceLT, Nat.reduceBEq, Nat.reduceAdd]
      exact ⟨rfl, h1, h⟩
    · simp (maxSteps := 2000000) only [a91, r91, C115, C116, C117, C118, C119, C120, C121, mcH, go_sem, eq_self, and_self, Int.natCast_pos, Int.le_refl, Nat.le_refl, Int.natCast_nonneg, Int.ofNat_lt, Int.ofNat_le, Int.reduceLT, Int.reduceLE, Int.reduceEq, Int.reduceNe, Int.reduceAdd, Int.reduceSub, Int.reduceMul, Int.reduceToNat, Int.reduceNeg, Nat.reduceEqDiff, Nat.reduceLeDiff, Nat.reduceSub, Nat.reduceMul, Nat.reduceLT, Nat.reduceBEq, Nat.reduceAdd]
      have b := a1 (.inl rfl)
      exact nd_intro b (nd_intro (by omega) ⟨rfl, h1, h⟩)
    · simp (maxSteps := 2000000) only [a91, r91, C115, C116, C117, C118, C119, C120, C121, mcH, go_sem, eq_self, and_self, Int.natCast_pos, Int.le_refl, Nat.le_refl, Int.natCast_nonneg, Int.ofNat_lt, Int.ofNat_le, Int.reduceLT, Int.reduceLE, Int.reduceEq, Int.reduceNe, Int.reduceAdd, Int.reduceSub, Int.reduceMul, Int.reduceToNat, Int.reduceNeg, Nat.reduceEqDiff, Nat.reduceLeDiff, Nat.reduceSub, Nat.reduceMul, Nat.reduceLT, Nat.reduceBEq, Nat.reduceAdd]
      have b := a1 (.inr rfl)
      refine ⟨h1, ?_⟩
      rw [show stepN M (3 : Int).toNat arg = if (popM M).2.failed = 0 then { (popM M).2 with st := (popM M).2.st.set arg.toNat (popM M).1, ev := (popM M).2.ev ++ [(arg, (popM M).1)] } else (popM M).2 from rfl] at h
      have hev : (popM M).2.ev.length ≤ 1000 := by rw [pk.2.2.2.2.1]; exact hM.ev
      rintro c rfl
      refine sw_intro (fun c1 => ?_) (fun c1 => ?_) <;> simp only [decide_eq_true_eq, decide_eq_false_iff_not] at c1
      · rw [if_pos c1] at h
        exact nd_intro b (nd_intro (by omega) ⟨fun _ => by omega, fun _ => h⟩)
      · rw [if_neg c1] at h
        exact h
    · simp (maxSteps := 2000000) only [a91, r91, C115, C116, C117, C118, C119, C120, C121, mcH, go_sem, eq_self, and_self, Int.natCast_pos, Int.le_refl, Nat.le_refl, Int.natCast_nonneg, Int.ofNat_lt, Int.ofNat_le, Int.reduceLT, Int.reduceLE, Int.reduceEq, Int.reduceNe, Int.reduceAdd, Int.reduceSub, Int.reduceMul, Int.reduceToNat, Int.reduceNeg, Nat.reduceEqDiff, Nat.reduceLeDiff, Nat.reduceSub, Nat.reduceMul, Nat.reduceLT, Nat.reduceBEq, Nat.reduceAdd]
      have b := a2 rfl
      rw [show stepN M (4 : Int).toNat arg = if arg < (M.args.length : Int) then pushM M [elt (.int .i64) M.args arg.toNat] else pushM M [0] from rfl] at h
      rintro _ _ m rfl c rfl
      refine sw_intro (fun c1 => ?_) (fun c1 => ?_) <;> simp only [decide_eq_true_eq, decide_eq_false_iff_not] at c1
      · rw [if_pos c1] at h
        exact nd_intro ⟨b.1, c1⟩ (nd_intro (by omega) ⟨rfl, h1, h⟩)
      · rw [if_neg c1] at h
        exact ⟨rfl, h1, h⟩
    · simp (maxSteps := 2000000) only [a91, r91, C115, C116, C117, C118, C119, C120, C121, mcH, go_sem, eq_self, and_self, Int.natCast_pos, Int.le_refl, Nat.le_refl, Int.natCast_nonneg, Int.ofNat_lt, Int.ofNat_le, Int.reduceLT, Int.reduceLE, Int.reduceEq, Int.reduceNe, Int.reduceAdd, Int.reduceSub, Int.reduceMul, Int.reduceToNat, Int.reduceNeg, Nat.reduceEqDiff, Nat.reduceLeDiff, Nat.reduceSub, Nat.reduceMul, Nat.reduceLT, Nat.reduceBEq, Nat.reduceAdd]
      exact ⟨rfl, h1, h⟩
    · simp (maxSteps := 2000000) only [a91, r91, C115, C116, C117, C118, C119, C120, C121, mcH, go_sem, eq_self, and_self, Int.natCast_pos, Int.le_refl, Nat.le_refl, Int.natCast_nonneg, Int.ofNat_lt, Int.ofNat_le, Int.reduceLT, Int.reduceLE, Int.reduceEq, Int.reduceNe, Int.reduceAdd, Int.reduceSub, Int.reduceMul, Int.reduceToNat, Int.reduceNeg, Nat.reduceEqDiff, Nat.reduceLeDiff, Nat.reduceSub, Nat.reduceMul, Nat.reduceLT, Nat.reduceBEq, Nat.reduceAdd]
      exact ⟨h1, rfl, ht1, h⟩
    · simp (maxSteps := 2000000) only [a91, r91, C115, C116, C117, C118, C119, C120, C121, mcH, go_sem, eq_self, and_self, Int.natCast_pos, Int.le_refl, Nat.le_refl, Int.natCast_nonneg, Int.ofNat_lt, Int.ofNat_le, Int.reduceLT, Int.reduceLE, Int.reduceEq, Int.reduceNe, Int.reduceAdd, Int.reduceSub, Int.reduceMul, Int.reduceToNat, Int.reduceNeg, Nat.reduceEqDiff, Nat.reduceLeDiff, Nat.reduceSub, Nat.reduceMul, Nat.reduceLT, Nat.reduceBEq, Nat.reduceAdd]
      exact ⟨h1, rfl, ht1, h⟩
    · simp (maxSteps := 2000000) only [a91, r91, C115, C116, C117, C118, C119, C120, C121, mcH, go_sem, eq_self, and_self, Int.natCast_pos, Int.le_refl, Nat.le_refl, Int.natCast_nonneg, Int.ofNat_lt, Int.ofNat_le, Int.reduceLT, Int.reduceLE, Int.reduceEq, Int.reduceNe, Int.reduceAdd, Int.reduceSub, Int.reduceMul, Int.reduceToNat, Int.reduceNeg, Nat.reduceEqDiff, Nat.reduceLeDiff, Nat.reduceSub, Nat.reduceMul, Nat.reduceLT, Nat.reduceBEq, Nat.reduceAdd]
      exact ⟨h1, rfl, ht1, h⟩
    · simp (maxSteps := 2000000) only [a91, r91, C115, C116, C117, C118, C119, C120, C121, mcH, go_sem, eq_self, and_self, Int.natCast_pos, Int.le_refl, Nat.le_refl, Int.natCast_nonneg, Int.ofNat_lt, Int.ofNat_le, Int.reduceLT, Int.reduceLE, Int.reduceEq, Int.reduceNe, Int.reduceAdd, Int.reduceSub, Int.reduceMul, Int.reduceToNat, Int.reduceNeg, Nat.reduceEqDiff, Nat.reduceLeDiff, Nat.reduceSub, Nat.reduceMul, Nat.reduceLT, Nat.reduceBEq, Nat.reduceAdd]
      exact ⟨h1, rfl, ht1, h⟩
    · simp (maxSteps := 2000000) only [a91, r91, C115, C116, C117, C118, C119, C120, C121, mcH, go_sem, eq_self, and_self, Int.natCast_pos, Int.le_refl, Nat.le_refl, Int.natCast_nonneg, Int.ofNat_lt, Int.ofNat_le, Int.reduceLT, Int.reduceLE, Int.reduceEq, Int.reduceNe, Int.reduceAdd, Int.reduceSub, Int.reduceMul, Int.reduceToNat, Int.reduceNeg, Nat.reduceEqDiff, Nat.reduceLeDiff, Nat.reduceSub, Nat.reduceMul, Nat.reduceLT, Nat.reduceBEq, Nat.reduceAdd]
      exact ⟨h1, rfl, ht1, h⟩
    · simp (maxSteps := 2000000) only [a91, r91, C115, C116, C117, C118, C119, C120, C121, mcH, go_sem, eq_self, and_self, Int.natCast_pos, Int.le_refl, Nat.le_refl, Int.natCast_nonneg, Int.ofNat_lt, Int.ofNat_le, Int.reduceLT, Int.reduceLE, Int.reduceEq, Int.reduceNe, Int.reduceAdd, Int.reduceSub, Int.reduceMul, Int.reduceToNat, Int.reduceNeg, Nat.reduceEqDiff, Nat.reduceLeDiff, Nat.reduceSub, Nat.reduceMul, Nat.reduceLT, Nat.reduceBEq, Nat.reduceAdd]
      refine ⟨h1, ?_⟩
      rintro c rfl
      exact ⟨rfl, hp1, h⟩
    · simp (maxSteps := 2000000) only [a91, r91, C115, C116, C117, C118, C119, C120, C121, mcH, go_sem, eq_self, and_self, Int.natCast_pos, Int.le_refl, Nat.le_refl, Int.natCast_nonneg, Int.ofNat_lt, Int.ofNat_le, Int.reduceLT, Int.reduceLE, Int.reduceEq, Int.reduceNe, Int.reduceAdd, Int.reduceSub, Int.reduceMul, Int.reduceToNat, Int.reduceNeg, Nat.reduceEqDiff, Nat.reduceLeDiff, Nat.reduceSub, Nat.reduceMul, Nat.reduceLT, Nat.reduceBEq, Nat.reduceAdd]
      exact ⟨h1, rfl, hp1, h⟩
    · simp (maxSteps := 2000000) only [a91, r91, C115, C116, C117, C118, C119, C120, C121, mcH, go_sem, eq_self, and_self, Int.natCast_pos, Int.le_refl, Nat.le_refl, Int.natCast_nonneg, Int.ofNat_lt, Int.ofNat_le, Int.reduceLT, Int.reduceLE, Int.reduceEq, Int.reduceNe, Int.reduceAdd, Int.reduceSub, Int.reduceMul, Int.reduceToNat, Int.reduceNeg, Nat.reduceEqDiff, Nat.reduceLeDiff, Nat.reduceSub, Nat.reduceMul, Nat.reduceLT, Nat.reduceBEq, Nat.reduceAdd]
      exact ⟨h1, h⟩
    · simp (maxSteps := 2000000) only [a91, r91, C115, C116, C117, C118, C119, C120, C121, mcH, go_sem, eq_self, and_self, Int.natCast_pos, Int.le_refl, Nat.le_refl, Int.natCast_nonneg, Int.ofNat_lt, Int.ofNat_le, Int.reduceLT, Int.reduceLE, Int.reduceEq, Int.reduceNe, Int.reduceAdd, Int.reduceSub, Int.reduceMul, Int.reduceToNat, Int.reduceNeg, Nat.reduceEqDiff, Nat.reduceLeDiff, Nat.reduceSub, Nat.reduceMul, Nat.reduceLT, Nat.reduceBEq, Nat.reduceAdd]
      exact ⟨h1, rfl, ht1, h⟩
    · simp (maxSteps := 2000000) only [a91, r91, C115, C116, C117, C118, C119, C120, C121, mcH, go_sem, eq_self, and_self, Int.natCast_pos, Int.le_refl, Nat.le_refl, Int.natCast_nonneg, Int.ofNat_lt, Int.ofNat_le, Int.reduceLT, Int.reduceLE, Int.reduceEq, Int.reduceNe, Int.reduceAdd, Int.reduceSub, Int.reduceMul, Int.reduceToNat, Int.reduceNeg, Nat.reduceEqDiff, Nat.reduceLeDiff, Nat.reduceSub, Nat.reduceMul, Nat.reduceLT, Nat.reduceBEq, Nat.reduceAdd]
      exact h
    · simp (maxSteps := 2000000) only [a91, r91, C115, C116, C117, C118, C119, C120, C121, mcH, go_sem, eq_self, and_self, Int.natCast_pos, Int.le_refl, Nat.le_refl, Int.natCast_nonneg, Int.ofNat_lt, Int.ofNat_le, Int.reduceLT, Int.reduceLE, Int.reduceEq, Int.reduceNe, Int.reduceAdd, Int.reduceSub, Int.reduceMul, Int.reduceToNat, Int.reduceNeg, Nat.reduceEqDiff, Nat.reduceLeDiff, Nat.reduceSub, Nat.reduceMul, Nat.reduceLT, Nat.reduceBEq, Nat.reduceAdd]
      refine ⟨h1, ?_⟩
      rw [show stepN M (16 : Int).toNat arg = if (popM M).1 = 0 ∧ (popM M).2.failed = 0 then { (popM M).2 with pc := arg } else (popM M).2 from rfl] at h
      rintro c rfl
      refine sw_intro (fun c1 => ?_) (fun c1 => ?_) <;> simp only [decide_eq_true_eq, decide_eq_false_iff_not] at c1
      · rintro c rfl
        refine sw_intro (fun c2 => ?_) (fun c2 => ?_) <;> simp only [decide_eq_true_eq, decide_eq_false_iff_not] at c2
        · rw [if_pos ⟨c1, c2⟩] at h
          exact h
        · rw [if_neg (fun hh => c2 hh.2)] at h
          exact h
      · rw [if_neg (fun hh => c1 hh.1)] at h
        exact h
    · simp (maxSteps := 2000000) only [a91, r91, C115, C116, C117, C118, C119, C120, C121, mcH, go_sem, eq_self, and_self, Int.natCast_pos, Int.le_refl, Nat.le_refl, Int.natCast_nonneg, Int.ofNat_lt, Int.ofNat_le, Int.reduceLT, Int.reduceLE, Int.reduceEq, Int.reduceNe, Int.reduceAdd, Int.reduceSub, Int.reduceMul, Int.reduceToNat, Int.reduceNeg, Nat.reduceEqDiff, Nat.reduceLeDiff, Nat.reduceSub, Nat.reduceMul, Nat.reduceLT, Nat.reduceBEq, Nat.reduceAdd]
      exact ⟨h1, hM.sent, hM.tim, fun _ => a3 (.inl rfl), h⟩
    · simp (maxSteps := 2000000) only [a91, r91, C115, C116, C117, C118, C119, C120, C121, mcH, go_sem, eq_self, and_self, Int.natCast_pos, Int.le_refl, Nat.le_refl, Int.natCast_nonneg, Int.ofNat_lt, Int.ofNat_le, Int.reduceLT, Int.reduceLE, Int.reduceEq, Int.reduceNe, Int.reduceAdd, Int.reduceSub, Int.reduceMul, Int.reduceToNat, Int.reduceNeg, Nat.reduceEqDiff, Nat.reduceLeDiff, Nat.reduceSub, Nat.reduceMul, Nat.reduceLT, Nat.reduceBEq, Nat.reduceAdd]
      exact ⟨h1, hM.sent, hM.tim, fun h9 => by simp at h9, h⟩
    · simp (maxSteps := 2000000) only [a91, r91, C115, C116, C117, C118, C119, C120, C121, mcH, go_sem, eq_self, and_self, Int.natCast_pos, Int.le_refl, Nat.le_refl, Int.natCast_nonneg, Int.ofNat_lt, Int.ofNat_le, Int.reduceLT, Int.reduceLE, Int.reduceEq, Int.reduceNe, Int.reduceAdd, Int.reduceSub, Int.reduceMul, Int.reduceToNat, Int.reduceNeg, Nat.reduceEqDiff, Nat.reduceLeDiff, Nat.reduceSub, Nat.reduceMul, Nat.reduceLT, Nat.reduceBEq, Nat.reduceAdd]
      exact ⟨h1, hM.sent, hM.tim, fun _ => a3 (.inr (.inl rfl)), h⟩
    · simp (maxSteps := 2000000) only [a91, r91, C115, C116, C117, C118, C119, C120, C121, mcH, go_sem, eq_self, and_self, Int.natCast_pos, Int.le_refl, Nat.le_refl, Int.natCast_nonneg, Int.ofNat_lt, Int.ofNat_le, Int.reduceLT, Int.reduceLE, Int.reduceEq, Int.reduceNe, Int.reduceAdd, Int.reduceSub, Int.reduceMul, Int.reduceToNat, Int.reduceNeg, Nat.reduceEqDiff, Nat.reduceLeDiff, Nat.reduceSub, Nat.reduceMul, Nat.reduceLT, Nat.reduceBEq, Nat.reduceAdd]
      exact ⟨h1, hM.sent, hM.tim, fun _ => a3 (.inr (.inr rfl)), h⟩
    · simp (maxSteps := 2000000) only [a91, r91, C115, C116, C117, C118, C119, C120, C121, mcH, go_sem, eq_self, and_self, Int.natCast_pos, Int.le_refl, Nat.le_refl, Int.natCast_nonneg, Int.ofNat_lt, Int.ofNat_le, Int.reduceLT, Int.reduceLE, Int.reduceEq, Int.reduceNe, Int.reduceAdd, Int.reduceSub, Int.reduceMul, Int.reduceToNat, Int.reduceNeg, Nat.reduceEqDiff, Nat.reduceLeDiff, Nat.reduceSub, Nat.reduceMul, Nat.reduceLT, Nat.reduceBEq, Nat.reduceAdd]
      exact h
    · simp (maxSteps := 2000000) only [a91, r91, C115, C116, C117, C118, C119, C120, C121, mcH, go_sem, eq_self, and_self, Int.natCast_pos, Int.le_refl, Nat.le_refl, Int.natCast_nonneg, Int.ofNat_lt, Int.ofNat_le, Int.reduceLT, Int.reduceLE, Int.reduceEq, Int.reduceNe, Int.reduceAdd, Int.reduceSub, Int.reduceMul, Int.reduceToNat, Int.reduceNeg, Nat.reduceEqDiff, Nat.reduceLeDiff, Nat.reduceSub, Nat.reduceMul, Nat.reduceLT, Nat.reduceBEq, Nat.reduceAdd]
      exact ⟨rfl, h1, h⟩
    · simp (maxSteps := 2000000) only [a91, r91, C115, C116, C117, C118, C119, C120, C121, mcH, go_sem, eq_self, and_self, Int.natCast_pos, Int.le_refl, Nat.le_refl, Int.natCast_nonneg, Int.ofNat_lt, Int.ofNat_le, Int.reduceLT, Int.reduceLE, Int.reduceEq, Int.reduceNe, Int.reduceAdd, Int.reduceSub, Int.reduceMul, Int.reduceToNat, Int.reduceNeg, Nat.reduceEqDiff, Nat.reduceLeDiff, Nat.reduceSub, Nat.reduceMul, Nat.reduceLT, Nat.reduceBEq, Nat.reduceAdd]
      rintro _ m rfl
      exact ⟨rfl, h1, h⟩
  · exact h.elim
end Go.V
