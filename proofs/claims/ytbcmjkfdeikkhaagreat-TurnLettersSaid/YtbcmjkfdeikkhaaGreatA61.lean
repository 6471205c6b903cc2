/- A part of the proof layer, or functions of the given program in it: contracts and their proofs. -/
import Derived.Test.YtbcmjkfdeikkhaaGreatA60
namespace Go.V
open Go.Proofs
set_option maxRecDepth 100000
set_option maxHeartbeats 4000000
set_option linter.unusedSimpArgs false
set_option linter.unnecessarySimpa false
set_option linter.unusedVariables false
def sendM (T : Mc) (to : ByteArray) (x y : Int) : Mc :=
  if to = ByteArray.empty then T
  else if (refM T (decide (4 ≤ (T.sent.length : Int)))).failed = 0 then { (refM T (decide (4 ≤ (T.sent.length : Int)))) with sent := (refM T (decide (4 ≤ (T.sent.length : Int)))).sent ++ [(to, x, y)] }
  else refM T (decide (4 ≤ (T.sent.length : Int)))
def remM (T : Mc) (nm : ByteArray) (x y : Int) (b : Bool) : Mc :=
  if (refM T b).failed = 0 then { (refM T b) with tim := (refM T b).tim ++ [(nm, false, IntKind.i64.wrap (T.now + x), y, (refM T b).k)] } else refM T b
def badR (T : Mc) (x y : Int) : Bool := decide (x < 0) || (decide (IntKind.i64.wrap (T.now + x) < 0) || decide (y < 1))
def nmI (M : Mc) (arg : Int) : ByteArray := elt .str M.names arg.toNat
def outM (M : Mc) (op arg : Int) : Mc :=
  if op = 17 then sendM (twoM M).2 (nmI (twoM M).2 arg) (twoM M).1.1 (twoM M).1.2
  else if op = 18 then sendM (twoM M).2 (twoM M).2.f (twoM M).1.1 (twoM M).1.2
  else if op = 19 then remM (twoM M).2 (nmI (refM (twoM M).2 (badR (twoM M).2 (twoM M).1.1 (twoM M).1.2)) arg) (twoM M).1.1 (twoM M).1.2 (badR (twoM M).2 (twoM M).1.1 (twoM M).1.2)
  else if op = 20 then { M with tim := M.tim ++ [(nmI M arg, true, 0, 0, 0)] }
  else M
theorem popM_keep (M : Mc) : (popM M).2.names = M.names ∧ (popM M).2.sent = M.sent ∧ (popM M).2.tim = M.tim ∧ (popM M).2.st = M.st ∧ (popM M).2.ev = M.ev ∧ (popM M).2.code = M.code ∧ (popM M).2.steps = M.steps ∧ (popM M).2.args = M.args := by
  unfold popM
  split
  · exact ⟨rfl, rfl, rfl, rfl, rfl, rfl, rfl, rfl⟩
  · split <;> exact ⟨rfl, rfl, rfl, rfl, rfl, rfl, rfl, rfl⟩
theorem twoM_keep (M : Mc) : (twoM M).2.names = M.names ∧ (twoM M).2.sent = M.sent ∧ (twoM M).2.tim = M.tim ∧ (twoM M).2.st = M.st ∧ (twoM M).2.ev = M.ev ∧ (twoM M).2.code = M.code ∧ (twoM M).2.steps = M.steps ∧ (twoM M).2.args = M.args := by
  have h1 := popM_keep M
  have h2 := popM_keep (popM M).2
  unfold twoM
  exact ⟨h2.1.trans h1.1, h2.2.1.trans h1.2.1, h2.2.2.1.trans h1.2.2.1, h2.2.2.2.1.trans h1.2.2.2.1, h2.2.2.2.2.1.trans h1.2.2.2.2.1, h2.2.2.2.2.2.1.trans h1.2.2.2.2.2.1, h2.2.2.2.2.2.2.1.trans h1.2.2.2.2.2.2.1, h2.2.2.2.2.2.2.2.trans h1.2.2.2.2.2.2.2⟩
theorem refM_keep (M : Mc) (b : Bool) : (refM M b).names = M.names ∧ (refM M b).sent = M.sent ∧ (refM M b).tim = M.tim ∧ (refM M b).st = M.st ∧ (refM M b).ev = M.ev ∧ (refM M b).code = M.code ∧ (refM M b).steps = M.steps ∧ (refM M b).args = M.args ∧ (refM M b).stack = M.stack := by
  unfold refM
  split <;> exact ⟨rfl, rfl, rfl, rfl, rfl, rfl, rfl, rfl, rfl⟩
theorem twoM_stack {M : Mc} (h : M.stack.length ≤ 16) : (twoM M).2.stack.length ≤ 16 := popM_stack (popM_stack h)
/-- out -/
def C121 : Contract := fun args hp K => match args with
  | [.ptr 0 0, .agg [.int .i64 op, .int .i64 arg]] => onM hp fun M => M.stack.length ≤ 16 ∧ M.sent.length ≤ 1000 ∧ M.tim.length ≤ 1000 ∧ (17 ≤ op ∧ op ≤ 20) ∧ (op = 17 ∨ op = 19 ∨ op = 20 → 0 ≤ arg ∧ arg < M.names.length) ∧ K (.tup []) (mcH true (outM M op arg))
  | _ => False
theorem s121 : Sound Tryz.prog 121 C121 := by
  refine sound_of_okF ok121 (Γ := [(119, C119), (120, C120)]) (.cons s119 (callable_of_okF ok119) (.cons s120 (callable_of_okF ok120) .nil)) ?_
  intro args hp K h
  unfold C121 at h
  split at h
  · rename_i op arg
    obtain ⟨M, rfl, h1, h2, h3, h5, h4, h⟩ := h
    refine ⟨by simp, [], ?_⟩
    have hmx := maxLen_val
    have tk := twoM_keep M
    have ks : ∀ b, (refM (twoM M).2 b).sent.length = M.sent.length := fun b => by rw [(refM_keep _ b).2.1, tk.2.1]
    have kt : ∀ b, (refM (twoM M).2 b).tim.length = M.tim.length := fun b => by rw [(refM_keep _ b).2.2.1, tk.2.2.1]
    have kn : ∀ b, (refM (twoM M).2 b).names.length = M.names.length := fun b => by rw [(refM_keep _ b).1, tk.1]
    have kn0 : (twoM M).2.names.length = M.names.length := by rw [tk.1]
    unfold outM at h
    by_cases c17 : op = 17
    · subst c17
      rw [if_pos rfl] at h
      have h4 := h4 (.inl rfl)
      unfold mcH at h ⊢
      simp (maxSteps := 2000000) only [a121, r121, C119, C120, mcH, go_sem, eq_self, and_self, Int.natCast_pos, Int.le_refl, Nat.le_refl, Int.natCast_nonneg, Int.ofNat_lt, Int.ofNat_le, Int.reduceLT, Int.reduceLE, Int.reduceEq, Int.reduceNe, Int.reduceAdd, Int.reduceSub, Int.reduceMul, Int.reduceToNat, Int.reduceNeg, Nat.reduceEqDiff, Nat.reduceLeDiff, Nat.reduceSub, Nat.reduceMul, Nat.reduceLT, Nat.reduceBEq, Nat.reduceAdd]
      refine ⟨h1, nd_intro ⟨h4.1, by omega⟩ (nd_intro (by omega) ?_)⟩
      unfold nmI at h
      generalize elt .str (twoM M).2.names arg.toNat = to at *
      unfold sendM at h
      rintro c rfl
      refine sw_intro (fun c1 => ?_) (fun c1 => ?_) <;> simp only [decide_eq_true_eq, decide_eq_false_iff_not] at c1
      · rw [if_pos c1] at h
        exact h
      rw [if_neg c1] at h
      rintro _ _ m rfl c rfl
      refine sw_intro (fun c2 => ?_) (fun c2 => ?_) <;> simp only [decide_eq_true_eq, decide_eq_false_iff_not] at c2
      · rw [if_pos c2] at h
        have := ks (decide (4 ≤ ((twoM M).2.sent.length : Int)))
        exact ⟨fun _ => by omega, fun _ => h⟩
      · rw [if_neg c2] at h
        exact h
    rw [if_neg c17] at h
    by_cases c18 : op = 18
    · subst c18
      rw [if_pos rfl] at h
      unfold mcH at h ⊢
      simp (maxSteps := 2000000) only [a121, r121, C119, C120, mcH, go_sem, eq_self, and_self, Int.natCast_pos, Int.le_refl, Nat.le_refl, Int.natCast_nonneg, Int.ofNat_lt, Int.ofNat_le, Int.reduceLT, Int.reduceLE, Int.reduceEq, Int.reduceNe, Int.reduceAdd, Int.reduceSub, Int.reduceMul, Int.reduceToNat, Int.reduceNeg, Nat.reduceEqDiff, Nat.reduceLeDiff, Nat.reduceSub, Nat.reduceMul, Nat.reduceLT, Nat.reduceBEq, Nat.reduceAdd]
      refine ⟨h1, ?_⟩
      unfold sendM at h
      rintro c rfl
      refine sw_intro (fun c1 => ?_) (fun c1 => ?_) <;> simp only [decide_eq_true_eq, decide_eq_false_iff_not] at c1
      · rw [if_pos c1] at h
        exact h
      rw [if_neg c1] at h
      rintro _ _ m rfl c rfl
      refine sw_intro (fun c2 => ?_) (fun c2 => ?_) <;> simp only [decide_eq_true_eq, decide_eq_false_iff_not] at c2
      · rw [if_pos c2] at h
        have := ks (decide (4 ≤ ((twoM M).2.sent.length : Int)))
        exact ⟨fun _ => by omega, fun _ => h⟩
      · rw [if_neg c2] at h
        exact h
    rw [if_neg c18] at h
    by_cases c19 : op = 19
    · subst c19
      rw [if_pos rfl] at h
      have h4 := h4 (.inr (.inl rfl))
      unfold mcH at h ⊢
      simp (maxSteps := 2000000) only [a121, r121, C119, C120, mcH, go_sem, eq_self, and_self, Int.natCast_pos, Int.le_refl, Nat.le_refl, Int.natCast_nonneg, Int.ofNat_lt, Int.ofNat_le, Int.reduceLT, Int.reduceLE, Int.reduceEq, Int.reduceNe, Int.reduceAdd, Int.reduceSub, Int.reduceMul, Int.reduceToNat, Int.reduceNeg, Nat.reduceEqDiff, Nat.reduceLeDiff, Nat.reduceSub, Nat.reduceMul, Nat.reduceLT, Nat.reduceBEq, Nat.reduceAdd]
      refine ⟨h1, ?_⟩
      rintro _ _ m rfl
      unfold remM nmI at h
      rintro c rfl
      refine sw_intro (fun c1 => ?_) (fun c1 => ?_)
      · have hb : badR (twoM M).2 (twoM M).1.1 (twoM M).1.2 = true := by unfold badR; rw [c1]; rfl
        rw [hb] at h
        refine sw_intro (fun c3 => ?_) (fun c3 => ?_) <;> simp only [decide_eq_true_eq, decide_eq_false_iff_not] at c3
        · rw [if_pos c3] at h
          have a1 := kt true
          have a2 := kn true
          exact nd_intro ⟨h4.1, by omega⟩ (nd_intro (by omega) ⟨fun _ => by omega, fun _ => h⟩)
        · rw [if_neg c3] at h
          exact h
      rintro c rfl
      refine sw_intro (fun c2 => ?_) (fun c2 => ?_)
      · have hb : badR (twoM M).2 (twoM M).1.1 (twoM M).1.2 = true := by unfold badR; rw [c1, c2]; rfl
        rw [hb] at h
        refine sw_intro (fun c3 => ?_) (fun c3 => ?_) <;> simp only [decide_eq_true_eq, decide_eq_false_iff_not] at c3
        · rw [if_pos c3] at h
          have a1 := kt true
          have a2 := kn true
          exact nd_intro ⟨h4.1, by omega⟩ (nd_intro (by omega) ⟨fun _ => by omega, fun _ => h⟩)
        · rw [if_neg c3] at h
          exact h
      · have hb : badR (twoM M).2 (twoM M).1.1 (twoM M).1.2 = decide ((twoM M).1.2 < 1) := by unfold badR; rw [c1, c2]; rfl
        rw [hb] at h
        rintro c rfl
        refine sw_intro (fun c3 => ?_) (fun c3 => ?_) <;> simp only [decide_eq_true_eq, decide_eq_false_iff_not] at c3
        · rw [if_pos c3] at h
          have a1 := kt (decide ((twoM M).1.2 < 1))
          have a2 := kn (decide ((twoM M).1.2 < 1))
          exact nd_intro ⟨h4.1, by omega⟩ (nd_intro (by omega) ⟨fun _ => by omega, fun _ => h⟩)
        · rw [if_neg c3] at h
          exact h
    rw [if_neg c19] at h
    by_cases c20 : op = 20
    · subst c20
      rw [if_pos rfl] at h
      have h4 := h4 (.inr (.inr rfl))
      unfold mcH at h ⊢
      simp (maxSteps := 2000000) only [a121, r121, C119, C120, mcH, go_sem, eq_self, and_self, Int.natCast_pos, Int.le_refl, Nat.le_refl, Int.natCast_nonneg, Int.ofNat_lt, Int.ofNat_le, Int.reduceLT, Int.reduceLE, Int.reduceEq, Int.reduceNe, Int.reduceAdd, Int.reduceSub, Int.reduceMul, Int.reduceToNat, Int.reduceNeg, Nat.reduceEqDiff, Nat.reduceLeDiff, Nat.reduceSub, Nat.reduceMul, Nat.reduceLT, Nat.reduceBEq, Nat.reduceAdd]
      unfold nmI at h
      exact nd_intro ⟨h4.1, by omega⟩ (nd_intro (by omega) ⟨fun _ => by omega, fun _ => h⟩)
    omega
  · exact h.elim
end Go.V
