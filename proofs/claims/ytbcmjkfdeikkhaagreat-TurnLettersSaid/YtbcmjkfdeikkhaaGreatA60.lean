/- A part of the proof layer, or functions of the given program in it: contracts and their proofs. -/
import Derived.Test.YtbcmjkfdeikkhaaGreatA46
import Derived.Test.YtbcmjkfdeikkhaaGreatN4
namespace Go.V
open Go.Proofs
set_option maxRecDepth 100000
set_option maxHeartbeats 4000000
set_option linter.unusedSimpArgs false
set_option linter.unnecessarySimpa false
set_option linter.unusedVariables false
/-! ### the machine -/
abbrev SentT : Ty := .pair .str (.pair (.int .i64) (.int .i64))
abbrev TimT : Ty := .pair .str (.pair .bool (.pair (.int .i64) (.pair (.int .i64) (.int .i64))))
structure Mc where
  names : List ByteArray
  code : List EvT.den
  f : ByteArray
  s : Int
  k : Int
  args : List Int
  now : Int
  pc : Int
  stack : List Int
  st : List Int
  ev : List EvT.den
  sent : List SentT.den
  tim : List TimT.den
  steps : Int
  failed : Int
  done : Bool
def mcH (mv : Bool) (M : Mc) : List SB := [.struct [.sl true 16 .str M.names, .sl true 16 EvT M.code, .str M.f, .int .u64 M.s, .int .i64 M.k, .sl true 8 (.int .i64) M.args, .int .i64 M.now, .int .i64 M.pc, .own 1, .arr 8 (.int .i64) M.st, .own 2, .own 3, .own 4, .int .i64 M.steps, .int .i64 M.failed, .bool M.done],
  .row mv 8 (.int .i64) M.stack, .row mv 16 EvT M.ev, .row mv 32 SentT M.sent, .row mv 48 TimT M.tim]
def onM (hp : List SB) (K : Mc → Prop) : Prop := ∃ M, hp = mcH false M ∧ K M
@[go_sem] theorem onM_eq {names code f s k args now pc stack st ev sent tim steps failed done K} : onM [.struct [.sl true 16 .str (no_index names), .sl true 16 (.pair (.int .i64) (.int .i64)) (no_index code), .str f, .int .u64 s, .int .i64 k, .sl true 8 (.int .i64) (no_index args), .int .i64 now, .int .i64 pc, .own 1, .arr 8 (.int .i64) (no_index st), .own 2, .own 3, .own 4, .int .i64 steps, .int .i64 failed, .bool done],
  .row false 8 (.int .i64) (no_index stack), .row false 16 (.pair (.int .i64) (.int .i64)) (no_index ev), .row false 32 (.pair .str (.pair (.int .i64) (.int .i64))) (no_index sent), .row false 48 (.pair .str (.pair .bool (.pair (.int .i64) (.pair (.int .i64) (.int .i64))))) (no_index tim)] K = K ⟨names, code, f, s, k, args, now, pc, stack, st, ev, sent, tim, steps, failed, done⟩ := by
  apply propext; constructor
  · rintro ⟨M, h, hk⟩
    unfold mcH at h
    cases h
    exact hk
  · exact fun h => ⟨_, rfl, h⟩
@[go_sem] theorem Mc.fold (M : Mc) : Mc.mk M.names M.code M.f M.s M.k M.args M.now M.pc M.stack M.st M.ev M.sent M.tim M.steps M.failed M.done = M := rfl
def pushM (M : Mc) (xs : List Int) : Mc :=
  if M.failed ≠ 0 then M else if 16 < M.stack.length + xs.length then { M with failed := 10 } else { M with stack := M.stack ++ xs }
def popM (M : Mc) : Int × Mc :=
  if M.failed ≠ 0 then (0, M) else if M.stack.length = 0 then (0, { M with failed := 10 }) else (M.stack.getD (M.stack.length - 1) 0, { M with stack := M.stack.take (M.stack.length - 1) })
/-- push -/
def C115 : Contract := fun args hp K => match args with
  | [.ptr 0 0, .sl p 8 (.int .i64) xs] => onM hp fun M => M.stack.length ≤ 16 ∧ (xs : List Int).length ≤ 16 ∧ K (.tup []) (mcH true (pushM M xs))
  | _ => False
theorem s115 : Sound Tryz.prog 115 C115 := by
  refine sound_of_okF ok115 (Γ := []) .nil ?_
  intro args hp K h
  unfold C115 at h
  split at h
  · rename_i p xs
    obtain ⟨M, rfl, h1, h2, h⟩ := h
    refine ⟨by simp, [], ?_⟩
    unfold mcH at h ⊢
    simp (maxSteps := 2000000) only [a115, r115, go_sem, eq_self, and_self, Int.natCast_pos, Int.le_refl, Nat.le_refl, Int.natCast_nonneg, Int.ofNat_lt, Int.ofNat_le, Int.reduceLT, Int.reduceLE, Int.reduceEq, Int.reduceNe, Int.reduceAdd, Int.reduceSub, Int.reduceMul, Int.reduceToNat, Int.reduceNeg, Nat.reduceEqDiff, Nat.reduceLeDiff, Nat.reduceSub, Nat.reduceMul, Nat.reduceLT, Nat.reduceBEq, Nat.reduceAdd]
    have hmx := maxLen_val
    unfold pushM at h
    rintro c rfl
    refine sw_intro (fun hc => ?_) (fun hc => ?_)
    · rw [if_pos (by simpa using hc)] at h
      exact h
    · rw [if_neg (by simpa using hc)] at h
      rintro _ _ m rfl _ _ m1 rfl _ _ m2 hm2 c rfl
      rw [w64 (by omega)] at hm2
      subst hm2
      refine sw_intro (fun hc2 => ?_) (fun hc2 => ?_) <;> simp only [decide_eq_true_eq, decide_eq_false_iff_not] at hc2
      · rw [if_pos (by omega)] at h
        exact h
      · rw [if_neg (by omega)] at h
        exact ⟨fun _ _ => by omega, fun _ => h⟩
  · exact h.elim
/-- pop -/
def C116 : Contract := fun args hp K => match args with
  | [.ptr 0 0] => onM hp fun M => M.stack.length ≤ 16 ∧ K (.int .i64 (popM M).1) (mcH true (popM M).2)
  | _ => False
theorem s116 : Sound Tryz.prog 116 C116 := by
  refine sound_of_okF ok116 (Γ := []) .nil ?_
  intro args hp K h
  unfold C116 at h
  split at h
  · obtain ⟨M, rfl, h1, h⟩ := h
    refine ⟨by simp, [], ?_⟩
    unfold mcH at h ⊢
    simp (maxSteps := 2000000) only [a116, r116, go_sem, eq_self, and_self, Int.natCast_pos, Int.le_refl, Nat.le_refl, Int.natCast_nonneg, Int.ofNat_lt, Int.ofNat_le, Int.reduceLT, Int.reduceLE, Int.reduceEq, Int.reduceNe, Int.reduceAdd, Int.reduceSub, Int.reduceMul, Int.reduceToNat, Int.reduceNeg, Nat.reduceEqDiff, Nat.reduceLeDiff, Nat.reduceSub, Nat.reduceMul, Nat.reduceLT, Nat.reduceBEq, Nat.reduceAdd]
    have hmx := maxLen_val
    unfold popM at h
    rintro c rfl
    refine sw_intro (fun hc => ?_) (fun hc => ?_)
    · rw [if_pos (by simpa using hc)] at h
      exact h
    · rw [if_neg (by simpa using hc)] at h
      rintro _ _ m rfl c rfl
      refine sw_intro (fun hc2 => ?_) (fun hc2 => ?_) <;> simp only [decide_eq_true_eq, decide_eq_false_iff_not] at hc2
      · rw [if_pos (by omega)] at h
        exact h
      · rw [if_neg (by omega)] at h
        rintro _ _ m rfl _ _ m1 hm1
        rw [w64 (by omega)] at hm1
        subst hm1
        refine nd_intro ⟨by omega, by omega⟩ (nd_intro (by omega) ?_)
        rintro _ _ m rfl _ _ m2 hm2
        rw [w64 (by omega)] at hm2
        subst hm2
        refine nd_intro ⟨by omega, by omega⟩ ?_
        have e1 : ((M.stack.length : Int) - 1).toNat = M.stack.length - 1 := by omega
        rw [e1, Nat.sub_zero]
        exact h
  · exact h.elim
def twoM (M : Mc) : (Int × Int) × Mc := (((popM (popM M).2).1, (popM M).1), (popM (popM M).2).2)
theorem popM_stack {M : Mc} (h : M.stack.length ≤ 16) : (popM M).2.stack.length ≤ 16 := by
  unfold popM
  split
  · exact h
  · split
    · exact h
    · show (M.stack.take _).length ≤ 16
      rw [List.length_take]; omega
/-- two -/
def C119 : Contract := fun args hp K => match args with
  | [.ptr 0 0] => onM hp fun M => M.stack.length ≤ 16 ∧ K (.tup [.int .i64 (twoM M).1.1, .int .i64 (twoM M).1.2]) (mcH true (twoM M).2)
  | _ => False
theorem s119 : Sound Tryz.prog 119 C119 := by
  refine sound_of_okF ok119 (Γ := [(116, C116)]) (.cons s116 (callable_of_okF ok116) .nil) ?_
  intro args hp K h
  unfold C119 at h
  split at h
  · obtain ⟨M, rfl, h1, h⟩ := h
    refine ⟨by simp, [], ?_⟩
    unfold mcH at h ⊢
    simp (maxSteps := 2000000) only [a119, r119, C116, mcH, go_sem, eq_self, and_self, Int.natCast_pos, Int.le_refl, Nat.le_refl, Int.natCast_nonneg, Int.ofNat_lt, Int.ofNat_le, Int.reduceLT, Int.reduceLE, Int.reduceEq, Int.reduceNe, Int.reduceAdd, Int.reduceSub, Int.reduceMul, Int.reduceToNat, Int.reduceNeg, Nat.reduceEqDiff, Nat.reduceLeDiff, Nat.reduceSub, Nat.reduceMul, Nat.reduceLT, Nat.reduceBEq, Nat.reduceAdd]
    exact ⟨h1, popM_stack h1, h⟩
  · exact h.elim
def refM (M : Mc) (b : Bool) : Mc := if b = true ∧ M.failed = 0 then { M with failed := 12 } else M
/-- refuse -/
def C120 : Contract := fun args hp K => match args with
  | [.ptr 0 0, .bool b] => onM hp fun M => K (.bool (!decide ((refM M b).failed = 0))) (mcH false (refM M b))
  | _ => False
theorem s120 : Sound Tryz.prog 120 C120 := by
  refine sound_of_okF ok120 (Γ := []) .nil ?_
  intro args hp K h
  unfold C120 at h
  split at h
  · rename_i b
    obtain ⟨M, rfl, h⟩ := h
    refine ⟨by simp, [], ?_⟩
    unfold mcH at h ⊢
    simp (maxSteps := 2000000) only [a120, r120, go_sem, eq_self, and_self, Int.natCast_pos, Int.le_refl, Nat.le_refl, Int.natCast_nonneg, Int.ofNat_lt, Int.ofNat_le, Int.reduceLT, Int.reduceLE, Int.reduceEq, Int.reduceNe, Int.reduceAdd, Int.reduceSub, Int.reduceMul, Int.reduceToNat, Int.reduceNeg, Nat.reduceEqDiff, Nat.reduceLeDiff, Nat.reduceSub, Nat.reduceMul, Nat.reduceLT, Nat.reduceBEq, Nat.reduceAdd]
    have e : ∀ c : Bool, (refM M b = if b = true ∧ M.failed = 0 then { M with failed := 12 } else M) := fun _ => rfl
    by_cases hb : b = true ∧ M.failed = 0
    · rw [show refM M b = { M with failed := 12 } from if_pos hb] at h
      rw [hb.1]
      refine sw_intro (fun _ => ?_) (fun h9 => by cases h9)
      rintro c rfl
      refine sw_intro (fun _ => h) (fun h9 => absurd hb.2 (by simpa using h9))
    · rw [show refM M b = M from if_neg hb] at h
      refine sw_intro (fun h1 => ?_) (fun h1 => ?_)
      · rintro c rfl
        refine sw_intro (fun h9 => absurd ⟨h1, by simpa using h9⟩ hb) (fun _ => ?_)
        rintro c rfl
        exact h
      · rintro c rfl
        exact h
  · exact h.elim
def truthI (b : Bool) : Int := bif b then 1 else 0
def C118 : Contract := fun args hp K => match args, hp with
  | [.bool b], [] => K (.int .i64 (truthI b)) []
  | _, _ => False
theorem s118 : Sound Tryz.prog 118 C118 := by
  refine sound_of_okF ok118 (Γ := []) .nil ?_
  intro args hp K h
  unfold C118 at h
  split at h
  · rename_i b
    refine ⟨by simp, [], ?_⟩
    simp (maxSteps := 2000000) only [a118, r118, go_sem, eq_self, and_self, Int.natCast_pos, Int.le_refl, Nat.le_refl, Int.natCast_nonneg, Int.ofNat_lt, Int.ofNat_le, Int.reduceLT, Int.reduceLE, Int.reduceEq, Int.reduceNe, Int.reduceAdd, Int.reduceSub, Int.reduceMul, Int.reduceToNat, Int.reduceNeg, Nat.reduceEqDiff, Nat.reduceLeDiff, Nat.reduceSub, Nat.reduceMul, Nat.reduceLT, Nat.reduceBEq, Nat.reduceAdd]
    cases b <;> exact h
  · exact h.elim
/-- What an operation of two integers comes to. -/
def opI (op x y : Int) : Int := if op = 6 then IntKind.i64.wrap (x + y) else if op = 7 then IntKind.i64.wrap (x - y) else if op = 8 then IntKind.i64.wrap (x * y) else if op = 9 then truthI (decide (x < y)) else truthI (decide (x = y))
/-- reckon -/
def C117 : Contract := fun args hp K => match args with
  | [.int .i64 op, .ptr 0 0] => onM hp fun M => M.stack.length ≤ 16 ∧ K (.int .i64 (opI op (twoM M).1.1 (twoM M).1.2)) (mcH true (twoM M).2)
  | _ => False
theorem s117 : Sound Tryz.prog 117 C117 := by
  refine sound_of_okF ok117 (Γ := [(119, C119), (118, C118)]) (.cons s119 (callable_of_okF ok119) (.cons s118 (callable_of_okF ok118) .nil)) ?_
  intro args hp K h
  unfold C117 at h
  split at h
  · rename_i op
    obtain ⟨M, rfl, h1, h⟩ := h
    refine ⟨by simp, [], ?_⟩
    unfold mcH at h ⊢
    simp (maxSteps := 2000000) only [a117, r117, C119, C118, mcH, go_sem, eq_self, and_self, Int.natCast_pos, Int.le_refl, Nat.le_refl, Int.natCast_nonneg, Int.ofNat_lt, Int.ofNat_le, Int.reduceLT, Int.reduceLE, Int.reduceEq, Int.reduceNe, Int.reduceAdd, Int.reduceSub, Int.reduceMul, Int.reduceToNat, Int.reduceNeg, Nat.reduceEqDiff, Nat.reduceLeDiff, Nat.reduceSub, Nat.reduceMul, Nat.reduceLT, Nat.reduceBEq, Nat.reduceAdd]
    refine ⟨h1, ?_⟩
    unfold opI at h
    rintro c rfl
    refine sw_intro (fun c6 => ?_) (fun c6 => ?_) <;> simp only [decide_eq_true_eq, decide_eq_false_iff_not] at c6
    · rw [if_pos c6] at h
      rintro _ _ m rfl
      exact h
    rw [if_neg c6] at h
    rintro c rfl
    refine sw_intro (fun c7 => ?_) (fun c7 => ?_) <;> simp only [decide_eq_true_eq, decide_eq_false_iff_not] at c7
    · rw [if_pos c7] at h
      rintro _ _ m rfl
      exact h
    rw [if_neg c7] at h
    rintro c rfl
    refine sw_intro (fun c8 => ?_) (fun c8 => ?_) <;> simp only [decide_eq_true_eq, decide_eq_false_iff_not] at c8
    · rw [if_pos c8] at h
      rintro _ _ m rfl
      exact h
    rw [if_neg c8] at h
    rintro c rfl
    refine sw_intro (fun c9 => ?_) (fun c9 => ?_) <;> simp only [decide_eq_true_eq, decide_eq_false_iff_not] at c9
    · rw [if_pos c9] at h
      rintro c rfl
      exact h
    rw [if_neg c9] at h
    rintro c rfl
    exact h
  · exact h.elim
end Go.V
