/- A part of the proof layer, or functions of the given program in it: contracts and their proofs. -/
import Derived.Test.YtbcmjkfdeikkhaaGreatN1
import Derived.Test.YtbcmjkfdeikkhaaGreatVy
namespace Go.V
open Go.Proofs
set_option maxRecDepth 100000
set_option linter.unusedSimpArgs false
set_option linter.unnecessarySimpa false
set_option linter.unusedVariables false
abbrev LetT : Ty := .pair .str (.pair (.int .u64) (.pair (.int .i64) (.sl 8 (.int .i64))))
abbrev OutT : Ty := .pair .str LetT

/-- An outbox. -/
def obH (mv : Bool) (o : ByteArray) (l : List OutT.den) (m : List (ByteArray × Int)) : List SB :=
  [.struct [.str o, .own 1, .mp 2], .row mv 72 OutT l, .map false .str (.int .u64) m]
def onOb (hp : List SB) (k : ByteArray → List OutT.den → List (ByteArray × Int) → Prop) : Prop := ∃ o l m, hp = obH false o l m ∧ k o l m
@[go_sem] theorem onOb_eq {o l m k} : onOb [.struct [.str o, .own 1, .mp 2], .row false 72 (.pair .str (.pair .str (.pair (.int .u64) (.pair (.int .i64) (.sl 8 (.int .i64)))))) l, .map false .str (.int .u64) m] k = k o l m := by
  apply propext; constructor
  · rintro ⟨o', l', m', h, hk⟩
    unfold obH at h
    cases h
    exact hk
  · exact fun h => ⟨o, l, m, rfl, h⟩

def keyOk (s : ByteArray) : Bool := decide (s ≠ ByteArray.empty) && decide (s.size ≤ 40)
def C80 : Contract := fun args hp K => match args, hp with
  | [.str s], [] => K (.bool (keyOk s)) []
  | _, _ => False
theorem s80 : Sound Tryz.prog 80 C80 := by
  refine sound_of_okF ok80 (Γ := []) (fun f C h => by simp [lkC] at h) ?_
  intro args hp K h
  unfold C80 at h
  split at h
  · rename_i s
    refine ⟨by simp, [], ?_⟩
    simp (maxSteps := 2000000) only [a80, r80, go_sem, eq_self, and_self, Int.natCast_pos, Int.le_refl, Nat.le_refl, Int.natCast_nonneg, Int.ofNat_lt, Int.ofNat_le, Int.reduceLT, Int.reduceLE, Int.reduceEq, Int.reduceNe, Int.reduceAdd, Int.reduceSub, Int.reduceMul, Int.reduceToNat, Int.reduceNeg, Nat.reduceEqDiff, Nat.reduceLeDiff, Nat.reduceSub, Nat.reduceMul, Nat.reduceLT, Nat.reduceBEq, Nat.reduceAdd]
    intro c hc
    refine sw_intro (fun hc1 => ?_) (fun hc1 => ?_)
    · intro _ m hm c' hc'
      have e : keyOk s = c' := by simp [hc1] at hc; simp [keyOk, hc, hc', hm]; omega
      rw [← e]; exact h
    · have e : keyOk s = false := by simp [hc1] at hc; simp [keyOk, hc]
      rw [← e]; exact h
  · exact h.elim

def C71 : Contract := fun args hp K => match args, hp with
  | [.str s], [] => (keyOk s = true → K (.tup [.ptr 0 0, .int .i64 0]) (obH true s [] [])) ∧ (keyOk s = false → K (.tup [.nilp, .int .i64 1]) [])
  | _, _ => False
theorem s71 : Sound Tryz.prog 71 C71 := by
  refine sound_of_okF ok71 (Γ := [(80, C80)]) (.cons s80 (callable_of_okF ok80) .nil) ?_
  intro args hp K h
  unfold C71 at h
  split at h
  · rename_i s
    refine ⟨by simp, [], ?_⟩
    simp (maxSteps := 2000000) only [a71, r71, C80, go_sem, eq_self, and_self, Int.natCast_pos, Int.le_refl, Nat.le_refl, Int.natCast_nonneg, Int.ofNat_lt, Int.ofNat_le, Int.reduceLT, Int.reduceLE, Int.reduceEq, Int.reduceNe, Int.reduceAdd, Int.reduceSub, Int.reduceMul, Int.reduceToNat, Int.reduceNeg, Nat.reduceEqDiff, Nat.reduceLeDiff, Nat.reduceSub, Nat.reduceMul, Nat.reduceLT, Nat.reduceBEq, Nat.reduceAdd]
    exact sw_intro h.1 h.2
  · exact h.elim

/-- Clone: the list in memory of its own. -/
def C81 : Contract := fun args hp K => match args, hp with
  | [x], [] => onL (.int .i64) 8 x fun xs => K (.own 0) [.row true 8 (.int .i64) xs]
  | _, _ => False
theorem s81 : Sound Tryz.prog 81 C81 := by
  refine sound_of_okF ok81 (Γ := []) .nil ?_
  intro args hp K h
  unfold C81 at h
  split at h
  · refine ⟨by simp, [], ?_⟩
    rcases h with ⟨rfl, h⟩ | ⟨p, xs, rfl, h⟩
    · simp (maxSteps := 2000000) only [a81, r81, go_sem, eq_self, and_self, Int.natCast_pos, Int.le_refl, Nat.le_refl, Int.natCast_nonneg, Int.ofNat_lt, Int.ofNat_le, Int.reduceLT, Int.reduceLE, Int.reduceEq, Int.reduceNe, Int.reduceAdd, Int.reduceSub, Int.reduceMul, Int.reduceToNat, Int.reduceNeg, Nat.reduceEqDiff, Nat.reduceLeDiff, Nat.reduceSub, Nat.reduceMul, Nat.reduceLT, Nat.reduceBEq, Nat.reduceAdd]
      exact h
    · simp (maxSteps := 2000000) only [a81, r81, go_sem, eq_self, and_self, Int.natCast_pos, Int.le_refl, Nat.le_refl, Int.natCast_nonneg, Int.ofNat_lt, Int.ofNat_le, Int.reduceLT, Int.reduceLE, Int.reduceEq, Int.reduceNe, Int.reduceAdd, Int.reduceSub, Int.reduceMul, Int.reduceToNat, Int.reduceNeg, Nat.reduceEqDiff, Nat.reduceLeDiff, Nat.reduceSub, Nat.reduceMul, Nat.reduceLT, Nat.reduceBEq, Nat.reduceAdd]
      intro b hb
      refine sw_intro (fun h1 => ?_) (fun _ => ⟨id, fun _ => h⟩)
      rw [hb h1] at h; exact h
  · exact h.elim

/-- letter.Copy -/
def C75 : Contract := fun args hp K => match args, hp with
  | [.agg [.str f, .int .u64 s, .int .i64 k, x]], [] => onL (.int .i64) 8 x fun xs => K (.agg [.str f, .int .u64 s, .int .i64 k, .own 0]) [.row true 8 (.int .i64) xs]
  | _, _ => False
theorem s75 : Sound Tryz.prog 75 C75 := by
  refine sound_of_okF ok75 (Γ := [(81, C81)]) (.cons s81 (callable_of_okF ok81) .nil) ?_
  intro args hp K h
  unfold C75 at h
  split at h
  · refine ⟨by simp, [], ?_⟩
    rcases h with ⟨rfl, h⟩ | ⟨p, xs, rfl, h⟩
    · simp (maxSteps := 2000000) only [a75, r75, C81, go_sem, eq_self, and_self, Int.natCast_pos, Int.le_refl, Nat.le_refl, Int.natCast_nonneg, Int.ofNat_lt, Int.ofNat_le, Int.reduceLT, Int.reduceLE, Int.reduceEq, Int.reduceNe, Int.reduceAdd, Int.reduceSub, Int.reduceMul, Int.reduceToNat, Int.reduceNeg, Nat.reduceEqDiff, Nat.reduceLeDiff, Nat.reduceSub, Nat.reduceMul, Nat.reduceLT, Nat.reduceBEq, Nat.reduceAdd]
      exact h
    · simp (maxSteps := 2000000) only [a75, r75, C81, go_sem, eq_self, and_self, Int.natCast_pos, Int.le_refl, Nat.le_refl, Int.natCast_nonneg, Int.ofNat_lt, Int.ofNat_le, Int.reduceLT, Int.reduceLE, Int.reduceEq, Int.reduceNe, Int.reduceAdd, Int.reduceSub, Int.reduceMul, Int.reduceToNat, Int.reduceNeg, Nat.reduceEqDiff, Nat.reduceLeDiff, Nat.reduceSub, Nat.reduceMul, Nat.reduceLT, Nat.reduceBEq, Nat.reduceAdd]
      exact h
  · exact h.elim

/-- none -/
def C79 : Contract := fun args hp K => match args with
  | [.nilp] => hp = [] ∧ K (.bool true) []
  | [.ptr 0 0] => onOb hp fun o l m => K (.bool (decide (o = ByteArray.empty))) hp
  | _ => False
theorem s79 : Sound Tryz.prog 79 C79 := by
  refine sound_of_okF ok79 (Γ := []) .nil ?_
  intro args hp K h
  unfold C79 at h
  split at h
  · obtain ⟨rfl, h⟩ := h
    refine ⟨by simp, [], ?_⟩
    simp (maxSteps := 2000000) only [a79, r79, go_sem, eq_self, and_self, Int.natCast_pos, Int.le_refl, Nat.le_refl, Int.natCast_nonneg, Int.ofNat_lt, Int.ofNat_le, Int.reduceLT, Int.reduceLE, Int.reduceEq, Int.reduceNe, Int.reduceAdd, Int.reduceSub, Int.reduceMul, Int.reduceToNat, Int.reduceNeg, Nat.reduceEqDiff, Nat.reduceLeDiff, Nat.reduceSub, Nat.reduceMul, Nat.reduceLT, Nat.reduceBEq, Nat.reduceAdd]
    exact h
  · obtain ⟨o, l, m, rfl, h⟩ := h
    refine ⟨by simp, [], ?_⟩
    unfold obH at h ⊢
    simp (maxSteps := 2000000) only [a79, r79, go_sem, eq_self, and_self, Int.natCast_pos, Int.le_refl, Nat.le_refl, Int.natCast_nonneg, Int.ofNat_lt, Int.ofNat_le, Int.reduceLT, Int.reduceLE, Int.reduceEq, Int.reduceNe, Int.reduceAdd, Int.reduceSub, Int.reduceMul, Int.reduceToNat, Int.reduceNeg, Nat.reduceEqDiff, Nat.reduceLeDiff, Nat.reduceSub, Nat.reduceMul, Nat.reduceLT, Nat.reduceBEq, Nat.reduceAdd]
    rintro c rfl
    exact h
  · exact h.elim

/-- Owner -/
def C102 : Contract := fun args hp K => match args with
  | [.nilp] => hp = [] ∧ K (.str ByteArray.empty) []
  | [.ptr 0 0] => onOb hp fun o l m => K (.str o) hp
  | _ => False
theorem s102 : Sound Tryz.prog 102 C102 := by
  refine sound_of_okF ok102 (Γ := []) .nil ?_
  intro args hp K h
  unfold C102 at h
  split at h
  · obtain ⟨rfl, h⟩ := h
    refine ⟨by simp, [], ?_⟩
    simp (maxSteps := 2000000) only [a102, r102, go_sem, eq_self, and_self, Int.natCast_pos, Int.le_refl, Nat.le_refl, Int.natCast_nonneg, Int.ofNat_lt, Int.ofNat_le, Int.reduceLT, Int.reduceLE, Int.reduceEq, Int.reduceNe, Int.reduceAdd, Int.reduceSub, Int.reduceMul, Int.reduceToNat, Int.reduceNeg, Nat.reduceEqDiff, Nat.reduceLeDiff, Nat.reduceSub, Nat.reduceMul, Nat.reduceLT, Nat.reduceBEq, Nat.reduceAdd]
    exact h
  · obtain ⟨o, l, m, rfl, h⟩ := h
    refine ⟨by simp, [], ?_⟩
    unfold obH at h ⊢
    simp (maxSteps := 2000000) only [a102, r102, go_sem, eq_self, and_self, Int.natCast_pos, Int.le_refl, Nat.le_refl, Int.natCast_nonneg, Int.ofNat_lt, Int.ofNat_le, Int.reduceLT, Int.reduceLE, Int.reduceEq, Int.reduceNe, Int.reduceAdd, Int.reduceSub, Int.reduceMul, Int.reduceToNat, Int.reduceNeg, Nat.reduceEqDiff, Nat.reduceLeDiff, Nat.reduceSub, Nat.reduceMul, Nat.reduceLT, Nat.reduceBEq, Nat.reduceAdd]
    exact h
  · exact h.elim

/-- Send -/
def C24 : Contract := fun args hp K => match args with
  | [.ptr 0 0, .str to, .int .i64 kind, x] => onOb hp fun o l m => onL (.int .i64) 8 x fun xs => o ≠ ByteArray.empty ∧ m.length < maxLen ∧ l.length ≤ 100 ∧
      (¬ (keyOk to = true ∧ xs.length ≤ 4) → K (.tup [.int .u64 0, .int .i64 1]) hp) ∧
      ((keyOk to = true ∧ xs.length ≤ 4) → (32 ≤ l.length ∨ (lookM .str (.int .u64) m to = none ∧ 64 ≤ m.length)) → K (.tup [.int .u64 0, .int .i64 6]) hp) ∧
      ((keyOk to = true ∧ xs.length ≤ 4) → ¬ (32 ≤ l.length ∨ (lookM .str (.int .u64) m to = none ∧ 64 ≤ m.length)) → ∀ s : Int, s = IntKind.u64.wrap ((lookM .str (.int .u64) m to).getD (0 : Int) + 1) →
        K (.tup [.int .u64 s, .int .i64 0]) (obH true o (l ++ [(to, o, s, kind, xs)]) (updM .str (.int .u64) m to s)))
  | _ => False
theorem s24 : Sound Tryz.prog 24 C24 := by
  refine sound_of_okF ok24 (Γ := [(79, C79), (80, C80), (81, C81)]) (.cons s79 (callable_of_okF ok79) (.cons s80 (callable_of_okF ok80) (.cons s81 (callable_of_okF ok81) .nil))) ?_
  intro args hp K h
  unfold C24 at h
  split at h
  · obtain ⟨o, l, m, rfl, h⟩ := h
    refine ⟨by simp, [], ?_⟩
    rcases h with ⟨rfl, h0, hm, hl, h1, h2, h3⟩ | ⟨p, xs, rfl, h0, hm, hl, h1, h2, h3⟩
    · unfold obH at h1 h2 h3 ⊢
      simp (maxSteps := 2000000) only [a24, r24, C79, C80, C81, go_sem, eq_self, and_self, Int.natCast_pos, Int.le_refl, Nat.le_refl, Int.natCast_nonneg, Int.ofNat_lt, Int.ofNat_le, Int.reduceLT, Int.reduceLE, Int.reduceEq, Int.reduceNe, Int.reduceAdd, Int.reduceSub, Int.reduceMul, Int.reduceToNat, Int.reduceNeg, Nat.reduceEqDiff, Nat.reduceLeDiff, Nat.reduceSub, Nat.reduceMul, Nat.reduceLT, Nat.reduceBEq, Nat.reduceAdd]
      refine sw_intro (fun h => absurd (by simpa using h) h0) (fun _ => ?_)
      refine sw_intro (fun hk => ?_) (fun hk => h1 (by simp [hk]))
      rintro y b hy hb _ _ n rfl c rfl
      refine sw_intro (fun hc => h2 ⟨hk, by simp⟩ (.inl (by simp at hc; omega))) (fun hc => ?_)
      refine sw_intro (fun hb1 => ?_) (fun hb1 => ?_)
      · rintro y2 b2 rfl _ _ _ s hs
        refine ⟨by omega, ?_⟩
        rintro y3 _ h3' _
        rw [lookM_upd_self] at h3'
        have h3' : y3 = s := h3'
        subst h3'
        refine ⟨fun _ => by omega, fun _ => h3 ⟨hk, by simp⟩ ?_ y3 hs⟩
        rintro (h | ⟨h, _⟩)
        · simp at hc; omega
        · rw [h] at hb; subst hb; cases hb1
      · rintro _ m2 rfl c rfl
        refine sw_intro (fun hc2 => h2 ⟨hk, by simp⟩ (.inr ⟨?_, by simp at hc2; omega⟩)) (fun hc2 => ?_)
        · subst hb; simpa using hb1
        · rintro y2 b2 rfl _ _ _ s hs
          refine ⟨by omega, ?_⟩
          rintro y3 _ h3' _
          rw [lookM_upd_self] at h3'
          have h3' : y3 = s := h3'
          subst h3'
          refine ⟨fun _ => by omega, fun _ => h3 ⟨hk, by simp⟩ ?_ y3 hs⟩
          rintro (h | ⟨h, h'⟩)
          · simp at hc; omega
          · simp at hc2; omega
    · unfold obH at h1 h2 h3 ⊢
      simp (maxSteps := 2000000) only [a24, r24, C79, C80, C81, go_sem, eq_self, and_self, Int.natCast_pos, Int.le_refl, Nat.le_refl, Int.natCast_nonneg, Int.ofNat_lt, Int.ofNat_le, Int.reduceLT, Int.reduceLE, Int.reduceEq, Int.reduceNe, Int.reduceAdd, Int.reduceSub, Int.reduceMul, Int.reduceToNat, Int.reduceNeg, Nat.reduceEqDiff, Nat.reduceLeDiff, Nat.reduceSub, Nat.reduceMul, Nat.reduceLT, Nat.reduceBEq, Nat.reduceAdd]
      refine sw_intro (fun h => absurd (by simpa using h) h0) (fun _ => ?_)
      refine sw_intro (fun hk => ?_) (fun hk => h1 (by simp [hk]))
      rintro _ _ n rfl c rfl
      refine sw_intro (fun h => h1 (fun h' => by simp at h; omega)) (fun h4 => ?_)
      have h4 : xs.length ≤ 4 := by simp at h4; omega
      rintro y b hy hb _ _ n rfl c rfl
      refine sw_intro (fun hc => h2 ⟨hk, h4⟩ (.inl (by simp at hc; omega))) (fun hc => ?_)
      refine sw_intro (fun hb1 => ?_) (fun hb1 => ?_)
      · rintro y2 b2 rfl _ _ _ s hs
        refine ⟨by omega, ?_⟩
        rintro y3 _ h3' _
        rw [lookM_upd_self] at h3'
        have h3' : y3 = s := h3'
        subst h3'
        refine ⟨fun _ => by omega, fun _ => h3 ⟨hk, h4⟩ ?_ y3 hs⟩
        rintro (h | ⟨h, _⟩)
        · simp at hc; omega
        · rw [h] at hb; subst hb; cases hb1
      · rintro _ m2 rfl c rfl
        refine sw_intro (fun hc2 => h2 ⟨hk, h4⟩ (.inr ⟨?_, by simp at hc2; omega⟩)) (fun hc2 => ?_)
        · subst hb; simpa using hb1
        · rintro y2 b2 rfl _ _ _ s hs
          refine ⟨by omega, ?_⟩
          rintro y3 _ h3' _
          rw [lookM_upd_self] at h3'
          have h3' : y3 = s := h3'
          subst h3'
          refine ⟨fun _ => by omega, fun _ => h3 ⟨hk, h4⟩ ?_ y3 hs⟩
          rintro (h | ⟨h, h'⟩)
          · simp at hc; omega
          · simp at hc2; omega
  · exact h.elim
end Go.V
