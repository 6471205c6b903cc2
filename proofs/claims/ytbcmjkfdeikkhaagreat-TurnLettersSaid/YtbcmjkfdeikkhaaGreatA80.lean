/- A part of the proof layer, or functions of the given program in it: contracts and their proofs. -/
import Derived.Test.YtbcmjkfdeikkhaaGreatA73
import Derived.Test.YtbcmjkfdeikkhaaGreatN5
namespace Go.V
open Go.Proofs
set_option maxRecDepth 100000
set_option maxHeartbeats 8000000
set_option linter.unusedSimpArgs false
set_option linter.unnecessarySimpa false
set_option linter.unusedVariables false
/-! ### what an actor has at first -/
def staH (letters poison : List LetT.den) (to : List ByteArray) (events : List EvT.den) (tries : Int) (p1 p2 p3 p4 p5 p6 : Bool) (names : List ByteArray) (code : List EvT.den) : List SB :=
  [.struct [.sl p1 56 LetT letters, .sl p2 56 LetT poison, .sl p3 16 .str to, .sl p4 16 EvT events, .int .i64 tries], .struct [.sl p5 16 .str names, .sl p6 16 EvT code]]
def cntN (a b len i : Nat) (H : List SB) (N : Nat) : LoopAnn := { G := Int × Nat, I := fun g => ⟨[(2, .ptr 0 0), (3, .ptr 1 0), (5, .int .i64 g.1), (a, .int .i64 len), (b, .int .i64 g.2)], H⟩, R := fun _ g => g.2 ≤ len, μ := fun g => len - g.2 }
theorem cntN_I {a b len i H N} (g : Int × Nat) : (cntN a b len i H N).I g = ⟨[(2, .ptr 0 0), (3, .ptr 1 0), (5, .int .i64 g.1), (a, .int .i64 len), (b, .int .i64 g.2)], H⟩ := rfl
/-- few -/
def C7 : Contract := fun args hp K => match args, hp with
  | [.agg [.sl p1 56 (.pair .str (.pair (.int .u64) (.pair (.int .i64) (.sl 8 (.int .i64))))) letters, .sl p2 56 (.pair .str (.pair (.int .u64) (.pair (.int .i64) (.sl 8 (.int .i64))))) poison, .sl p3 16 .str to, .sl p4 16 (.pair (.int .i64) (.int .i64)) events, .int .i64 tries], .agg [.sl p5 16 .str names, .sl p6 16 (.pair (.int .i64) (.int .i64)) code]], [] =>
      ∀ b : Bool, (b = true → (events : List EvT.den).length < 300 ∧ fewP names code = true) → K (.bool b) []
  | _, _ => False
theorem s7 : Sound Tryz.prog 7 C7 := by
  refine sound_of_okF ok7 (Γ := [(21, C21)]) (.cons s21 (callable_of_okF ok21) .nil) ?_
  intro args hp K h
  unfold C7 at h
  split at h
  · rename_i p1 letters p2 poison p3 to p4 events tries p5 names p6 code
    refine ⟨by simp, [(1, cntN 11 12 letters.length 0 (staH letters poison to events tries p1 p2 p3 p4 p5 p6 names code) 0), (2, cntN 36 37 poison.length 0 (staH letters poison to events tries p1 p2 p3 p4 p5 p6 names code) 0), (3, cntN 61 62 to.length 0 (staH letters poison to events tries p1 p2 p3 p4 p5 p6 names code) 0)], ?_⟩
    have hmx := maxLen_val
    simp (maxSteps := 2000000) only [a7, r7, go_sem, eq_self, and_self, Int.natCast_pos, Int.le_refl, Nat.le_refl, Int.natCast_nonneg, Int.ofNat_lt, Int.ofNat_le, Int.reduceLT, Int.reduceLE, Int.reduceEq, Int.reduceNe, Int.reduceAdd, Int.reduceSub, Int.reduceMul, Int.reduceToNat, Int.reduceNeg, Nat.reduceEqDiff, Nat.reduceLeDiff, Nat.reduceSub, Nat.reduceMul, Nat.reduceLT, Nat.reduceBEq, Nat.reduceAdd]
    rintro _ _ m rfl
    refine loop_intro (A := cntN 11 12 letters.length 0 (staH letters poison to events tries p1 p2 p3 p4 p5 p6 names code) 0) ((0 : Int), (0 : Nat)) ?_ (Nat.zero_le _) ?_
    · simp (maxSteps := 2000000) only [cntN_I, staH, go_sem, eq_self, and_self, Int.natCast_pos, Int.le_refl, Nat.le_refl, Int.natCast_nonneg, Int.ofNat_lt, Int.ofNat_le, Int.reduceLT, Int.reduceLE, Int.reduceEq, Int.reduceNe, Int.reduceAdd, Int.reduceSub, Int.reduceMul, Int.reduceToNat, Int.reduceNeg, Nat.reduceEqDiff, Nat.reduceLeDiff, Nat.reduceSub, Nat.reduceMul, Nat.reduceLT, Nat.reduceBEq, Nat.reduceAdd]
      rfl
    rintro ⟨n, i⟩ (hi : i ≤ letters.length)
    simp (maxSteps := 2000000) only [cntN_I, staH, go_sem, eq_self, and_self, Int.natCast_pos, Int.le_refl, Nat.le_refl, Int.natCast_nonneg, Int.ofNat_lt, Int.ofNat_le, Int.reduceLT, Int.reduceLE, Int.reduceEq, Int.reduceNe, Int.reduceAdd, Int.reduceSub, Int.reduceMul, Int.reduceToNat, Int.reduceNeg, Nat.reduceEqDiff, Nat.reduceLeDiff, Nat.reduceSub, Nat.reduceMul, Nat.reduceLT, Nat.reduceBEq, Nat.reduceAdd]
    rintro c rfl
    refine sw_intro (fun hc => ?_) (fun hc => ?_) <;> simp only [decide_eq_true_eq, decide_eq_false_iff_not] at hc
    · refine nd_intro hc ?_
      rintro _ _ m1 _ _ _ m2 _
      refine nd_intro hc ?_
      rintro _ m3 _ _ _ m4 _ _ _ m5 _ _ _ m hm
      rw [w64 (by omega)] at hm
      subst hm
      refine lpE_intro (A := cntN 11 12 letters.length 0 (staH letters poison to events tries p1 p2 p3 p4 p5 p6 names code) 0) (m5, i + 1) (by simp (maxSteps := 2000000) only [cntN_I, go_sem, eq_self, and_self, Int.natCast_pos, Int.le_refl, Nat.le_refl, Int.natCast_nonneg, Int.ofNat_lt, Int.ofNat_le, Int.reduceLT, Int.reduceLE, Int.reduceEq, Int.reduceNe, Int.reduceAdd, Int.reduceSub, Int.reduceMul, Int.reduceToNat, Int.reduceNeg, Nat.reduceEqDiff, Nat.reduceLeDiff, Nat.reduceSub, Nat.reduceMul, Nat.reduceLT, Nat.reduceBEq, Nat.reduceAdd]; rfl) (by show i + 1 ≤ letters.length; omega) (by show letters.length - (i + 1) < letters.length - i; omega)
    rintro _ _ m rfl
    refine loop_intro (A := cntN 36 37 poison.length 0 (staH letters poison to events tries p1 p2 p3 p4 p5 p6 names code) 0) (n, (0 : Nat)) ?_ (Nat.zero_le _) ?_
    · simp (maxSteps := 2000000) only [cntN_I, staH, go_sem, eq_self, and_self, Int.natCast_pos, Int.le_refl, Nat.le_refl, Int.natCast_nonneg, Int.ofNat_lt, Int.ofNat_le, Int.reduceLT, Int.reduceLE, Int.reduceEq, Int.reduceNe, Int.reduceAdd, Int.reduceSub, Int.reduceMul, Int.reduceToNat, Int.reduceNeg, Nat.reduceEqDiff, Nat.reduceLeDiff, Nat.reduceSub, Nat.reduceMul, Nat.reduceLT, Nat.reduceBEq, Nat.reduceAdd]
      rfl
    rintro ⟨n2, i2⟩ (hi2 : i2 ≤ poison.length)
    simp (maxSteps := 2000000) only [cntN_I, staH, go_sem, eq_self, and_self, Int.natCast_pos, Int.le_refl, Nat.le_refl, Int.natCast_nonneg, Int.ofNat_lt, Int.ofNat_le, Int.reduceLT, Int.reduceLE, Int.reduceEq, Int.reduceNe, Int.reduceAdd, Int.reduceSub, Int.reduceMul, Int.reduceToNat, Int.reduceNeg, Nat.reduceEqDiff, Nat.reduceLeDiff, Nat.reduceSub, Nat.reduceMul, Nat.reduceLT, Nat.reduceBEq, Nat.reduceAdd]
    rintro c rfl
    refine sw_intro (fun hc2 => ?_) (fun hc2 => ?_) <;> simp only [decide_eq_true_eq, decide_eq_false_iff_not] at hc2
    · refine nd_intro hc2 ?_
      rintro _ _ m1 _ _ _ m2 _
      refine nd_intro hc2 ?_
      rintro _ m3 _ _ _ m4 _ _ _ m5 _ _ _ m hm
      rw [w64 (by omega)] at hm
      subst hm
      refine lpE_intro (A := cntN 36 37 poison.length 0 (staH letters poison to events tries p1 p2 p3 p4 p5 p6 names code) 0) (m5, i2 + 1) (by simp (maxSteps := 2000000) only [cntN_I, go_sem, eq_self, and_self, Int.natCast_pos, Int.le_refl, Nat.le_refl, Int.natCast_nonneg, Int.ofNat_lt, Int.ofNat_le, Int.reduceLT, Int.reduceLE, Int.reduceEq, Int.reduceNe, Int.reduceAdd, Int.reduceSub, Int.reduceMul, Int.reduceToNat, Int.reduceNeg, Nat.reduceEqDiff, Nat.reduceLeDiff, Nat.reduceSub, Nat.reduceMul, Nat.reduceLT, Nat.reduceBEq, Nat.reduceAdd]; rfl) (by show i2 + 1 ≤ poison.length; omega) (by show poison.length - (i2 + 1) < poison.length - i2; omega)
    rintro _ _ m rfl
    refine loop_intro (A := cntN 61 62 to.length 0 (staH letters poison to events tries p1 p2 p3 p4 p5 p6 names code) 0) (n2, (0 : Nat)) ?_ (Nat.zero_le _) ?_
    · simp (maxSteps := 2000000) only [cntN_I, staH, go_sem, eq_self, and_self, Int.natCast_pos, Int.le_refl, Nat.le_refl, Int.natCast_nonneg, Int.ofNat_lt, Int.ofNat_le, Int.reduceLT, Int.reduceLE, Int.reduceEq, Int.reduceNe, Int.reduceAdd, Int.reduceSub, Int.reduceMul, Int.reduceToNat, Int.reduceNeg, Nat.reduceEqDiff, Nat.reduceLeDiff, Nat.reduceSub, Nat.reduceMul, Nat.reduceLT, Nat.reduceBEq, Nat.reduceAdd]
      rfl
    rintro ⟨n3, i3⟩ (hi3 : i3 ≤ to.length)
    simp (maxSteps := 2000000) only [cntN_I, staH, C21, go_sem, eq_self, and_self, Int.natCast_pos, Int.le_refl, Nat.le_refl, Int.natCast_nonneg, Int.ofNat_lt, Int.ofNat_le, Int.reduceLT, Int.reduceLE, Int.reduceEq, Int.reduceNe, Int.reduceAdd, Int.reduceSub, Int.reduceMul, Int.reduceToNat, Int.reduceNeg, Nat.reduceEqDiff, Nat.reduceLeDiff, Nat.reduceSub, Nat.reduceMul, Nat.reduceLT, Nat.reduceBEq, Nat.reduceAdd]
    rintro c rfl
    refine sw_intro (fun hc3 => ?_) (fun hc3 => ?_) <;> simp only [decide_eq_true_eq, decide_eq_false_iff_not] at hc3
    · refine nd_intro hc3 ?_
      rintro _ m1 _ _ _ m2 _ _ _ m5 _ _ _ m hm
      rw [w64 (by omega)] at hm
      subst hm
      refine lpE_intro (A := cntN 61 62 to.length 0 (staH letters poison to events tries p1 p2 p3 p4 p5 p6 names code) 0) (m5, i3 + 1) (by simp (maxSteps := 2000000) only [cntN_I, go_sem, eq_self, and_self, Int.natCast_pos, Int.le_refl, Nat.le_refl, Int.natCast_nonneg, Int.ofNat_lt, Int.ofNat_le, Int.reduceLT, Int.reduceLE, Int.reduceEq, Int.reduceNe, Int.reduceAdd, Int.reduceSub, Int.reduceMul, Int.reduceToNat, Int.reduceNeg, Nat.reduceEqDiff, Nat.reduceLeDiff, Nat.reduceSub, Nat.reduceMul, Nat.reduceLT, Nat.reduceBEq, Nat.reduceAdd]; rfl) (by show i3 + 1 ≤ to.length; omega) (by show to.length - (i3 + 1) < to.length - i3; omega)
    rintro c _
    refine sw_intro (fun _ => ?_) (fun _ => h false (fun h9 => by cases h9))
    rintro _ _ m rfl c rfl
    refine sw_intro (fun h9 => h _ (fun h8 => ⟨by have := of_decide_eq_true h9; omega, h8⟩)) (fun _ => h false (fun h9 => by cases h9))
  · exact h.elim
theorem run_le {S : ActS} {names : List ByteArray} {code : List EvT.den} {now : Int} {f : ByteArray} {s k : Int} {xs : List Int} {r : List LetT.den} {X : Mc × Int} (h8 : S.b.length = 8) (ok : takeOk S names code now) (hr : S.inb = (f, s, k, xs) :: r) (hX : X = runI 501 (startM names code f s k xs now (appE S.b S.ev))) : X.1.steps ≤ 500 := by
  have hff := formP_iff.1 ok.2.1
  have hro : RunOk X.1 := by
    rw [hX]
    exact runI_ok hff.1.2 hff.2.2 501 _ (startM_inv (by rw [appE_length]; exact h8)) rfl
  exact hro.steps.2
/-- TurnLetters -/
def C3 : Contract := fun args hp K => match args, hp with
  | [.agg [.sl p5 16 .str names, .sl p6 16 (.pair (.int .i64) (.int .i64)) code], .agg [.sl p1 56 (.pair .str (.pair (.int .u64) (.pair (.int .i64) (.sl 8 (.int .i64))))) letters, .sl p2 56 (.pair .str (.pair (.int .u64) (.pair (.int .i64) (.sl 8 (.int .i64))))) poison, .sl p3 16 .str to, .sl p4 16 (.pair (.int .i64) (.int .i64)) events, .int .i64 tries], .int .i64 now], [] => K (.bool true) []
  | _, _ => False
theorem s3 : Sound Tryz.prog 3 C3 := by
  refine sound_of_okF ok3 (Γ := [(6, C6), (7, C7), (8, C8), (10, C10), (9, C9), (11, C11)]) (.cons s6 (callable_of_okF ok6) (.cons s7 (callable_of_okF ok7) (.cons s8 (callable_of_okF ok8) (.cons s10 (callable_of_okF ok10) (.cons s9 (callable_of_okF ok9) (.cons s11 (callable_of_okF ok11) .nil)))))) ?_
  intro args hp K h
  unfold C3 at h
  split at h
  · rename_i p5 names p6 code p1 letters p2 poison p3 to p4 events tries now
    refine ⟨by simp, [], ?_⟩
    have hmx := maxLen_val
    simp (maxSteps := 2000000) only [a3, r3, C6, C7, C8, twoH, acH, wc8, go_sem, eq_self, and_self, Int.natCast_pos, Int.le_refl, Nat.le_refl, Int.natCast_nonneg, Int.ofNat_lt, Int.ofNat_le, Int.reduceLT, Int.reduceLE, Int.reduceEq, Int.reduceNe, Int.reduceAdd, Int.reduceSub, Int.reduceMul, Int.reduceToNat, Int.reduceNeg, Nat.reduceEqDiff, Nat.reduceLeDiff, Nat.reduceSub, Nat.reduceMul, Nat.reduceLT, Nat.reduceBEq, Nat.reduceAdd]
    intro b hb
    refine sw_intro (fun hb1 => ?_) (fun _ => h)
    obtain ⟨he, hf⟩ := hb hb1
    rw [fewP_iff] at hf
    refine ⟨⟨Nat.zero_le _, Nat.zero_le _, by omega, Nat.zero_le _⟩, fun h9 => absurd h9 (by decide), fun _ S ls ho ht hpoi hin hG => ?_⟩
    simp (maxSteps := 2000000) only [C10, go_sem, eq_self, and_self, Int.natCast_pos, Int.le_refl, Nat.le_refl, Int.natCast_nonneg, Int.ofNat_lt, Int.ofNat_le, Int.reduceLT, Int.reduceLE, Int.reduceEq, Int.reduceNe, Int.reduceAdd, Int.reduceSub, Int.reduceMul, Int.reduceToNat, Int.reduceNeg, Nat.reduceEqDiff, Nat.reduceLeDiff, Nat.reduceSub, Nat.reduceMul, Nat.reduceLT, Nat.reduceBEq, Nat.reduceAdd]
    rintro _ _ n rfl _ _ k rfl
    refine ⟨by omega, by omega, ?_⟩
    refine c21_sl (S := S) hG ⟨fun hno => ?_, fun ok h0 => ?_, fun ok f s k xs r hr X hX h1 h2 => ?_, fun ok f s k xs r hr X hX h1 h2 h3 => ?_, fun ok f s k xs r hr X hX h1 h2 h3 => ?_, fun ok f s k xs r hr X hX h0 hs => ?_, fun ok f s k xs r hr X hX h0 p hs => ?_⟩
    · simp (maxSteps := 2000000) only [acH, out0, C11, inH, go_sem, eq_self, and_self, Int.natCast_pos, Int.le_refl, Nat.le_refl, Int.natCast_nonneg, Int.ofNat_lt, Int.ofNat_le, Int.reduceLT, Int.reduceLE, Int.reduceEq, Int.reduceNe, Int.reduceAdd, Int.reduceSub, Int.reduceMul, Int.reduceToNat, Int.reduceNeg, Nat.reduceEqDiff, Nat.reduceLeDiff, Nat.reduceSub, Nat.reduceMul, Nat.reduceLT, Nat.reduceBEq, Nat.reduceAdd]
      refine ⟨by have := hG.in8; omega, ?_⟩
      rintro c rfl
      refine sw_intro (fun _ => ?_) (fun h9 => by cases h9)
      rintro _ _ m rfl c hc
      rw [show c = true from hc.trans (decide_eq_true rfl)]
      exact sw_intro (fun _ => h) (fun h9 => by cases h9)
    · simp (maxSteps := 2000000) only [acH, out0, C11, inH, go_sem, eq_self, and_self, Int.natCast_pos, Int.le_refl, Nat.le_refl, Int.natCast_nonneg, Int.ofNat_lt, Int.ofNat_le, Int.reduceLT, Int.reduceLE, Int.reduceEq, Int.reduceNe, Int.reduceAdd, Int.reduceSub, Int.reduceMul, Int.reduceToNat, Int.reduceNeg, Nat.reduceEqDiff, Nat.reduceLeDiff, Nat.reduceSub, Nat.reduceMul, Nat.reduceLT, Nat.reduceBEq, Nat.reduceAdd]
      refine ⟨by have := hG.in8; omega, ?_⟩
      rintro c rfl
      refine sw_intro (fun _ => ?_) (fun h9 => by cases h9)
      rintro _ _ m rfl c hc
      rw [show c = true from hc.trans (decide_eq_true rfl)]
      exact sw_intro (fun _ => h) (fun h9 => by cases h9)
    · simp (maxSteps := 2000000) only [acH, out0, C11, inH, go_sem, eq_self, and_self, Int.natCast_pos, Int.le_refl, Nat.le_refl, Int.natCast_nonneg, Int.ofNat_lt, Int.ofNat_le, Int.reduceLT, Int.reduceLE, Int.reduceEq, Int.reduceNe, Int.reduceAdd, Int.reduceSub, Int.reduceMul, Int.reduceToNat, Int.reduceNeg, Nat.reduceEqDiff, Nat.reduceLeDiff, Nat.reduceSub, Nat.reduceMul, Nat.reduceLT, Nat.reduceBEq, Nat.reduceAdd]
      intro c hc c1 hc1
      rw [hc, decide_eq_false h1] at hc1
      rw [show c1 = false from hc1]
      refine sw_intro (fun h9 => by cases h9) (fun _ => ⟨by have := hG.in8; omega, ?_⟩)
      rintro c rfl
      refine sw_intro (fun _ => ?_) (fun h9 => by cases h9)
      rintro _ _ m rfl c hc
      rw [show c = true from hc.trans (decide_eq_true rfl)]
      refine sw_intro (fun _ => ?_) (fun h9 => by cases h9)
      intro c hc
      rw [show c = true from hc.trans (decide_eq_true (run_le (hG.b8) ok hr hX))]
      exact h
    · simp (maxSteps := 2000000) only [acH, out0, C11, inH, go_sem, eq_self, and_self, Int.natCast_pos, Int.le_refl, Nat.le_refl, Int.natCast_nonneg, Int.ofNat_lt, Int.ofNat_le, Int.reduceLT, Int.reduceLE, Int.reduceEq, Int.reduceNe, Int.reduceAdd, Int.reduceSub, Int.reduceMul, Int.reduceToNat, Int.reduceNeg, Nat.reduceEqDiff, Nat.reduceLeDiff, Nat.reduceSub, Nat.reduceMul, Nat.reduceLT, Nat.reduceBEq, Nat.reduceAdd]
      refine ⟨by have := hG.in8; omega, ?_⟩
      rintro c rfl
      refine sw_intro (fun _ => ?_) (fun h9 => by cases h9)
      rintro _ _ m rfl c hc
      rw [show c = true from hc.trans (decide_eq_true rfl)]
      exact sw_intro (fun _ => h) (fun h9 => by cases h9)
    · simp (maxSteps := 2000000) only [acG, out0, C11, inH, go_sem, eq_self, and_self, Int.natCast_pos, Int.le_refl, Nat.le_refl, Int.natCast_nonneg, Int.ofNat_lt, Int.ofNat_le, Int.reduceLT, Int.reduceLE, Int.reduceEq, Int.reduceNe, Int.reduceAdd, Int.reduceSub, Int.reduceMul, Int.reduceToNat, Int.reduceNeg, Nat.reduceEqDiff, Nat.reduceLeDiff, Nat.reduceSub, Nat.reduceMul, Nat.reduceLT, Nat.reduceBEq, Nat.reduceAdd]
      have hsd := ok.1
      simp only [sndS, Bool.and_eq_true, decide_eq_true_eq] at hsd
      have hl : r.length + 1 = S.inb.length := by rw [hr]; rfl
      have h8 := hG.in8
      have hp8 := hsd.2.2.2.1
      intro c hc c1 hc1
      rw [hc, decide_eq_false h1] at hc1
      rw [show c1 = false from hc1]
      refine sw_intro (fun h9 => by cases h9) (fun _ => ?_)
      rintro _ _ m hm
      rw [w64 (by omega)] at hm
      subst hm
      rintro _ _ m hm
      rw [w64 (by omega)] at hm
      subst hm
      refine ⟨by omega, ?_⟩
      intro c hc
      rw [show c = true from hc.trans (decide_eq_true (by omega))]
      refine sw_intro (fun _ => ?_) (fun h9 => by cases h9)
      rintro _ _ m hm c hc
      rw [show c = true from hc.trans (decide_eq_true (hm.trans (by rw [List.length_append]; rfl)))]
      refine sw_intro (fun _ => ?_) (fun h9 => by cases h9)
      intro c hc
      rw [show c = true from hc.trans (decide_eq_true (run_le (hG.b8) ok hr hX))]
      exact h
    · simp (maxSteps := 2000000) only [acH, out0, C11, inH, go_sem, eq_self, and_self, Int.natCast_pos, Int.le_refl, Nat.le_refl, Int.natCast_nonneg, Int.ofNat_lt, Int.ofNat_le, Int.reduceLT, Int.reduceLE, Int.reduceEq, Int.reduceNe, Int.reduceAdd, Int.reduceSub, Int.reduceMul, Int.reduceToNat, Int.reduceNeg, Nat.reduceEqDiff, Nat.reduceLeDiff, Nat.reduceSub, Nat.reduceMul, Nat.reduceLT, Nat.reduceBEq, Nat.reduceAdd]
      refine ⟨by have := hG.in8; omega, ?_⟩
      rintro c rfl
      refine sw_intro (fun _ => ?_) (fun h9 => by cases h9)
      rintro _ _ m rfl c hc
      rw [show c = true from hc.trans (decide_eq_true rfl)]
      exact sw_intro (fun _ => h) (fun h9 => by cases h9)
    · simp (maxSteps := 2000000) only [doneH, out0, C11, inH, go_sem, eq_self, and_self, Int.natCast_pos, Int.le_refl, Nat.le_refl, Int.natCast_nonneg, Int.ofNat_lt, Int.ofNat_le, Int.reduceLT, Int.reduceLE, Int.reduceEq, Int.reduceNe, Int.reduceAdd, Int.reduceSub, Int.reduceMul, Int.reduceToNat, Int.reduceNeg, Nat.reduceEqDiff, Nat.reduceLeDiff, Nat.reduceSub, Nat.reduceMul, Nat.reduceLT, Nat.reduceBEq, Nat.reduceAdd]
      have hl : r.length + 1 = S.inb.length := by rw [hr]; rfl
      have h8 := hG.in8
      rintro _ _ m hm
      rw [w64 (by omega)] at hm
      subst hm
      refine ⟨by omega, ?_⟩
      intro c hc
      rw [show c = true from hc.trans (decide_eq_true (by omega))]
      refine sw_intro (fun _ => ?_) (fun h9 => by cases h9)
      rintro _ _ m rfl c hc
      rw [show c = true from hc.trans (decide_eq_true rfl)]
      refine sw_intro (fun _ => ?_) (fun h9 => by cases h9)
      intro c hc
      rw [show c = true from hc.trans (decide_eq_true (run_le (hG.b8) ok hr hX))]
      exact h
  · exact h.elim
end Go.V
