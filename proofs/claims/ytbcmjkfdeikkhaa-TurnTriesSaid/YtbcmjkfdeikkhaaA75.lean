/- A part of the proof layer, or functions of the given program in it: contracts and their proofs. -/
import Derived.Test.YtbcmjkfdeikkhaaA73
namespace Go.V
open Go.Proofs
set_option maxRecDepth 100000
set_option maxHeartbeats 8000000
set_option linter.unusedSimpArgs false
set_option linter.unnecessarySimpa false
set_option linter.unusedVariables false
def refC : List EvT.den := [(21, 0)]
def refR (f : ByteArray) (s k : Int) (xs st : List Int) : Mc := iterM (startM [] refC f s k xs 0 st) (21, 0)
theorem ref_run (f : ByteArray) (s k : Int) (xs st : List Int) : (refR f s k xs st, (12 : Int)) = runI 501 (startM [] refC f s k xs 0 st) := rfl
theorem ref_steps (f : ByteArray) (s k : Int) (xs st : List Int) : (refR f s k xs st).steps = 1 := rfl
/-- an actor behind one struct -/
def ac1 (S : ActS) : List SB := [.struct [.ptr 2 0, .ptr 4 0, .ptr 6 0, .int .i64 S.tries, .sl true 56 LetT S.poi], .struct [.arr 8 (.int .i64) S.b, .own 3, .int .u64 S.v], .row true 16 EvT S.ev, .struct [.own 5], .row true 56 LetT S.inb,
  .struct [.str S.o, .own 7, .mp 8], .row true 72 OutT S.l, .map false .str (.int .u64) S.m]
def triS (x : LetT.den) (r : List LetT.den) (i : Nat) : ActS := if i < 3 then { (newS ⟨#[109, 101]⟩) with inb := x :: r, tries := i } else { (newS ⟨#[109, 101]⟩) with inb := r, poi := [x] }
def L6 (f : ByteArray) (s k : Int) (x : SV) (xs : List Int) (q : Bool) (more : List LetT.den) : LoopAnn := { G := List LetT.den × Nat, I := fun g => ⟨[(1, .sl q 56 LetT more), (2, .ptr 0 0), (5, .ptr 1 0), (43, .int .i64 more.length), (44, .int .i64 g.2)], .struct [.str f, .int .u64 s, .int .i64 k, x] :: ac1 (triS (f, s, k, xs) g.1 0)⟩, R := fun _ g => g.2 ≤ more.length ∧ g.1.length ≤ 7 ∧ g.1.all fmL = true, μ := fun g => more.length - g.2 }
theorem L6_I {f s k x xs q more} (g : List LetT.den × Nat) : (L6 f s k x xs q more).I g = ⟨[(1, .sl q 56 LetT more), (2, .ptr 0 0), (5, .ptr 1 0), (43, .int .i64 more.length), (44, .int .i64 g.2)], .struct [.str f, .int .u64 s, .int .i64 k, x] :: ac1 (triS (f, s, k, xs) g.1 0)⟩ := rfl
def M6 (f : ByteArray) (s k : Int) (x : SV) (xs : List Int) : LoopAnn := { G := List LetT.den × Nat, I := fun g => ⟨[(2, .ptr 0 0), (5, .ptr 1 0), (8, .int .i64 (g.1.length + 1 : Nat)), (78, .int .i64 g.2)], .struct [.str f, .int .u64 s, .int .i64 k, x] :: ac1 (triS (f, s, k, xs) g.1 g.2)⟩, R := fun g0 g => g.1 = g0.1 ∧ g.2 ≤ 3, μ := fun g => 3 - g.2 }
theorem M6_I {f s k x xs} (g : List LetT.den × Nat) : (M6 f s k x xs).I g = ⟨[(2, .ptr 0 0), (5, .ptr 1 0), (8, .int .i64 (g.1.length + 1 : Nat)), (78, .int .i64 g.2)], .struct [.str f, .int .u64 s, .int .i64 k, x] :: ac1 (triS (f, s, k, xs) g.1 g.2)⟩ := rfl
/-- TurnTries -/
def C6 : Contract := fun args hp K => match args, hp with
  | [.agg [.str f, .int .u64 s, .int .i64 k, .sl p 8 (.int .i64) xs], .sl q 56 (.pair .str (.pair (.int .u64) (.pair (.int .i64) (.sl 8 (.int .i64))))) more], [] => K (.bool true) []
  | _, _ => False
theorem s6 : Sound Try.prog 6 C6 := by
  refine sound_of_okF ok6 (Γ := [(19, C19), (11, C11), (24, C24), (25, C25), (21, C21), (26, C26)]) (.cons s19 (callable_of_okF ok19) (.cons s11 (callable_of_okF ok11) (.cons s24 (callable_of_okF ok24) (.cons s25 (callable_of_okF ok25) (.cons s21 (callable_of_okF ok21) (.cons s26 (callable_of_okF ok26) .nil)))))) ?_
  intro args hp K h
  unfold C6 at h
  split at h
  · rename_i f s k p xs q more
    refine ⟨by simp, [(1, L6 f s k (.sl p 8 (.int .i64) xs) xs q more), (2, M6 f s k (.sl p 8 (.int .i64) xs) xs)], ?_⟩
    have hmx := maxLen_val
    simp (maxSteps := 2000000) only [a6, r6, C19, C11, C24, newS, acH, inH, go_sem, eq_self, and_self, Int.natCast_pos, Int.le_refl, Nat.le_refl, Int.natCast_nonneg, Int.ofNat_lt, Int.ofNat_le, Int.reduceLT, Int.reduceLE, Int.reduceEq, Int.reduceNe, Int.reduceAdd, Int.reduceSub, Int.reduceMul, Int.reduceToNat, Int.reduceNeg, Nat.reduceEqDiff, Nat.reduceLeDiff, Nat.reduceSub, Nat.reduceMul, Nat.reduceLT, Nat.reduceBEq, Nat.reduceAdd]
    rintro _ _ m rfl c rfl
    refine sw_intro (fun _ => h) (fun c1 => ?_)
    rintro _ m rfl c rfl
    refine sw_intro (fun _ => h) (fun c2 => ?_)
    rintro _ _ m rfl c rfl
    refine sw_intro (fun _ => h) (fun c3 => ?_)
    simp only [decide_eq_false_iff_not] at c1 c2 c3
    have hfl : fmL (f, s, k, xs) = true := fmL_iff.2 ⟨by show f.size ≤ 40; omega, by show xs.length ≤ 4; omega⟩
    have hff : fmL (f, s, k, xs) = false → False := fun h9 => by rw [hfl] at h9; cases h9
    refine ⟨fun _ => ⟨fun h9 => (hff h9).elim, fun _ h9 => h9.elim, fun _ => ?_⟩, fun h9 => absurd h9 (by decide)⟩
    rintro _ _ m rfl
    refine loop_intro (A := L6 f s k (.sl p 8 (.int .i64) xs) xs q more) (([] : List LetT.den), (0 : Nat)) ?_ ⟨Nat.zero_le _, Nat.zero_le _, rfl⟩ ?_
    · simp (maxSteps := 2000000) only [L6_I, ac1, triS, go_sem, eq_self, and_self, Int.natCast_pos, Int.le_refl, Nat.le_refl, Int.natCast_nonneg, Int.ofNat_lt, Int.ofNat_le, Int.reduceLT, Int.reduceLE, Int.reduceEq, Int.reduceNe, Int.reduceAdd, Int.reduceSub, Int.reduceMul, Int.reduceToNat, Int.reduceNeg, Nat.reduceEqDiff, Nat.reduceLeDiff, Nat.reduceSub, Nat.reduceMul, Nat.reduceLT, Nat.reduceBEq, Nat.reduceAdd]
      rfl
    · rintro ⟨r, i⟩ ⟨hi, hr7, hrf⟩
      simp only at hi hr7 hrf
      have ht0 : triS (f, s, k, xs) r 0 = { (newS ⟨#[109, 101]⟩) with inb := (f, s, k, xs) :: r, tries := 0 } := rfl
      simp (maxSteps := 2000000) only [L6_I, ac1, ht0, C24, newS, inH, C25, go_sem, eq_self, and_self, Int.natCast_pos, Int.le_refl, Nat.le_refl, Int.natCast_nonneg, Int.ofNat_lt, Int.ofNat_le, Int.reduceLT, Int.reduceLE, Int.reduceEq, Int.reduceNe, Int.reduceAdd, Int.reduceSub, Int.reduceMul, Int.reduceToNat, Int.reduceNeg, Nat.reduceEqDiff, Nat.reduceLeDiff, Nat.reduceSub, Nat.reduceMul, Nat.reduceLT, Nat.reduceBEq, Nat.reduceAdd]
      rintro c rfl
      refine sw_intro (fun hc => ?_) (fun hc => ?_) <;> simp only [decide_eq_true_eq, decide_eq_false_iff_not] at hc
      · refine nd_intro hc ?_
        rintro _ _ m rfl c rfl
        refine sw_intro (fun _ => h) (fun d1 => nd_intro hc ?_)
        rintro _ m rfl c rfl
        refine sw_intro (fun _ => h) (fun d2 => nd_intro hc ?_)
        have hl2 : r.length < 7 → (r ++ [((elt LetT more i).1, (elt LetT more i).2.1, (elt LetT more i).2.2.1, (elt LetT more i).2.2.2)]).length ≤ 7 := fun h9 => by
          rw [List.length_append]
          show r.length + 1 ≤ 7
          omega
        have hf2 : fmL ((elt LetT more i).1, (elt LetT more i).2.1, (elt LetT more i).2.2.1, (elt LetT more i).2.2.2) = true → (r ++ [((elt LetT more i).1, (elt LetT more i).2.1, (elt LetT more i).2.2.1, (elt LetT more i).2.2.2)]).all fmL = true := fun h9 => by
          rw [List.all_append, hrf]
          simp only [List.all_cons, List.all_nil, Bool.and_true, Bool.true_and]
          exact h9
        refine ⟨hr7, fun _ => ?_, fun _ _ => ?_, fun e1 e2 => ?_⟩
        · rintro _ _ m hm
          rw [w64 (by omega)] at hm
          subst hm
          refine lpE_intro (A := L6 f s k (.sl p 8 (.int .i64) xs) xs q more) (r, i + 1) (by simp (maxSteps := 2000000) only [L6_I, ac1, ht0, newS, go_sem, eq_self, and_self, Int.natCast_pos, Int.le_refl, Nat.le_refl, Int.natCast_nonneg, Int.ofNat_lt, Int.ofNat_le, Int.reduceLT, Int.reduceLE, Int.reduceEq, Int.reduceNe, Int.reduceAdd, Int.reduceSub, Int.reduceMul, Int.reduceToNat, Int.reduceNeg, Nat.reduceEqDiff, Nat.reduceLeDiff, Nat.reduceSub, Nat.reduceMul, Nat.reduceLT, Nat.reduceBEq, Nat.reduceAdd]; rfl) ⟨hc, hr7, hrf⟩ (by show more.length - (i + 1) < more.length - i; omega)
        · rintro _ _ m hm
          rw [w64 (by omega)] at hm
          subst hm
          refine lpE_intro (A := L6 f s k (.sl p 8 (.int .i64) xs) xs q more) (r, i + 1) (by simp (maxSteps := 2000000) only [L6_I, ac1, ht0, newS, go_sem, eq_self, and_self, Int.natCast_pos, Int.le_refl, Nat.le_refl, Int.natCast_nonneg, Int.ofNat_lt, Int.ofNat_le, Int.reduceLT, Int.reduceLE, Int.reduceEq, Int.reduceNe, Int.reduceAdd, Int.reduceSub, Int.reduceMul, Int.reduceToNat, Int.reduceNeg, Nat.reduceEqDiff, Nat.reduceLeDiff, Nat.reduceSub, Nat.reduceMul, Nat.reduceLT, Nat.reduceBEq, Nat.reduceAdd]; rfl) ⟨hc, hr7, hrf⟩ (by show more.length - (i + 1) < more.length - i; omega)
        · rintro _ _ m hm
          rw [w64 (by omega)] at hm
          subst hm
          refine lpE_intro (A := L6 f s k (.sl p 8 (.int .i64) xs) xs q more) (r ++ [((elt LetT more i).1, (elt LetT more i).2.1, (elt LetT more i).2.2.1, (elt LetT more i).2.2.2)], i + 1) (by simp (maxSteps := 2000000) only [L6_I, ac1, triS, newS, go_sem, eq_self, and_self, Int.natCast_pos, Int.le_refl, Nat.le_refl, Int.natCast_nonneg, Int.ofNat_lt, Int.ofNat_le, Int.reduceLT, Int.reduceLE, Int.reduceEq, Int.reduceNe, Int.reduceAdd, Int.reduceSub, Int.reduceMul, Int.reduceToNat, Int.reduceNeg, Nat.reduceEqDiff, Nat.reduceLeDiff, Nat.reduceSub, Nat.reduceMul, Nat.reduceLT, Nat.reduceBEq, Nat.reduceAdd]; rfl) ⟨hc, hl2 (by omega), hf2 e1⟩ (by show more.length - (i + 1) < more.length - i; omega)
      · refine ⟨by omega, ?_⟩
        refine loop_intro (A := M6 f s k (.sl p 8 (.int .i64) xs) xs) (r, (0 : Nat)) ?_ ⟨rfl, Nat.zero_le _⟩ ?_
        · simp (maxSteps := 2000000) only [M6_I, ac1, triS, newS, go_sem, eq_self, and_self, Int.natCast_pos, Int.le_refl, Nat.le_refl, Int.natCast_nonneg, Int.ofNat_lt, Int.ofNat_le, Int.reduceLT, Int.reduceLE, Int.reduceEq, Int.reduceNe, Int.reduceAdd, Int.reduceSub, Int.reduceMul, Int.reduceToNat, Int.reduceNeg, Nat.reduceEqDiff, Nat.reduceLeDiff, Nat.reduceSub, Nat.reduceMul, Nat.reduceLT, Nat.reduceBEq, Nat.reduceAdd]
          rfl
        · rintro ⟨r', j⟩ ⟨e1, hj⟩
          simp only at e1 hj
          subst e1
          simp (maxSteps := 2000000) only [M6_I, ac1, C25, inH, go_sem, eq_self, and_self, Int.natCast_pos, Int.le_refl, Nat.le_refl, Int.natCast_nonneg, Int.ofNat_lt, Int.ofNat_le, Int.reduceLT, Int.reduceLE, Int.reduceEq, Int.reduceNe, Int.reduceAdd, Int.reduceSub, Int.reduceMul, Int.reduceToNat, Int.reduceNeg, Nat.reduceEqDiff, Nat.reduceLeDiff, Nat.reduceSub, Nat.reduceMul, Nat.reduceLT, Nat.reduceBEq, Nat.reduceAdd]
          rintro c rfl
          refine sw_intro (fun hd => ?_) (fun hd => ?_) <;> simp only [decide_eq_true_eq, decide_eq_false_iff_not] at hd
          · have hg : ∀ n : Int, GoodA { (newS ⟨#[109, 101]⟩) with inb := (f, s, k, xs) :: r', tries := n } [] 1000 := fun n => by
              refine ⟨rfl, rfl, Nat.zero_le _, ?_, ?_, (goodA_new (k := ⟨#[109, 101]⟩) rfl).inv, Rel.nil⟩
              · show r'.length + 1 ≤ 8
                omega
              · show (fmL (f, s, k, xs) && r'.all fmL) = true
                rw [hfl, hrf]
                rfl
            have hok : ∀ n : Int, 0 ≤ n ∧ n < 3 → takeOk { (newS ⟨#[109, 101]⟩) with inb := (f, s, k, xs) :: r', tries := n } [] refC 0 := fun n hn => by
              refine ⟨?_, rfl, Int.le_refl 0⟩
              show sndS n (r'.length + 1) [] = true
              simp [sndS]
              omega
            have ht1 : triS (f, s, k, xs) r' 1 = { (newS ⟨#[109, 101]⟩) with inb := (f, s, k, xs) :: r', tries := 1 } := rfl
            have ht2 : triS (f, s, k, xs) r' 2 = { (newS ⟨#[109, 101]⟩) with inb := (f, s, k, xs) :: r', tries := 2 } := rfl
            have ht3 : triS (f, s, k, xs) r' 3 = { (newS ⟨#[109, 101]⟩) with inb := r', poi := [(f, s, k, xs)] } := rfl
            obtain rfl | rfl | rfl : j = 0 ∨ j = 1 ∨ j = 2 := by omega
            · refine c21_nil (S := { (newS ⟨#[109, 101]⟩) with inb := (f, s, k, xs) :: r', tries := 0 }) (hg 0) (takeK_fail (hok 0 (by omega)) rfl (ref_run _ _ _ _ _) (show (12 : Int) ≠ 0 by decide) (Nat.zero_lt_succ _) (fun _ => ?_) (fun h9 => absurd (show ((0 : Nat) : Int) + 1 < 3 by decide) h9))
              simp (maxSteps := 2000000) only [acH, newS, ref_steps, go_sem, eq_self, and_self, Int.natCast_pos, Int.le_refl, Nat.le_refl, Int.natCast_nonneg, Int.ofNat_lt, Int.ofNat_le, Int.reduceLT, Int.reduceLE, Int.reduceEq, Int.reduceNe, Int.reduceAdd, Int.reduceSub, Int.reduceMul, Int.reduceToNat, Int.reduceNeg, Nat.reduceEqDiff, Nat.reduceLeDiff, Nat.reduceSub, Nat.reduceMul, Nat.reduceLT, Nat.reduceBEq, Nat.reduceAdd]
              rintro c hc1 c2 hc2
              rw [show c = false from hc1] at hc2
              rw [show c2 = false from hc2]
              refine sw_intro (fun h9 => by cases h9) (fun _ => ?_)
              rintro _ _ m hm
              rw [show m = 1 from hm]
              refine lpE_intro (A := M6 f s k (.sl p 8 (.int .i64) xs) xs) (r', 1) (by simp (maxSteps := 2000000) only [M6_I, ac1, ht1, newS, go_sem, eq_self, and_self, Int.natCast_pos, Int.le_refl, Nat.le_refl, Int.natCast_nonneg, Int.ofNat_lt, Int.ofNat_le, Int.reduceLT, Int.reduceLE, Int.reduceEq, Int.reduceNe, Int.reduceAdd, Int.reduceSub, Int.reduceMul, Int.reduceToNat, Int.reduceNeg, Nat.reduceEqDiff, Nat.reduceLeDiff, Nat.reduceSub, Nat.reduceMul, Nat.reduceLT, Nat.reduceBEq, Nat.reduceAdd]; rfl) ⟨rfl, show 1 ≤ 3 by decide⟩ (by show 3 - 1 < 3 - 0; decide)
            · refine c21_nil (S := { (newS ⟨#[109, 101]⟩) with inb := (f, s, k, xs) :: r', tries := 1 }) (hg 1) (takeK_fail (hok 1 (by omega)) rfl (ref_run _ _ _ _ _) (show (12 : Int) ≠ 0 by decide) (Nat.zero_lt_succ _) (fun _ => ?_) (fun h9 => absurd (show ((1 : Nat) : Int) + 1 < 3 by decide) h9))
              simp (maxSteps := 2000000) only [acH, newS, ref_steps, go_sem, eq_self, and_self, Int.natCast_pos, Int.le_refl, Nat.le_refl, Int.natCast_nonneg, Int.ofNat_lt, Int.ofNat_le, Int.reduceLT, Int.reduceLE, Int.reduceEq, Int.reduceNe, Int.reduceAdd, Int.reduceSub, Int.reduceMul, Int.reduceToNat, Int.reduceNeg, Nat.reduceEqDiff, Nat.reduceLeDiff, Nat.reduceSub, Nat.reduceMul, Nat.reduceLT, Nat.reduceBEq, Nat.reduceAdd]
              rintro c hc1 c2 hc2
              rw [show c = false from hc1] at hc2
              rw [show c2 = false from hc2]
              refine sw_intro (fun h9 => by cases h9) (fun _ => ?_)
              rintro _ _ m hm
              rw [show m = 2 from hm]
              refine lpE_intro (A := M6 f s k (.sl p 8 (.int .i64) xs) xs) (r', 2) (by simp (maxSteps := 2000000) only [M6_I, ac1, ht2, newS, go_sem, eq_self, and_self, Int.natCast_pos, Int.le_refl, Nat.le_refl, Int.natCast_nonneg, Int.ofNat_lt, Int.ofNat_le, Int.reduceLT, Int.reduceLE, Int.reduceEq, Int.reduceNe, Int.reduceAdd, Int.reduceSub, Int.reduceMul, Int.reduceToNat, Int.reduceNeg, Nat.reduceEqDiff, Nat.reduceLeDiff, Nat.reduceSub, Nat.reduceMul, Nat.reduceLT, Nat.reduceBEq, Nat.reduceAdd]; rfl) ⟨rfl, show 2 ≤ 3 by decide⟩ (by show 3 - 2 < 3 - 1; decide)
            · refine c21_nil (S := { (newS ⟨#[109, 101]⟩) with inb := (f, s, k, xs) :: r', tries := 2 }) (hg 2) (takeK_fail (hok 2 (by omega)) rfl (ref_run _ _ _ _ _) (show (12 : Int) ≠ 0 by decide) (Nat.zero_lt_succ _) (fun h9 => absurd (show (2 : Int) + 1 < 3 from h9) (by decide)) (fun _ => ?_))
              simp (maxSteps := 2000000) only [acG, newS, ref_steps, go_sem, eq_self, and_self, Int.natCast_pos, Int.le_refl, Nat.le_refl, Int.natCast_nonneg, Int.ofNat_lt, Int.ofNat_le, Int.reduceLT, Int.reduceLE, Int.reduceEq, Int.reduceNe, Int.reduceAdd, Int.reduceSub, Int.reduceMul, Int.reduceToNat, Int.reduceNeg, Nat.reduceEqDiff, Nat.reduceLeDiff, Nat.reduceSub, Nat.reduceMul, Nat.reduceLT, Nat.reduceBEq, Nat.reduceAdd]
              rintro c hc1 c2 hc2
              rw [show c = true from hc1] at hc2
              rw [show c2 = false from hc2]
              refine sw_intro (fun h9 => by cases h9) (fun _ => ?_)
              rintro _ _ m hm
              rw [show m = 3 from hm]
              refine lpE_intro (A := M6 f s k (.sl p 8 (.int .i64) xs) xs) (r', 3) (by simp (maxSteps := 2000000) only [M6_I, ac1, ht3, newS, go_sem, eq_self, and_self, Int.natCast_pos, Int.le_refl, Nat.le_refl, Int.natCast_nonneg, Int.ofNat_lt, Int.ofNat_le, Int.reduceLT, Int.reduceLE, Int.reduceEq, Int.reduceNe, Int.reduceAdd, Int.reduceSub, Int.reduceMul, Int.reduceToNat, Int.reduceNeg, Nat.reduceEqDiff, Nat.reduceLeDiff, Nat.reduceSub, Nat.reduceMul, Nat.reduceLT, Nat.reduceBEq, Nat.reduceAdd]; rfl) ⟨rfl, show 3 ≤ 3 by decide⟩ (by show 3 - 3 < 3 - 2; decide)
          · obtain rfl : j = 3 := by omega
            rw [show triS (f, s, k, xs) r' 3 = { (newS ⟨#[109, 101]⟩) with inb := r', poi := [(f, s, k, xs)] } from rfl]
            simp (maxSteps := 2000000) only [C26, jH, go_sem, eq_self, and_self, Int.natCast_pos, Int.le_refl, Nat.le_refl, Int.natCast_nonneg, Int.ofNat_lt, Int.ofNat_le, Int.reduceLT, Int.reduceLE, Int.reduceEq, Int.reduceNe, Int.reduceAdd, Int.reduceSub, Int.reduceMul, Int.reduceToNat, Int.reduceNeg, Nat.reduceEqDiff, Nat.reduceLeDiff, Nat.reduceSub, Nat.reduceMul, Nat.reduceLT, Nat.reduceBEq, Nat.reduceAdd]
            rintro _ _ m hm
            rw [w64 (by omega)] at hm
            subst hm
            refine ⟨by omega, fun _ _ m hm => by rw [w64 (by omega)] at hm; rw [hm], ?_⟩
            intro c hc1
            rw [show c = true from hc1.trans (decide_eq_true (by omega))]
            refine sw_intro (fun _ => ?_) (fun h9 => by cases h9)
            rintro _ m rfl c hc1
            rw [show c = true from hc1]
            refine sw_intro (fun _ => ?_) (fun h9 => by cases h9)
            intro c hc1
            rw [show c = true from hc1.trans (decide_eq_true rfl)]
            refine sw_intro (fun _ => ?_) (fun h9 => by cases h9)
            intro c hc1
            rw [show c = true from hc1.trans (decide_eq_true rfl)]
            refine sw_intro (fun _ => ?_) (fun h9 => by cases h9)
            intro c hc1
            rw [show c = true from hc1.trans (decide_eq_true rfl)]
            refine sw_intro (fun _ => ?_) (fun h9 => by cases h9)
            intro c hc1
            rw [show c = true from hc1.trans (decide_eq_true rfl)]
            exact h
  · exact h.elim
end Go.V
