/- A part of the proof layer, or functions of the given program in it: contracts and their proofs. -/
import Derived.Test.YthnnbgaphjinnaaMD7
namespace Go.V
open Go.Proofs
set_option maxRecDepth 100000
set_option linter.unusedSimpArgs false
set_option linter.unnecessarySimpa false
set_option linter.unusedVariables false
section use
variable {K : SV → List SB → Prop} {p : Bool} {c : List UInt8} {n : Int}
theorem use12z (k : K (.tup [.int .i64 0, .int .i64 1]) []) : C12 [.nilp, .sl p 1 .byte c] [] K := ⟨rfl, p, c, rfl, k⟩
theorem use14z (k : K (.tup [.own 0, .int .i64 1]) [.row true 1 .byte []]) : C14 [.nilp, .int .i64 n] [] K := ⟨rfl, k⟩
theorem use18z (k : K (.int .i64 1) []) : C18 [.nilp, .int .i64 n] [] K := ⟨rfl, k⟩
theorem use19z (k : K (.own 0) [.row true 8 (.int .i64) []]) : C19 [.nilp] [] K := ⟨rfl, k⟩
theorem use15z (k : K (.own 0) [.row true 8 (.int .i64) []]) : C15 [.nilp] [] K := ⟨rfl, k⟩
theorem use17z (k : K (.own 0) [.row true 8 (.int .i64) []]) : C17 [.nilp, .int .i64 n] [] K := ⟨rfl, k⟩
theorem use10z {fr ct : Int} {ns : List Int} (k : K (.tup [.nilp, .int .i64 1]) []) : C10 [.nilp, .int .i64 fr, .int .i64 ct, .sl p 8 (.int .i64) ns] [] K := ⟨rfl, p, ns, rfl, k⟩
end use
structure G6 where
  i : Nat
  xs : List UInt8
  e : PE
  F : List (Int × Bool)
  bl : List ByT.den
  lg : List LgT.den
  f : Int
def A6 (n : Int) (p : Bool) (b : List UInt8) : LoopAnn := {
  G := G6
  I := fun g => ⟨[(0, .int .i64 n), (1, .sl p 1 .byte b), (5, .nilp), (7, .int .i64 1), (9, .int .i64 1), (10, .ptr 0 0), (13, .int .i64 5), (14, .int .i64 5), (15, .int .i64 g.e.n), (17, .own 6), (71, .int .i64 b.length), (72, .int .i64 g.i)],
    pgH true 2 (tOf [g.e]) g.F g.bl g.lg g.f false ++ [.row true 1 .byte g.xs]⟩
  R := fun g0 g => (g.i ≤ b.length ∧ g.xs.length = b.length) ∧ g.e = g0.e ∧ g.F = g0.F ∧ g.bl = g0.bl ∧ g.lg = g0.lg ∧ g.f = g0.f
  μ := fun g => b.length - g.i }
theorem I6 (n p b) (g : G6) : (A6 n p b).I g = ⟨[(0, .int .i64 n), (1, .sl p 1 .byte b), (5, .nilp), (7, .int .i64 1), (9, .int .i64 1), (10, .ptr 0 0), (13, .int .i64 5), (14, .int .i64 5), (15, .int .i64 g.e.n), (17, .own 6), (71, .int .i64 b.length), (72, .int .i64 g.i)],
    pgH true 2 (tOf [g.e]) g.F g.bl g.lg g.f false ++ [.row true 1 .byte g.xs]⟩ := rfl
/-- PagesNil -/
def C6 : Contract := fun args hp K => match args, hp with
  | [.int .i64 n, .sl p 1 .byte b], [] => K (.bool true) []
  | _, _ => False
theorem s6 : Sound Try.prog 6 C6 := by
  refine sound_of_okF ok6 (Γ := [(9, C9), (10, C10), (11, C11), (12, C12), (14, C14), (15, C15), (17, C17), (18, C18), (19, C19)]) (.cons s9 (callable_of_okF ok9) (.cons s10 (callable_of_okF ok10) (.cons s11 (callable_of_okF ok11) (.cons s12 (callable_of_okF ok12) (.cons s14 (callable_of_okF ok14) (.cons s15 (callable_of_okF ok15) (.cons s17 (callable_of_okF ok17) (.cons s18 (callable_of_okF ok18) (.cons s19 (callable_of_okF ok19) .nil))))))))) ?_
  intro args hp K h
  unfold C6 at h
  split at h
  · rename_i n p b
    refine ⟨by simp, [(1, A6 n p b)], ?_⟩
    simp (maxSteps := 2000000) only [a6, r6, go_sem, eq_self, and_self, Int.natCast_pos, Int.le_refl, Nat.le_refl, Int.natCast_nonneg, Int.ofNat_lt, Int.ofNat_le, Int.reduceLT, Int.reduceLE, Int.reduceEq, Int.reduceNe, Int.reduceAdd, Int.reduceSub, Int.reduceMul, Int.reduceToNat, Int.reduceNeg, Nat.reduceEqDiff, Nat.reduceLeDiff, Nat.reduceSub, Nat.reduceMul, Nat.reduceLT, Nat.reduceBEq, Nat.reduceAdd]
    refine use9 ?_
    simp (maxSteps := 2000000) only [go_sem, eq_self, and_self, Int.natCast_pos, Int.le_refl, Nat.le_refl, Int.natCast_nonneg, Int.ofNat_lt, Int.ofNat_le, Int.reduceLT, Int.reduceLE, Int.reduceEq, Int.reduceNe, Int.reduceAdd, Int.reduceSub, Int.reduceMul, Int.reduceToNat, Int.reduceNeg, Nat.reduceEqDiff, Nat.reduceLeDiff, Nat.reduceSub, Nat.reduceMul, Nat.reduceLT, Nat.reduceBEq, Nat.reduceAdd]
    rintro _ _ m rfl
    refine swd (fun _ => use9 ?_) (fun hb => ?_)
    · simp (maxSteps := 2000000) only [go_sem, eq_self, and_self, Int.natCast_pos, Int.le_refl, Nat.le_refl, Int.natCast_nonneg, Int.ofNat_lt, Int.ofNat_le, Int.reduceLT, Int.reduceLE, Int.reduceEq, Int.reduceNe, Int.reduceAdd, Int.reduceSub, Int.reduceMul, Int.reduceToNat, Int.reduceNeg, Nat.reduceEqDiff, Nat.reduceLeDiff, Nat.reduceSub, Nat.reduceMul, Nat.reduceLT, Nat.reduceBEq, Nat.reduceAdd]
      exact h
    refine use12z ?_
    simp (maxSteps := 2000000) only [go_sem, eq_self, and_self, Int.natCast_pos, Int.le_refl, Nat.le_refl, Int.natCast_nonneg, Int.ofNat_lt, Int.ofNat_le, Int.reduceLT, Int.reduceLE, Int.reduceEq, Int.reduceNe, Int.reduceAdd, Int.reduceSub, Int.reduceMul, Int.reduceToNat, Int.reduceNeg, Nat.reduceEqDiff, Nat.reduceLeDiff, Nat.reduceSub, Nat.reduceMul, Nat.reduceLT, Nat.reduceBEq, Nat.reduceAdd]
    refine use14z ?_
    simp (maxSteps := 2000000) only [go_sem, eq_self, and_self, Int.natCast_pos, Int.le_refl, Nat.le_refl, Int.natCast_nonneg, Int.ofNat_lt, Int.ofNat_le, Int.reduceLT, Int.reduceLE, Int.reduceEq, Int.reduceNe, Int.reduceAdd, Int.reduceSub, Int.reduceMul, Int.reduceToNat, Int.reduceNeg, Nat.reduceEqDiff, Nat.reduceLeDiff, Nat.reduceSub, Nat.reduceMul, Nat.reduceLT, Nat.reduceBEq, Nat.reduceAdd]
    refine use11 (by omega) ?_
    simp (maxSteps := 2000000) only [dkH, go_sem, eq_self, and_self, Int.natCast_pos, Int.le_refl, Nat.le_refl, Int.natCast_nonneg, Int.ofNat_lt, Int.ofNat_le, Int.reduceLT, Int.reduceLE, Int.reduceEq, Int.reduceNe, Int.reduceAdd, Int.reduceSub, Int.reduceMul, Int.reduceToNat, Int.reduceNeg, Nat.reduceEqDiff, Nat.reduceLeDiff, Nat.reduceSub, Nat.reduceMul, Nat.reduceLT, Nat.reduceBEq, Nat.reduceAdd]
    refine use10 (by omega) (by omega) (by simp) (by simp) (fun i0 => ?_)
    simp (maxSteps := 2000000) only [dkH, pgN, go_sem, eq_self, and_self, Int.natCast_pos, Int.le_refl, Nat.le_refl, Int.natCast_nonneg, Int.ofNat_lt, Int.ofNat_le, Int.reduceLT, Int.reduceLE, Int.reduceEq, Int.reduceNe, Int.reduceAdd, Int.reduceSub, Int.reduceMul, Int.reduceToNat, Int.reduceNeg, Nat.reduceEqDiff, Nat.reduceLeDiff, Nat.reduceSub, Nat.reduceMul, Nat.reduceLT, Nat.reduceBEq, Nat.reduceAdd]
    refine use14n (L := []) (by simp [nOf]) ?_
    simp (maxSteps := 2000000) only [pgH, go_sem, eq_self, and_self, Int.natCast_pos, Int.le_refl, Nat.le_refl, Int.natCast_nonneg, Int.ofNat_lt, Int.ofNat_le, Int.reduceLT, Int.reduceLE, Int.reduceEq, Int.reduceNe, Int.reduceAdd, Int.reduceSub, Int.reduceMul, Int.reduceToNat, Int.reduceNeg, Nat.reduceEqDiff, Nat.reduceLeDiff, Nat.reduceSub, Nat.reduceMul, Nat.reduceLT, Nat.reduceBEq, Nat.reduceAdd]
    refine use18n (L := []) (by simp [nOf]) ?_
    simp (maxSteps := 2000000) only [pgH, go_sem, eq_self, and_self, Int.natCast_pos, Int.le_refl, Nat.le_refl, Int.natCast_nonneg, Int.ofNat_lt, Int.ofNat_le, Int.reduceLT, Int.reduceLE, Int.reduceEq, Int.reduceNe, Int.reduceAdd, Int.reduceSub, Int.reduceMul, Int.reduceToNat, Int.reduceNeg, Nat.reduceEqDiff, Nat.reduceLeDiff, Nat.reduceSub, Nat.reduceMul, Nat.reduceLT, Nat.reduceBEq, Nat.reduceAdd]
    have hF : (initF 2 28).length = 28 := rfl
    have hnd : needN b.length ≤ 28 := by unfold needN; omega
    refine use12 i0 (by simp) (fun h1 => absurd h1 (by omega)) (fun _ h2 => absurd h2 (by omega)) (fun h1 h2 _ F' bl' i1 _ hnn => ?_) (fun _ _ h3 => absurd h3 (by omega))
    rw [List.nil_append] at i1 ⊢
    have hec : (putE (initF 2 28) b).c = b := rfl
    generalize putE (initF 2 28) b = e at *
    generalize wsF (takeF (initF 2 28) b.length) b = ws at *
    generalize fuA (-1) (needN b.length) = f' at *
    simp (maxSteps := 2000000) only [pgH, go_sem, eq_self, and_self, Int.natCast_pos, Int.le_refl, Nat.le_refl, Int.natCast_nonneg, Int.ofNat_lt, Int.ofNat_le, Int.reduceLT, Int.reduceLE, Int.reduceEq, Int.reduceNe, Int.reduceAdd, Int.reduceSub, Int.reduceMul, Int.reduceToNat, Int.reduceNeg, Nat.reduceEqDiff, Nat.reduceLeDiff, Nat.reduceSub, Nat.reduceMul, Nat.reduceLT, Nat.reduceBEq, Nat.reduceAdd]
    refine use14 i1 (e := e) (by simp) rfl ?_
    simp (maxSteps := 2000000) only [pgH, go_sem, eq_self, and_self, Int.natCast_pos, Int.le_refl, Nat.le_refl, Int.natCast_nonneg, Int.ofNat_lt, Int.ofNat_le, Int.reduceLT, Int.reduceLE, Int.reduceEq, Int.reduceNe, Int.reduceAdd, Int.reduceSub, Int.reduceMul, Int.reduceToNat, Int.reduceNeg, Nat.reduceEqDiff, Nat.reduceLeDiff, Nat.reduceSub, Nat.reduceMul, Nat.reduceLT, Nat.reduceBEq, Nat.reduceAdd]
    rw [hec]
    rintro _ _ m rfl
    refine loop_intro (A := A6 n p b) (⟨0, b, e, F', bl', ws, f'⟩ : G6) ?_ ⟨⟨Nat.zero_le _, rfl⟩, rfl, rfl, rfl, rfl, rfl⟩ ?_
    · simp (maxSteps := 2000000) only [I6, pgH, go_sem, eq_self, and_self, Int.natCast_pos, Int.le_refl, Nat.le_refl, Int.natCast_nonneg, Int.ofNat_lt, Int.ofNat_le, Int.reduceLT, Int.reduceLE, Int.reduceEq, Int.reduceNe, Int.reduceAdd, Int.reduceSub, Int.reduceMul, Int.reduceToNat, Int.reduceNeg, Nat.reduceEqDiff, Nat.reduceLeDiff, Nat.reduceSub, Nat.reduceMul, Nat.reduceLT, Nat.reduceBEq, Nat.reduceAdd]
      rfl
    · rintro (g : G6) ⟨⟨g1, g2⟩, g3, g4, g5, g6, g7⟩
      obtain ⟨i, xs, ge, gF, gbl, glg, gf⟩ := g
      simp only at g1 g2 g3 g4 g5 g6 g7
      subst g3 g4 g5 g6 g7
      simp (maxSteps := 2000000) only [I6, pgH, go_sem, eq_self, and_self, Int.natCast_pos, Int.le_refl, Nat.le_refl, Int.natCast_nonneg, Int.ofNat_lt, Int.ofNat_le, Int.reduceLT, Int.reduceLE, Int.reduceEq, Int.reduceNe, Int.reduceAdd, Int.reduceSub, Int.reduceMul, Int.reduceToNat, Int.reduceNeg, Nat.reduceEqDiff, Nat.reduceLeDiff, Nat.reduceSub, Nat.reduceMul, Nat.reduceLT, Nat.reduceBEq, Nat.reduceAdd]
      refine swd (fun hlt => ?_) (fun hge => ?_)
      · refine nd_intro (by omega) ?_
        rintro _ _ m hm
        refine nd_intro (by omega) ?_
        rintro _ _ m1 hm1
        rw [w64 (by omega)] at hm1
        subst hm1
        refine lpE_intro (A := A6 n p b) (⟨i + 1, xs.set i (UInt8.ofNat m.toNat), ge, gF, gbl, glg, gf⟩ : G6) ?_ ⟨⟨hlt, by rw [List.length_set]; exact g2⟩, rfl, rfl, rfl, rfl, rfl⟩ (by show b.length - (i + 1) < b.length - i; omega)
        simp (maxSteps := 2000000) only [I6, pgH, go_sem, eq_self, and_self, Int.natCast_pos, Int.le_refl, Nat.le_refl, Int.natCast_nonneg, Int.ofNat_lt, Int.ofNat_le, Int.reduceLT, Int.reduceLE, Int.reduceEq, Int.reduceNe, Int.reduceAdd, Int.reduceSub, Int.reduceMul, Int.reduceToNat, Int.reduceNeg, Nat.reduceEqDiff, Nat.reduceLeDiff, Nat.reduceSub, Nat.reduceMul, Nat.reduceLT, Nat.reduceBEq, Nat.reduceAdd]
        rfl
      · refine use14 i1 (e := ge) (by simp) rfl ?_
        simp (maxSteps := 2000000) only [pgH, go_sem, eq_self, and_self, Int.natCast_pos, Int.le_refl, Nat.le_refl, Int.natCast_nonneg, Int.ofNat_lt, Int.ofNat_le, Int.reduceLT, Int.reduceLE, Int.reduceEq, Int.reduceNe, Int.reduceAdd, Int.reduceSub, Int.reduceMul, Int.reduceToNat, Int.reduceNeg, Nat.reduceEqDiff, Nat.reduceLeDiff, Nat.reduceSub, Nat.reduceMul, Nat.reduceLT, Nat.reduceBEq, Nat.reduceAdd]
        refine use10z ?_
        simp (maxSteps := 2000000) only [go_sem, eq_self, and_self, Int.natCast_pos, Int.le_refl, Nat.le_refl, Int.natCast_nonneg, Int.ofNat_lt, Int.ofNat_le, Int.reduceLT, Int.reduceLE, Int.reduceEq, Int.reduceNe, Int.reduceAdd, Int.reduceSub, Int.reduceMul, Int.reduceToNat, Int.reduceNeg, Nat.reduceEqDiff, Nat.reduceLeDiff, Nat.reduceSub, Nat.reduceMul, Nat.reduceLT, Nat.reduceBEq, Nat.reduceAdd]
        refine use18z ?_
        simp (maxSteps := 2000000) only [go_sem, eq_self, and_self, Int.natCast_pos, Int.le_refl, Nat.le_refl, Int.natCast_nonneg, Int.ofNat_lt, Int.ofNat_le, Int.reduceLT, Int.reduceLE, Int.reduceEq, Int.reduceNe, Int.reduceAdd, Int.reduceSub, Int.reduceMul, Int.reduceToNat, Int.reduceNeg, Nat.reduceEqDiff, Nat.reduceLeDiff, Nat.reduceSub, Nat.reduceMul, Nat.reduceLT, Nat.reduceBEq, Nat.reduceAdd]
        refine use19z ?_
        simp (maxSteps := 2000000) only [go_sem, eq_self, and_self, Int.natCast_pos, Int.le_refl, Nat.le_refl, Int.natCast_nonneg, Int.ofNat_lt, Int.ofNat_le, Int.reduceLT, Int.reduceLE, Int.reduceEq, Int.reduceNe, Int.reduceAdd, Int.reduceSub, Int.reduceMul, Int.reduceToNat, Int.reduceNeg, Nat.reduceEqDiff, Nat.reduceLeDiff, Nat.reduceSub, Nat.reduceMul, Nat.reduceLT, Nat.reduceBEq, Nat.reduceAdd]
        rintro _ m rfl
        refine swd (fun _ => ?_) (fun e => absurd Int.natCast_zero e)
        refine use15z ?_
        simp (maxSteps := 2000000) only [go_sem, eq_self, and_self, Int.natCast_pos, Int.le_refl, Nat.le_refl, Int.natCast_nonneg, Int.ofNat_lt, Int.ofNat_le, Int.reduceLT, Int.reduceLE, Int.reduceEq, Int.reduceNe, Int.reduceAdd, Int.reduceSub, Int.reduceMul, Int.reduceToNat, Int.reduceNeg, Nat.reduceEqDiff, Nat.reduceLeDiff, Nat.reduceSub, Nat.reduceMul, Nat.reduceLT, Nat.reduceBEq, Nat.reduceAdd]
        rintro _ m rfl
        refine swd (fun _ => ?_) (fun e => absurd Int.natCast_zero e)
        refine use17z ?_
        simp (maxSteps := 2000000) only [go_sem, eq_self, and_self, Int.natCast_pos, Int.le_refl, Nat.le_refl, Int.natCast_nonneg, Int.ofNat_lt, Int.ofNat_le, Int.reduceLT, Int.reduceLE, Int.reduceEq, Int.reduceNe, Int.reduceAdd, Int.reduceSub, Int.reduceMul, Int.reduceToNat, Int.reduceNeg, Nat.reduceEqDiff, Nat.reduceLeDiff, Nat.reduceSub, Nat.reduceMul, Nat.reduceLT, Nat.reduceBEq, Nat.reduceAdd]
        rintro _ m rfl
        refine swd (fun _ => ?_) (fun e => absurd Int.natCast_zero e)
        rw [hec]
        rintro u rfl u1 rfl
        exact swd (fun _ => h) (fun e => absurd rfl e)
  · exact h.elim
end Go.V
