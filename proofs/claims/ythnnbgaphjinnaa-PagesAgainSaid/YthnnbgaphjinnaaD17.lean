/- A part of the proof layer, or functions of the given program in it: contracts and their proofs. -/
import Derived.Test.YthnnbgaphjinnaaD16
namespace Go.V
open Go.Proofs
set_option maxRecDepth 100000
set_option linter.unusedSimpArgs false
set_option linter.unnecessarySimpa false
set_option linter.unusedVariables false
structure G5 where
  i : Nat
  F : List (Int × Bool)
  bl : List ByT.den
  lg : List LgT.den
def A5 (p : Bool) (kept : List UInt8) (tx : List UInt8) (e : PE) (fr : Nat) (rounds : Int) : LoopAnn := {
  G := G5
  I := fun g => ⟨[(0, .sl p 1 .byte kept), (7, .ptr 0 0), (9, .int .i64 e.n), (11, .own 6), (12, .int .i64 fr), (52, .int .u8 rounds), (53, .int .u8 g.i)],
    pgH true 0 (tOf [e]) g.F g.bl g.lg (-1) false ++ [.row true 1 .byte tx]⟩
  R := fun _ g => (g.i : Int) ≤ rounds ∧ Inv 0 60 g.bl [e] g.F ∧ g.F.length = fr ∧ g.lg.length ≤ 100 + 100 * g.i
  μ := fun g => (rounds - g.i).toNat }
theorem I5 (p kept tx e fr rounds) (g : G5) : (A5 p kept tx e fr rounds).I g = ⟨[(0, .sl p 1 .byte kept), (7, .ptr 0 0), (9, .int .i64 e.n), (11, .own 6), (12, .int .i64 fr), (52, .int .u8 rounds), (53, .int .u8 g.i)],
    pgH true 0 (tOf [e]) g.F g.bl g.lg (-1) false ++ [.row true 1 .byte tx]⟩ := rfl
/-- PagesAgain -/
def C5 : Contract := fun args hp K => match args, hp with
  | [.sl p 1 .byte kept, .agg [.int .i64 k, .int .i64 n, .sl q 1 .byte B], .int .u8 rounds], [] => (0 ≤ rounds ∧ rounds ≤ 255) ∧ K (.bool true) []
  | _, _ => False
theorem s5 : Sound Try.prog 5 C5 := by
  refine sound_of_okF ok5 (Γ := [(9, C9), (10, C10), (11, C11), (12, C12), (13, C13), (14, C14), (15, C15), (16, C16), (18, C18), (19, C19)]) (.cons s9 (callable_of_okF ok9) (.cons s10 (callable_of_okF ok10) (.cons s11 (callable_of_okF ok11) (.cons s12 (callable_of_okF ok12) (.cons s13 (callable_of_okF ok13) (.cons s14 (callable_of_okF ok14) (.cons s15 (callable_of_okF ok15) (.cons s16 (callable_of_okF ok16) (.cons s18 (callable_of_okF ok18) (.cons s19 (callable_of_okF ok19) .nil)))))))))) ?_
  intro args hp K h
  unfold C5 at h
  split at h
  · rename_i p kept k n q B rounds
    obtain ⟨hr, h⟩ := h
    refine ⟨by simp, [(1, A5 p kept (txF n B) (putE (initF 0 60) kept) (60 - needN kept.length) rounds)], ?_⟩
    simp (maxSteps := 2000000) only [a5, r5, go_sem, eq_self, and_self, Int.natCast_pos, Int.le_refl, Nat.le_refl, Int.natCast_nonneg, Int.ofNat_lt, Int.ofNat_le, Int.reduceLT, Int.reduceLE, Int.reduceEq, Int.reduceNe, Int.reduceAdd, Int.reduceSub, Int.reduceMul, Int.reduceToNat, Int.reduceNeg, Nat.reduceEqDiff, Nat.reduceLeDiff, Nat.reduceSub, Nat.reduceMul, Nat.reduceLT, Nat.reduceBEq, Nat.reduceAdd]
    refine use9 ?_
    simp (maxSteps := 2000000) only [go_sem, eq_self, and_self, Int.natCast_pos, Int.le_refl, Nat.le_refl, Int.natCast_nonneg, Int.ofNat_lt, Int.ofNat_le, Int.reduceLT, Int.reduceLE, Int.reduceEq, Int.reduceNe, Int.reduceAdd, Int.reduceSub, Int.reduceMul, Int.reduceToNat, Int.reduceNeg, Nat.reduceEqDiff, Nat.reduceLeDiff, Nat.reduceSub, Nat.reduceMul, Nat.reduceLT, Nat.reduceBEq, Nat.reduceAdd]
    rintro _ _ m rfl
    refine swd (fun _ => use9 ?_) (fun hb => ?_)
    · simp (maxSteps := 2000000) only [go_sem, eq_self, and_self, Int.natCast_pos, Int.le_refl, Nat.le_refl, Int.natCast_nonneg, Int.ofNat_lt, Int.ofNat_le, Int.reduceLT, Int.reduceLE, Int.reduceEq, Int.reduceNe, Int.reduceAdd, Int.reduceSub, Int.reduceMul, Int.reduceToNat, Int.reduceNeg, Nat.reduceEqDiff, Nat.reduceLeDiff, Nat.reduceSub, Nat.reduceMul, Nat.reduceLT, Nat.reduceBEq, Nat.reduceAdd]
      exact h
    refine use11 (by omega) ?_
    simp (maxSteps := 2000000) only [dkH, go_sem, eq_self, and_self, Int.natCast_pos, Int.le_refl, Nat.le_refl, Int.natCast_nonneg, Int.ofNat_lt, Int.ofNat_le, Int.reduceLT, Int.reduceLE, Int.reduceEq, Int.reduceNe, Int.reduceAdd, Int.reduceSub, Int.reduceMul, Int.reduceToNat, Int.reduceNeg, Nat.reduceEqDiff, Nat.reduceLeDiff, Nat.reduceSub, Nat.reduceMul, Nat.reduceLT, Nat.reduceBEq, Nat.reduceAdd]
    refine use10 (by omega) (by omega) (by simp) (by simp) (fun i0 => ?_)
    simp (maxSteps := 2000000) only [dkH, pgN, go_sem, eq_self, and_self, Int.natCast_pos, Int.le_refl, Nat.le_refl, Int.natCast_nonneg, Int.ofNat_lt, Int.ofNat_le, Int.reduceLT, Int.reduceLE, Int.reduceEq, Int.reduceNe, Int.reduceAdd, Int.reduceSub, Int.reduceMul, Int.reduceToNat, Int.reduceNeg, Nat.reduceEqDiff, Nat.reduceLeDiff, Nat.reduceSub, Nat.reduceMul, Nat.reduceLT, Nat.reduceBEq, Nat.reduceAdd]
    have hF : (initF 0 60).length = 60 := rfl
    have hnd : needN kept.length ≤ 9 ∧ 1 ≤ needN kept.length := by unfold needN; omega
    refine use12 i0 (by simp) (fun h1 => absurd h1 (by omega)) (fun _ h2 => absurd h2 (by omega)) (fun h1 h2 _ F' bl' i1 _ hnn => ?_) (fun _ _ h3 => absurd h3 (by omega))
    rw [List.nil_append] at i1 ⊢
    have hec : (putE (initF 0 60) kept).c = kept := rfl
    have hebl := (i1.ent (putE (initF 0 60) kept) (by simp)).1.len
    rw [hec] at hebl
    have htot := i1.total
    have hlws : (wsF (takeF (initF 0 60) kept.length) kept).length ≤ 100 := by rw [wsF_length]; have : (takeF (initF 0 60) kept.length).length = needN kept.length := hebl; omega
    have hF' : F'.length = 60 - needN kept.length := by simp [bOf] at htot; omega
    have hfu : fuA (-1) (needN kept.length) = -1 := rfl
    rw [hfu]
    generalize putE (initF 0 60) kept = e at *
    generalize wsF (takeF (initF 0 60) kept.length) kept = ws at *
    simp (maxSteps := 2000000) only [pgH, go_sem, eq_self, and_self, Int.natCast_pos, Int.le_refl, Nat.le_refl, Int.natCast_nonneg, Int.ofNat_lt, Int.ofNat_le, Int.reduceLT, Int.reduceLE, Int.reduceEq, Int.reduceNe, Int.reduceAdd, Int.reduceSub, Int.reduceMul, Int.reduceToNat, Int.reduceNeg, Nat.reduceEqDiff, Nat.reduceLeDiff, Nat.reduceSub, Nat.reduceMul, Nat.reduceLT, Nat.reduceBEq, Nat.reduceAdd]
    refine use16 ?_
    simp (maxSteps := 2000000) only [go_sem, eq_self, and_self, Int.natCast_pos, Int.le_refl, Nat.le_refl, Int.natCast_nonneg, Int.ofNat_lt, Int.ofNat_le, Int.reduceLT, Int.reduceLE, Int.reduceEq, Int.reduceNe, Int.reduceAdd, Int.reduceSub, Int.reduceMul, Int.reduceToNat, Int.reduceNeg, Nat.reduceEqDiff, Nat.reduceLeDiff, Nat.reduceSub, Nat.reduceMul, Nat.reduceLT, Nat.reduceBEq, Nat.reduceAdd]
    refine use15 (by omega) ?_
    simp (maxSteps := 2000000) only [pgH, go_sem, eq_self, and_self, Int.natCast_pos, Int.le_refl, Nat.le_refl, Int.natCast_nonneg, Int.ofNat_lt, Int.ofNat_le, Int.reduceLT, Int.reduceLE, Int.reduceEq, Int.reduceNe, Int.reduceAdd, Int.reduceSub, Int.reduceMul, Int.reduceToNat, Int.reduceNeg, Nat.reduceEqDiff, Nat.reduceLeDiff, Nat.reduceSub, Nat.reduceMul, Nat.reduceLT, Nat.reduceBEq, Nat.reduceAdd]
    have htx := txF_length n B
    have hnt : needN (txF n B).length ≤ 26 ∧ 1 ≤ needN (txF n B).length := by unfold needN; omega
    rw [srtI_length]
    rintro _ _ m rfl _ _ m1 rfl
    refine use13 (by omega) ?_
    simp (maxSteps := 2000000) only [go_sem, eq_self, and_self, Int.natCast_pos, Int.le_refl, Nat.le_refl, Int.natCast_nonneg, Int.ofNat_lt, Int.ofNat_le, Int.reduceLT, Int.reduceLE, Int.reduceEq, Int.reduceNe, Int.reduceAdd, Int.reduceSub, Int.reduceMul, Int.reduceToNat, Int.reduceNeg, Nat.reduceEqDiff, Nat.reduceLeDiff, Nat.reduceSub, Nat.reduceMul, Nat.reduceLT, Nat.reduceBEq, Nat.reduceAdd]
    refine swd (fun e => h) (fun hle => ?_)
    rw [hF'] at hle ⊢
    refine loop_intro (A := A5 p kept (txF n B) e (60 - needN kept.length) rounds) (⟨0, F', bl', ws⟩ : G5) ?_ ⟨hr.1, i1, hF', by show ws.length ≤ _; omega⟩ ?_
    · simp (maxSteps := 2000000) only [I5, pgH, go_sem, eq_self, and_self, Int.natCast_pos, Int.le_refl, Nat.le_refl, Int.natCast_nonneg, Int.ofNat_lt, Int.ofNat_le, Int.reduceLT, Int.reduceLE, Int.reduceEq, Int.reduceNe, Int.reduceAdd, Int.reduceSub, Int.reduceMul, Int.reduceToNat, Int.reduceNeg, Nat.reduceEqDiff, Nat.reduceLeDiff, Nat.reduceSub, Nat.reduceMul, Nat.reduceLT, Nat.reduceBEq, Nat.reduceAdd]
      rfl
    · rintro (g : G5) ⟨g1, g2, g3, g4⟩
      obtain ⟨i, F, bl, lg⟩ := g
      simp only at g1 g2 g3 g4
      simp (maxSteps := 2000000) only [I5, pgH, go_sem, eq_self, and_self, Int.natCast_pos, Int.le_refl, Nat.le_refl, Int.natCast_nonneg, Int.ofNat_lt, Int.ofNat_le, Int.reduceLT, Int.reduceLE, Int.reduceEq, Int.reduceNe, Int.reduceAdd, Int.reduceSub, Int.reduceMul, Int.reduceToNat, Int.reduceNeg, Nat.reduceEqDiff, Nat.reduceLeDiff, Nat.reduceSub, Nat.reduceMul, Nat.reduceLT, Nat.reduceBEq, Nat.reduceAdd]
      refine swd (fun hlt => ?_) (fun hge => ?_)
      · refine And.intro rfl ?_
        refine use12 g2 (by omega) (fun h1 => absurd h1 (by omega)) (fun _ h2 => absurd h2 (by omega)) (fun h1 h2 _ F2 bl2 i2 hb2 hnn2 => ?_) (fun _ _ h3 => absurd h3 (by omega))
        have hlw : (wsF (takeF F (txF n B).length) (txF n B)).length ≤ 26 := by rw [wsF_length, takeF_length h2]; omega
        have hfu2 : fuA (-1) (needN (txF n B).length) = -1 := rfl
        rw [hfu2]
        generalize putE F (txF n B) = e2 at *
        generalize wsF (takeF F (txF n B).length) (txF n B) = ws2 at *
        simp (maxSteps := 2000000) only [pgH, go_sem, eq_self, and_self, Int.natCast_pos, Int.le_refl, Nat.le_refl, Int.natCast_nonneg, Int.ofNat_lt, Int.ofNat_le, Int.reduceLT, Int.reduceLE, Int.reduceEq, Int.reduceNe, Int.reduceAdd, Int.reduceSub, Int.reduceMul, Int.reduceToNat, Int.reduceNeg, Nat.reduceEqDiff, Nat.reduceLeDiff, Nat.reduceSub, Nat.reduceMul, Nat.reduceLT, Nat.reduceBEq, Nat.reduceAdd]
        refine use14 i2 (e := e) (by simp) rfl ?_
        simp (maxSteps := 2000000) only [pgH, go_sem, eq_self, and_self, Int.natCast_pos, Int.le_refl, Nat.le_refl, Int.natCast_nonneg, Int.ofNat_lt, Int.ofNat_le, Int.reduceLT, Int.reduceLE, Int.reduceEq, Int.reduceNe, Int.reduceAdd, Int.reduceSub, Int.reduceMul, Int.reduceToNat, Int.reduceNeg, Nat.reduceEqDiff, Nat.reduceLeDiff, Nat.reduceSub, Nat.reduceMul, Nat.reduceLT, Nat.reduceBEq, Nat.reduceAdd]
        rw [hec]
        rintro u rfl u1 rfl
        refine swn (fun e => absurd rfl e) (fun _ => ?_)
        refine swd (fun he => absurd (by rw [he]; simp [nOf]) hnn2) (fun _ => ?_)
        refine use18 (A := [e]) (B := []) i2 rfl (fun F3 i3 => ?_)
        rw [List.append_nil] at i3 ⊢
        simp (maxSteps := 2000000) only [pgH, go_sem, eq_self, and_self, Int.natCast_pos, Int.le_refl, Nat.le_refl, Int.natCast_nonneg, Int.ofNat_lt, Int.ofNat_le, Int.reduceLT, Int.reduceLE, Int.reduceEq, Int.reduceNe, Int.reduceAdd, Int.reduceSub, Int.reduceMul, Int.reduceToNat, Int.reduceNeg, Nat.reduceEqDiff, Nat.reduceLeDiff, Nat.reduceSub, Nat.reduceMul, Nat.reduceLT, Nat.reduceBEq, Nat.reduceAdd]
        have ht3 := i3.total
        have hF3 : F3.length = 60 - needN kept.length := by simp [bOf] at ht3; omega
        refine use15 (by omega) ?_
        simp (maxSteps := 2000000) only [pgH, go_sem, eq_self, and_self, Int.natCast_pos, Int.le_refl, Nat.le_refl, Int.natCast_nonneg, Int.ofNat_lt, Int.ofNat_le, Int.reduceLT, Int.reduceLE, Int.reduceEq, Int.reduceNe, Int.reduceAdd, Int.reduceSub, Int.reduceMul, Int.reduceToNat, Int.reduceNeg, Nat.reduceEqDiff, Nat.reduceLeDiff, Nat.reduceSub, Nat.reduceMul, Nat.reduceLT, Nat.reduceBEq, Nat.reduceAdd]
        rw [srtI_length, hF3]
        rintro _ _ m rfl
        refine swn (fun e => absurd rfl e) (fun _ => ?_)
        rintro _ _ m hm
        rw [wu8 (by omega)] at hm
        subst hm
        refine lpE_intro (A := A5 p kept (txF n B) e (60 - needN kept.length) rounds) (⟨i + 1, F3, bl2, lg ++ ws2⟩ : G5) ?_ ⟨by show ((i + 1 : Nat) : Int) ≤ rounds; omega, i3, hF3, by show (lg ++ ws2).length ≤ 100 + 100 * (i + 1); rw [List.length_append]; omega⟩ (by show (rounds - ((i + 1 : Nat) : Int)).toNat < (rounds - (i : Int)).toNat; omega)
        simp (maxSteps := 2000000) only [I5, pgH, go_sem, eq_self, and_self, Int.natCast_pos, Int.le_refl, Nat.le_refl, Int.natCast_nonneg, Int.ofNat_lt, Int.ofNat_le, Int.reduceLT, Int.reduceLE, Int.reduceEq, Int.reduceNe, Int.reduceAdd, Int.reduceSub, Int.reduceMul, Int.reduceToNat, Int.reduceNeg, Nat.reduceEqDiff, Nat.reduceLeDiff, Nat.reduceSub, Nat.reduceMul, Nat.reduceLT, Nat.reduceBEq, Nat.reduceAdd]
        rfl
      · refine use19 (by simp [tOf]) ?_
        simp (maxSteps := 2000000) only [pgH, go_sem, eq_self, and_self, Int.natCast_pos, Int.le_refl, Nat.le_refl, Int.natCast_nonneg, Int.ofNat_lt, Int.ofNat_le, Int.reduceLT, Int.reduceLE, Int.reduceEq, Int.reduceNe, Int.reduceAdd, Int.reduceSub, Int.reduceMul, Int.reduceToNat, Int.reduceNeg, Nat.reduceEqDiff, Nat.reduceLeDiff, Nat.reduceSub, Nat.reduceMul, Nat.reduceLT, Nat.reduceBEq, Nat.reduceAdd]
        rw [srtI_length]
        rintro _ _ m rfl c hc
        have : c = true := by rw [hc]; exact decide_eq_true (by simp [tOf])
        subst this
        exact h
  · exact h.elim
end Go.V
