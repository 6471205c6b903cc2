/- A part of the proof layer, or functions of the given program in it: contracts and their proofs. -/
import Derived.Test.YthnnbgaphjinnaaMD10
namespace Go.V
open Go.Proofs
set_option maxRecDepth 100000
set_option linter.unusedSimpArgs false
set_option linter.unnecessarySimpa false
set_option linter.unusedVariables false
theorem split_nth : ∀ {L : List PE} {i : Nat}, i < L.length → ∃ A e B, L = A ++ e :: B ∧ A.length = i
  | a :: r, 0, _ => ⟨[], a, r, rfl, rfl⟩
  | a :: r, i + 1, h => by
    obtain ⟨A, e, B, h1, h2⟩ := split_nth (L := r) (Nat.lt_of_succ_lt_succ h)
    exact ⟨a :: A, e, B, by rw [h1]; rfl, by rw [List.length_cons, h2]⟩
structure G8 where
  i : Nat
  L : List PE
  F : List (Int × Bool)
  bl : List ByT.den
  lg : List LgT.den
def A8 (ct fr : Int) (p : Bool) (ops : List OpT.den) : LoopAnn := {
  G := G8
  I := fun g => ⟨[(0, .int .u8 ct), (1, .int .u8 fr), (2, .sl p 40 (.pair (.int .i64) (.pair (.int .i64) (.sl 1 .byte))) ops), (7, .ptr 0 0), (8, .ptr 3 0), (9, .int .i64 0), (10, .own 6), (55, .int .i64 ops.length), (56, .int .i64 g.i)],
    dkH true g.bl g.lg (-1) false ++ pgN fr (tOf g.L) g.F ++ [.row true 24 (.pair (.int .i64) .str) (lOf g.L)]⟩
  R := fun _ g => g.i ≤ ops.length ∧ Inv fr ct g.bl g.L g.F ∧ g.lg.length ≤ 100 * g.i
  μ := fun g => ops.length - g.i }
theorem I8 (ct fr p ops) (g : G8) : (A8 ct fr p ops).I g = ⟨[(0, .int .u8 ct), (1, .int .u8 fr), (2, .sl p 40 (.pair (.int .i64) (.pair (.int .i64) (.sl 1 .byte))) ops), (7, .ptr 0 0), (8, .ptr 3 0), (9, .int .i64 0), (10, .own 6), (55, .int .i64 ops.length), (56, .int .i64 g.i)],
    dkH true g.bl g.lg (-1) false ++ pgN fr (tOf g.L) g.F ++ [.row true 24 (.pair (.int .i64) .str) (lOf g.L)]⟩ := rfl
/-- PagesPlay -/
def C8 : Contract := fun args hp K => match args, hp with
  | [.int .u8 ct, .int .u8 fr, .sl p 40 (.pair (.int .i64) (.pair (.int .i64) (.sl 1 .byte))) ops], [] => (0 ≤ ct ∧ ct ≤ 255) ∧ (0 ≤ fr ∧ fr ≤ 255) ∧ K (.bool true) []
  | _, _ => False
set_option maxHeartbeats 4000000
theorem s8 : Sound Try.prog 8 C8 := by
  refine sound_of_okF ok8 (Γ := [(9, C9), (10, C10), (11, C11), (12, C12), (13, C13), (15, C15), (16, C16), (18, C18), (20, C20), (22, C22), (23, C23), (24, C24), (25, C25)]) (.cons s9 (callable_of_okF ok9) (.cons s10 (callable_of_okF ok10) (.cons s11 (callable_of_okF ok11) (.cons s12 (callable_of_okF ok12) (.cons s13 (callable_of_okF ok13) (.cons s15 (callable_of_okF ok15) (.cons s16 (callable_of_okF ok16) (.cons s18 (callable_of_okF ok18) (.cons s20 (callable_of_okF ok20) (.cons s22 (callable_of_okF ok22) (.cons s23 (callable_of_okF ok23) (.cons s24 (callable_of_okF ok24) (.cons s25 (callable_of_okF ok25) .nil))))))))))))) ?_
  intro args hp K h
  unfold C8 at h
  split at h
  · rename_i ct fr p ops
    obtain ⟨hct, hfr, h⟩ := h
    refine ⟨by simp, [(1, A8 ct fr p ops)], ?_⟩
    simp (maxSteps := 2000000) only [a8, r8, go_sem, eq_self, and_self, Int.natCast_pos, Int.le_refl, Nat.le_refl, Int.natCast_nonneg, Int.ofNat_lt, Int.ofNat_le, Int.reduceLT, Int.reduceLE, Int.reduceEq, Int.reduceNe, Int.reduceAdd, Int.reduceSub, Int.reduceMul, Int.reduceToNat, Int.reduceNeg, Nat.reduceEqDiff, Nat.reduceLeDiff, Nat.reduceSub, Nat.reduceMul, Nat.reduceLT, Nat.reduceBEq, Nat.reduceAdd]
    refine use9 ?_
    simp (maxSteps := 2000000) only [go_sem, eq_self, and_self, Int.natCast_pos, Int.le_refl, Nat.le_refl, Int.natCast_nonneg, Int.ofNat_lt, Int.ofNat_le, Int.reduceLT, Int.reduceLE, Int.reduceEq, Int.reduceNe, Int.reduceAdd, Int.reduceSub, Int.reduceMul, Int.reduceToNat, Int.reduceNeg, Nat.reduceEqDiff, Nat.reduceLeDiff, Nat.reduceSub, Nat.reduceMul, Nat.reduceLT, Nat.reduceBEq, Nat.reduceAdd]
    rintro _ _ m rfl
    refine swd (fun _ => use9 ?_) (fun hb => ?_)
    · simp (maxSteps := 2000000) only [go_sem, eq_self, and_self, Int.natCast_pos, Int.le_refl, Nat.le_refl, Int.natCast_nonneg, Int.ofNat_lt, Int.ofNat_le, Int.reduceLT, Int.reduceLE, Int.reduceEq, Int.reduceNe, Int.reduceAdd, Int.reduceSub, Int.reduceMul, Int.reduceToNat, Int.reduceNeg, Nat.reduceEqDiff, Nat.reduceLeDiff, Nat.reduceSub, Nat.reduceMul, Nat.reduceLT, Nat.reduceBEq, Nat.reduceAdd]
      exact h
    rintro _ m hm _ m1 hm1 _ _ m2 hm2
    rw [(small_wrap (n := ct) (by omega)).2] at hm
    rw [(small_wrap (n := fr) (by omega)).2] at hm1
    subst hm hm1
    rw [(small_wrap (n := m + m1) (by omega)).2] at hm2
    subst hm2
    refine use11 (by omega) ?_
    simp (maxSteps := 2000000) only [dkH, go_sem, eq_self, and_self, Int.natCast_pos, Int.le_refl, Nat.le_refl, Int.natCast_nonneg, Int.ofNat_lt, Int.ofNat_le, Int.reduceLT, Int.reduceLE, Int.reduceEq, Int.reduceNe, Int.reduceAdd, Int.reduceSub, Int.reduceMul, Int.reduceToNat, Int.reduceNeg, Nat.reduceEqDiff, Nat.reduceLeDiff, Nat.reduceSub, Nat.reduceMul, Nat.reduceLT, Nat.reduceBEq, Nat.reduceAdd]
    rintro _ m2 hm2 _ m3 hm3
    rw [(small_wrap (n := m1) (by omega)).2] at hm2
    rw [(small_wrap (n := m) (by omega)).2] at hm3
    subst hm2 hm3
    by_cases hz : m3 = 0
    · subst hz
      refine use10A (by simp; omega) (by simp) (by omega) ?_
      simp (maxSteps := 2000000) only [dkH, go_sem, eq_self, and_self, Int.natCast_pos, Int.le_refl, Nat.le_refl, Int.natCast_nonneg, Int.ofNat_lt, Int.ofNat_le, Int.reduceLT, Int.reduceLE, Int.reduceEq, Int.reduceNe, Int.reduceAdd, Int.reduceSub, Int.reduceMul, Int.reduceToNat, Int.reduceNeg, Nat.reduceEqDiff, Nat.reduceLeDiff, Nat.reduceSub, Nat.reduceMul, Nat.reduceLT, Nat.reduceBEq, Nat.reduceAdd]
      exact h
    have hbl : (List.replicate (m3 + m2).toNat ([] : List UInt8)).length = (m3 + m2).toNat := List.length_replicate
    refine use10 hfr.1 (by omega) (by rw [hbl]; omega) (by rw [hbl]; omega) (fun i0 => ?_)
    simp (maxSteps := 2000000) only [dkH, pgN, go_sem, eq_self, and_self, Int.natCast_pos, Int.le_refl, Nat.le_refl, Int.natCast_nonneg, Int.ofNat_lt, Int.ofNat_le, Int.reduceLT, Int.reduceLE, Int.reduceEq, Int.reduceNe, Int.reduceAdd, Int.reduceSub, Int.reduceMul, Int.reduceToNat, Int.reduceNeg, Nat.reduceEqDiff, Nat.reduceLeDiff, Nat.reduceSub, Nat.reduceMul, Nat.reduceLT, Nat.reduceBEq, Nat.reduceAdd]
    refine swd (fun e => absurd e hz) (fun _ => ?_)
    rintro _ _ m rfl
    refine loop_intro (A := A8 m3 m2 p ops) (⟨0, [], initF m2 m3, List.replicate (m3 + m2).toNat [], []⟩ : G8) ?_ ⟨Nat.zero_le _, i0, Nat.zero_le _⟩ ?_
    · simp (maxSteps := 2000000) only [I8, dkH, pgN, go_sem, eq_self, and_self, Int.natCast_pos, Int.le_refl, Nat.le_refl, Int.natCast_nonneg, Int.ofNat_lt, Int.ofNat_le, Int.reduceLT, Int.reduceLE, Int.reduceEq, Int.reduceNe, Int.reduceAdd, Int.reduceSub, Int.reduceMul, Int.reduceToNat, Int.reduceNeg, Nat.reduceEqDiff, Nat.reduceLeDiff, Nat.reduceSub, Nat.reduceMul, Nat.reduceLT, Nat.reduceBEq, Nat.reduceAdd]
      rfl
    · clear hbl i0
      rintro (g : G8) ⟨g1, g2, g3⟩
      obtain ⟨i, L, F, bl, lg⟩ := g
      simp only at g1 g2 g3
      simp (maxSteps := 2000000) only [I8, dkH, pgN, go_sem, eq_self, and_self, Int.natCast_pos, Int.le_refl, Nat.le_refl, Int.natCast_nonneg, Int.ofNat_lt, Int.ofNat_le, Int.reduceLT, Int.reduceLE, Int.reduceEq, Int.reduceNe, Int.reduceAdd, Int.reduceSub, Int.reduceMul, Int.reduceToNat, Int.reduceNeg, Nat.reduceEqDiff, Nat.reduceLeDiff, Nat.reduceSub, Nat.reduceMul, Nat.reduceLT, Nat.reduceBEq, Nat.reduceAdd]
      refine swd (fun hlt => ?_) (fun hge => h)
      refine nd_intro hlt ?_
      generalize hop : elt OpT ops i = op
      refine use16 ?_
      have htx := txF_length op.2.1 op.2.2
      simp (maxSteps := 2000000) only [go_sem, eq_self, and_self, Int.natCast_pos, Int.le_refl, Nat.le_refl, Int.natCast_nonneg, Int.ofNat_lt, Int.ofNat_le, Int.reduceLT, Int.reduceLE, Int.reduceEq, Int.reduceNe, Int.reduceAdd, Int.reduceSub, Int.reduceMul, Int.reduceToNat, Int.reduceNeg, Nat.reduceEqDiff, Nat.reduceLeDiff, Nat.reduceSub, Nat.reduceMul, Nat.reduceLT, Nat.reduceBEq, Nat.reduceAdd]
      generalize txF op.2.1 op.2.2 = c at *
      have hnd := needN_bound c.length
      have hs := g2.small
      have hll : (lOf L).length = L.length := List.length_map ..
      rintro _ _ m rfl
      refine use13 (by omega) ?_
      simp (maxSteps := 2000000) only [go_sem, eq_self, and_self, Int.natCast_pos, Int.le_refl, Nat.le_refl, Int.natCast_nonneg, Int.ofNat_lt, Int.ofNat_le, Int.reduceLT, Int.reduceLE, Int.reduceEq, Int.reduceNe, Int.reduceAdd, Int.reduceSub, Int.reduceMul, Int.reduceToNat, Int.reduceNeg, Nat.reduceEqDiff, Nat.reduceLeDiff, Nat.reduceSub, Nat.reduceMul, Nat.reduceLT, Nat.reduceBEq, Nat.reduceAdd]
      refine use15 (by omega) ?_
      simp (maxSteps := 2000000) only [pgH, dkH, pgN, go_sem, eq_self, and_self, Int.natCast_pos, Int.le_refl, Nat.le_refl, Int.natCast_nonneg, Int.ofNat_lt, Int.ofNat_le, Int.reduceLT, Int.reduceLE, Int.reduceEq, Int.reduceNe, Int.reduceAdd, Int.reduceSub, Int.reduceMul, Int.reduceToNat, Int.reduceNeg, Nat.reduceEqDiff, Nat.reduceLeDiff, Nat.reduceSub, Nat.reduceMul, Nat.reduceLT, Nat.reduceBEq, Nat.reduceAdd]
      rw [srtI_length]
      rintro _ _ m rfl
      refine swd (fun hw => ?_) (fun hw => ?_)
      all_goals
        refine swd (fun h1 => ?_) (fun h1 => ?_)
        · refine use20 (by omega) ?_
          simp (maxSteps := 2000000) only [dkH, go_sem, eq_self, and_self, Int.natCast_pos, Int.le_refl, Nat.le_refl, Int.natCast_nonneg, Int.ofNat_lt, Int.ofNat_le, Int.reduceLT, Int.reduceLE, Int.reduceEq, Int.reduceNe, Int.reduceAdd, Int.reduceSub, Int.reduceMul, Int.reduceToNat, Int.reduceNeg, Nat.reduceEqDiff, Nat.reduceLeDiff, Nat.reduceSub, Nat.reduceMul, Nat.reduceLT, Nat.reduceBEq, Nat.reduceAdd]
          refine And.intro rfl ?_
          refine use12 g2 (by omega) (fun h2 => absurd h2 (by omega)) (fun _ h2 => ?_) (fun h0 h2 _ F2 bl2 i2 hb2 hnn2 => ?_) (fun _ _ h3 => absurd h3 (by omega))
          · first
            | (exfalso; omega; done)
            | (simp (maxSteps := 2000000) only [pgH, go_sem, eq_self, and_self, Int.natCast_pos, Int.le_refl, Nat.le_refl, Int.natCast_nonneg, Int.ofNat_lt, Int.ofNat_le, Int.reduceLT, Int.reduceLE, Int.reduceEq, Int.reduceNe, Int.reduceAdd, Int.reduceSub, Int.reduceMul, Int.reduceToNat, Int.reduceNeg, Nat.reduceEqDiff, Nat.reduceLeDiff, Nat.reduceSub, Nat.reduceMul, Nat.reduceLT, Nat.reduceBEq, Nat.reduceAdd]
               rintro _ m hm _ m1 hm1
               rw [(small_wrap (n := m2) (by omega)).2] at hm
               rw [(small_wrap (n := m3) (by omega)).2] at hm1
               rw [hm, hm1]
               refine And.intro rfl ?_
               refine use23 g2 (rfl) ?_
               simp (maxSteps := 2000000) only [pgH, go_sem, eq_self, and_self, Int.natCast_pos, Int.le_refl, Nat.le_refl, Int.natCast_nonneg, Int.ofNat_lt, Int.ofNat_le, Int.reduceLT, Int.reduceLE, Int.reduceEq, Int.reduceNe, Int.reduceAdd, Int.reduceSub, Int.reduceMul, Int.reduceToNat, Int.reduceNeg, Nat.reduceEqDiff, Nat.reduceLeDiff, Nat.reduceSub, Nat.reduceMul, Nat.reduceLT, Nat.reduceBEq, Nat.reduceAdd]
               rintro _ _ k hk
               rw [(small_wrap (n := (i : Int) + 1) (by omega)).2] at hk
               rw [hk]
               refine lpE_intro (A := A8 m3 m2 p ops) (⟨i + 1, L, F, bl, lg⟩ : G8) ?_ ⟨hlt, g2, by show lg.length ≤ 100 * (i + 1); omega⟩ (by show ops.length - (i + 1) < ops.length - i; omega)
               simp (maxSteps := 2000000) only [I8, dkH, pgN, go_sem, eq_self, and_self, Int.natCast_pos, Int.le_refl, Nat.le_refl, Int.natCast_nonneg, Int.ofNat_lt, Int.ofNat_le, Int.reduceLT, Int.reduceLE, Int.reduceEq, Int.reduceNe, Int.reduceAdd, Int.reduceSub, Int.reduceMul, Int.reduceToNat, Int.reduceNeg, Nat.reduceEqDiff, Nat.reduceLeDiff, Nat.reduceSub, Nat.reduceMul, Nat.reduceLT, Nat.reduceBEq, Nat.reduceAdd]
               rfl)
          · first
            | (exfalso; omega; done)
            | (have hlw : (wsF (takeF F c.length) c).length = needN c.length := by rw [wsF_length, takeF_length h2]
               have hfu2 : fuA (-1) (needN c.length) = -1 := rfl
               have hlg : (lg ++ wsF (takeF F c.length) c).length ≤ 1000000 := by rw [List.length_append]; omega
               have hlo : lOf (L ++ [putE F c]) = lOf L ++ [((putE F c).n, ⟨c.toArray⟩)] := by simp [lOf, putE]
               rw [hfu2]
               simp (maxSteps := 2000000) only [pgH, go_sem, eq_self, and_self, Int.natCast_pos, Int.le_refl, Nat.le_refl, Int.natCast_nonneg, Int.ofNat_lt, Int.ofNat_le, Int.reduceLT, Int.reduceLE, Int.reduceEq, Int.reduceNe, Int.reduceAdd, Int.reduceSub, Int.reduceMul, Int.reduceToNat, Int.reduceNeg, Nat.reduceEqDiff, Nat.reduceLeDiff, Nat.reduceSub, Nat.reduceMul, Nat.reduceLT, Nat.reduceBEq, Nat.reduceAdd]
               refine use20 hlg ?_
               simp (maxSteps := 2000000) only [dkH, go_sem, eq_self, and_self, Int.natCast_pos, Int.le_refl, Nat.le_refl, Int.natCast_nonneg, Int.ofNat_lt, Int.ofNat_le, Int.reduceLT, Int.reduceLE, Int.reduceEq, Int.reduceNe, Int.reduceAdd, Int.reduceSub, Int.reduceMul, Int.reduceToNat, Int.reduceNeg, Nat.reduceEqDiff, Nat.reduceLeDiff, Nat.reduceSub, Nat.reduceMul, Nat.reduceLT, Nat.reduceBEq, Nat.reduceAdd]
               rintro _ _ k hk
               rw [(small_wrap (n := (lg.length : Int) + needN c.length) (by omega)).2] at hk
               refine swn (fun hne => absurd (by rw [hk, List.length_append, hlw]; omega) hne) (fun _ => ?_)
               rintro u rfl
               refine And.intro (by omega) (fun _ => ?_)
               rintro _ m hm _ m1 hm1
               rw [(small_wrap (n := m2) (by omega)).2] at hm
               rw [(small_wrap (n := m3) (by omega)).2] at hm1
               rw [hm, hm1]
               refine And.intro rfl ?_
               refine use23 i2 (hlo.symm) ?_
               simp (maxSteps := 2000000) only [pgH, go_sem, eq_self, and_self, Int.natCast_pos, Int.le_refl, Nat.le_refl, Int.natCast_nonneg, Int.ofNat_lt, Int.ofNat_le, Int.reduceLT, Int.reduceLE, Int.reduceEq, Int.reduceNe, Int.reduceAdd, Int.reduceSub, Int.reduceMul, Int.reduceToNat, Int.reduceNeg, Nat.reduceEqDiff, Nat.reduceLeDiff, Nat.reduceSub, Nat.reduceMul, Nat.reduceLT, Nat.reduceBEq, Nat.reduceAdd]
               rintro _ _ k hk
               rw [(small_wrap (n := (i : Int) + 1) (by omega)).2] at hk
               rw [hk]
               refine lpE_intro (A := A8 m3 m2 p ops) (⟨i + 1, L ++ [putE F c], F2, bl2, lg ++ wsF (takeF F c.length) c⟩ : G8) ?_ ⟨hlt, i2, by show (lg ++ wsF (takeF F c.length) c).length ≤ 100 * (i + 1); rw [List.length_append]; omega⟩ (by show ops.length - (i + 1) < ops.length - i; omega)
               simp (maxSteps := 2000000) only [I8, dkH, pgN, hlo, go_sem, eq_self, and_self, Int.natCast_pos, Int.le_refl, Nat.le_refl, Int.natCast_nonneg, Int.ofNat_lt, Int.ofNat_le, Int.reduceLT, Int.reduceLE, Int.reduceEq, Int.reduceNe, Int.reduceAdd, Int.reduceSub, Int.reduceMul, Int.reduceToNat, Int.reduceNeg, Nat.reduceEqDiff, Nat.reduceLeDiff, Nat.reduceSub, Nat.reduceMul, Nat.reduceLT, Nat.reduceBEq, Nat.reduceAdd]
               rfl)
        refine swd (fun h2 => ?_) (fun h2 => ?_)
        · rintro _ _ m rfl
          refine swd (fun hp => ?_) (fun hz2 => ?_)
          · rintro hnm m hm _ _ m1 rfl hm1 k hk
            rw [(small_wrap (n := (lOf L).length) (by omega)).1] at hk
            subst hk
            have hmp : 0 ≤ m := by rw [hm]; exact wrapU _
            refine And.intro (by omega) ?_
            rintro _ _ _ k1 hk1 _ k2 hk2
            have h30 : 0 ≤ k1 := by rw [hk1]; exact Int.tmod_nonneg _ hmp
            have h31 : k1 < (lOf L).length := by rw [hk1]; exact Int.tmod_lt_of_pos _ hp
            rw [(small_wrap (n := k1) (by omega)).2] at hk2
            subst hk2
            refine nd_intro ⟨h30, h31⟩ ?_
            refine nd_intro (by omega) ?_
            obtain ⟨A, e, B, hL, hA⟩ := split_nth (show k2.toNat < L.length by omega)
            subst hL
            have hel : elt (Ty.pair (.int .i64) .str) (lOf (A ++ e :: B)) k2.toNat = (e.n, ⟨e.c.toArray⟩) := by
              apply elt_eq
              unfold lOf
              rw [List.getElem?_map, ← hA, List.getElem?_append_right (Nat.le_refl _), Nat.sub_self]
              rfl
            rw [hel]
            refine use18 g2 rfl (fun F3 i3 => ?_)
            simp (maxSteps := 2000000) only [pgH, go_sem, eq_self, and_self, Int.natCast_pos, Int.le_refl, Nat.le_refl, Int.natCast_nonneg, Int.ofNat_lt, Int.ofNat_le, Int.reduceLT, Int.reduceLE, Int.reduceEq, Int.reduceNe, Int.reduceAdd, Int.reduceSub, Int.reduceMul, Int.reduceToNat, Int.reduceNeg, Nat.reduceEqDiff, Nat.reduceLeDiff, Nat.reduceSub, Nat.reduceMul, Nat.reduceLT, Nat.reduceBEq, Nat.reduceAdd]
            rw [hel]
            refine nd_intro ⟨h30, h31⟩ ?_
            refine nd_intro (by omega) ?_
            have hnn := g2.nnodup
            have hnin : e.n ∉ nOf (A ++ B) := by
              intro hx
              have h5 : (e.n :: nOf (A ++ B)).Nodup := by
                refine ((show (nOf (A ++ e :: B)).Perm (e.n :: nOf (A ++ B)) from ?_).nodup_iff).1 hnn
                unfold nOf
                simp only [List.map_append, List.map_cons]
                exact List.perm_middle
              exact (List.nodup_cons.1 h5).1 hx
            refine use18n hnin ?_
            simp (maxSteps := 2000000) only [pgH, go_sem, eq_self, and_self, Int.natCast_pos, Int.le_refl, Nat.le_refl, Int.natCast_nonneg, Int.ofNat_lt, Int.ofNat_le, Int.reduceLT, Int.reduceLE, Int.reduceEq, Int.reduceNe, Int.reduceAdd, Int.reduceSub, Int.reduceMul, Int.reduceToNat, Int.reduceNeg, Nat.reduceEqDiff, Nat.reduceLeDiff, Nat.reduceSub, Nat.reduceMul, Nat.reduceLT, Nat.reduceBEq, Nat.reduceAdd]
            have hlA : (lOf A).length = A.length := List.length_map ..
            have hlB : (lOf B).length = B.length := List.length_map ..
            have hlo : lOf (A ++ e :: B) = lOf A ++ (e.n, ⟨e.c.toArray⟩) :: lOf B := by simp [lOf]
            have hlo2 : lOf (A ++ B) = lOf A ++ lOf B := by simp [lOf]
            have hs3 := i3.small
            simp only [List.length_append] at hs3
            refine nd_intro ⟨h30, Int.le_of_lt h31⟩ ?_
            rintro _ _ m hm
            have hm1 := hm
            rw [(small_wrap (n := (k2 : Int) + 1) (by omega)).2] at hm
            refine nd_intro (by omega) ?_
            have ht : List.take (k2.toNat - 0) (lOf (A ++ e :: B)) = lOf A := by
              rw [hlo, Nat.sub_zero, ← hA, ← hlA]; exact List.take_left
            have hd : List.take ((lOf (A ++ e :: B)).length - m.toNat) (List.drop m.toNat (lOf (A ++ e :: B))) = lOf B := by
              rw [List.take_of_length_le (by rw [List.length_drop]; exact Nat.le_refl _), hlo, show m.toNat = (lOf A).length + 1 by omega, List.drop_append, List.drop_of_length_le (by omega), Nat.add_sub_cancel_left]
              rfl
            rw [ht, hd]
            refine And.intro (And.intro ⟨h30, Int.le_of_lt h31⟩ (And.intro (fun _ _ k hk => by rw [hm1, hk]) (by omega))) (And.intro (fun h => h) (fun _ => And.intro (And.intro (fun _ _ k hk => by rw [hm1, hk]) (by omega)) (And.intro (fun _ _ => by omega) (fun _ => ?_))))
            rintro _ m hm _ m1 hm1
            rw [(small_wrap (n := m2) (by omega)).2] at hm
            rw [(small_wrap (n := m3) (by omega)).2] at hm1
            rw [hm, hm1]
            refine And.intro rfl ?_
            refine use23 i3 (hlo2.symm) ?_
            simp (maxSteps := 2000000) only [pgH, go_sem, eq_self, and_self, Int.natCast_pos, Int.le_refl, Nat.le_refl, Int.natCast_nonneg, Int.ofNat_lt, Int.ofNat_le, Int.reduceLT, Int.reduceLE, Int.reduceEq, Int.reduceNe, Int.reduceAdd, Int.reduceSub, Int.reduceMul, Int.reduceToNat, Int.reduceNeg, Nat.reduceEqDiff, Nat.reduceLeDiff, Nat.reduceSub, Nat.reduceMul, Nat.reduceLT, Nat.reduceBEq, Nat.reduceAdd]
            rintro _ _ k hk
            rw [(small_wrap (n := (i : Int) + 1) (by omega)).2] at hk
            rw [hk]
            refine lpE_intro (A := A8 m3 m2 p ops) (⟨i + 1, A ++ B, F3, bl, lg⟩ : G8) ?_ ⟨hlt, i3, by show lg.length ≤ 100 * (i + 1); omega⟩ (by show ops.length - (i + 1) < ops.length - i; omega)
            simp (maxSteps := 2000000) only [I8, dkH, pgN, hlo2, go_sem, eq_self, and_self, Int.natCast_pos, Int.le_refl, Nat.le_refl, Int.natCast_nonneg, Int.ofNat_lt, Int.ofNat_le, Int.reduceLT, Int.reduceLE, Int.reduceEq, Int.reduceNe, Int.reduceAdd, Int.reduceSub, Int.reduceMul, Int.reduceToNat, Int.reduceNeg, Nat.reduceEqDiff, Nat.reduceLeDiff, Nat.reduceSub, Nat.reduceMul, Nat.reduceLT, Nat.reduceBEq, Nat.reduceAdd]
            rfl
          · skip
            rintro _ m hm _ m1 hm1
            rw [(small_wrap (n := m2) (by omega)).2] at hm
            rw [(small_wrap (n := m3) (by omega)).2] at hm1
            rw [hm, hm1]
            refine And.intro rfl ?_
            refine use23 g2 (rfl) ?_
            simp (maxSteps := 2000000) only [pgH, go_sem, eq_self, and_self, Int.natCast_pos, Int.le_refl, Nat.le_refl, Int.natCast_nonneg, Int.ofNat_lt, Int.ofNat_le, Int.reduceLT, Int.reduceLE, Int.reduceEq, Int.reduceNe, Int.reduceAdd, Int.reduceSub, Int.reduceMul, Int.reduceToNat, Int.reduceNeg, Nat.reduceEqDiff, Nat.reduceLeDiff, Nat.reduceSub, Nat.reduceMul, Nat.reduceLT, Nat.reduceBEq, Nat.reduceAdd]
            rintro _ _ k hk
            rw [(small_wrap (n := (i : Int) + 1) (by omega)).2] at hk
            rw [hk]
            refine lpE_intro (A := A8 m3 m2 p ops) (⟨i + 1, L, F, bl, lg⟩ : G8) ?_ ⟨hlt, g2, by show lg.length ≤ 100 * (i + 1); omega⟩ (by show ops.length - (i + 1) < ops.length - i; omega)
            simp (maxSteps := 2000000) only [I8, dkH, pgN, go_sem, eq_self, and_self, Int.natCast_pos, Int.le_refl, Nat.le_refl, Int.natCast_nonneg, Int.ofNat_lt, Int.ofNat_le, Int.reduceLT, Int.reduceLE, Int.reduceEq, Int.reduceNe, Int.reduceAdd, Int.reduceSub, Int.reduceMul, Int.reduceToNat, Int.reduceNeg, Nat.reduceEqDiff, Nat.reduceLeDiff, Nat.reduceSub, Nat.reduceMul, Nat.reduceLT, Nat.reduceBEq, Nat.reduceAdd]
            rfl
        refine swd (fun h3 => ?_) (fun h3 => ?_)
        · rintro _ m hm _ m1 hm1
          rw [(small_wrap (n := m2) (by omega)).2] at hm
          rw [(small_wrap (n := m3) (by omega)).2] at hm1
          rw [hm, hm1]
          refine And.intro rfl (use22 ?_)
          simp (maxSteps := 2000000) only [go_sem, eq_self, and_self, Int.natCast_pos, Int.le_refl, Nat.le_refl, Int.natCast_nonneg, Int.ofNat_lt, Int.ofNat_le, Int.reduceLT, Int.reduceLE, Int.reduceEq, Int.reduceNe, Int.reduceAdd, Int.reduceSub, Int.reduceMul, Int.reduceToNat, Int.reduceNeg, Nat.reduceEqDiff, Nat.reduceLeDiff, Nat.reduceSub, Nat.reduceMul, Nat.reduceLT, Nat.reduceBEq, Nat.reduceAdd]
          refine And.intro rfl ?_
          refine use10L g2 (by simp only [lOf, nOf, List.map_map]; rfl) (fun F3 i3 => ?_)
          simp (maxSteps := 2000000) only [dkH, pgN, go_sem, eq_self, and_self, Int.natCast_pos, Int.le_refl, Nat.le_refl, Int.natCast_nonneg, Int.ofNat_lt, Int.ofNat_le, Int.reduceLT, Int.reduceLE, Int.reduceEq, Int.reduceNe, Int.reduceAdd, Int.reduceSub, Int.reduceMul, Int.reduceToNat, Int.reduceNeg, Nat.reduceEqDiff, Nat.reduceLeDiff, Nat.reduceSub, Nat.reduceMul, Nat.reduceLT, Nat.reduceBEq, Nat.reduceAdd]
          rintro _ m hm _ m1 hm1
          rw [(small_wrap (n := m2) (by omega)).2] at hm
          rw [(small_wrap (n := m3) (by omega)).2] at hm1
          rw [hm, hm1]
          refine And.intro rfl ?_
          refine use23 i3 (rfl) ?_
          simp (maxSteps := 2000000) only [pgH, go_sem, eq_self, and_self, Int.natCast_pos, Int.le_refl, Nat.le_refl, Int.natCast_nonneg, Int.ofNat_lt, Int.ofNat_le, Int.reduceLT, Int.reduceLE, Int.reduceEq, Int.reduceNe, Int.reduceAdd, Int.reduceSub, Int.reduceMul, Int.reduceToNat, Int.reduceNeg, Nat.reduceEqDiff, Nat.reduceLeDiff, Nat.reduceSub, Nat.reduceMul, Nat.reduceLT, Nat.reduceBEq, Nat.reduceAdd]
          rintro _ _ k hk
          rw [(small_wrap (n := (i : Int) + 1) (by omega)).2] at hk
          rw [hk]
          refine lpE_intro (A := A8 m3 m2 p ops) (⟨i + 1, L, F3, bl, lg⟩ : G8) ?_ ⟨hlt, i3, by show lg.length ≤ 100 * (i + 1); omega⟩ (by show ops.length - (i + 1) < ops.length - i; omega)
          simp (maxSteps := 2000000) only [I8, dkH, pgN, go_sem, eq_self, and_self, Int.natCast_pos, Int.le_refl, Nat.le_refl, Int.natCast_nonneg, Int.ofNat_lt, Int.ofNat_le, Int.reduceLT, Int.reduceLE, Int.reduceEq, Int.reduceNe, Int.reduceAdd, Int.reduceSub, Int.reduceMul, Int.reduceToNat, Int.reduceNeg, Nat.reduceEqDiff, Nat.reduceLeDiff, Nat.reduceSub, Nat.reduceMul, Nat.reduceLT, Nat.reduceBEq, Nat.reduceAdd]
          rfl
        refine swd (fun h4 => ?_) (fun h4 => ?_)
        · rintro hnm m hm _ _ k1 hk1 _ k2 hk2
          have hmp : 0 ≤ m := by rw [hm]; exact wrapU _
          have h30 : 0 ≤ k1 := by rw [hk1]; exact Int.tmod_nonneg _ hmp
          have h31 : k1 < 5 := by rw [hk1]; exact Int.tmod_lt_of_pos _ (by omega)
          rw [(small_wrap (n := k1) (by omega)).2] at hk2
          subst hk2
          refine use24 (by omega) ?_
          simp (maxSteps := 2000000) only [dkH, go_sem, eq_self, and_self, Int.natCast_pos, Int.le_refl, Nat.le_refl, Int.natCast_nonneg, Int.ofNat_lt, Int.ofNat_le, Int.reduceLT, Int.reduceLE, Int.reduceEq, Int.reduceNe, Int.reduceAdd, Int.reduceSub, Int.reduceMul, Int.reduceToNat, Int.reduceNeg, Nat.reduceEqDiff, Nat.reduceLeDiff, Nat.reduceSub, Nat.reduceMul, Nat.reduceLT, Nat.reduceBEq, Nat.reduceAdd]
          refine And.intro rfl ?_
          refine use12 g2 (by omega) (fun h2 => absurd h2 (by omega)) (fun _ h2 => ?_) (fun h0 h2 hf F2 bl2 i2 hb2 hnn2 => ?_) (fun h0 h2 _ hf bl2 i2 => ?_)
          · first
            | (exfalso; omega; done)
            | (simp (maxSteps := 2000000) only [pgH, go_sem, eq_self, and_self, Int.natCast_pos, Int.le_refl, Nat.le_refl, Int.natCast_nonneg, Int.ofNat_lt, Int.ofNat_le, Int.reduceLT, Int.reduceLE, Int.reduceEq, Int.reduceNe, Int.reduceAdd, Int.reduceSub, Int.reduceMul, Int.reduceToNat, Int.reduceNeg, Nat.reduceEqDiff, Nat.reduceLeDiff, Nat.reduceSub, Nat.reduceMul, Nat.reduceLT, Nat.reduceBEq, Nat.reduceAdd]
               refine use25 ?_
               simp (maxSteps := 2000000) only [dkH, go_sem, eq_self, and_self, Int.natCast_pos, Int.le_refl, Nat.le_refl, Int.natCast_nonneg, Int.ofNat_lt, Int.ofNat_le, Int.reduceLT, Int.reduceLE, Int.reduceEq, Int.reduceNe, Int.reduceAdd, Int.reduceSub, Int.reduceMul, Int.reduceToNat, Int.reduceNeg, Nat.reduceEqDiff, Nat.reduceLeDiff, Nat.reduceSub, Nat.reduceMul, Nat.reduceLT, Nat.reduceBEq, Nat.reduceAdd]
               rintro _ m hm _ m1 hm1
               rw [(small_wrap (n := m2) (by omega)).2] at hm
               rw [(small_wrap (n := m3) (by omega)).2] at hm1
               rw [hm, hm1]
               refine And.intro rfl (use22 ?_)
               simp (maxSteps := 2000000) only [go_sem, eq_self, and_self, Int.natCast_pos, Int.le_refl, Nat.le_refl, Int.natCast_nonneg, Int.ofNat_lt, Int.ofNat_le, Int.reduceLT, Int.reduceLE, Int.reduceEq, Int.reduceNe, Int.reduceAdd, Int.reduceSub, Int.reduceMul, Int.reduceToNat, Int.reduceNeg, Nat.reduceEqDiff, Nat.reduceLeDiff, Nat.reduceSub, Nat.reduceMul, Nat.reduceLT, Nat.reduceBEq, Nat.reduceAdd]
               refine And.intro rfl ?_
               refine use10L g2 (by simp only [lOf, nOf, List.map_map]; rfl) (fun F3 i3 => ?_)
               simp (maxSteps := 2000000) only [dkH, pgN, go_sem, eq_self, and_self, Int.natCast_pos, Int.le_refl, Nat.le_refl, Int.natCast_nonneg, Int.ofNat_lt, Int.ofNat_le, Int.reduceLT, Int.reduceLE, Int.reduceEq, Int.reduceNe, Int.reduceAdd, Int.reduceSub, Int.reduceMul, Int.reduceToNat, Int.reduceNeg, Nat.reduceEqDiff, Nat.reduceLeDiff, Nat.reduceSub, Nat.reduceMul, Nat.reduceLT, Nat.reduceBEq, Nat.reduceAdd]
               rintro _ m hm _ m1 hm1
               rw [(small_wrap (n := m2) (by omega)).2] at hm
               rw [(small_wrap (n := m3) (by omega)).2] at hm1
               rw [hm, hm1]
               refine And.intro rfl ?_
               refine use23 i3 (rfl) ?_
               simp (maxSteps := 2000000) only [pgH, go_sem, eq_self, and_self, Int.natCast_pos, Int.le_refl, Nat.le_refl, Int.natCast_nonneg, Int.ofNat_lt, Int.ofNat_le, Int.reduceLT, Int.reduceLE, Int.reduceEq, Int.reduceNe, Int.reduceAdd, Int.reduceSub, Int.reduceMul, Int.reduceToNat, Int.reduceNeg, Nat.reduceEqDiff, Nat.reduceLeDiff, Nat.reduceSub, Nat.reduceMul, Nat.reduceLT, Nat.reduceBEq, Nat.reduceAdd]
               rintro _ _ k hk
               rw [(small_wrap (n := (i : Int) + 1) (by omega)).2] at hk
               rw [hk]
               refine lpE_intro (A := A8 m3 m2 p ops) (⟨i + 1, L, F3, bl, lg⟩ : G8) ?_ ⟨hlt, i3, by show lg.length ≤ 100 * (i + 1); omega⟩ (by show ops.length - (i + 1) < ops.length - i; omega)
               simp (maxSteps := 2000000) only [I8, dkH, pgN, go_sem, eq_self, and_self, Int.natCast_pos, Int.le_refl, Nat.le_refl, Int.natCast_nonneg, Int.ofNat_lt, Int.ofNat_le, Int.reduceLT, Int.reduceLE, Int.reduceEq, Int.reduceNe, Int.reduceAdd, Int.reduceSub, Int.reduceMul, Int.reduceToNat, Int.reduceNeg, Nat.reduceEqDiff, Nat.reduceLeDiff, Nat.reduceSub, Nat.reduceMul, Nat.reduceLT, Nat.reduceBEq, Nat.reduceAdd]
               rfl)
          · first
            | (exfalso; omega; done)
            | (have hlw : (wsF (takeF F c.length) c).length = needN c.length := by rw [wsF_length, takeF_length h2]
               have hlo : lOf (L ++ [putE F c]) = lOf L ++ [((putE F c).n, ⟨c.toArray⟩)] := by simp [lOf, putE]
               simp (maxSteps := 2000000) only [pgH, go_sem, eq_self, and_self, Int.natCast_pos, Int.le_refl, Nat.le_refl, Int.natCast_nonneg, Int.ofNat_lt, Int.ofNat_le, Int.reduceLT, Int.reduceLE, Int.reduceEq, Int.reduceNe, Int.reduceAdd, Int.reduceSub, Int.reduceMul, Int.reduceToNat, Int.reduceNeg, Nat.reduceEqDiff, Nat.reduceLeDiff, Nat.reduceSub, Nat.reduceMul, Nat.reduceLT, Nat.reduceBEq, Nat.reduceAdd]
               refine swd (fun hlt2 => absurd hlt2 (by omega)) (fun _ => ?_)
               rintro u rfl
               refine And.intro (by omega) (fun _ => ?_)
               refine use25 ?_
               simp (maxSteps := 2000000) only [dkH, go_sem, eq_self, and_self, Int.natCast_pos, Int.le_refl, Nat.le_refl, Int.natCast_nonneg, Int.ofNat_lt, Int.ofNat_le, Int.reduceLT, Int.reduceLE, Int.reduceEq, Int.reduceNe, Int.reduceAdd, Int.reduceSub, Int.reduceMul, Int.reduceToNat, Int.reduceNeg, Nat.reduceEqDiff, Nat.reduceLeDiff, Nat.reduceSub, Nat.reduceMul, Nat.reduceLT, Nat.reduceBEq, Nat.reduceAdd]
               rintro _ m hm _ m1 hm1
               rw [(small_wrap (n := m2) (by omega)).2] at hm
               rw [(small_wrap (n := m3) (by omega)).2] at hm1
               rw [hm, hm1]
               refine And.intro rfl (use22 ?_)
               simp (maxSteps := 2000000) only [go_sem, eq_self, and_self, Int.natCast_pos, Int.le_refl, Nat.le_refl, Int.natCast_nonneg, Int.ofNat_lt, Int.ofNat_le, Int.reduceLT, Int.reduceLE, Int.reduceEq, Int.reduceNe, Int.reduceAdd, Int.reduceSub, Int.reduceMul, Int.reduceToNat, Int.reduceNeg, Nat.reduceEqDiff, Nat.reduceLeDiff, Nat.reduceSub, Nat.reduceMul, Nat.reduceLT, Nat.reduceBEq, Nat.reduceAdd]
               refine And.intro rfl ?_
               refine use10L i2 (by rw [← hlo]; simp only [lOf, nOf, List.map_map]; rfl) (fun F3 i3 => ?_)
               simp (maxSteps := 2000000) only [dkH, pgN, go_sem, eq_self, and_self, Int.natCast_pos, Int.le_refl, Nat.le_refl, Int.natCast_nonneg, Int.ofNat_lt, Int.ofNat_le, Int.reduceLT, Int.reduceLE, Int.reduceEq, Int.reduceNe, Int.reduceAdd, Int.reduceSub, Int.reduceMul, Int.reduceToNat, Int.reduceNeg, Nat.reduceEqDiff, Nat.reduceLeDiff, Nat.reduceSub, Nat.reduceMul, Nat.reduceLT, Nat.reduceBEq, Nat.reduceAdd]
               rintro _ m hm _ m1 hm1
               rw [(small_wrap (n := m2) (by omega)).2] at hm
               rw [(small_wrap (n := m3) (by omega)).2] at hm1
               rw [hm, hm1]
               refine And.intro rfl ?_
               refine use23 i3 (hlo.symm) ?_
               simp (maxSteps := 2000000) only [pgH, go_sem, eq_self, and_self, Int.natCast_pos, Int.le_refl, Nat.le_refl, Int.natCast_nonneg, Int.ofNat_lt, Int.ofNat_le, Int.reduceLT, Int.reduceLE, Int.reduceEq, Int.reduceNe, Int.reduceAdd, Int.reduceSub, Int.reduceMul, Int.reduceToNat, Int.reduceNeg, Nat.reduceEqDiff, Nat.reduceLeDiff, Nat.reduceSub, Nat.reduceMul, Nat.reduceLT, Nat.reduceBEq, Nat.reduceAdd]
               rintro _ _ k hk
               rw [(small_wrap (n := (i : Int) + 1) (by omega)).2] at hk
               rw [hk]
               refine lpE_intro (A := A8 m3 m2 p ops) (⟨i + 1, L ++ [putE F c], F3, bl2, lg ++ wsF (takeF F c.length) c⟩ : G8) ?_ ⟨hlt, i3, by show (lg ++ wsF (takeF F c.length) c).length ≤ 100 * (i + 1); rw [List.length_append]; omega⟩ (by show ops.length - (i + 1) < ops.length - i; omega)
               simp (maxSteps := 2000000) only [I8, dkH, pgN, hlo, go_sem, eq_self, and_self, Int.natCast_pos, Int.le_refl, Nat.le_refl, Int.natCast_nonneg, Int.ofNat_lt, Int.ofNat_le, Int.reduceLT, Int.reduceLE, Int.reduceEq, Int.reduceNe, Int.reduceAdd, Int.reduceSub, Int.reduceMul, Int.reduceToNat, Int.reduceNeg, Nat.reduceEqDiff, Nat.reduceLeDiff, Nat.reduceSub, Nat.reduceMul, Nat.reduceLT, Nat.reduceBEq, Nat.reduceAdd]
               rfl)
          · first
            | (exfalso; omega; done)
            | (have hlw : (wsF (takeF F c.length) c).length = needN c.length := by rw [wsF_length, takeF_length h2]
               simp (maxSteps := 2000000) only [pgH, go_sem, eq_self, and_self, Int.natCast_pos, Int.le_refl, Nat.le_refl, Int.natCast_nonneg, Int.ofNat_lt, Int.ofNat_le, Int.reduceLT, Int.reduceLE, Int.reduceEq, Int.reduceNe, Int.reduceAdd, Int.reduceSub, Int.reduceMul, Int.reduceToNat, Int.reduceNeg, Nat.reduceEqDiff, Nat.reduceLeDiff, Nat.reduceSub, Nat.reduceMul, Nat.reduceLT, Nat.reduceBEq, Nat.reduceAdd]
               refine swd (fun _ => ?_) (fun hge2 => absurd hf hge2)
               refine use25 ?_
               simp (maxSteps := 2000000) only [dkH, go_sem, eq_self, and_self, Int.natCast_pos, Int.le_refl, Nat.le_refl, Int.natCast_nonneg, Int.ofNat_lt, Int.ofNat_le, Int.reduceLT, Int.reduceLE, Int.reduceEq, Int.reduceNe, Int.reduceAdd, Int.reduceSub, Int.reduceMul, Int.reduceToNat, Int.reduceNeg, Nat.reduceEqDiff, Nat.reduceLeDiff, Nat.reduceSub, Nat.reduceMul, Nat.reduceLT, Nat.reduceBEq, Nat.reduceAdd]
               rintro _ m hm _ m1 hm1
               rw [(small_wrap (n := m2) (by omega)).2] at hm
               rw [(small_wrap (n := m3) (by omega)).2] at hm1
               rw [hm, hm1]
               refine And.intro rfl (use22 ?_)
               simp (maxSteps := 2000000) only [go_sem, eq_self, and_self, Int.natCast_pos, Int.le_refl, Nat.le_refl, Int.natCast_nonneg, Int.ofNat_lt, Int.ofNat_le, Int.reduceLT, Int.reduceLE, Int.reduceEq, Int.reduceNe, Int.reduceAdd, Int.reduceSub, Int.reduceMul, Int.reduceToNat, Int.reduceNeg, Nat.reduceEqDiff, Nat.reduceLeDiff, Nat.reduceSub, Nat.reduceMul, Nat.reduceLT, Nat.reduceBEq, Nat.reduceAdd]
               refine And.intro rfl ?_
               refine use10L i2 (by simp only [lOf, nOf, List.map_map]; rfl) (fun F3 i3 => ?_)
               simp (maxSteps := 2000000) only [dkH, pgN, go_sem, eq_self, and_self, Int.natCast_pos, Int.le_refl, Nat.le_refl, Int.natCast_nonneg, Int.ofNat_lt, Int.ofNat_le, Int.reduceLT, Int.reduceLE, Int.reduceEq, Int.reduceNe, Int.reduceAdd, Int.reduceSub, Int.reduceMul, Int.reduceToNat, Int.reduceNeg, Nat.reduceEqDiff, Nat.reduceLeDiff, Nat.reduceSub, Nat.reduceMul, Nat.reduceLT, Nat.reduceBEq, Nat.reduceAdd]
               rintro _ m hm _ m1 hm1
               rw [(small_wrap (n := m2) (by omega)).2] at hm
               rw [(small_wrap (n := m3) (by omega)).2] at hm1
               rw [hm, hm1]
               refine And.intro rfl ?_
               refine use23 i3 (rfl) ?_
               simp (maxSteps := 2000000) only [pgH, go_sem, eq_self, and_self, Int.natCast_pos, Int.le_refl, Nat.le_refl, Int.natCast_nonneg, Int.ofNat_lt, Int.ofNat_le, Int.reduceLT, Int.reduceLE, Int.reduceEq, Int.reduceNe, Int.reduceAdd, Int.reduceSub, Int.reduceMul, Int.reduceToNat, Int.reduceNeg, Nat.reduceEqDiff, Nat.reduceLeDiff, Nat.reduceSub, Nat.reduceMul, Nat.reduceLT, Nat.reduceBEq, Nat.reduceAdd]
               rintro _ _ k hk
               rw [(small_wrap (n := (i : Int) + 1) (by omega)).2] at hk
               rw [hk]
               refine lpE_intro (A := A8 m3 m2 p ops) (⟨i + 1, L, F3, bl2, lg ++ (wsF (takeF F c.length) c).take k2.toNat⟩ : G8) ?_ ⟨hlt, i3, by show (lg ++ (wsF (takeF F c.length) c).take k2.toNat).length ≤ 100 * (i + 1); rw [List.length_append, List.length_take]; omega⟩ (by show ops.length - (i + 1) < ops.length - i; omega)
               simp (maxSteps := 2000000) only [I8, dkH, pgN, go_sem, eq_self, and_self, Int.natCast_pos, Int.le_refl, Nat.le_refl, Int.natCast_nonneg, Int.ofNat_lt, Int.ofNat_le, Int.reduceLT, Int.reduceLE, Int.reduceEq, Int.reduceNe, Int.reduceAdd, Int.reduceSub, Int.reduceMul, Int.reduceToNat, Int.reduceNeg, Nat.reduceEqDiff, Nat.reduceLeDiff, Nat.reduceSub, Nat.reduceMul, Nat.reduceLT, Nat.reduceBEq, Nat.reduceAdd]
               rfl)
        rintro _ m hm _ m1 hm1
        rw [(small_wrap (n := m2) (by omega)).2] at hm
        rw [(small_wrap (n := m3) (by omega)).2] at hm1
        rw [hm, hm1]
        refine And.intro rfl ?_
        refine use23 g2 (rfl) ?_
        simp (maxSteps := 2000000) only [pgH, go_sem, eq_self, and_self, Int.natCast_pos, Int.le_refl, Nat.le_refl, Int.natCast_nonneg, Int.ofNat_lt, Int.ofNat_le, Int.reduceLT, Int.reduceLE, Int.reduceEq, Int.reduceNe, Int.reduceAdd, Int.reduceSub, Int.reduceMul, Int.reduceToNat, Int.reduceNeg, Nat.reduceEqDiff, Nat.reduceLeDiff, Nat.reduceSub, Nat.reduceMul, Nat.reduceLT, Nat.reduceBEq, Nat.reduceAdd]
        rintro _ _ k hk
        rw [(small_wrap (n := (i : Int) + 1) (by omega)).2] at hk
        rw [hk]
        refine lpE_intro (A := A8 m3 m2 p ops) (⟨i + 1, L, F, bl, lg⟩ : G8) ?_ ⟨hlt, g2, by show lg.length ≤ 100 * (i + 1); omega⟩ (by show ops.length - (i + 1) < ops.length - i; omega)
        simp (maxSteps := 2000000) only [I8, dkH, pgN, go_sem, eq_self, and_self, Int.natCast_pos, Int.le_refl, Nat.le_refl, Int.natCast_nonneg, Int.ofNat_lt, Int.ofNat_le, Int.reduceLT, Int.reduceLE, Int.reduceEq, Int.reduceNe, Int.reduceAdd, Int.reduceSub, Int.reduceMul, Int.reduceToNat, Int.reduceNeg, Nat.reduceEqDiff, Nat.reduceLeDiff, Nat.reduceSub, Nat.reduceMul, Nat.reduceLT, Nat.reduceBEq, Nat.reduceAdd]
        rfl
  · exact h.elim
end Go.V
