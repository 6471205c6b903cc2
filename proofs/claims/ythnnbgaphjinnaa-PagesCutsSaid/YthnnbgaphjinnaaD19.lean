/- A part of the proof layer, or functions of the given program in it: contracts and their proofs. -/
import Derived.Test.YthnnbgaphjinnaaMD12
namespace Go.V
open Go.Proofs
set_option maxRecDepth 100000
set_option linter.unusedSimpArgs false
set_option linter.unnecessarySimpa false
set_option linter.unusedVariables false
/-! ### a disk that is cut -/
def cntE (ends : List Int) (n : Nat) : Nat := (ends.takeWhile fun e => decide (e ≤ (n : Int))).length
def z120 : List ByT.den := List.replicate 120 []
def Hist (L : List PE) (lg : List LgT.den) (ends : List Int) : Prop := ∀ n, n ≤ lg.length → ∃ F, Inv 0 120 (wrL z120 (lg.take n)) (L.take (cntE ends n)) F
structure CutOk (L : List PE) (F : List (Int × Bool)) (bl : List ByT.den) (lg : List LgT.den) (ends : List Int) : Prop where
  inv : Inv 0 120 bl L F
  wr : bl = wrL z120 lg
  hist : Hist L lg ends
  len : ends.length = L.length
  le : ∀ e ∈ ends, e ≤ (lg.length : Int)
  ok : lgOk 120 lg
theorem cntE_le (ends : List Int) (n : Nat) : cntE ends n ≤ ends.length := (List.takeWhile_prefix _).length_le
theorem cntE_all {ends : List Int} {n : Nat} (h : ∀ e ∈ ends, e ≤ (n : Int)) : cntE ends n = ends.length := by
  unfold cntE
  induction ends with
  | nil => rfl
  | cons a r ih =>
    rw [List.takeWhile_cons_of_pos (p := fun e : Int => decide (e ≤ (n : Int))) (decide_eq_true (h a (by simp))), List.length_cons, List.length_cons, ih (fun e he => h e (List.mem_cons_of_mem _ he))]
theorem cntE_stop {n : Nat} : ∀ {ends : List Int} {k : Nat}, k ≤ ends.length → (∀ e ∈ ends.take k, e ≤ (n : Int)) → (k < ends.length → ¬ elt (.int .i64) ends k ≤ (n : Int)) → cntE ends n = k
  | [], k, h, _, _ => (Nat.le_zero.1 h).symm
  | a :: r, 0, _, _, h3 => by
    unfold cntE
    rw [List.takeWhile_cons_of_neg]
    · rfl
    · have := h3 (Nat.succ_pos _)
      intro h
      exact this (of_decide_eq_true h)
  | a :: r, k + 1, h1, h2, h3 => by
    have ih := cntE_stop (ends := r) (k := k) (Nat.le_of_succ_le_succ h1) (fun e he => h2 e (List.mem_cons_of_mem _ he)) (fun h => h3 (Nat.succ_lt_succ h))
    unfold cntE at ih ⊢
    rw [List.takeWhile_cons_of_pos (p := fun e : Int => decide (e ≤ (n : Int))) (decide_eq_true (h2 a (List.mem_cons_self ..))), List.length_cons, ih]
theorem cntE_snoc_gt {ends : List Int} {n : Nat} {m : Int} (h : (n : Int) < m) : cntE (ends ++ [m]) n = cntE ends n := by
  unfold cntE
  rw [List.takeWhile_append]
  split
  · rename_i h1
    rw [List.takeWhile_cons_of_neg (by simp; omega), List.append_nil]
    exact h1.symm
  · rfl
theorem CutOk.put {L : List PE} {F : List (Int × Bool)} {bl : List ByT.den} {lg : List LgT.den} {ends : List Int} (h : CutOk L F bl lg ends) {c : List UInt8} {F' : List (Int × Bool)} {bl' : List ByT.den} (hc : c.length ≤ 20000) (hn : needN c.length ≤ F.length)
    (hi : Inv 0 120 bl' (L ++ [putE F c]) F') (hb : bl' = wrL bl (wsF (takeF F c.length) c)) :
    CutOk (L ++ [putE F c]) F' bl' (lg ++ wsF (takeF F c.length) c) (ends ++ [((lg ++ wsF (takeF F c.length) c).length : Int)]) := by
  have hwl : (wsF (takeF F c.length) c).length = needN c.length := by rw [wsF_length, takeF_length hn]
  have h1 := (needN_bound c.length).2.2
  refine ⟨hi, by rw [hb, wrL_append, ← h.wr], ?_, by simp [h.len], ?_, ?_⟩
  · intro n hnl
    rw [List.length_append, hwl] at hnl
    by_cases h2 : n ≤ lg.length
    · obtain ⟨F2, hF2⟩ := h.hist n h2
      have e1 : (lg ++ wsF (takeF F c.length) c).take n = lg.take n := List.take_append_of_le_length h2
      rw [e1, cntE_snoc_gt (by rw [List.length_append, hwl]; omega)]
      have hk := cntE_le ends n
      rw [List.take_append_of_le_length (by rw [← h.len]; exact hk)]
      exact ⟨F2, hF2⟩
    · have hall : ∀ e ∈ ends, e ≤ (n : Int) := fun e he => by have := h.le e he; omega
      have e1 : (lg ++ wsF (takeF F c.length) c).take n = lg ++ (wsF (takeF F c.length) c).take (n - lg.length) := by
        rw [List.take_append, List.take_of_length_le (by omega)]
      rw [e1, wrL_append, ← h.wr]
      by_cases h3 : n = lg.length + needN c.length
      · have hall2 : ∀ e ∈ ends ++ [((lg ++ wsF (takeF F c.length) c).length : Int)], e ≤ (n : Int) := by
          intro e he
          rcases List.mem_append.1 he with he | he
          · exact hall e he
          · rw [List.mem_singleton] at he
            rw [he, List.length_append, hwl]; omega
        rw [cntE_all hall2, List.take_of_length_le (by rw [hwl]; omega), ← hb, List.take_of_length_le (by simp [h.len])]
        exact ⟨F', hi⟩
      · rw [cntE_snoc_gt (by rw [List.length_append, hwl]; omega), cntE_all hall, h.len, List.take_append_of_le_length (Nat.le_refl _), List.take_length]
        exact ⟨F, h.inv.lost c _⟩
  · intro e he
    rcases List.mem_append.1 he with he | he
    · have := h.le e he
      rw [List.length_append]; omega
    · rw [List.mem_singleton] at he
      omega
  · intro w hw
    rcases List.mem_append.1 hw with hw | hw
    · exact h.ok w hw
    · have hm : w.1 ∈ takeF F c.length := wsF_take_mem (k := (wsF (takeF F c.length) c).length) (by rw [List.take_length]; exact hw)
      have h4 := h.inv.mem (.inl (takeF_mem hm))
      refine ⟨h4.1, by have := h4.2; exact Int.lt_of_lt_of_le this (by omega), ?_⟩
      unfold wsF at hw
      obtain ⟨i, hi', rfl⟩ := List.mem_map.1 hw
      show (blkF _ _ _).length = 256
      unfold blkF
      exact sealF_length (by rw [List.length_append, headF_length]; have := partF_length c i; omega)
structure G7 where
  i : Nat
  L : List PE
  F : List (Int × Bool)
  bl : List ByT.den
  lg : List LgT.den
  ends : List Int
def A7 (p : Bool) (ops : List OpT.den) : LoopAnn := {
  G := G7
  I := fun g => ⟨[(0, .sl p 40 (.pair (.int .i64) (.pair (.int .i64) (.sl 1 .byte))) ops), (3, .ptr 0 0), (4, .ptr 3 0), (6, .own 6), (7, .own 7), (31, .int .i64 ops.length), (32, .int .i64 g.i)],
    dkH true g.bl g.lg (-1) false ++ pgN 0 (tOf g.L) g.F ++ [.row true 24 (.pair (.int .i64) .str) (lOf g.L), .row true 8 (.int .i64) g.ends]⟩
  R := fun _ g => g.i ≤ ops.length ∧ CutOk g.L g.F g.bl g.lg g.ends ∧ g.lg.length ≤ 100 * g.i
  μ := fun g => ops.length - g.i }
theorem I7 (p ops) (g : G7) : (A7 p ops).I g = ⟨[(0, .sl p 40 (.pair (.int .i64) (.pair (.int .i64) (.sl 1 .byte))) ops), (3, .ptr 0 0), (4, .ptr 3 0), (6, .own 6), (7, .own 7), (31, .int .i64 ops.length), (32, .int .i64 g.i)],
    dkH true g.bl g.lg (-1) false ++ pgN 0 (tOf g.L) g.F ++ [.row true 24 (.pair (.int .i64) .str) (lOf g.L), .row true 8 (.int .i64) g.ends]⟩ := rfl
def B7 : LoopAnn := {
  G := G7
  I := fun g => ⟨[(3, .ptr 0 0), (6, .own 3), (7, .own 4), (63, .int .i64 (g.lg.length + 1 : Nat)), (64, .int .i64 g.i)],
    dkH true g.bl g.lg (-1) false ++ [.row true 24 (.pair (.int .i64) .str) (lOf g.L), .row true 8 (.int .i64) g.ends]⟩
  R := fun g0 g => g.i ≤ g.lg.length + 1 ∧ g.L = g0.L ∧ g.F = g0.F ∧ g.bl = g0.bl ∧ g.lg = g0.lg ∧ g.ends = g0.ends
  μ := fun g => g.lg.length + 1 - g.i }
theorem J7 (g : G7) : B7.I g = ⟨[(3, .ptr 0 0), (6, .own 3), (7, .own 4), (63, .int .i64 (g.lg.length + 1 : Nat)), (64, .int .i64 g.i)],
    dkH true g.bl g.lg (-1) false ++ [.row true 24 (.pair (.int .i64) .str) (lOf g.L), .row true 8 (.int .i64) g.ends]⟩ := rfl
structure H7 where
  g : G7
  k : Nat
def D7 : LoopAnn := {
  G := H7
  I := fun x => ⟨[(3, .ptr 0 0), (6, .own 3), (7, .own 4), (12, .int .i64 x.g.i), (13, .int .i64 x.k), (63, .int .i64 (x.g.lg.length + 1 : Nat)), (64, .int .i64 x.g.i)],
    dkH true x.g.bl x.g.lg (-1) false ++ [.row true 24 (.pair (.int .i64) .str) (lOf x.g.L), .row true 8 (.int .i64) x.g.ends]⟩
  R := fun x0 x => x.g = x0.g ∧ x.k ≤ x.g.ends.length ∧ ∀ e ∈ x.g.ends.take x.k, e ≤ (x.g.i : Int)
  μ := fun x => x.g.ends.length - x.k }
theorem K7 (x : H7) : D7.I x = ⟨[(3, .ptr 0 0), (6, .own 3), (7, .own 4), (12, .int .i64 x.g.i), (13, .int .i64 x.k), (63, .int .i64 (x.g.lg.length + 1 : Nat)), (64, .int .i64 x.g.i)],
    dkH true x.g.bl x.g.lg (-1) false ++ [.row true 24 (.pair (.int .i64) .str) (lOf x.g.L), .row true 8 (.int .i64) x.g.ends]⟩ := rfl
/-- PagesCuts -/
def C7 : Contract := fun args hp K => match args, hp with
  | [.sl p 40 (.pair (.int .i64) (.pair (.int .i64) (.sl 1 .byte))) ops], [] => K (.bool true) []
  | _, _ => False
theorem s7 : Sound Try.prog 7 C7 := by
  refine sound_of_okF ok7 (Γ := [(9, C9), (10, C10), (11, C11), (12, C12), (16, C16), (20, C20), (21, C21), (22, C22), (23, C23)]) (.cons s9 (callable_of_okF ok9) (.cons s10 (callable_of_okF ok10) (.cons s11 (callable_of_okF ok11) (.cons s12 (callable_of_okF ok12) (.cons s16 (callable_of_okF ok16) (.cons s20 (callable_of_okF ok20) (.cons s21 (callable_of_okF ok21) (.cons s22 (callable_of_okF ok22) (.cons s23 (callable_of_okF ok23) .nil))))))))) ?_
  intro args hp K h
  unfold C7 at h
  split at h
  · rename_i p ops
    refine ⟨by simp, [(1, A7 p ops), (2, B7), (3, D7)], ?_⟩
    simp (maxSteps := 2000000) only [a7, r7, go_sem, eq_self, and_self, Int.natCast_pos, Int.le_refl, Nat.le_refl, Int.natCast_nonneg, Int.ofNat_lt, Int.ofNat_le, Int.reduceLT, Int.reduceLE, Int.reduceEq, Int.reduceNe, Int.reduceAdd, Int.reduceSub, Int.reduceMul, Int.reduceToNat, Int.reduceNeg, Nat.reduceEqDiff, Nat.reduceLeDiff, Nat.reduceSub, Nat.reduceMul, Nat.reduceLT, Nat.reduceBEq, Nat.reduceAdd]
    refine use9 ?_
    simp (maxSteps := 2000000) only [go_sem, eq_self, and_self, Int.natCast_pos, Int.le_refl, Nat.le_refl, Int.natCast_nonneg, Int.ofNat_lt, Int.ofNat_le, Int.reduceLT, Int.reduceLE, Int.reduceEq, Int.reduceNe, Int.reduceAdd, Int.reduceSub, Int.reduceMul, Int.reduceToNat, Int.reduceNeg, Nat.reduceEqDiff, Nat.reduceLeDiff, Nat.reduceSub, Nat.reduceMul, Nat.reduceLT, Nat.reduceBEq, Nat.reduceAdd]
    rintro _ _ m rfl
    refine swd (fun _ => use9 ?_) (fun hb => ?_)
    · simp (maxSteps := 2000000) only [go_sem, eq_self, and_self, Int.natCast_pos, Int.le_refl, Nat.le_refl, Int.natCast_nonneg, Int.ofNat_lt, Int.ofNat_le, Int.reduceLT, Int.reduceLE, Int.reduceEq, Int.reduceNe, Int.reduceAdd, Int.reduceSub, Int.reduceMul, Int.reduceToNat, Int.reduceNeg, Nat.reduceEqDiff, Nat.reduceLeDiff, Nat.reduceSub, Nat.reduceMul, Nat.reduceLT, Nat.reduceBEq, Nat.reduceAdd]
      exact h
    refine use11 (by omega) ?_
    simp (maxSteps := 2000000) only [dkH, go_sem, eq_self, and_self, Int.natCast_pos, Int.le_refl, Nat.le_refl, Int.natCast_nonneg, Int.ofNat_lt, Int.ofNat_le, Int.reduceLT, Int.reduceLE, Int.reduceEq, Int.reduceNe, Int.reduceAdd, Int.reduceSub, Int.reduceMul, Int.reduceToNat, Int.reduceNeg, Nat.reduceEqDiff, Nat.reduceLeDiff, Nat.reduceSub, Nat.reduceMul, Nat.reduceLT, Nat.reduceBEq, Nat.reduceAdd]
    refine use10 (by omega) (by omega) (by simp) (by simp) (fun i0 => ?_)
    simp (maxSteps := 2000000) only [dkH, pgN, go_sem, eq_self, and_self, Int.natCast_pos, Int.le_refl, Nat.le_refl, Int.natCast_nonneg, Int.ofNat_lt, Int.ofNat_le, Int.reduceLT, Int.reduceLE, Int.reduceEq, Int.reduceNe, Int.reduceAdd, Int.reduceSub, Int.reduceMul, Int.reduceToNat, Int.reduceNeg, Nat.reduceEqDiff, Nat.reduceLeDiff, Nat.reduceSub, Nat.reduceMul, Nat.reduceLT, Nat.reduceBEq, Nat.reduceAdd]
    rintro _ _ m rfl
    refine loop_intro (A := A7 p ops) (⟨0, [], initF 0 120, z120, [], []⟩ : G7) ?_ ⟨Nat.zero_le _, ⟨i0, rfl, fun n hn => ⟨initF 0 120, ?_⟩, rfl, (fun e he => by cases he), (fun w hw => by cases hw)⟩, Nat.zero_le _⟩ ?_
    · simp (maxSteps := 2000000) only [I7, dkH, pgN, go_sem, eq_self, and_self, Int.natCast_pos, Int.le_refl, Nat.le_refl, Int.natCast_nonneg, Int.ofNat_lt, Int.ofNat_le, Int.reduceLT, Int.reduceLE, Int.reduceEq, Int.reduceNe, Int.reduceAdd, Int.reduceSub, Int.reduceMul, Int.reduceToNat, Int.reduceNeg, Nat.reduceEqDiff, Nat.reduceLeDiff, Nat.reduceSub, Nat.reduceMul, Nat.reduceLT, Nat.reduceBEq, Nat.reduceAdd]
      rfl
    · rw [show n = 0 from Nat.le_zero.1 hn]; exact i0
    · rintro (g : G7) ⟨g1, g2, g3⟩
      obtain ⟨i, L, F, bl, lg, ends⟩ := g
      simp only at g1 g2 g3
      simp (maxSteps := 2000000) only [I7, dkH, pgN, go_sem, eq_self, and_self, Int.natCast_pos, Int.le_refl, Nat.le_refl, Int.natCast_nonneg, Int.ofNat_lt, Int.ofNat_le, Int.reduceLT, Int.reduceLE, Int.reduceEq, Int.reduceNe, Int.reduceAdd, Int.reduceSub, Int.reduceMul, Int.reduceToNat, Int.reduceNeg, Nat.reduceEqDiff, Nat.reduceLeDiff, Nat.reduceSub, Nat.reduceMul, Nat.reduceLT, Nat.reduceBEq, Nat.reduceAdd]
      refine swd (fun hlt => ?_) (fun hge => ?_)
      · refine nd_intro hlt ?_
        refine use16 ?_
        have htx := txF_length (elt OpT ops i).2.1 (elt OpT ops i).2.2
        simp (maxSteps := 2000000) only [go_sem, eq_self, and_self, Int.natCast_pos, Int.le_refl, Nat.le_refl, Int.natCast_nonneg, Int.ofNat_lt, Int.ofNat_le, Int.reduceLT, Int.reduceLE, Int.reduceEq, Int.reduceNe, Int.reduceAdd, Int.reduceSub, Int.reduceMul, Int.reduceToNat, Int.reduceNeg, Nat.reduceEqDiff, Nat.reduceLeDiff, Nat.reduceSub, Nat.reduceMul, Nat.reduceLT, Nat.reduceBEq, Nat.reduceAdd]
        refine And.intro rfl ?_
        generalize txF _ _ = c at *
        have hnd := needN_bound c.length
        refine use12 g2.inv (by omega) (fun h1 => absurd h1 (by omega)) (fun _ h2 => ?_) (fun h1 h2 _ F2 bl2 i2 hb2 hnn2 => ?_) (fun _ _ h3 => absurd h3 (by omega))
        · simp (maxSteps := 2000000) only [pgH, go_sem, eq_self, and_self, Int.natCast_pos, Int.le_refl, Nat.le_refl, Int.natCast_nonneg, Int.ofNat_lt, Int.ofNat_le, Int.reduceLT, Int.reduceLE, Int.reduceEq, Int.reduceNe, Int.reduceAdd, Int.reduceSub, Int.reduceMul, Int.reduceToNat, Int.reduceNeg, Nat.reduceEqDiff, Nat.reduceLeDiff, Nat.reduceSub, Nat.reduceMul, Nat.reduceLT, Nat.reduceBEq, Nat.reduceAdd]
          rintro _ _ m hm
          rw [(small_wrap (n := (i : Int) + 1) (by omega)).2] at hm
          subst hm
          refine lpE_intro (A := A7 p ops) (⟨i + 1, L, F, bl, lg, ends⟩ : G7) ?_ ⟨hlt, g2, by show lg.length ≤ 100 * (i + 1); omega⟩ (by show ops.length - (i + 1) < ops.length - i; omega)
          simp (maxSteps := 2000000) only [I7, dkH, pgN, go_sem, eq_self, and_self, Int.natCast_pos, Int.le_refl, Nat.le_refl, Int.natCast_nonneg, Int.ofNat_lt, Int.ofNat_le, Int.reduceLT, Int.reduceLE, Int.reduceEq, Int.reduceNe, Int.reduceAdd, Int.reduceSub, Int.reduceMul, Int.reduceToNat, Int.reduceNeg, Nat.reduceEqDiff, Nat.reduceLeDiff, Nat.reduceSub, Nat.reduceMul, Nat.reduceLT, Nat.reduceBEq, Nat.reduceAdd]
          rfl
        · have hlw : (wsF (takeF F c.length) c).length ≤ 90 := by rw [wsF_length, takeF_length h2]; omega
          have hfu2 : fuA (-1) (needN c.length) = -1 := rfl
          have hk := g2.put h1 h2 i2 hb2
          have hs := i2.small
          have hel : ends.length ≤ 65536 := by have := g2.len; simp at hs; omega
          have hlo : lOf (L ++ [putE F c]) = lOf L ++ [((putE F c).n, ⟨c.toArray⟩)] := by simp [lOf, putE]
          have hnl : (lOf L).length ≤ 65536 := by have : (lOf L).length = L.length := List.length_map ..; rw [this]; simp at hs; omega
          rw [hfu2]
          simp (maxSteps := 2000000) only [pgH, go_sem, eq_self, and_self, Int.natCast_pos, Int.le_refl, Nat.le_refl, Int.natCast_nonneg, Int.ofNat_lt, Int.ofNat_le, Int.reduceLT, Int.reduceLE, Int.reduceEq, Int.reduceNe, Int.reduceAdd, Int.reduceSub, Int.reduceMul, Int.reduceToNat, Int.reduceNeg, Nat.reduceEqDiff, Nat.reduceLeDiff, Nat.reduceSub, Nat.reduceMul, Nat.reduceLT, Nat.reduceBEq, Nat.reduceAdd]
          rintro u rfl
          refine And.intro (by omega) (fun _ => ?_)
          have hlg : (lg ++ wsF (takeF F c.length) c).length ≤ 1000000 := by rw [List.length_append]; omega
          refine use20 hlg ?_
          simp (maxSteps := 2000000) only [dkH, go_sem, eq_self, and_self, Int.natCast_pos, Int.le_refl, Nat.le_refl, Int.natCast_nonneg, Int.ofNat_lt, Int.ofNat_le, Int.reduceLT, Int.reduceLE, Int.reduceEq, Int.reduceNe, Int.reduceAdd, Int.reduceSub, Int.reduceMul, Int.reduceToNat, Int.reduceNeg, Nat.reduceEqDiff, Nat.reduceLeDiff, Nat.reduceSub, Nat.reduceMul, Nat.reduceLT, Nat.reduceBEq, Nat.reduceAdd]
          refine And.intro (by omega) (fun _ => ?_)
          rintro _ _ m hm
          rw [(small_wrap (n := (i : Int) + 1) (by omega)).2] at hm
          subst hm
          refine lpE_intro (A := A7 p ops) (⟨i + 1, L ++ [putE F c], F2, bl2, lg ++ wsF (takeF F c.length) c, ends ++ [((lg ++ wsF (takeF F c.length) c).length : Int)]⟩ : G7) ?_ ⟨hlt, hk, by show (lg ++ _).length ≤ 100 * (i + 1); rw [List.length_append]; omega⟩ (by show ops.length - (i + 1) < ops.length - i; omega)
          simp (maxSteps := 2000000) only [I7, dkH, pgN, hlo, go_sem, eq_self, and_self, Int.natCast_pos, Int.le_refl, Nat.le_refl, Int.natCast_nonneg, Int.ofNat_lt, Int.ofNat_le, Int.reduceLT, Int.reduceLE, Int.reduceEq, Int.reduceNe, Int.reduceAdd, Int.reduceSub, Int.reduceMul, Int.reduceToNat, Int.reduceNeg, Nat.reduceEqDiff, Nat.reduceLeDiff, Nat.reduceSub, Nat.reduceMul, Nat.reduceLT, Nat.reduceBEq, Nat.reduceAdd]
          rfl
      · refine use20 (by omega) ?_
        simp (maxSteps := 2000000) only [dkH, go_sem, eq_self, and_self, Int.natCast_pos, Int.le_refl, Nat.le_refl, Int.natCast_nonneg, Int.ofNat_lt, Int.ofNat_le, Int.reduceLT, Int.reduceLE, Int.reduceEq, Int.reduceNe, Int.reduceAdd, Int.reduceSub, Int.reduceMul, Int.reduceToNat, Int.reduceNeg, Nat.reduceEqDiff, Nat.reduceLeDiff, Nat.reduceSub, Nat.reduceMul, Nat.reduceLT, Nat.reduceBEq, Nat.reduceAdd]
        rintro _ _ m hm
        rw [(small_wrap (n := (lg.length : Int) + 1) (by omega)).2] at hm
        subst hm
        refine loop_intro (A := B7) (⟨0, L, F, bl, lg, ends⟩ : G7) ?_ ⟨Nat.zero_le _, rfl, rfl, rfl, rfl, rfl⟩ ?_
        · simp (maxSteps := 2000000) only [J7, dkH, pgN, go_sem, eq_self, and_self, Int.natCast_pos, Int.le_refl, Nat.le_refl, Int.natCast_nonneg, Int.ofNat_lt, Int.ofNat_le, Int.reduceLT, Int.reduceLE, Int.reduceEq, Int.reduceNe, Int.reduceAdd, Int.reduceSub, Int.reduceMul, Int.reduceToNat, Int.reduceNeg, Nat.reduceEqDiff, Nat.reduceLeDiff, Nat.reduceSub, Nat.reduceMul, Nat.reduceLT, Nat.reduceBEq, Nat.reduceAdd]
          rfl
        · rintro (g : G7) ⟨k1, k2, k3, k4, k5, k6⟩
          obtain ⟨n, L', F', bl', lg', ends'⟩ := g
          simp only at k1 k2 k3 k4 k5 k6
          subst k2 k3 k4 k5 k6
          simp (maxSteps := 2000000) only [J7, dkH, pgN, go_sem, eq_self, and_self, Int.natCast_pos, Int.le_refl, Nat.le_refl, Int.natCast_nonneg, Int.ofNat_lt, Int.ofNat_le, Int.reduceLT, Int.reduceLE, Int.reduceEq, Int.reduceNe, Int.reduceAdd, Int.reduceSub, Int.reduceMul, Int.reduceToNat, Int.reduceNeg, Nat.reduceEqDiff, Nat.reduceLeDiff, Nat.reduceSub, Nat.reduceMul, Nat.reduceLT, Nat.reduceBEq, Nat.reduceAdd]
          refine swd (fun hn => ?_) (fun hn => h)
          refine loop_intro (A := D7) (⟨⟨n, L', F', bl', lg', ends'⟩, 0⟩ : H7) ?_ ⟨rfl, Nat.zero_le _, fun e he => by cases he⟩ ?_
          · simp (maxSteps := 2000000) only [K7, dkH, pgN, go_sem, eq_self, and_self, Int.natCast_pos, Int.le_refl, Nat.le_refl, Int.natCast_nonneg, Int.ofNat_lt, Int.ofNat_le, Int.reduceLT, Int.reduceLE, Int.reduceEq, Int.reduceNe, Int.reduceAdd, Int.reduceSub, Int.reduceMul, Int.reduceToNat, Int.reduceNeg, Nat.reduceEqDiff, Nat.reduceLeDiff, Nat.reduceSub, Nat.reduceMul, Nat.reduceLT, Nat.reduceBEq, Nat.reduceAdd]
            rfl
          · rintro (x : H7) ⟨x1, x2, x3⟩
            obtain ⟨g, k⟩ := x
            simp only at x1 x2 x3
            subst x1
            replace x2 : k ≤ ends'.length := x2
            replace x3 : ∀ e ∈ ends'.take k, e ≤ (n : Int) := x3
            simp (maxSteps := 2000000) only [K7, dkH, pgN, go_sem, eq_self, and_self, Int.natCast_pos, Int.le_refl, Nat.le_refl, Int.natCast_nonneg, Int.ofNat_lt, Int.ofNat_le, Int.reduceLT, Int.reduceLE, Int.reduceEq, Int.reduceNe, Int.reduceAdd, Int.reduceSub, Int.reduceMul, Int.reduceToNat, Int.reduceNeg, Nat.reduceEqDiff, Nat.reduceLeDiff, Nat.reduceSub, Nat.reduceMul, Nat.reduceLT, Nat.reduceBEq, Nat.reduceAdd]
            rintro _ _ m rfl
            refine swd (fun hk => ?_) (fun hk => ?_)
            focus
              replace hk : k < ends'.length := by omega
              refine nd_intro hk ?_
              refine swd (fun hle => ?_) (fun hgt => ?_)
              · rintro _ _ m hm
                have := g2.len
                have := g2.inv.small
                rw [(small_wrap (n := (k : Int) + 1) (by omega)).2] at hm
                subst hm
                refine lpE_intro (A := D7) (⟨⟨n, L', F', bl', lg', ends'⟩, k + 1⟩ : H7) ?_ ⟨rfl, hk, fun e he => ?_⟩ (by show ends'.length - (k + 1) < ends'.length - k; omega)
                · simp (maxSteps := 2000000) only [K7, dkH, pgN, go_sem, eq_self, and_self, Int.natCast_pos, Int.le_refl, Nat.le_refl, Int.natCast_nonneg, Int.ofNat_lt, Int.ofNat_le, Int.reduceLT, Int.reduceLE, Int.reduceEq, Int.reduceNe, Int.reduceAdd, Int.reduceSub, Int.reduceMul, Int.reduceToNat, Int.reduceNeg, Nat.reduceEqDiff, Nat.reduceLeDiff, Nat.reduceSub, Nat.reduceMul, Nat.reduceLT, Nat.reduceBEq, Nat.reduceAdd]
                  rfl
                · have he : e ∈ ends'.take (k + 1) := he
                  rw [← take_elt (t := .int .i64) hk] at he
                  rcases List.mem_append.1 he with he | he
                  · exact x3 e he
                  · rw [List.mem_singleton] at he
                    rw [he]; exact hle
            all_goals
              have hc : cntE ends' n = k := cntE_stop x2 x3 (by first | exact fun _ => hgt | (intro h; omega))
              have hlen := g2.len
              have hlo : (lOf L').length = L'.length := List.length_map ..
              refine nd_intro (by omega) ?_
              have hbl : bl'.length = 120 := by rw [g2.wr, wrL_length]; exact List.length_replicate
              refine use21 ⟨by omega, by omega, by omega, by rw [hbl]; exact g2.ok⟩ ?_
              simp (maxSteps := 2000000) only [dkH, go_sem, eq_self, and_self, Int.natCast_pos, Int.le_refl, Nat.le_refl, Int.natCast_nonneg, Int.ofNat_lt, Int.ofNat_le, Int.reduceLT, Int.reduceLE, Int.reduceEq, Int.reduceNe, Int.reduceAdd, Int.reduceSub, Int.reduceMul, Int.reduceToNat, Int.reduceNeg, Nat.reduceEqDiff, Nat.reduceLeDiff, Nat.reduceSub, Nat.reduceMul, Nat.reduceLT, Nat.reduceBEq, Nat.reduceAdd]
              refine And.intro (by omega) (And.intro rfl (use22 ?_))
              simp (maxSteps := 2000000) only [go_sem, eq_self, and_self, Int.natCast_pos, Int.le_refl, Nat.le_refl, Int.natCast_nonneg, Int.ofNat_lt, Int.ofNat_le, Int.reduceLT, Int.reduceLE, Int.reduceEq, Int.reduceNe, Int.reduceAdd, Int.reduceSub, Int.reduceMul, Int.reduceToNat, Int.reduceNeg, Nat.reduceEqDiff, Nat.reduceLeDiff, Nat.reduceSub, Nat.reduceMul, Nat.reduceLT, Nat.reduceBEq, Nat.reduceAdd]
              obtain ⟨F2, i2⟩ := g2.hist n (by omega)
              rw [hc] at i2
              rw [hbl]
              refine And.intro rfl ?_
              refine use10L i2 (by simp only [lOf, nOf, List.map_take, List.map_map]; rfl) (fun F3 i3 => ?_)
              simp (maxSteps := 2000000) only [dkH, pgN, go_sem, eq_self, and_self, Int.natCast_pos, Int.le_refl, Nat.le_refl, Int.natCast_nonneg, Int.ofNat_lt, Int.ofNat_le, Int.reduceLT, Int.reduceLE, Int.reduceEq, Int.reduceNe, Int.reduceAdd, Int.reduceSub, Int.reduceMul, Int.reduceToNat, Int.reduceNeg, Nat.reduceEqDiff, Nat.reduceLeDiff, Nat.reduceSub, Nat.reduceMul, Nat.reduceLT, Nat.reduceBEq, Nat.reduceAdd]
              refine nd_intro (by omega) (And.intro rfl ?_)
              refine use23 i3 (by show List.take k (lOf L') = _; simp only [lOf, List.map_take]) ?_
              simp (maxSteps := 2000000) only [pgH, go_sem, eq_self, and_self, Int.natCast_pos, Int.le_refl, Nat.le_refl, Int.natCast_nonneg, Int.ofNat_lt, Int.ofNat_le, Int.reduceLT, Int.reduceLE, Int.reduceEq, Int.reduceNe, Int.reduceAdd, Int.reduceSub, Int.reduceMul, Int.reduceToNat, Int.reduceNeg, Nat.reduceEqDiff, Nat.reduceLeDiff, Nat.reduceSub, Nat.reduceMul, Nat.reduceLT, Nat.reduceBEq, Nat.reduceAdd]
              rintro _ _ m hm
              rw [(small_wrap (n := (n : Int) + 1) (by omega)).2] at hm
              subst hm
              refine lpE_intro (A := B7) (⟨n + 1, L', F', bl', lg', ends'⟩ : G7) ?_ ⟨hn, rfl, rfl, rfl, rfl, rfl⟩ (by show lg'.length + 1 - (n + 1) < lg'.length + 1 - n; omega)
              simp (maxSteps := 2000000) only [J7, dkH, pgN, go_sem, eq_self, and_self, Int.natCast_pos, Int.le_refl, Nat.le_refl, Int.natCast_nonneg, Int.ofNat_lt, Int.ofNat_le, Int.reduceLT, Int.reduceLE, Int.reduceEq, Int.reduceNe, Int.reduceAdd, Int.reduceSub, Int.reduceMul, Int.reduceToNat, Int.reduceNeg, Nat.reduceEqDiff, Nat.reduceLeDiff, Nat.reduceSub, Nat.reduceMul, Nat.reduceLT, Nat.reduceBEq, Nat.reduceAdd]
              rfl
  · exact h.elim
end Go.V
