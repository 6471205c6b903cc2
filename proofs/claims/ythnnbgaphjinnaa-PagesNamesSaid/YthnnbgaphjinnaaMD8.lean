/- A part of the proof layer, or functions of the given program in it: contracts and their proofs. -/
import Derived.Test.YthnnbgaphjinnaaMD4
namespace Go.V
open Go.Proofs
set_option maxRecDepth 100000
set_option linter.unusedSimpArgs false
set_option linter.unnecessarySimpa false
set_option linter.unusedVariables false
/-- text: of an operation's bytes, so many times over. -/
def txS (B : List UInt8) (b : List UInt8) : List UInt8 := if b.length + B.length ≤ 6000 then b ++ B else b
def txN (B : List UInt8) : Nat → List UInt8
  | 0 => []
  | n + 1 => txS B (txN B n)
def txF (n : Int) (B : List UInt8) : List UInt8 := txN B (min (max n 0) 60).toNat
theorem txN_length (B : List UInt8) : ∀ n, (txN B n).length ≤ 6000
  | 0 => Nat.zero_le _
  | n + 1 => by
    have := txN_length B n
    show (txS B (txN B n)).length ≤ 6000
    unfold txS
    split
    · rw [List.length_append]; assumption
    · exact this
theorem txF_length (n : Int) (B : List UInt8) : (txF n B).length ≤ 6000 := txN_length B _
def A16 (k n : Int) (p : Bool) (B : List UInt8) (m : Int) : LoopAnn := cntA (fun i => ⟨[(1, .ptr 0 0), (3, .own 1), (7, .int .i64 m), (8, .int .i64 i)], [.struct [.int .i64 k, .int .i64 n, .sl p 1 .byte B], .row true 1 .byte (txN B i)]⟩) m.toNat
def C16 : Contract := fun args hp K => match args, hp with
  | [.agg [.int .i64 k, .int .i64 n, x]], [] => onB x fun B => K (.own 0) [.row true 1 .byte (txF n B)]
  | _, _ => False
theorem s16 : Sound Try.prog 16 C16 := by
  refine sound_of_okF ok16 (Γ := []) .nil ?_
  intro args hp K h
  unfold C16 at h
  split at h
  · rename_i k n x
    obtain ⟨p, B, rfl, h⟩ := h
    refine ⟨by simp, [(1, A16 k n p B (min (max n 0) 60))], ?_⟩
    simp (maxSteps := 2000000) only [a16, r16, go_sem, eq_self, and_self, Int.natCast_pos, Int.le_refl, Nat.le_refl, Int.natCast_nonneg, Int.ofNat_lt, Int.ofNat_le, Int.reduceLT, Int.reduceLE, Int.reduceEq, Int.reduceNe, Int.reduceAdd, Int.reduceSub, Int.reduceMul, Int.reduceToNat, Int.reduceNeg, Nat.reduceEqDiff, Nat.reduceLeDiff, Nat.reduceSub, Nat.reduceMul, Nat.reduceLT, Nat.reduceBEq, Nat.reduceAdd]
    rintro m hm m1 hm1
    have e : m1 = min (max n 0) 60 := by rw [hm1, hm]; split <;> split <;> omega
    clear hm hm1
    subst e
    have hm0 : 0 ≤ min (max n 0) 60 ∧ min (max n 0) 60 ≤ 60 := by omega
    unfold txF at h
    generalize min (max n 0) 60 = m at *
    refine loop_intro (A := A16 k n p B m) (0 : Nat) ?_ (Nat.zero_le _) ?_
    · simp (maxSteps := 2000000) only [A16, cntA_I, go_sem, eq_self, and_self, Int.natCast_pos, Int.le_refl, Nat.le_refl, Int.natCast_nonneg, Int.ofNat_lt, Int.ofNat_le, Int.reduceLT, Int.reduceLE, Int.reduceEq, Int.reduceNe, Int.reduceAdd, Int.reduceSub, Int.reduceMul, Int.reduceToNat, Int.reduceNeg, Nat.reduceEqDiff, Nat.reduceLeDiff, Nat.reduceSub, Nat.reduceMul, Nat.reduceLT, Nat.reduceBEq, Nat.reduceAdd]
      rfl
    · intro (i : Nat) (hi : i ≤ m.toNat)
      simp (maxSteps := 2000000) only [A16, cntA_I, go_sem, eq_self, and_self, Int.natCast_pos, Int.le_refl, Nat.le_refl, Int.natCast_nonneg, Int.ofNat_lt, Int.ofNat_le, Int.reduceLT, Int.reduceLE, Int.reduceEq, Int.reduceNe, Int.reduceAdd, Int.reduceSub, Int.reduceMul, Int.reduceToNat, Int.reduceNeg, Nat.reduceEqDiff, Nat.reduceLeDiff, Nat.reduceSub, Nat.reduceMul, Nat.reduceLT, Nat.reduceBEq, Nat.reduceAdd]
      have hl := txN_length B i
      refine swd (fun hlt => ?_) (fun hge => ?_)
      · rintro _ _ m2 rfl _ hBl m3 rfl _ _ m4 hm4
        rw [w64 (by omega)] at hm4
        subst hm4
        refine swd (fun e => ?_) (fun e => ?_)
        · refine And.intro (fun _ _ => by omega) (fun _ => ?_)
          rintro _ _ m5 hm5
          rw [w64 (by omega)] at hm5
          subst hm5
          refine cntA_next (by omega) ?_
          simp (maxSteps := 2000000) only [go_sem, eq_self, and_self, Int.natCast_pos, Int.le_refl, Nat.le_refl, Int.natCast_nonneg, Int.ofNat_lt, Int.ofNat_le, Int.reduceLT, Int.reduceLE, Int.reduceEq, Int.reduceNe, Int.reduceAdd, Int.reduceSub, Int.reduceMul, Int.reduceToNat, Int.reduceNeg, Nat.reduceEqDiff, Nat.reduceLeDiff, Nat.reduceSub, Nat.reduceMul, Nat.reduceLT, Nat.reduceBEq, Nat.reduceAdd]
          have e2 : txN B i ++ B = txN B (i + 1) := by
            show _ = txS B (txN B i)
            unfold txS
            rw [if_pos (by omega)]
          rw [e2]
          rfl
        · rintro _ _ m5 hm5
          rw [w64 (by omega)] at hm5
          subst hm5
          refine cntA_next (by omega) ?_
          simp (maxSteps := 2000000) only [go_sem, eq_self, and_self, Int.natCast_pos, Int.le_refl, Nat.le_refl, Int.natCast_nonneg, Int.ofNat_lt, Int.ofNat_le, Int.reduceLT, Int.reduceLE, Int.reduceEq, Int.reduceNe, Int.reduceAdd, Int.reduceSub, Int.reduceMul, Int.reduceToNat, Int.reduceNeg, Nat.reduceEqDiff, Nat.reduceLeDiff, Nat.reduceSub, Nat.reduceMul, Nat.reduceLT, Nat.reduceBEq, Nat.reduceAdd]
          have e2 : txN B i = txN B (i + 1) := by
            show _ = txS B (txN B i)
            unfold txS
            rw [if_neg (by omega)]
          rw [← e2]
          rfl
      · have : i = m.toNat := by omega
        subst this
        exact h
  · exact h.elim

abbrev KpT : Ty := .pair (.int .i64) .str
/-- names -/
def C22 : Contract := fun args hp K => match args, hp with
  | [.sl p 24 (.pair (.int .i64) .str) l], [] => K (.own 0) [.row true 8 (.int .i64) ((l : List KpT.den).map Prod.fst)]
  | _, _ => False
def A22 (p : Bool) (l : List KpT.den) : LoopAnn := cntA (fun i => ⟨[(0, .sl p 24 (.pair (.int .i64) .str) l), (3, .own 0), (6, .int .i64 l.length), (7, .int .i64 i)], [.row true 8 (.int .i64) ((l.take i).map Prod.fst)]⟩) l.length
theorem s22 : Sound Try.prog 22 C22 := by
  refine sound_of_okF ok22 (Γ := []) .nil ?_
  intro args hp K h
  unfold C22 at h
  split at h
  · rename_i p l
    refine ⟨by simp, [(1, A22 p l)], ?_⟩
    simp (maxSteps := 2000000) only [a22, r22, go_sem, eq_self, and_self, Int.natCast_pos, Int.le_refl, Nat.le_refl, Int.natCast_nonneg, Int.ofNat_lt, Int.ofNat_le, Int.reduceLT, Int.reduceLE, Int.reduceEq, Int.reduceNe, Int.reduceAdd, Int.reduceSub, Int.reduceMul, Int.reduceToNat, Int.reduceNeg, Nat.reduceEqDiff, Nat.reduceLeDiff, Nat.reduceSub, Nat.reduceMul, Nat.reduceLT, Nat.reduceBEq, Nat.reduceAdd]
    rintro _ _ m rfl
    refine loop_intro (A := A22 p l) (0 : Nat) ?_ (Nat.zero_le _) ?_
    · simp (maxSteps := 2000000) only [A22, cntA_I, go_sem, eq_self, and_self, Int.natCast_pos, Int.le_refl, Nat.le_refl, Int.natCast_nonneg, Int.ofNat_lt, Int.ofNat_le, Int.reduceLT, Int.reduceLE, Int.reduceEq, Int.reduceNe, Int.reduceAdd, Int.reduceSub, Int.reduceMul, Int.reduceToNat, Int.reduceNeg, Nat.reduceEqDiff, Nat.reduceLeDiff, Nat.reduceSub, Nat.reduceMul, Nat.reduceLT, Nat.reduceBEq, Nat.reduceAdd]
      rfl
    · intro (i : Nat) (hi : i ≤ l.length)
      simp (maxSteps := 2000000) only [A22, cntA_I, go_sem, eq_self, and_self, Int.natCast_pos, Int.le_refl, Nat.le_refl, Int.natCast_nonneg, Int.ofNat_lt, Int.ofNat_le, Int.reduceLT, Int.reduceLE, Int.reduceEq, Int.reduceNe, Int.reduceAdd, Int.reduceSub, Int.reduceMul, Int.reduceToNat, Int.reduceNeg, Nat.reduceEqDiff, Nat.reduceLeDiff, Nat.reduceSub, Nat.reduceMul, Nat.reduceLT, Nat.reduceBEq, Nat.reduceAdd]
      refine swd (fun hlt => ?_) (fun hge => ?_)
      · refine nd_intro hlt (And.intro (fun _ => by rw [List.length_map, List.length_take]; omega) (fun _ => ?_))
        rintro _ _ m hm
        rw [w64 (by omega)] at hm
        subst hm
        refine cntA_next hlt ?_
        simp (maxSteps := 2000000) only [go_sem, eq_self, and_self, Int.natCast_pos, Int.le_refl, Nat.le_refl, Int.natCast_nonneg, Int.ofNat_lt, Int.ofNat_le, Int.reduceLT, Int.reduceLE, Int.reduceEq, Int.reduceNe, Int.reduceAdd, Int.reduceSub, Int.reduceMul, Int.reduceToNat, Int.reduceNeg, Nat.reduceEqDiff, Nat.reduceLeDiff, Nat.reduceSub, Nat.reduceMul, Nat.reduceLT, Nat.reduceBEq, Nat.reduceAdd]
        rw [← take_elt (t := KpT) hlt, List.map_append]
        rfl
      · have : i = l.length := by omega
        subst this
        rw [List.take_length]
        exact h
  · exact h.elim

/-- Whole -/
def seenL (fr : Int) (n : Nat) (E : List Int) : List Bool := (List.range n).map fun j : Nat => decide (fr + (j : Int) ∈ E)
theorem seenL_length (fr : Int) (n : Nat) (E : List Int) : (seenL fr n E).length = n := by simp [seenL]
theorem seenL_get {fr : Int} {n : Nat} {E : List Int} {x : Int} (h0 : fr ≤ x) (h1 : x < fr + n) : (seenL fr n E)[(x - fr).toNat]? = some (decide (x ∈ E)) := by
  have h2 : (x - fr).toNat < n := by omega
  simp only [seenL, List.getElem?_map, List.getElem?_range h2, Option.map_some]
  rw [show fr + (((x - fr).toNat : Nat) : Int) = x by omega]
theorem seenL_set {fr : Int} {n : Nat} {E : List Int} {x : Int} (h0 : fr ≤ x) (h1 : x < fr + n) : (seenL fr n E).set (x - fr).toNat true = seenL fr n (E ++ [x]) := by
  apply List.ext_getElem?
  intro j
  rw [List.getElem?_set, seenL_length]
  by_cases hj : (x - fr).toNat = j
  · rw [if_pos hj, if_pos (by omega), ← hj, seenL_get h0 h1]
    simp
  · rw [if_neg hj]
    unfold seenL
    simp only [List.getElem?_map]
    by_cases hjn : j < n
    · rw [List.getElem?_range hjn]
      simp only [Option.map_some, Option.some.injEq, List.mem_append, List.mem_singleton]
      apply decide_eq_decide.2
      constructor
      · exact .inl
      · rintro (h | h)
        · exact h
        · omega
    · rw [List.getElem?_eq_none (by simp; omega)]; rfl
structure WhOk (fr to : Int) (ls : List (List Int)) : Prop where
  lo : 0 ≤ fr
  le : fr ≤ to
  hi : to ≤ 1000000
  nd : ls.flatten.Nodup
  mem : ∀ x ∈ ls.flatten, fr ≤ x ∧ x < to
  inc : ∀ l ∈ ls, l.Pairwise (· < ·)
  len : (ls.flatten.length : Int) = to - fr
def A37 (fr to : Int) (p : Bool) (ls : List (List Int)) : LoopAnn := cntA (fun i => ⟨[(0, .int .i64 fr), (1, .int .i64 to), (2, .sl p 24 (.sl 8 (.int .i64)) ls), (7, .own 0), (8, .int .i64 (ls.take i).flatten.length), (18, .int .i64 ls.length), (19, .int .i64 i)],
  [.row true 1 .bool (seenL fr (to - fr).toNat (ls.take i).flatten)]⟩) ls.length
structure H37 where
  i : Nat
  k : Nat
def eL (ls : List (List Int)) (i k : Nat) : List Int := (ls.take i).flatten ++ (elt (.sl 8 (.int .i64)) ls i).take k
def B37 (fr to : Int) (p : Bool) (ls : List (List Int)) : LoopAnn := {
  G := H37
  I := fun g => ⟨[(0, .int .i64 fr), (1, .int .i64 to), (2, .sl p 24 (.sl 8 (.int .i64)) ls), (7, .own 0), (8, .int .i64 (eL ls g.i g.k).length), (9, .int .i64 g.i), (18, .int .i64 ls.length), (19, .int .i64 g.i),
      (25, .sl p 8 (.int .i64) (elt (.sl 8 (.int .i64)) ls g.i)), (26, .int .i64 (List.length (elt (.sl 8 (.int .i64)) ls g.i))), (27, .int .i64 g.k)],
    [.row true 1 .bool (seenL fr (to - fr).toNat (eL ls g.i g.k))]⟩
  R := fun g0 g => g.i = g0.i ∧ g.k ≤ List.length (elt (.sl 8 (.int .i64)) ls g.i)
  μ := fun g => List.length (elt (.sl 8 (.int .i64)) ls g.i) - g.k }
theorem eL_zero (ls : List (List Int)) (i : Nat) : eL ls i 0 = (ls.take i).flatten := by simp [eL]
theorem eL_succ {ls : List (List Int)} {i k : Nat} (hk : k < List.length (elt (.sl 8 (.int .i64)) ls i)) : eL ls i (k + 1) = eL ls i k ++ [elt (.int .i64) (elt (.sl 8 (.int .i64)) ls i) k] := by
  unfold eL
  rw [List.append_assoc, take_elt (t := .int .i64) hk]
theorem eL_end {ls : List (List Int)} {i : Nat} (hi : i < ls.length) : eL ls i (List.length (elt (.sl 8 (.int .i64)) ls i)) = (ls.take (i + 1)).flatten := by
  unfold eL
  rw [List.take_length, ← take_elt (t := .sl 8 (.int .i64)) hi, List.flatten_append]
  simp
theorem eL_rest {ls : List (List Int)} {i k : Nat} (hi : i < ls.length) (hk : k < List.length (elt (.sl 8 (.int .i64)) ls i)) :
    ∃ r, ls.flatten = eL ls i k ++ elt (.int .i64) (elt (.sl 8 (.int .i64)) ls i) k :: r := by
  have h1 : ls = ls.take i ++ (elt (.sl 8 (.int .i64)) ls i :: ls.drop (i + 1)) := by
    rw [← drop_elt (t := .sl 8 (.int .i64)) hi, List.take_append_drop]
  have h2 : elt (.sl 8 (.int .i64)) ls i = List.take k (elt (.sl 8 (.int .i64)) ls i) ++ (elt (.int .i64) (elt (.sl 8 (.int .i64)) ls i) k :: List.drop (k + 1) (elt (.sl 8 (.int .i64)) ls i)) := by
    rw [← drop_elt (t := .int .i64) hk, List.take_append_drop]
  refine ⟨List.drop (k + 1) (elt (.sl 8 (.int .i64)) ls i) ++ (ls.drop (i + 1)).flatten, ?_⟩
  have h3 : ls.flatten = (ls.take i).flatten ++ (elt (.sl 8 (.int .i64)) ls i ++ (ls.drop (i + 1)).flatten) := by
    conv => lhs; rw [h1]
    rw [List.flatten_append, List.flatten_cons]
  rw [h3]
  unfold eL
  conv => lhs; rw [h2]
  simp
theorem J37 (fr to p ls) (g : H37) : (B37 fr to p ls).I g = ⟨[(0, .int .i64 fr), (1, .int .i64 to), (2, .sl p 24 (.sl 8 (.int .i64)) ls), (7, .own 0), (8, .int .i64 (eL ls g.i g.k).length), (9, .int .i64 g.i), (18, .int .i64 ls.length), (19, .int .i64 g.i),
      (25, .sl p 8 (.int .i64) (elt (.sl 8 (.int .i64)) ls g.i)), (26, .int .i64 (List.length (elt (.sl 8 (.int .i64)) ls g.i))), (27, .int .i64 g.k)],
    [.row true 1 .bool (seenL fr (to - fr).toNat (eL ls g.i g.k))]⟩ := rfl
def C37 : Contract := fun args hp K => match args, hp with
  | [.int .i64 fr, .int .i64 to, .sl p 24 (.sl 8 (.int .i64)) ls], [] => WhOk fr to ls ∧ K (.bool true) []
  | _, _ => False
theorem s37 : Sound Try.prog 37 C37 := by
  refine sound_of_okF ok37 (Γ := []) .nil ?_
  intro args hp K h
  unfold C37 at h
  split at h
  · rename_i fr to p ls
    obtain ⟨ok, h⟩ := h
    obtain ⟨hlo, hle, hhi, hnd, hmem, hinc, hlen⟩ := ok
    refine ⟨by simp, [(1, A37 fr to p ls), (2, B37 fr to p ls)], ?_⟩
    simp (maxSteps := 2000000) only [a37, r37, go_sem, eq_self, and_self, Int.natCast_pos, Int.le_refl, Nat.le_refl, Int.natCast_nonneg, Int.ofNat_lt, Int.ofNat_le, Int.reduceLT, Int.reduceLE, Int.reduceEq, Int.reduceNe, Int.reduceAdd, Int.reduceSub, Int.reduceMul, Int.reduceToNat, Int.reduceNeg, Nat.reduceEqDiff, Nat.reduceLeDiff, Nat.reduceSub, Nat.reduceMul, Nat.reduceLT, Nat.reduceBEq, Nat.reduceAdd]
    rintro _ _ m hm m1 hm1
    rw [w64 (by omega)] at hm
    rw [if_neg (by omega)] at hm1
    subst hm1
    subst hm
    refine And.intro (by omega) ?_
    rintro _ _ m rfl
    refine loop_intro (A := A37 fr to p ls) (0 : Nat) ?_ (Nat.zero_le _) ?_
    · simp (maxSteps := 2000000) only [A37, cntA_I, go_sem, eq_self, and_self, Int.natCast_pos, Int.le_refl, Nat.le_refl, Int.natCast_nonneg, Int.ofNat_lt, Int.ofNat_le, Int.reduceLT, Int.reduceLE, Int.reduceEq, Int.reduceNe, Int.reduceAdd, Int.reduceSub, Int.reduceMul, Int.reduceToNat, Int.reduceNeg, Nat.reduceEqDiff, Nat.reduceLeDiff, Nat.reduceSub, Nat.reduceMul, Nat.reduceLT, Nat.reduceBEq, Nat.reduceAdd]
      have e : List.replicate (to - fr).toNat false = seenL fr (to - fr).toNat (List.take 0 ls).flatten := by
        simp only [seenL, List.take_zero, List.flatten_nil, List.not_mem_nil, decide_false]
        rw [List.map_const', List.length_range]
      rw [e]
      rfl
    · intro (i : Nat) (hi : i ≤ ls.length)
      simp (maxSteps := 2000000) only [A37, cntA_I, go_sem, eq_self, and_self, Int.natCast_pos, Int.le_refl, Nat.le_refl, Int.natCast_nonneg, Int.ofNat_lt, Int.ofNat_le, Int.reduceLT, Int.reduceLE, Int.reduceEq, Int.reduceNe, Int.reduceAdd, Int.reduceSub, Int.reduceMul, Int.reduceToNat, Int.reduceNeg, Nat.reduceEqDiff, Nat.reduceLeDiff, Nat.reduceSub, Nat.reduceMul, Nat.reduceLT, Nat.reduceBEq, Nat.reduceAdd]
      refine swd (fun hlt => ?_) (fun hge => ?_)
      · refine nd_intro hlt ?_
        rintro _ _ m rfl
        refine loop_intro (A := B37 fr to p ls) (⟨i, 0⟩ : H37) ?_ ⟨rfl, Nat.zero_le _⟩ ?_
        · simp (maxSteps := 2000000) only [J37, eL_zero, go_sem, eq_self, and_self, Int.natCast_pos, Int.le_refl, Nat.le_refl, Int.natCast_nonneg, Int.ofNat_lt, Int.ofNat_le, Int.reduceLT, Int.reduceLE, Int.reduceEq, Int.reduceNe, Int.reduceAdd, Int.reduceSub, Int.reduceMul, Int.reduceToNat, Int.reduceNeg, Nat.reduceEqDiff, Nat.reduceLeDiff, Nat.reduceSub, Nat.reduceMul, Nat.reduceLT, Nat.reduceBEq, Nat.reduceAdd]
          rfl
        · rintro (g : H37) ⟨g1, g2⟩
          obtain ⟨gi, k⟩ := g
          simp only at g1 g2
          subst g1
          simp (maxSteps := 2000000) only [J37, go_sem, eq_self, and_self, Int.natCast_pos, Int.le_refl, Nat.le_refl, Int.natCast_nonneg, Int.ofNat_lt, Int.ofNat_le, Int.reduceLT, Int.reduceLE, Int.reduceEq, Int.reduceNe, Int.reduceAdd, Int.reduceSub, Int.reduceMul, Int.reduceToNat, Int.reduceNeg, Nat.reduceEqDiff, Nat.reduceLeDiff, Nat.reduceSub, Nat.reduceMul, Nat.reduceLT, Nat.reduceBEq, Nat.reduceAdd]
          refine swd (fun hlt2 => ?_) (fun hge2 => ?_)
          · obtain ⟨r, hr⟩ := eL_rest hlt hlt2
            have hsx := eL_succ hlt2
            have hxs := hinc _ (List.mem_of_getElem? (elt_get (t := .sl 8 (.int .i64)) hlt))
            refine nd_intro hlt2 ?_
            have hk1 : k ≠ 0 → elt (.int .i64) (elt (.sl 8 (.int .i64)) ls gi) (k - 1) < elt (.int .i64) (elt (.sl 8 (.int .i64)) ls gi) k := fun hk => by
              have h1 := elt_get (t := .int .i64) hlt2
              have h2 := elt_get (t := .int .i64) (xs := elt (.sl 8 (.int .i64)) ls gi) (m := k - 1) (by omega)
              obtain ⟨a1, a2⟩ := List.getElem?_eq_some_iff.1 h1
              obtain ⟨b1, b2⟩ := List.getElem?_eq_some_iff.1 h2
              rw [← a2, ← b2]
              exact List.pairwise_iff_getElem.1 hxs (k - 1) k b1 a1 (by omega)
            generalize hx : elt (.int .i64) (elt (.sl 8 (.int .i64)) ls gi) k = x at *
            have hm := hmem x (by rw [hr]; simp)
            have hnx : x ∉ eL ls gi k := fun hin => by
              have h1 := hnd
              rw [hr] at h1
              exact (List.nodup_append.1 h1).2.2 x hin x (by simp) rfl
            have hln : ls.flatten.length = (eL ls gi k).length + (r.length + 1) := by rw [hr, List.length_append, List.length_cons]
            refine swd (fun e => by omega) (fun _ => ?_)
            refine swd (fun e => by omega) (fun _ => ?_)
            rintro _ _ m hm2
            rw [w64 (by omega)] at hm2
            subst hm2
            rw [seenL_length]
            refine nd_intro (by omega) (nd_intro (by omega) ?_)
            have hsg : elt .bool (seenL fr (to - fr).toNat (eL ls gi k)) (x - fr).toNat = false := by
              have h1 := seenL_get (fr := fr) (n := (to - fr).toNat) (E := eL ls gi k) (x := x) (by omega) (by omega)
              rw [elt_eq (t := .bool) h1]
              exact decide_eq_false hnx
            rw [hsg]
            refine sw_intro (fun e => by cases e) (fun _ => ?_)
            refine swd (fun ek => ?_) (fun ek => ?_)
            · refine nd_intro hlt ?_
              rintro _ _ m hm2
              rw [w64 (by omega)] at hm2
              have hmk : m.toNat = k - 1 := by omega
              refine nd_intro (by omega) (nd_intro (by omega) ?_)
              rw [hmk]
              refine swd (fun e => absurd e (Int.not_le.2 (hk1 (by omega)))) (fun _ => ?_)
              rintro _ _ m hm
              rw [w64 (by omega)] at hm
              subst hm
              refine nd_intro (by omega) (nd_intro (by omega) ?_)
              rw [seenL_set (by omega) (by omega)]
              rintro _ _ m hm
              rw [w64 (by omega)] at hm
              subst hm
              rintro _ _ m hm
              rw [w64 (by omega)] at hm
              subst hm
              refine lpE_intro (A := B37 fr to p ls) (⟨gi, k + 1⟩ : H37) ?_ ⟨rfl, hlt2⟩ (by show List.length (elt (.sl 8 (.int .i64)) ls gi) - (k + 1) < List.length (elt (.sl 8 (.int .i64)) ls gi) - k; omega)
              simp (maxSteps := 2000000) only [J37, go_sem, eq_self, and_self, Int.natCast_pos, Int.le_refl, Nat.le_refl, Int.natCast_nonneg, Int.ofNat_lt, Int.ofNat_le, Int.reduceLT, Int.reduceLE, Int.reduceEq, Int.reduceNe, Int.reduceAdd, Int.reduceSub, Int.reduceMul, Int.reduceToNat, Int.reduceNeg, Nat.reduceEqDiff, Nat.reduceLeDiff, Nat.reduceSub, Nat.reduceMul, Nat.reduceLT, Nat.reduceBEq, Nat.reduceAdd]
              rw [hsx, List.length_append, List.length_singleton]
              rfl
            · skip
              rintro _ _ m hm
              rw [w64 (by omega)] at hm
              subst hm
              refine nd_intro (by omega) (nd_intro (by omega) ?_)
              rw [seenL_set (by omega) (by omega)]
              rintro _ _ m hm
              rw [w64 (by omega)] at hm
              subst hm
              rintro _ _ m hm
              rw [w64 (by omega)] at hm
              subst hm
              refine lpE_intro (A := B37 fr to p ls) (⟨gi, k + 1⟩ : H37) ?_ ⟨rfl, hlt2⟩ (by show List.length (elt (.sl 8 (.int .i64)) ls gi) - (k + 1) < List.length (elt (.sl 8 (.int .i64)) ls gi) - k; omega)
              simp (maxSteps := 2000000) only [J37, go_sem, eq_self, and_self, Int.natCast_pos, Int.le_refl, Nat.le_refl, Int.natCast_nonneg, Int.ofNat_lt, Int.ofNat_le, Int.reduceLT, Int.reduceLE, Int.reduceEq, Int.reduceNe, Int.reduceAdd, Int.reduceSub, Int.reduceMul, Int.reduceToNat, Int.reduceNeg, Nat.reduceEqDiff, Nat.reduceLeDiff, Nat.reduceSub, Nat.reduceMul, Nat.reduceLT, Nat.reduceBEq, Nat.reduceAdd]
              rw [hsx, List.length_append, List.length_singleton]
              rfl
          · have : k = List.length (elt (.sl 8 (.int .i64)) ls gi) := by omega
            subst this
            rintro _ _ m hm
            rw [w64 (by omega)] at hm
            subst hm
            refine cntA_next hlt ?_
            simp (maxSteps := 2000000) only [go_sem, eq_self, and_self, Int.natCast_pos, Int.le_refl, Nat.le_refl, Int.natCast_nonneg, Int.ofNat_lt, Int.ofNat_le, Int.reduceLT, Int.reduceLE, Int.reduceEq, Int.reduceNe, Int.reduceAdd, Int.reduceSub, Int.reduceMul, Int.reduceToNat, Int.reduceNeg, Nat.reduceEqDiff, Nat.reduceLeDiff, Nat.reduceSub, Nat.reduceMul, Nat.reduceLT, Nat.reduceBEq, Nat.reduceAdd]
            rw [eL_end hlt]
            rfl
      · have : i = ls.length := by omega
        subst this
        rw [List.take_length, seenL_length]
        rintro _ _ m rfl
        rintro c hc
        have : c = true := by rw [hc]; exact decide_eq_true (by omega)
        subst this
        exact h
  · exact h.elim
end Go.V
namespace Go.V
open Go.Proofs
set_option maxRecDepth 100000
set_option linter.unusedSimpArgs false
set_option linter.unnecessarySimpa false
set_option linter.unusedVariables false
def bkT (T : List (Int × List Int)) (n : Int) : List Int := (lkT' T n).getD []
def onesL' (bs : List Int) : List (List Int) := bs.map fun b => [b]
def lsL (T : List (Int × List Int)) (F : List (Int × Bool)) (l : List KpT.den) : List (List Int) := srtI (vt := .bool) F :: l.flatMap fun x => onesL' (bkT T x.1)
theorem lsL_length {T : List (Int × List Int)} {F : List (Int × Bool)} : ∀ (l : List KpT.den), (∀ x ∈ l, (bkT T x.1).length ≤ 1000) → (lsL T F l).length ≤ 1 + 1000 * l.length
  | [], _ => by simp [lsL]
  | x :: r, h => by
    have ih := lsL_length (T := T) (F := F) r (fun y hy => h y (List.mem_cons_of_mem _ hy))
    have hx := h x (by simp)
    simp only [lsL, List.length_cons, List.flatMap_cons, List.length_append, onesL', List.length_map] at ih ⊢
    omega
theorem lsL_snoc {T : List (Int × List Int)} {F : List (Int × Bool)} (l : List KpT.den) (x : KpT.den) : lsL T F (l ++ [x]) = lsL T F l ++ onesL' (bkT T x.1) := by
  simp [lsL, List.flatMap_append]
theorem onesL'_snoc (l : List Int) (b : Int) : onesL' (l ++ [b]) = onesL' l ++ [[b]] := by simp [onesL']
structure EntOk (bl : List ByT.den) (T : List (Int × List Int)) (x : KpT.den) (bs : List Int) : Prop where
  lk : lkT' T x.1 = some bs
  len : bs.length = needN x.2.size
  hd : elt (.int .i64) bs 0 = x.1
  rd : ∀ b ∈ bs, rdOk bl b
  txt : bs.flatMap (pl4 bl) = x.2.data.toList
  sz : x.2.size ≤ 20000
structure Gd (fr ct : Int) (bl : List ByT.den) (T : List (Int × List Int)) (F : List (Int × Bool)) (l : List KpT.den) : Prop where
  lenT : T.length = l.length
  bT : l.length ≤ 1000000
  bF : F.length ≤ 1000000
  inc : (srtI (vt := .sl 8 (.int .i64)) T).Pairwise (· < ·)
  ent : ∀ x ∈ l, ∃ bs, EntOk bl T x bs
  who : WhOk fr (fr + ct) (lsL T F l)
def A23 (fr0 : Int) (T : List (Int × List Int)) (F : List (Int × Bool)) (bl : List ByT.den) (lg : List LgT.den) (f : Int) (dn : Bool) (fr ct : Int) (p : Bool) (l : List KpT.den) : LoopAnn :=
  cntA (fun i => ⟨[(0, .ptr 0 0), (1, .sl p 24 (.pair (.int .i64) .str) l), (2, .int .i64 fr), (3, .int .i64 ct), (9, .own 6), (10, .own 7), (27, .int .i64 l.length), (28, .int .i64 i)],
    pgH false fr0 T F bl lg f dn ++ [.row true 8 (.int .i64) (srtI (vt := .sl 8 (.int .i64)) T), .row true 24 (.sl 8 (.int .i64)) (lsL T F (l.take i))]⟩) l.length
structure H23 where
  i : Nat
  bs : List Int
  k : Nat
def B23 (fr0 : Int) (T : List (Int × List Int)) (F : List (Int × Bool)) (bl : List ByT.den) (lg : List LgT.den) (f : Int) (dn : Bool) (fr ct : Int) (p : Bool) (l : List KpT.den) : LoopAnn := {
  G := H23
  I := fun g => ⟨[(0, .ptr 0 0), (1, .sl p 24 (.pair (.int .i64) .str) l), (2, .int .i64 fr), (3, .int .i64 ct), (9, .own 6), (10, .own 7), (14, .own 8), (27, .int .i64 l.length), (28, .int .i64 g.i), (96, .int .i64 g.bs.length), (97, .int .i64 g.k)],
    pgH false fr0 T F bl lg f dn ++ [.row true 8 (.int .i64) (srtI (vt := .sl 8 (.int .i64)) T), .row true 24 (.sl 8 (.int .i64)) (lsL T F (l.take g.i) ++ onesL' (g.bs.take g.k)), .row true 8 (.int .i64) g.bs]⟩
  R := fun g0 g => g.i = g0.i ∧ g.bs = g0.bs ∧ g.k ≤ g.bs.length
  μ := fun g => g.bs.length - g.k }
theorem J23 (fr0 T F bl lg f dn fr ct p l) (g : H23) : (B23 fr0 T F bl lg f dn fr ct p l).I g = ⟨[(0, .ptr 0 0), (1, .sl p 24 (.pair (.int .i64) .str) l), (2, .int .i64 fr), (3, .int .i64 ct), (9, .own 6), (10, .own 7), (14, .own 8), (27, .int .i64 l.length), (28, .int .i64 g.i), (96, .int .i64 g.bs.length), (97, .int .i64 g.k)],
    pgH false fr0 T F bl lg f dn ++ [.row true 8 (.int .i64) (srtI (vt := .sl 8 (.int .i64)) T), .row true 24 (.sl 8 (.int .i64)) (lsL T F (l.take g.i) ++ onesL' (g.bs.take g.k)), .row true 8 (.int .i64) g.bs]⟩ := rfl
/-- alike -/
def C23 : Contract := fun args hp K => match args with
  | [.ptr 0 0, .sl p 24 (.pair (.int .i64) .str) l, .int .i64 fr, .int .i64 ct] => onPg hp fun fr0 T F bl lg f dn => dn = false ∧ Gd fr ct bl T F l ∧ K (.bool true) (pgH false fr0 T F bl lg f dn)
  | _ => False
theorem s23 : Sound Try.prog 23 C23 := by
  refine sound_of_okF ok23 (Γ := [(13, C13), (14, C14), (15, C15), (17, C17), (19, C19), (37, C37)]) (.cons s13 (callable_of_okF ok13) (.cons s14 (callable_of_okF ok14) (.cons s15 (callable_of_okF ok15) (.cons s17 (callable_of_okF ok17) (.cons s19 (callable_of_okF ok19) (.cons s37 (callable_of_okF ok37) .nil)))))) ?_
  intro args hp K h
  unfold C23 at h
  split at h
  · rename_i p l fr ct
    obtain ⟨fr0, T, F, bl, lg, f, dn, rfl, hd, hg, h⟩ := h
    obtain ⟨gT, gl, gF, ginc, gent, gwho⟩ := hg
    refine ⟨by simp, [(1, A23 fr0 T F bl lg f dn fr ct p l), (2, B23 fr0 T F bl lg f dn fr ct p l)], ?_⟩
    unfold pgH at h ⊢
    simp (maxSteps := 2000000) only [a23, r23, C19, C15, pgH, go_sem, eq_self, and_self, Int.natCast_pos, Int.le_refl, Nat.le_refl, Int.natCast_nonneg, Int.ofNat_lt, Int.ofNat_le, Int.reduceLT, Int.reduceLE, Int.reduceEq, Int.reduceNe, Int.reduceAdd, Int.reduceSub, Int.reduceMul, Int.reduceToNat, Int.reduceNeg, Nat.reduceEqDiff, Nat.reduceLeDiff, Nat.reduceSub, Nat.reduceMul, Nat.reduceLT, Nat.reduceBEq, Nat.reduceAdd]
    have hmx := maxLen_val
    refine And.intro (by omega) ?_
    rintro _ _ m rfl
    rintro _ _ m rfl
    refine swn (fun e => absurd (by rw [srtI_length, gT]) e) (fun _ => ?_)
    refine And.intro gF ?_
    rintro _ _ m rfl
    refine loop_intro (A := A23 fr0 T F bl lg f dn fr ct p l) (0 : Nat) ?_ (Nat.zero_le _) ?_
    · simp (maxSteps := 2000000) only [A23, cntA_I, pgH, go_sem, eq_self, and_self, Int.natCast_pos, Int.le_refl, Nat.le_refl, Int.natCast_nonneg, Int.ofNat_lt, Int.ofNat_le, Int.reduceLT, Int.reduceLE, Int.reduceEq, Int.reduceNe, Int.reduceAdd, Int.reduceSub, Int.reduceMul, Int.reduceToNat, Int.reduceNeg, Nat.reduceEqDiff, Nat.reduceLeDiff, Nat.reduceSub, Nat.reduceMul, Nat.reduceLT, Nat.reduceBEq, Nat.reduceAdd]
      rfl
    · intro (i : Nat) (hi : i ≤ l.length)
      simp (maxSteps := 2000000) only [A23, cntA_I, pgH, C14, C17, C13, C37, go_sem, eq_self, and_self, Int.natCast_pos, Int.le_refl, Nat.le_refl, Int.natCast_nonneg, Int.ofNat_lt, Int.ofNat_le, Int.reduceLT, Int.reduceLE, Int.reduceEq, Int.reduceNe, Int.reduceAdd, Int.reduceSub, Int.reduceMul, Int.reduceToNat, Int.reduceNeg, Nat.reduceEqDiff, Nat.reduceLeDiff, Nat.reduceSub, Nat.reduceMul, Nat.reduceLT, Nat.reduceBEq, Nat.reduceAdd]
      refine swd (fun hlt => ?_) (fun hge => ?_)
      · obtain ⟨bs, hent⟩ := gent _ (List.mem_of_getElem? (elt_get (t := KpT) hlt))
        obtain ⟨e1, e2, e3, e4, e5, e6⟩ := hent
        refine nd_intro hlt ?_
        have hls : (srtI (vt := .sl 8 (.int .i64)) T).length = l.length := by rw [srtI_length]; exact gT
        have hbk : bkT T (elt KpT l i).1 = bs := by unfold bkT; rw [e1]; rfl
        have hxt : ({ data := (bs.flatMap (pl4 bl)).toArray } : ByteArray) = (elt KpT l i).2 := by
          rw [e5]
        have hxl : (bs.flatMap (pl4 bl)).length = (elt KpT l i).2.size := by rw [e5, Array.length_toList]; rfl
        have hbl1 : 1 ≤ bs.length ∧ bs.length ≤ 1000 := by rw [e2]; unfold needN; omega
        refine And.intro (fun e => by rw [e1] at e; cases e) (fun bs' e => ?_)
        have e' : bs' = bs := by rw [e1] at e; exact (Option.some.inj e).symm
        subst e'
        refine And.intro ⟨hd, by omega, e4⟩ (nd_intro hlt ?_)
        rintro u rfl
        refine nd_intro hlt ?_
        refine swn (fun e => absurd hxt e) (fun _ => ?_)
        rw [e1, hxl]
        simp only [Option.getD_some]
        rintro _ _ m rfl _ _ m1 rfl
        refine And.intro (by omega) (And.intro (fun _ _ m2 hm2 => by rw [hm2]) ?_)
        rw [Int.toNat_natCast]
        refine swn (fun e => absurd (by rw [e2]) e) (fun _ => ?_)
        refine nd_intro (by omega) (nd_intro hlt ?_)
        refine swn (fun e => absurd e3 e) (fun _ => ?_)
        refine swd (fun ei => ?_) (fun ei => ?_)
        focus
          rintro _ _ m hm
          rw [w64 (by omega)] at hm
          have hm1 : m.toNat = i - 1 := by omega
          rw [hls]
          refine nd_intro (by omega) (nd_intro (by omega) (nd_intro hlt ?_))
          rw [hm1]
          refine swd (fun e => absurd e (Int.not_le.2 ?_)) (fun _ => ?_)
          · have h1 := elt_get (t := .int .i64) (xs := srtI (vt := .sl 8 (.int .i64)) T) (m := i) (by omega)
            have h2 := elt_get (t := .int .i64) (xs := srtI (vt := .sl 8 (.int .i64)) T) (m := i - 1) (by omega)
            obtain ⟨a1, a2⟩ := List.getElem?_eq_some_iff.1 h1
            obtain ⟨b1, b2⟩ := List.getElem?_eq_some_iff.1 h2
            rw [← a2, ← b2]
            exact List.pairwise_iff_getElem.1 ginc (i - 1) i b1 a1 (by omega)
          clear hm1 hm
        all_goals clear ei
        all_goals rintro _ _ m rfl
        all_goals refine loop_intro (A := B23 fr0 T F bl lg f dn fr ct p l) (⟨i, bs', 0⟩ : H23) ?_ ⟨rfl, rfl, Nat.zero_le _⟩ ?_
        all_goals first
          | (simp (maxSteps := 2000000) only [J23, pgH, go_sem, eq_self, and_self, Int.natCast_pos, Int.le_refl, Nat.le_refl, Int.natCast_nonneg, Int.ofNat_lt, Int.ofNat_le, Int.reduceLT, Int.reduceLE, Int.reduceEq, Int.reduceNe, Int.reduceAdd, Int.reduceSub, Int.reduceMul, Int.reduceToNat, Int.reduceNeg, Nat.reduceEqDiff, Nat.reduceLeDiff, Nat.reduceSub, Nat.reduceMul, Nat.reduceLT, Nat.reduceBEq, Nat.reduceAdd]
             rw [show onesL' (List.take 0 bs') = [] from rfl, List.append_nil]
             rfl)
          | skip
        all_goals rintro (g : H23) ⟨g1, g2, g3⟩
        all_goals obtain ⟨gi, gb, gk⟩ := g
        all_goals simp only at g1 g2 g3
        all_goals subst g1 g2
        all_goals simp (maxSteps := 2000000) only [J23, pgH, go_sem, eq_self, and_self, Int.natCast_pos, Int.le_refl, Nat.le_refl, Int.natCast_nonneg, Int.ofNat_lt, Int.ofNat_le, Int.reduceLT, Int.reduceLE, Int.reduceEq, Int.reduceNe, Int.reduceAdd, Int.reduceSub, Int.reduceMul, Int.reduceToNat, Int.reduceNeg, Nat.reduceEqDiff, Nat.reduceLeDiff, Nat.reduceSub, Nat.reduceMul, Nat.reduceLT, Nat.reduceBEq, Nat.reduceAdd]
        all_goals refine swd (fun hlt2 => ?_) (fun hge2 => ?_)
        all_goals first
          | (have hll := lsL_length (T := T) (F := F) (l.take gi) (fun x hx => by
               obtain ⟨b2, hb2⟩ := gent x (List.mem_of_mem_take hx)
               have h5 := hb2.len
               have h6 := hb2.sz
               unfold bkT
               rw [hb2.lk, Option.getD_some, h5]
               unfold needN
               omega)
             rw [List.length_take] at hll
             have hol : (onesL' (List.take gk gb)).length ≤ gk := by simp [onesL']; omega
             refine nd_intro hlt2 (And.intro (fun _ => by rw [List.length_append]; omega) (fun _ => ?_))
             rintro _ _ m hm
             rw [w64 (by omega)] at hm
             subst hm
             refine lpE_intro (A := B23 fr0 T F bl lg f dn fr ct p l) (⟨gi, gb, gk + 1⟩ : H23) ?_ ⟨rfl, rfl, hlt2⟩ (by show gb.length - (gk + 1) < gb.length - gk; omega)
             simp (maxSteps := 2000000) only [J23, pgH, go_sem, eq_self, and_self, Int.natCast_pos, Int.le_refl, Nat.le_refl, Int.natCast_nonneg, Int.ofNat_lt, Int.ofNat_le, Int.reduceLT, Int.reduceLE, Int.reduceEq, Int.reduceNe, Int.reduceAdd, Int.reduceSub, Int.reduceMul, Int.reduceToNat, Int.reduceNeg, Nat.reduceEqDiff, Nat.reduceLeDiff, Nat.reduceSub, Nat.reduceMul, Nat.reduceLT, Nat.reduceBEq, Nat.reduceAdd]
             rw [← take_elt (t := .int .i64) hlt2, onesL'_snoc, ← List.append_assoc]
             rfl)
          | (have hk : gk = gb.length := by omega
             subst hk
             rw [List.take_length]
             rintro _ _ m hm
             rw [w64 (by omega)] at hm
             subst hm
             refine cntA_next hlt ?_
             simp (maxSteps := 2000000) only [go_sem, eq_self, and_self, Int.natCast_pos, Int.le_refl, Nat.le_refl, Int.natCast_nonneg, Int.ofNat_lt, Int.ofNat_le, Int.reduceLT, Int.reduceLE, Int.reduceEq, Int.reduceNe, Int.reduceAdd, Int.reduceSub, Int.reduceMul, Int.reduceToNat, Int.reduceNeg, Nat.reduceEqDiff, Nat.reduceLeDiff, Nat.reduceSub, Nat.reduceMul, Nat.reduceLT, Nat.reduceBEq, Nat.reduceAdd]
             rw [← take_elt (t := KpT) hlt, lsL_snoc, hbk]
             rfl)
      · have : i = l.length := by omega
        subst this
        rw [List.take_length]
        have w1 := gwho.lo
        have w2 := gwho.le
        have w3 := gwho.hi
        rintro _ _ m hm
        rw [w64 (by omega)] at hm
        subst hm
        exact And.intro rfl (And.intro gwho h)
  · exact h.elim
end Go.V
namespace Go.V
set_option maxRecDepth 100000
set_option linter.unusedSimpArgs false
set_option linter.unnecessarySimpa false
set_option linter.unusedVariables false
/-! ### sealed blocks -/
theorem openF_seal {kd : UInt8} {pl : Nat} {p : List UInt8} (h : p.length ≤ 242) : openF kd pl (sealF kd pl p) = some p := by
  have h1 := sealF_length (kd := kd) (pl := pl) h
  have e : sealF kd pl p = (bytesB 8 (sumF (sBody kd pl p)).toNat ++ (kd :: bytesB 4 pl)) ++ (UInt8.ofNat p.length :: (p ++ List.replicate (242 - p.length) 0)) := by
    unfold sealF sBody
    simp
  have hl : (bytesB 8 (sumF (sBody kd pl p)).toNat ++ (kd :: bytesB 4 pl)).length = 13 := by simp [bytesB_length]
  have h13 : elt .byte (sealF kd pl p) 13 = UInt8.ofNat p.length := by
    apply elt_eq (t := .byte)
    rw [e, List.getElem?_append_right (by rw [hl]; exact Nat.le_refl _), hl]
    rfl
  have hn : (elt .byte (sealF kd pl p) 13).toNat = p.length := by
    rw [h13]; simp; omega
  have hd : ((sealF kd pl p).drop 14).take p.length = p := by
    rw [e, List.drop_append, hl, List.drop_of_length_le (by omega), List.nil_append]
    show (List.drop 1 (UInt8.ofNat p.length :: (p ++ _))).take p.length = p
    rw [List.drop_succ_cons, List.drop_zero, List.take_append_of_le_length (Nat.le_refl _), List.take_length]
  unfold openF
  rw [hn, hd, if_pos ⟨h1, h⟩, if_pos rfl]

/-! ### writes -/
theorem elt_set_ne {t : Ty} {l : List t.den} {i j : Nat} {x : t.den} (h : i ≠ j) : elt t (l.set i x) j = elt t l j := by
  unfold elt
  rw [List.getD_eq_getElem?_getD, List.getD_eq_getElem?_getD, List.getElem?_set_ne h]
theorem elt_set_eq {t : Ty} {l : List t.den} {i : Nat} {x : t.den} (h : i < l.length) : elt t (l.set i x) i = x := elt_eq (List.getElem?_set_self h)
theorem wrL_other (ws : List LgT.den) : ∀ (bl : List ByT.den) (a : Nat), (∀ w ∈ ws, w.1.toNat ≠ a) → elt ByT (wrL bl ws) a = elt ByT bl a := by
  induction ws with
  | nil => intro bl a _; rfl
  | cons w r ih =>
    intro bl a h
    show elt ByT (wrL (bl.set w.1.toNat w.2) r) a = _
    rw [ih _ _ (fun x hx => h x (List.mem_cons_of_mem _ hx)), elt_set_ne (h w (by simp))]
theorem wsF_take_mem {bs : List Int} {c : List UInt8} {k : Nat} {w : LgT.den} (h : w ∈ (wsF bs c).take k) : w.1 ∈ bs := by
  have := List.mem_of_mem_take h
  unfold wsF at this
  obtain ⟨i, hi, rfl⟩ := List.mem_map.1 this
  exact List.mem_of_getElem? (elt_get (t := .int .i64) (List.mem_range.1 hi))
theorem elt_inj {l : List Int} (h : l.Nodup) {i j : Nat} (hi : i < l.length) (hj : j < l.length) (he : elt (.int .i64) l i = elt (.int .i64) l j) : i = j := by
  have h1 := elt_get (t := .int .i64) hi
  have h2 := elt_get (t := .int .i64) hj
  rw [he] at h1
  obtain ⟨a1, a2⟩ := List.getElem?_eq_some_iff.1 h1
  obtain ⟨b1, b2⟩ := List.getElem?_eq_some_iff.1 h2
  have h3 := List.pairwise_iff_getElem.1 h
  rcases Nat.lt_trichotomy i j with hij | hij | hij
  · exact absurd (a2.trans b2.symm) (h3 i j a1 b1 hij)
  · exact hij
  · exact absurd (b2.trans a2.symm) (h3 j i b1 a1 hij)
theorem wrL_at {bs : List Int} {c : List UInt8} (hn : bs.Nodup) {bl : List ByT.den} (hb : ∀ b ∈ bs, 0 ≤ b ∧ b < bl.length) : ∀ (k i : Nat), k ≤ bs.length → i < k →
    elt ByT (wrL bl ((wsF bs c).take k)) (Int.toNat (elt (.int .i64) bs i)) = blkF bs c i
  | 0, i, _, h => absurd h (Nat.not_lt_zero _)
  | k + 1, i, hk, h => by
    have hkl : k < bs.length := hk
    rw [← take_snoc (wsF_get hkl), wrL_snoc]
    have hbk := hb _ (List.mem_of_getElem? (elt_get (t := .int .i64) hkl))
    by_cases hik : i = k
    · subst hik
      exact elt_set_eq (t := ByT) (by rw [wrL_length]; omega)
    · have hbi := hb _ (List.mem_of_getElem? (elt_get (t := .int .i64) (xs := bs) (m := i) (by omega)))
      rw [elt_set_ne (t := ByT) (fun e => hik (elt_inj hn (by omega) hkl (by
        have e' : Int.toNat (elt (.int .i64) bs k) = Int.toNat (elt (.int .i64) bs i) := e
        show @Eq Int _ _
        omega)))]
      exact wrL_at hn hb k i (by omega) (by omega)

/-! ### chains -/
structure Chain (bl : List ByT.den) (bs : List Int) (c : List UInt8) : Prop where
  len : bs.length = needN c.length
  sz : c.length ≤ 20000
  nd : bs.Nodup
  mem : ∀ b ∈ bs, 0 ≤ b ∧ b < bl.length
  op : ∀ i, i < bs.length → opB bl (elt (.int .i64) bs i) = some (headF bs i ++ partF c i)

theorem Chain.keep {bl : List ByT.den} {bs : List Int} {c : List UInt8} (h : Chain bl bs c) {ws : List LgT.den} (hw : ∀ w ∈ ws, 0 ≤ w.1 ∧ w.1 ∉ bs) : Chain (wrL bl ws) bs c := by
  refine ⟨h.len, h.sz, h.nd, fun b hb => by rw [wrL_length]; exact h.mem b hb, fun i hi => ?_⟩
  rw [← h.op i hi]
  unfold opB
  have hb := List.mem_of_getElem? (elt_get (t := .int .i64) hi)
  rw [wrL_other]
  intro w hw' e
  obtain ⟨h1, h2⟩ := hw w hw'
  have h3 := h.mem _ hb
  exact h2 (by
    have : @Eq Int w.1 (elt (.int .i64) bs i) := by
      have e' : Int.toNat w.1 = Int.toNat (elt (.int .i64) bs i) := e
      have h1' : (0 : Int) ≤ w.1 := h1
      omega
    rw [this]; exact hb)
theorem Chain.put {bl : List ByT.den} {bs : List Int} {c : List UInt8} (hl : bs.length = needN c.length) (hs : c.length ≤ 20000) (hn : bs.Nodup) (hb : ∀ b ∈ bs, 0 ≤ b ∧ b < bl.length) : Chain (wrL bl (wsF bs c)) bs c := by
  refine ⟨hl, hs, hn, fun b hb' => by rw [wrL_length]; exact hb b hb', fun i hi => ?_⟩
  have h1 := wrL_at (c := c) hn hb bs.length i (Nat.le_refl _) hi
  rw [List.take_of_length_le (by rw [wsF_length]; exact Nat.le_refl _)] at h1
  unfold opB
  rw [h1]
  unfold blkF
  exact openF_seal (by rw [List.length_append, headF_length]; have := partF_length c i; omega)
theorem part_take (c : List UInt8) (i : Nat) : c.take (238 * i) ++ partF c i = c.take (238 * (i + 1)) := by
  unfold partF
  rw [show 238 * (i + 1) = 238 * i + 238 by omega, List.take_add]
theorem needN_bound (n : Nat) : n ≤ 238 * needN n ∧ (n ≤ 20000 → needN n ≤ 85) ∧ 1 ≤ needN n := by unfold needN; omega
theorem Chain.get {bl : List ByT.den} {bs : List Int} {c : List UInt8} (h : Chain bl bs c) : bs.flatMap (pl4 bl) = c := by
  have key : ∀ i, i ≤ bs.length → (bs.take i).flatMap (pl4 bl) = c.take (238 * i) := by
    intro i
    induction i with
    | zero => intro _; simp
    | succ i ih =>
      intro hi
      have hi' : i < bs.length := hi
      rw [← take_elt (t := .int .i64) hi', List.flatMap_append, ih (by omega), ← part_take]
      congr 1
      simp only [List.flatMap_cons, List.flatMap_nil, List.append_nil]
      unfold pl4
      rw [h.op i hi', Option.getD_some, List.drop_append, List.drop_of_length_le (by rw [headF_length]; exact Nat.le_refl _), headF_length]
      simp
  have := key bs.length (Nat.le_refl _)
  rw [List.take_length] at this
  rw [this, List.take_of_length_le (by rw [h.len]; exact (needN_bound _).1)]
theorem Chain.rd {bl : List ByT.den} {bs : List Int} {c : List UInt8} (h : Chain bl bs c) (hbl : bl.length ≤ 65536) : ∀ b ∈ bs, rdOk bl b := by
  intro b hb
  have h1 := h.mem b hb
  refine ⟨⟨h1.1, h1.2, by omega⟩, ?_⟩
  obtain ⟨i, hi, e⟩ := List.getElem_of_mem hb
  have h2 := h.op i hi
  have e2 : elt (.int .i64) bs i = b := elt_eq (t := .int .i64) (by rw [List.getElem?_eq_getElem hi, e])
  rw [e2] at h2
  exact ⟨_, h2, by rw [List.length_append, headF_length]; omega⟩
theorem u8n (n : Nat) : (UInt8.ofNat n).toNat = n % 256 := by simp
theorem nextF_head {bs : List Int} {i : Nat} {q : List UInt8} (h : nxF bs i < 16777216) : nextF (headF bs i ++ q) = nxF bs i := by
  unfold nextF
  have e1 : elt .byte (headF bs i ++ q) 1 = UInt8.ofNat (nxF bs i) := rfl
  have e2 : elt .byte (headF bs i ++ q) 2 = UInt8.ofNat (nxF bs i / 256) := rfl
  have e3 : elt .byte (headF bs i ++ q) 3 = UInt8.ofNat (nxF bs i / 65536) := rfl
  rw [e1, e2, e3, u8n, u8n, u8n]
  omega
theorem Chain.text {bl : List ByT.den} {bs : List Int} {c : List UInt8} {fr ct : Int} (h : Chain bl bs c) (hbl : bl.length ≤ 65536) (ha : ∀ b ∈ bs, fr ≤ b ∧ b < fr + ct) :
    textF bl fr ct (elt (.int .i64) bs 0) 86 (elt (.int .i64) bs 0) [] [] = some (c, bs) := by
  have hnb := needN_bound c.length
  have hlen := h.len
  have h85 := hnb.2.1 h.sz
  have key : ∀ m i, i + m = bs.length → 1 ≤ m → textF bl fr ct (elt (.int .i64) bs 0) (86 - i) (elt (.int .i64) bs i) (c.take (238 * i)) (bs.take i) = some (c, bs) := by
    intro m
    induction m with
    | zero => intro i _ h; omega
    | succ m ih =>
      intro i him _
      have hi : i < bs.length := by omega
      obtain ⟨n, hn⟩ : ∃ n, 86 - i = n + 1 := ⟨85 - i, by omega⟩
      have hb := List.mem_of_getElem? (elt_get (t := .int .i64) hi)
      have hr := ha _ hb
      have hop := h.op i hi
      rw [hn, textF, if_neg (by
        rw [List.length_take]
        rintro (q | q | q)
        · exact absurd hr.1 (Int.not_le.2 q)
        · exact absurd hr.2 (Int.not_lt.2 q)
        · omega), hop]
      simp only
      have h0 : (elt .byte (headF bs i ++ partF c i) 0 = 1) ↔ elt (.int .i64) bs i = elt (.int .i64) bs 0 := by
        have e0 : elt .byte (headF bs i ++ partF c i) 0 = if i = 0 then 1 else 0 := rfl
        rw [e0]
        by_cases hz : i = 0
        · subst hz; simp
        · rw [if_neg hz]
          constructor
          · intro e; cases e
          · intro e; exact absurd (elt_inj h.nd hi (by omega) e) hz
      have hpl : 4 ≤ (headF bs i ++ partF c i).length := by rw [List.length_append, headF_length]; omega
      rw [if_neg (by rintro (q | q); omega; exact q h0)]
      have hdr : (headF bs i ++ partF c i).drop 4 = partF c i := by
        rw [List.drop_append, List.drop_of_length_le (by rw [headF_length]; exact Nat.le_refl _), headF_length]
        simp
      rw [hdr, part_take, take_elt (t := .int .i64) hi]
      by_cases hlast : i + 1 < bs.length
      · have hnx : nxF bs i = (elt (.int .i64) bs (i + 1) + 1).toNat := by unfold nxF; rw [if_pos hlast]
        have hb2 := List.mem_of_getElem? (elt_get (t := .int .i64) hlast)
        obtain ⟨h3, h4⟩ := h.mem _ hb2
        have hnl : nxF bs i < 16777216 := by rw [hnx]; omega
        have hne : nextF (headF bs i ++ partF c i) = elt (.int .i64) bs (i + 1) + 1 := by
          rw [nextF_head hnl, hnx]; omega
        rw [hne, if_neg (fun q : @Eq Int _ _ => by omega)]
        have e1 : elt (.int .i64) bs (i + 1) + 1 - 1 = elt (.int .i64) bs (i + 1) := Int.add_sub_cancel _ _
        rw [e1, if_neg]
        · have := ih (i + 1) (by omega) (by omega)
          rw [show 86 - (i + 1) = n by omega] at this
          exact this
        · intro hin
          obtain ⟨j, hj, e⟩ := List.getElem_of_mem hin
          rw [List.length_take] at hj
          rw [List.getElem_take] at e
          have e2 : elt (.int .i64) bs j = elt (.int .i64) bs (i + 1) := elt_eq (t := .int .i64) (by rw [List.getElem?_eq_getElem (by omega), e])
          have := elt_inj h.nd (by omega) hlast e2
          omega
      · have hnx : nxF bs i = 0 := by unfold nxF; rw [if_neg hlast]
        rw [nextF_head (by rw [hnx]; omega), hnx, if_pos Int.natCast_zero, List.take_of_length_le (by rw [show i + 1 = bs.length by omega, hlen]; exact hnb.1), List.take_of_length_le (by omega)]
  have := key bs.length 0 (by omega) (by omega)
  exact this
end Go.V
namespace Go.V
set_option maxRecDepth 100000
set_option linter.unusedSimpArgs false
set_option linter.unnecessarySimpa false
set_option linter.unusedVariables false
/-! ### maps of integers -/
section
variable {vt : Ty}
theorem beq_int (a b : Int) : Ty.beq (.int .i64) a b = decide (a = b) := rfl
theorem lookI_some {m : List (Int × vt.den)} (hn : (m.map Prod.fst).Nodup) {k : Int} {v : vt.den} (h : (k, v) ∈ m) : lookM (.int .i64) vt m k = some v := by
  induction m with
  | nil => cases h
  | cons x r ih =>
    simp only [List.map_cons, List.nodup_cons] at hn
    unfold lookM at ih ⊢
    rw [List.find?_cons]
    rcases List.mem_cons.1 h with h | h
    · subst h
      simp [beq_int]
    · have hne : x.1 ≠ k := fun e => hn.1 (by rw [e]; exact List.mem_map_of_mem h)
      rw [beq_int, decide_eq_false hne]
      exact ih hn.2 h
theorem lookI_none {m : List (Int × vt.den)} {k : Int} (h : k ∉ m.map Prod.fst) : lookM (.int .i64) vt m k = none := by
  unfold lookM
  rw [List.find?_eq_none.2]
  · rfl
  · intro x hx
    rw [beq_int]
    intro e
    exact h (by rw [← of_decide_eq_true e]; exact List.mem_map_of_mem hx)
theorem updI_new {m : List (Int × vt.den)} {k : Int} {v : vt.den} (h : k ∉ m.map Prod.fst) : updM (.int .i64) vt m k v = m ++ [(k, v)] := by
  induction m with
  | nil => rfl
  | cons x r ih =>
    simp only [List.map_cons, List.mem_cons, not_or] at h
    simp only [updM, beq_int]
    rw [decide_eq_false (fun e => h.1 e.symm), cond_false, ih h.2]
    rfl
theorem delI_eq (m : List (Int × vt.den)) (k : Int) : delM (.int .i64) vt m k = m.filter fun e => decide (e.1 ≠ k) := by
  unfold delM
  congr 1
  funext e
  rw [beq_int]
  simp
end
def ksF (F : List (Int × Bool)) : List Int := F.map Prod.fst
theorem ksF_del (F : List (Int × Bool)) (b : Int) : ksF (delM (.int .i64) .bool F b) = (ksF F).filter fun x => decide (x ≠ b) := by
  rw [delI_eq]
  unfold ksF
  rw [List.filter_map]
  rfl
theorem ksF_delF (bs : List Int) : ∀ F, ksF (delF F bs) = (ksF F).filter fun x => decide (x ∉ bs) := by
  induction bs with
  | nil => intro F; show ksF F = _; rw [List.filter_eq_self.2 (fun _ _ => decide_eq_true (by simp))]
  | cons b r ih =>
    intro F
    show ksF (delF (delM (.int .i64) .bool F b) r) = _
    rw [ih, ksF_del, List.filter_filter]
    congr 1
    funext x
    simp only [List.mem_cons, not_or]
    rw [← Bool.decide_and]
    exact decide_eq_decide.2 ⟨fun h => ⟨h.2, h.1⟩, fun h => ⟨h.2, h.1⟩⟩
theorem delF_tru {F : List (Int × Bool)} (h : ∀ x ∈ F, x.2 = true) (bs : List Int) : ∀ x ∈ delF F bs, x.2 = true := by
  induction bs generalizing F with
  | nil => exact h
  | cons b r ih =>
    refine ih (F := delM (.int .i64) .bool F b) ?_
    intro x hx
    rw [delI_eq, List.mem_filter] at hx
    exact h x hx.1
theorem lkB_mem {F : List (Int × Bool)} (hn : (ksF F).Nodup) (h : ∀ x ∈ F, x.2 = true) {b : Int} (hb : b ∈ ksF F) : lkB F b = true := by
  obtain ⟨x, hx, rfl⟩ := List.mem_map.1 hb
  have := lookI_some (vt := .bool) hn (k := x.1) (v := x.2) hx
  unfold lkB
  rw [this]
  exact h x hx
theorem lkB_not {F : List (Int × Bool)} {b : Int} (hb : b ∉ ksF F) : lkB F b = false := by
  unfold lkB
  rw [lookI_none (vt := .bool) hb]
  rfl
theorem takeBs_ok (bs : List Int) : ∀ F, (ksF F).Nodup → (∀ x ∈ F, x.2 = true) → bs.Nodup → (∀ b ∈ bs, b ∈ ksF F) → takeBs bs F = some (delF F bs) := by
  induction bs with
  | nil => intro F _ _ _ _; rfl
  | cons b r ih =>
    intro F hn ht hb hs
    rw [takeBs, if_pos (lkB_mem hn ht (hs b (by simp)))]
    have hb' := List.nodup_cons.1 hb
    refine ih _ ?_ ?_ hb'.2 ?_
    · rw [ksF_del]; exact List.Pairwise.filter _ hn
    · intro x hx
      rw [delI_eq, List.mem_filter] at hx
      exact ht x hx.1
    · intro x hx
      rw [ksF_del, List.mem_filter]
      exact ⟨hs x (List.mem_cons_of_mem _ hx), decide_eq_true (fun e => hb'.1 (e ▸ hx))⟩
theorem perm_split {l bs : List Int} (hl : l.Nodup) (hb : bs.Nodup) (hs : ∀ b ∈ bs, b ∈ l) : ((l.filter fun x => decide (x ∉ bs)) ++ bs).Perm l := by
  refine (List.perm_ext_iff_of_nodup ?_ hl).2 fun x => ?_
  · refine List.nodup_append.2 ⟨List.Pairwise.filter _ hl, hb, fun a ha b hb' e => ?_⟩
    rw [List.mem_filter] at ha
    exact of_decide_eq_true ha.2 (e ▸ hb')
  · rw [List.mem_append, List.mem_filter]
    constructor
    · rintro (h | h)
      · exact h.1
      · exact hs x h
    · intro h
      by_cases hx : x ∈ bs
      · exact .inr hx
      · exact .inl ⟨h, decide_eq_true hx⟩

/-! ### what is kept -/
structure PE where
  n : Int
  bs : List Int
  c : List UInt8
def tOf (L : List PE) : List (Int × List Int) := L.map fun e => (e.n, e.bs)
def lOf (L : List PE) : List KpT.den := L.map fun e => ((e.n, ⟨e.c.toArray⟩) : Int × ByteArray)
def nOf (L : List PE) : List Int := L.map PE.n
def bOf (L : List PE) : List Int := L.flatMap PE.bs
def EOk (bl : List ByT.den) (e : PE) : Prop := Chain bl e.bs e.c ∧ elt (.int .i64) e.bs 0 = e.n
structure Inv (fr ct : Int) (bl : List ByT.den) (L : List PE) (F : List (Int × Bool)) : Prop where
  f0 : 0 ≤ fr
  c1 : 1 ≤ ct
  hb : fr + ct ≤ bl.length
  sz : bl.length ≤ 65536
  ent : ∀ e ∈ L, EOk bl e
  tru : ∀ x ∈ F, x.2 = true
  perm : (ksF F ++ bOf L).Perm (areaL fr ct ct.toNat)

theorem areaL_mem {fr ct : Int} {n : Nat} {x : Int} : x ∈ areaL fr ct n ↔ fr ≤ x ∧ x < fr + n := by
  unfold areaL
  rw [List.mem_map]
  constructor
  · rintro ⟨i, hi, rfl⟩
    rw [List.mem_range] at hi
    omega
  · intro h
    exact ⟨(x - fr).toNat, List.mem_range.2 (by omega), by omega⟩
theorem areaL_nodup (fr ct : Int) (n : Nat) : (areaL fr ct n).Nodup := by
  unfold areaL
  refine List.pairwise_map.2 (List.nodup_range.imp fun {a b} h e => h ?_)
  omega
theorem addF_new (bs : List Int) : ∀ F, (ksF F ++ bs).Nodup → addF F bs = F ++ bs.map fun b => (b, true) := by
  induction bs with
  | nil => intro F _; simp [addF]
  | cons b r ih =>
    intro F h
    show addF (updM (.int .i64) .bool F b true) r = _
    have hb : b ∉ ksF F := fun hx => (List.nodup_append.1 h).2.2 b hx b (by simp) rfl
    rw [updI_new (vt := .bool) hb, ih]
    · simp
    · unfold ksF at h ⊢
      rw [List.map_append, List.map_cons, List.map_nil, List.append_assoc]
      exact h
theorem initF_eq (fr ct : Int) : initF fr ct = (areaL fr ct ct.toNat).map fun b => (b, true) := by
  unfold initF
  rw [addF_new _ [] (by simpa [ksF] using areaL_nodup fr ct ct.toNat)]
  rfl
theorem ksF_map (bs : List Int) : ksF (bs.map fun b => (b, true)) = bs := by
  unfold ksF; rw [List.map_map]; exact List.map_id' bs
theorem inv_init {fr ct : Int} {bl : List ByT.den} (h0 : 0 ≤ fr) (h1 : 1 ≤ ct) (h2 : fr + ct ≤ bl.length) (h3 : bl.length ≤ 65536) : Inv fr ct bl [] (initF fr ct) := by
  refine ⟨h0, h1, h2, h3, fun e he => (by cases he), fun x hx => ?_, ?_⟩
  · rw [initF_eq] at hx
    obtain ⟨b, _, rfl⟩ := List.mem_map.1 hx
    rfl
  · rw [initF_eq, ksF_map]
    simp [bOf]

section inv
variable {fr ct : Int} {bl : List ByT.den} {L : List PE} {F : List (Int × Bool)}
theorem Inv.nodup (h : Inv fr ct bl L F) : (ksF F ++ bOf L).Nodup := (h.perm.nodup_iff).2 (areaL_nodup _ _ _)
theorem Inv.mem (h : Inv fr ct bl L F) {x : Int} (hx : x ∈ ksF F ∨ x ∈ bOf L) : fr ≤ x ∧ x < fr + ct := by
  have := areaL_mem.1 (h.perm.mem_iff.1 (List.mem_append.2 hx))
  have := h.c1
  omega
theorem Inv.name (h : Inv fr ct bl L F) {e : PE} (he : e ∈ L) : e.n ∈ e.bs := by
  obtain ⟨h1, h2⟩ := h.ent e he
  rw [← h2]
  exact List.mem_of_getElem? (elt_get (t := .int .i64) (by have := (needN_bound e.c.length).2.2; have := h1.len; omega))
theorem bOf_mem {e : PE} (he : e ∈ L) {b : Int} (hb : b ∈ e.bs) : b ∈ bOf L := List.mem_flatMap.2 ⟨e, he, hb⟩
theorem Inv.names (h : Inv fr ct bl L F) : ∀ x ∈ nOf L, x ∈ bOf L := by
  intro x hx
  obtain ⟨e, he, rfl⟩ := List.mem_map.1 hx
  exact bOf_mem he (h.name he)
theorem names_nodup : ∀ {L : List PE}, (∀ e ∈ L, e.n ∈ e.bs) → (bOf L).Nodup → (nOf L).Nodup
  | [], _, _ => List.nodup_nil
  | e :: r, hn, hb => by
    have hb' : (e.bs ++ bOf r).Nodup := hb
    obtain ⟨h1, h2, h3⟩ := List.nodup_append.1 hb'
    refine List.nodup_cons.2 ⟨fun hx => ?_, names_nodup (fun x hx => hn x (List.mem_cons_of_mem _ hx)) h2⟩
    obtain ⟨y, hy, e'⟩ := List.mem_map.1 hx
    exact h3 e.n (hn e (by simp)) y.n (bOf_mem hy (hn y (List.mem_cons_of_mem _ hy))) e'.symm
theorem Inv.nnodup (h : Inv fr ct bl L F) : (nOf L).Nodup := names_nodup (fun e he => h.name he) (List.nodup_append.1 h.nodup).2.1
theorem tOf_keys (L : List PE) : (tOf L).map Prod.fst = nOf L := by unfold tOf nOf; rw [List.map_map]; rfl
theorem Inv.lk (h : Inv fr ct bl L F) {e : PE} (he : e ∈ L) : lkT' (tOf L) e.n = some e.bs := by
  unfold lkT'
  exact lookI_some (vt := .sl 8 (.int .i64)) (by rw [tOf_keys]; exact h.nnodup) (List.mem_map_of_mem (f := fun e : PE => (e.n, e.bs)) he)
theorem lk_none {n : Int} (hn : n ∉ nOf L) : lkT' (tOf L) n = none := by
  unfold lkT'
  exact lookI_none (vt := .sl 8 (.int .i64)) (by rw [tOf_keys]; exact hn)
theorem updT_new {n : Int} {bs : List Int} (hn : n ∉ nOf L) : updT (tOf L) n bs = tOf L ++ [(n, bs)] := by
  unfold updT
  exact updI_new (vt := .sl 8 (.int .i64)) (by rw [tOf_keys]; exact hn)

/-- A further text out of the free blocks. -/
theorem Inv.add (h : Inv fr ct bl L F) {e : PE} (he : EOk bl e) (hs : ∀ b ∈ e.bs, b ∈ ksF F) : Inv fr ct bl (L ++ [e]) (delF F e.bs) := by
  refine ⟨h.f0, h.c1, h.hb, h.sz, fun x hx => ?_, delF_tru h.tru _, ?_⟩
  · rcases List.mem_append.1 hx with hx | hx
    · exact h.ent x hx
    · rw [List.mem_singleton] at hx; subst hx; exact he
  · have hF := (List.nodup_append.1 h.nodup).1
    have h1 := perm_split hF he.1.nd hs
    have h2 : bOf (L ++ [e]) = bOf L ++ e.bs := by simp [bOf, List.flatMap_append]
    rw [ksF_delF, h2]
    refine List.Perm.trans ?_ h.perm
    refine List.Perm.trans ?_ (h1.append_right (bOf L))
    rw [List.append_assoc]
    exact List.Perm.append_left _ List.perm_append_comm
theorem Inv.fresh (h : Inv fr ct bl L F) {e : PE} (he : EOk bl e) (hs : ∀ b ∈ e.bs, b ∈ ksF F) : e.n ∉ nOf L := by
  intro hx
  have h1 : e.n ∈ e.bs := by
    rw [← he.2]
    exact List.mem_of_getElem? (elt_get (t := .int .i64) (by have := (needN_bound e.c.length).2.2; have := he.1.len; omega))
  exact (List.nodup_append.1 h.nodup).2.2 e.n (hs _ h1) e.n (h.names _ hx) rfl
theorem open_ok : ∀ (L2 : List PE) (L : List PE) (F : List (Int × Bool)), Inv fr ct bl L F → (∀ e ∈ L2, EOk bl e) → (bOf L2).Nodup → (∀ b ∈ bOf L2, b ∈ ksF F) →
    ∃ F', openL bl fr ct (nOf L2) (tOf L) F = some (tOf (L ++ L2), F') ∧ Inv fr ct bl (L ++ L2) F'
  | [], L, F, h, _, _, _ => ⟨F, by simp [nOf, openL], by simpa using h⟩
  | e :: r, L, F, h, he, hn, hs => by
    have he1 := he e (by simp)
    have hs1 : ∀ b ∈ e.bs, b ∈ ksF F := fun b hb => hs b (bOf_mem (by simp) hb)
    have hn' : (e.bs ++ bOf r).Nodup := hn
    obtain ⟨n1, n2, n3⟩ := List.nodup_append.1 hn'
    have hF := (List.nodup_append.1 h.nodup).1
    have htx := he1.1.text (fr := fr) (ct := ct) h.sz (fun b hb => h.mem (.inl (hs1 b hb)))
    rw [he1.2] at htx
    obtain ⟨F', g1, g2⟩ := open_ok r (L ++ [e]) (delF F e.bs) (h.add he1 hs1) (fun x hx => he x (List.mem_cons_of_mem _ hx)) n2 (fun b hb => by
      rw [ksF_delF, List.mem_filter]
      exact ⟨hs b (by rw [show bOf (e :: r) = e.bs ++ bOf r from rfl]; exact List.mem_append_right _ hb), decide_eq_true (fun hx => n3 b hx b hb rfl)⟩)
    refine ⟨F', ?_, by rw [List.append_assoc] at g2; exact g2⟩
    show openL bl fr ct (e.n :: nOf r) (tOf L) F = _
    rw [openL, htx]
    simp only
    rw [takeBs_ok _ _ hF h.tru n1 hs1]
    simp only
    rw [updT_new (h.fresh he1 hs1)]
    have e1 : tOf L ++ [(e.n, e.bs)] = tOf (L ++ [e]) := by simp [tOf]
    rw [e1, g1, List.append_assoc]
    rfl
theorem Inv.reopen (h : Inv fr ct bl L F) : ∃ F', openL bl fr ct (nOf L) [] (initF fr ct) = some (tOf L, F') ∧ Inv fr ct bl L F' := by
  have h1 := List.nodup_append.1 h.nodup
  have := open_ok L [] (initF fr ct) (inv_init h.f0 h.c1 h.hb h.sz) h.ent h1.2.1 (fun b hb => by
    rw [initF_eq, ksF_map]
    exact areaL_mem.2 (by have := h.mem (.inr hb); have := h.c1; omega))
  rw [List.nil_append] at this
  exact this
end inv
end Go.V
