/- A part of the proof layer, or functions of the given program in it: contracts and their proofs. -/
import Derived.Test.YtaeoiobjddknbaaDoorMB3
import Derived.Test.YtaeoiobjddknbaaDoorMN1
namespace Go.V
open Go.Proofs
set_option maxRecDepth 100000
set_option maxHeartbeats 8000000
set_option linter.unusedSimpArgs false
set_option linter.unnecessarySimpa false
set_option linter.unusedVariables false
/-! ### programs: sizes that are looked at, and the other package's -/
def fewP (names : List ByteArray) (code : List EvT.den) : Bool := (decide (names.length ≤ 51) && names.all (fun s => decide (s.size ≤ 1000))) && decide (code.length ≤ 1000)
theorem fewP_iff {names : List ByteArray} {code : List EvT.den} : fewP names code = true ↔ (names.length ≤ 51 ∧ names.all (fun s => decide (s.size ≤ 1000)) = true) ∧ code.length ≤ 1000 := by
 simp [fewP]
def C13 : Contract := fun args hp K => match args, hp with
 | [.agg [x, y]], [] => onL .str 16 x fun names => onL EvT 16 y fun code => K (.bool (fewP names code)) []
 | _, _ => False
def L13 (x y : SV) (names : List ByteArray) : LoopAnn := { G := Nat, I := fun i => ⟨[(1, .ptr 0 0), (6, .int .i64 names.length), (7, .int .i64 i)], [.struct [x, y]]⟩, R := fun _ i => i ≤ names.length ∧ i ≤ 51 ∧ (names.take i).all (fun s => decide (s.size ≤ 1000)) = true, μ := fun i => names.length - i }
theorem L13_I {x y names} (i : Nat) : (L13 x y names).I i = ⟨[(1, .ptr 0 0), (6, .int .i64 names.length), (7, .int .i64 i)], [.struct [x, y]]⟩ := rfl
theorem s13 : Sound Tryd.prog 13 C13 := by
 refine sound_of_okF ok13 .nil ?_
 intro args hp K h
 unfold C13 at h
 split at h
 ·rename_i x y
  have hmx := maxLen_val
  obtain ⟨names, hx, h1⟩ : ∃ names, (x = .nils ∧ names = [] ∨ ∃ p, x = .sl p 16 .str names) ∧ onL EvT 16 y fun code => K (.bool (fewP names code)) [] := by
   rcases h with ⟨hx, h2⟩ | ⟨p, names, hx, h2⟩
   ·exact ⟨[], .inl ⟨hx, rfl⟩, h2⟩
   ·exact ⟨names, .inr ⟨p, hx⟩, h2⟩
  clear h
  obtain ⟨code, hy, h⟩ : ∃ code, (y = .nils ∧ code = [] ∨ ∃ p, y = .sl p 16 EvT code) ∧ K (.bool (fewP names code)) [] := by
   rcases h1 with ⟨hy, h2⟩ | ⟨p, code, hy, h2⟩
   ·exact ⟨[], .inl ⟨hy, rfl⟩, h2⟩
   ·exact ⟨code, .inr ⟨p, hy⟩, h2⟩
  clear h1
  have hf : ¬ ((names.length ≤ 51 ∧ names.all (fun s => decide (s.size ≤ 1000)) = true) ∧ (code : List EvT.den).length ≤ 1000) → K (.bool false) [] := fun hh => by rw [← fewP_iff, Bool.not_eq_true] at hh; rw [hh] at h; exact h
  have hend : ∀ {i : Nat}, i ≤ names.length ∧ i ≤ 51 ∧ (names.take i).all (fun s => decide (s.size ≤ 1000)) = true → ¬ i < names.length → ∀ c, c = decide ((code.length : Int) ≤ 1000) → K (.bool c) [] := by
   intro i hi hc c hcc
   have e : i = names.length := by omega
   subst e
   rw [List.take_length] at hi
   have e2 : c = fewP names code := by
    rw [hcc]
    unfold fewP
    rw [hi.2.2, decide_eq_true hi.2.1]
    simp only [Bool.true_and]
    exact decide_eq_decide.2 (by omega)
   rw [e2]
   exact h
  rcases hx with ⟨rfl, rfl⟩ | ⟨p, rfl⟩ <;> rcases hy with ⟨rfl, rfl⟩ | ⟨q, rfl⟩
  ·refine ⟨by simp, [(1, L13 .nils .nils ([] : List ByteArray))], ?_⟩
   simp (maxSteps:=9^9) only [a13, r13, go_sem, Int.reduceLT, Int.reduceLE, Int.reduceEq, Int.reduceNe, Int.reduceAdd, Int.reduceSub, Int.reduceMul, Int.reduceToNat, Int.reduceNeg, Nat.reduceEqDiff, Nat.reduceLeDiff, Nat.reduceSub, Nat.reduceMul, Nat.reduceLT, Nat.reduceBEq, Nat.reduceAdd]
   refine loop_intro (A := L13 .nils .nils ([] : List ByteArray)) (0 : Nat) ?_ ⟨Nat.zero_le _, by omega, rfl⟩ ?_
   ·simp (maxSteps:=9^9) only [L13_I, go_sem, Int.reduceLT, Int.reduceLE, Int.reduceEq, Int.reduceNe, Int.reduceAdd, Int.reduceSub, Int.reduceMul, Int.reduceToNat, Int.reduceNeg, Nat.reduceEqDiff, Nat.reduceLeDiff, Nat.reduceSub, Nat.reduceMul, Nat.reduceLT, Nat.reduceBEq, Nat.reduceAdd]
    rfl
   ·intro (i : Nat) (hi : i ≤ ([] : List ByteArray).length ∧ i ≤ 51 ∧ (([] : List ByteArray).take i).all (fun s => decide (s.size ≤ 1000)) = true)
    simp (maxSteps:=9^9) only [L13_I, go_sem, Int.reduceLT, Int.reduceLE, Int.reduceEq, Int.reduceNe, Int.reduceAdd, Int.reduceSub, Int.reduceMul, Int.reduceToNat, Int.reduceNeg, Nat.reduceEqDiff, Nat.reduceLeDiff, Nat.reduceSub, Nat.reduceMul, Nat.reduceLT, Nat.reduceBEq, Nat.reduceAdd]
    rintro c rfl
    refine sw_intro (fun hc => ?_) (fun hc => ?_) <;> simp only [decide_eq_true_eq, decide_eq_false_iff_not] at hc
    ·exact absurd hc (by omega)
    exact hend hi hc true rfl
  ·refine ⟨by simp, [(1, L13 .nils (.sl q 16 EvT code) ([] : List ByteArray))], ?_⟩
   simp (maxSteps:=9^9) only [a13, r13, go_sem, Int.reduceLT, Int.reduceLE, Int.reduceEq, Int.reduceNe, Int.reduceAdd, Int.reduceSub, Int.reduceMul, Int.reduceToNat, Int.reduceNeg, Nat.reduceEqDiff, Nat.reduceLeDiff, Nat.reduceSub, Nat.reduceMul, Nat.reduceLT, Nat.reduceBEq, Nat.reduceAdd]
   refine loop_intro (A := L13 .nils (.sl q 16 EvT code) ([] : List ByteArray)) (0 : Nat) ?_ ⟨Nat.zero_le _, by omega, rfl⟩ ?_
   ·simp (maxSteps:=9^9) only [L13_I, go_sem, Int.reduceLT, Int.reduceLE, Int.reduceEq, Int.reduceNe, Int.reduceAdd, Int.reduceSub, Int.reduceMul, Int.reduceToNat, Int.reduceNeg, Nat.reduceEqDiff, Nat.reduceLeDiff, Nat.reduceSub, Nat.reduceMul, Nat.reduceLT, Nat.reduceBEq, Nat.reduceAdd]
    rfl
   ·intro (i : Nat) (hi : i ≤ ([] : List ByteArray).length ∧ i ≤ 51 ∧ (([] : List ByteArray).take i).all (fun s => decide (s.size ≤ 1000)) = true)
    simp (maxSteps:=9^9) only [L13_I, go_sem, Int.reduceLT, Int.reduceLE, Int.reduceEq, Int.reduceNe, Int.reduceAdd, Int.reduceSub, Int.reduceMul, Int.reduceToNat, Int.reduceNeg, Nat.reduceEqDiff, Nat.reduceLeDiff, Nat.reduceSub, Nat.reduceMul, Nat.reduceLT, Nat.reduceBEq, Nat.reduceAdd]
    rintro c rfl
    refine sw_intro (fun hc => ?_) (fun hc => ?_) <;> simp only [decide_eq_true_eq, decide_eq_false_iff_not] at hc
    ·exact absurd hc (by omega)
    rintro _ _ m rfl c hcc
    exact hend hi hc c hcc
  ·refine ⟨by simp, [(1, L13 (.sl p 16 .str names) .nils names)], ?_⟩
   simp (maxSteps:=9^9) only [a13, r13, go_sem, Int.reduceLT, Int.reduceLE, Int.reduceEq, Int.reduceNe, Int.reduceAdd, Int.reduceSub, Int.reduceMul, Int.reduceToNat, Int.reduceNeg, Nat.reduceEqDiff, Nat.reduceLeDiff, Nat.reduceSub, Nat.reduceMul, Nat.reduceLT, Nat.reduceBEq, Nat.reduceAdd]
   rintro _ _ m rfl
   refine loop_intro (A := L13 (.sl p 16 .str names) .nils names) (0 : Nat) ?_ ⟨Nat.zero_le _, by omega, rfl⟩ ?_
   ·simp (maxSteps:=9^9) only [L13_I, go_sem, Int.reduceLT, Int.reduceLE, Int.reduceEq, Int.reduceNe, Int.reduceAdd, Int.reduceSub, Int.reduceMul, Int.reduceToNat, Int.reduceNeg, Nat.reduceEqDiff, Nat.reduceLeDiff, Nat.reduceSub, Nat.reduceMul, Nat.reduceLT, Nat.reduceBEq, Nat.reduceAdd]
    rfl
   ·intro (i : Nat) (hi : i ≤ names.length ∧ i ≤ 51 ∧ (names.take i).all (fun s => decide (s.size ≤ 1000)) = true)
    simp (maxSteps:=9^9) only [L13_I, go_sem, Int.reduceLT, Int.reduceLE, Int.reduceEq, Int.reduceNe, Int.reduceAdd, Int.reduceSub, Int.reduceMul, Int.reduceToNat, Int.reduceNeg, Nat.reduceEqDiff, Nat.reduceLeDiff, Nat.reduceSub, Nat.reduceMul, Nat.reduceLT, Nat.reduceBEq, Nat.reduceAdd]
    rintro c rfl
    refine sw_intro (fun hc => ?_) (fun hc => ?_) <;> simp only [decide_eq_true_eq, decide_eq_false_iff_not] at hc
    ·refine nd_intro hc ?_
     rintro _ m rfl c rfl
     have hall : names.all (fun s => decide (s.size ≤ 1000)) = true → (elt .str names i).size ≤ 1000 := fun hh => by
      have := List.all_eq_true.1 hh (elt .str names i) (List.mem_of_getElem? (elt_get hc))
      simpa using this
     refine sw_intro (fun h1 => ?_) (fun h1 => ?_) <;> simp only [decide_eq_true_eq, decide_eq_false_iff_not] at h1
     ·refine hf (fun hh => ?_)
      have := hall hh.1.2
      omega
     rintro c rfl
     refine sw_intro (fun h2 => ?_) (fun h2 => ?_) <;> simp only [decide_eq_true_eq, decide_eq_false_iff_not] at h2
     ·exact hf (fun hh => by have := hh.1.1; omega)
     rintro _ _ m hm
     rw [w64 (by omega)] at hm
     subst hm
     refine lpE_intro (A := L13 (.sl p 16 .str names) .nils names) (i + 1) (by simp (maxSteps:=9^9) only [L13_I, go_sem, Int.reduceLT, Int.reduceLE, Int.reduceEq, Int.reduceNe, Int.reduceAdd, Int.reduceSub, Int.reduceMul, Int.reduceToNat, Int.reduceNeg, Nat.reduceEqDiff, Nat.reduceLeDiff, Nat.reduceSub, Nat.reduceMul, Nat.reduceLT, Nat.reduceBEq, Nat.reduceAdd]; rfl) ⟨by omega, by omega, ?_⟩ (by show names.length - (i + 1) < names.length - i; omega)
     have e3 := take_elt (t := .str) hc
     show List.all (List.take (i + 1) names) _ = true
     rw [← e3, List.all_append, hi.2.2]
     simp only [List.all_cons, List.all_nil, Bool.and_true, Bool.true_and, decide_eq_true_eq]
     omega
    exact hend hi hc true rfl
  ·refine ⟨by simp, [(1, L13 (.sl p 16 .str names) (.sl q 16 EvT code) names)], ?_⟩
   simp (maxSteps:=9^9) only [a13, r13, go_sem, Int.reduceLT, Int.reduceLE, Int.reduceEq, Int.reduceNe, Int.reduceAdd, Int.reduceSub, Int.reduceMul, Int.reduceToNat, Int.reduceNeg, Nat.reduceEqDiff, Nat.reduceLeDiff, Nat.reduceSub, Nat.reduceMul, Nat.reduceLT, Nat.reduceBEq, Nat.reduceAdd]
   rintro _ _ m rfl
   refine loop_intro (A := L13 (.sl p 16 .str names) (.sl q 16 EvT code) names) (0 : Nat) ?_ ⟨Nat.zero_le _, by omega, rfl⟩ ?_
   ·simp (maxSteps:=9^9) only [L13_I, go_sem, Int.reduceLT, Int.reduceLE, Int.reduceEq, Int.reduceNe, Int.reduceAdd, Int.reduceSub, Int.reduceMul, Int.reduceToNat, Int.reduceNeg, Nat.reduceEqDiff, Nat.reduceLeDiff, Nat.reduceSub, Nat.reduceMul, Nat.reduceLT, Nat.reduceBEq, Nat.reduceAdd]
    rfl
   ·intro (i : Nat) (hi : i ≤ names.length ∧ i ≤ 51 ∧ (names.take i).all (fun s => decide (s.size ≤ 1000)) = true)
    simp (maxSteps:=9^9) only [L13_I, go_sem, Int.reduceLT, Int.reduceLE, Int.reduceEq, Int.reduceNe, Int.reduceAdd, Int.reduceSub, Int.reduceMul, Int.reduceToNat, Int.reduceNeg, Nat.reduceEqDiff, Nat.reduceLeDiff, Nat.reduceSub, Nat.reduceMul, Nat.reduceLT, Nat.reduceBEq, Nat.reduceAdd]
    rintro c rfl
    refine sw_intro (fun hc => ?_) (fun hc => ?_) <;> simp only [decide_eq_true_eq, decide_eq_false_iff_not] at hc
    ·refine nd_intro hc ?_
     rintro _ m rfl c rfl
     have hall : names.all (fun s => decide (s.size ≤ 1000)) = true → (elt .str names i).size ≤ 1000 := fun hh => by
      have := List.all_eq_true.1 hh (elt .str names i) (List.mem_of_getElem? (elt_get hc))
      simpa using this
     refine sw_intro (fun h1 => ?_) (fun h1 => ?_) <;> simp only [decide_eq_true_eq, decide_eq_false_iff_not] at h1
     ·refine hf (fun hh => ?_)
      have := hall hh.1.2
      omega
     rintro c rfl
     refine sw_intro (fun h2 => ?_) (fun h2 => ?_) <;> simp only [decide_eq_true_eq, decide_eq_false_iff_not] at h2
     ·exact hf (fun hh => by have := hh.1.1; omega)
     rintro _ _ m hm
     rw [w64 (by omega)] at hm
     subst hm
     refine lpE_intro (A := L13 (.sl p 16 .str names) (.sl q 16 EvT code) names) (i + 1) (by simp (maxSteps:=9^9) only [L13_I, go_sem, Int.reduceLT, Int.reduceLE, Int.reduceEq, Int.reduceNe, Int.reduceAdd, Int.reduceSub, Int.reduceMul, Int.reduceToNat, Int.reduceNeg, Nat.reduceEqDiff, Nat.reduceLeDiff, Nat.reduceSub, Nat.reduceMul, Nat.reduceLT, Nat.reduceBEq, Nat.reduceAdd]; rfl) ⟨by omega, by omega, ?_⟩ (by show names.length - (i + 1) < names.length - i; omega)
     have e3 := take_elt (t := .str) hc
     show List.all (List.take (i + 1) names) _ = true
     rw [← e3, List.all_append, hi.2.2]
     simp only [List.all_cons, List.all_nil, Bool.and_true, Bool.true_and, decide_eq_true_eq]
     omega
    rintro _ _ m rfl c hcc
    exact hend hi hc c hcc
 ·exact h.elim
def C36 : Contract := fun args hp K => match args, hp with
 | [.int .i64 op], [] => (¬ (0 ≤ op ∧ op < 24) → K (.tup [.str ByteArray.empty, .int .i64 0]) []) ∧ ((0 ≤ op ∧ op < 24) → K (.tup [.str (elt WdT opT op.toNat).1, .int .i64 (opK op)]) [])
 | _, _ => False
theorem s36 : Sound Tryd.prog 36 C36 := by
 refine sound_of_okF ok36 .nil ?_
 intro args hp K h
 unfold C36 at h
 split at h
 ·rename_i op
  refine ⟨by simp, [], ?_⟩
  by_cases h0 : 0 ≤ op ∧ op < 24
  ·have h2 := h.2 h0
   clear h
   have hop : op = 0 ∨ op = 1 ∨ op = 2 ∨ op = 3 ∨ op = 4 ∨ op = 5 ∨ op = 6 ∨ op = 7 ∨ op = 8 ∨ op = 9 ∨ op = 10 ∨ op = 11 ∨ op = 12 ∨ op = 13 ∨ op = 14 ∨ op = 15 ∨ op = 16 ∨ op = 17 ∨ op = 18 ∨ op = 19 ∨ op = 20 ∨ op = 21 ∨ op = 22 ∨ op = 23 := by omega
   clear h0
   rcases hop with rfl | rfl | rfl | rfl | rfl | rfl | rfl | rfl | rfl | rfl | rfl | rfl | rfl | rfl | rfl | rfl | rfl | rfl | rfl | rfl | rfl | rfl | rfl | rfl <;> simp (maxSteps:=9^9) only [a36, r36, go_sem, Int.reduceLT, Int.reduceLE, Int.reduceEq, Int.reduceNe, Int.reduceAdd, Int.reduceSub, Int.reduceMul, Int.reduceToNat, Int.reduceNeg, Nat.reduceEqDiff, Nat.reduceLeDiff, Nat.reduceSub, Nat.reduceMul, Nat.reduceLT, Nat.reduceBEq, Nat.reduceAdd] <;> exact h2
  ·have h1 := h.1 h0
   clear h
   simp (maxSteps:=9^9) only [a36, r36, go_sem, Int.reduceLT, Int.reduceLE, Int.reduceEq, Int.reduceNe, Int.reduceAdd, Int.reduceSub, Int.reduceMul, Int.reduceToNat, Int.reduceNeg, Nat.reduceEqDiff, Nat.reduceLeDiff, Nat.reduceSub, Nat.reduceMul, Nat.reduceLT, Nat.reduceBEq, Nat.reduceAdd]
   iterate 24
    rintro c rfl
    refine sw_intro (fun hc => ?_) (fun hc => ?_) <;> simp only [decide_eq_true_eq, decide_eq_false_iff_not] at hc
    ·exact absurd hc (by omega)
   exact h1
 ·exact h.elim
theorem opK_cases {op : Int} (h : 0 ≤ op ∧ op < 24) : (elt WdT opT op.toNat).1 ≠ ByteArray.empty ∧ (opK op = 0 ∨ opK op = 1 ∨ opK op = 2 ∨ opK op = 3 ∨ opK op = 4 ∨ opK op = 5) := by
 have hop : op = 0 ∨ op = 1 ∨ op = 2 ∨ op = 3 ∨ op = 4 ∨ op = 5 ∨ op = 6 ∨ op = 7 ∨ op = 8 ∨ op = 9 ∨ op = 10 ∨ op = 11 ∨ op = 12 ∨ op = 13 ∨ op = 14 ∨ op = 15 ∨ op = 16 ∨ op = 17 ∨ op = 18 ∨ op = 19 ∨ op = 20 ∨ op = 21 ∨ op = 22 ∨ op = 23 := by omega
 rcases hop with rfl | rfl | rfl | rfl | rfl | rfl | rfl | rfl | rfl | rfl | rfl | rfl | rfl | rfl | rfl | rfl | rfl | rfl | rfl | rfl | rfl | rfl | rfl | rfl <;> decide
theorem opK_most {op m1 : Int} {n c : Nat} (h : 0 ≤ op ∧ op < 24) (h1 : ¬ opK op = 1) (hm : m1 = (n : Int) - 1) : elt (.int .i64) [0, 9223372036854775807, 7, 3, (c : Int), m1] (opK op).toNat = belowI (opK op) n c - 1 := by
 rcases (opK_cases h).2 with e | e | e | e | e | e <;> rw [e] at h1 ⊢
 ·rfl
 ·exact absurd rfl h1
 ·rfl
 ·rfl
 ·show (c : Int) = ((c : Int) + 1) - 1
  omega
 ·show m1 = _
  exact hm
theorem bel_of {b a : Int} (h : b - 1 < a) : ¬ a < b := by omega
theorem bel_not {b a : Int} (h : ¬ b - 1 < a) : a < b := by omega
theorem insOk_iff {n c : Nat} {x : EvT.den} : insOk n c x = true ↔ (0 ≤ x.1 ∧ x.1 < 24) ∧ (opK x.1 = 1 ∨ (0 ≤ x.2 ∧ x.2 < belowI (opK x.1) n c)) := by
 simp only [insOk, Bool.and_eq_true, Bool.or_eq_true, decide_eq_true_eq]
def C18 : Contract := fun args hp K => match args, hp with
 | [.agg [x, y]], [] => onL .str 16 x fun names => onL EvT 16 y fun code => K (.bool (formP names code)) []
 | _, _ => False
def L18 (x y : SV) (names : List ByteArray) : LoopAnn := { G := Nat, I := fun i => ⟨[(1, .ptr 0 0), (20, .int .i64 names.length), (21, .int .i64 i)], [.struct [x, y]]⟩, R := fun _ i => i ≤ names.length ∧ (names.take i).all keyOk = true, μ := fun i => names.length - i }
theorem L18_I {x y names} (i : Nat) : (L18 x y names).I i = ⟨[(1, .ptr 0 0), (20, .int .i64 names.length), (21, .int .i64 i)], [.struct [x, y]]⟩ := rfl
def M18 (x y : SV) (n : Nat) (code : List EvT.den) : LoopAnn := { G := Nat, I := fun i => ⟨[(1, .ptr 0 0), (34, .int .i64 code.length), (35, .int .i64 i)], [.struct [x, y]]⟩, R := fun _ i => i ≤ code.length ∧ (code.take i).all (insOk n code.length) = true, μ := fun i => code.length - i }
theorem M18_I {x y n code} (i : Nat) : (M18 x y n code).I i = ⟨[(1, .ptr 0 0), (34, .int .i64 code.length), (35, .int .i64 i)], [.struct [x, y]]⟩ := rfl
theorem s18 : Sound Tryd.prog 18 C18 := by
 refine sound_of_okF ok18 (.cons s39 (callable_of_okF ok39) (.cons s36 (callable_of_okF ok36) .nil)) ?_
 intro args hp K h
 unfold C18 at h
 split at h
 ·rename_i x y
  have hmx := maxLen_val
  rcases h with ⟨rfl, ⟨rfl, h⟩ | ⟨q, code, rfl, h⟩⟩ | ⟨p, names, rfl, ⟨rfl, h⟩ | ⟨q, code, rfl, h⟩⟩
  ·refine ⟨by simp, [(1, L18 .nils .nils ([] : List ByteArray)), (2, M18 .nils .nils ([] : List ByteArray).length ([] : List EvT.den))], ?_⟩
   simp (maxSteps:=9^9) only [a18, r18, go_sem, Int.reduceLT, Int.reduceLE, Int.reduceEq, Int.reduceNe, Int.reduceAdd, Int.reduceSub, Int.reduceMul, Int.reduceToNat, Int.reduceNeg, Nat.reduceEqDiff, Nat.reduceLeDiff, Nat.reduceSub, Nat.reduceMul, Nat.reduceLT, Nat.reduceBEq, Nat.reduceAdd]
   have hf : ¬ ((([] : List ByteArray).length ≤ 8 ∧ ([] : List EvT.den).length ≤ 200) ∧ ([] : List ByteArray).all keyOk = true ∧ ([] : List EvT.den).all (insOk ([] : List ByteArray).length ([] : List EvT.den).length) = true) → K (.bool false) [] := fun hh => by rw [← formP_iff, Bool.not_eq_true] at hh; rw [hh] at h; exact h
   have c1 : ¬ (8 : Int) < (([] : List ByteArray).length : Nat) := by simp only [List.length_nil]; omega
   have c2 : ¬ (200 : Int) < (([] : List EvT.den).length : Nat) := by simp only [List.length_nil]; omega
   refine loop_intro (A := L18 .nils .nils ([] : List ByteArray)) (0 : Nat) ?_ ⟨Nat.zero_le _, rfl⟩ ?_
   ·simp (maxSteps:=9^9) only [L18_I, go_sem, Int.reduceLT, Int.reduceLE, Int.reduceEq, Int.reduceNe, Int.reduceAdd, Int.reduceSub, Int.reduceMul, Int.reduceToNat, Int.reduceNeg, Nat.reduceEqDiff, Nat.reduceLeDiff, Nat.reduceSub, Nat.reduceMul, Nat.reduceLT, Nat.reduceBEq, Nat.reduceAdd]
    rfl
   intro (i : Nat) (hi : i ≤ ([] : List ByteArray).length ∧ (([] : List ByteArray).take i).all keyOk = true)
   simp (maxSteps:=9^9) only [L18_I, C39, go_sem, Int.reduceLT, Int.reduceLE, Int.reduceEq, Int.reduceNe, Int.reduceAdd, Int.reduceSub, Int.reduceMul, Int.reduceToNat, Int.reduceNeg, Nat.reduceEqDiff, Nat.reduceLeDiff, Nat.reduceSub, Nat.reduceMul, Nat.reduceLT, Nat.reduceBEq, Nat.reduceAdd]
   rintro c rfl
   refine sw_intro (fun hc => ?_) (fun hc => ?_) <;> simp only [decide_eq_true_eq, decide_eq_false_iff_not] at hc
   ·exact absurd hc (by omega)
   have e : ([] : List ByteArray).length ≤ i := by first | omega | (simp only [List.length_nil] at hc ⊢; omega)
   have hk := hi.2
   rw [List.take_of_length_le e] at hk
   refine loop_intro (A := M18 .nils .nils ([] : List ByteArray).length ([] : List EvT.den)) (0 : Nat) ?_ ⟨Nat.zero_le _, rfl⟩ ?_
   ·simp (maxSteps:=9^9) only [M18_I, go_sem, Int.reduceLT, Int.reduceLE, Int.reduceEq, Int.reduceNe, Int.reduceAdd, Int.reduceSub, Int.reduceMul, Int.reduceToNat, Int.reduceNeg, Nat.reduceEqDiff, Nat.reduceLeDiff, Nat.reduceSub, Nat.reduceMul, Nat.reduceLT, Nat.reduceBEq, Nat.reduceAdd]
    rfl
   intro (j : Nat) (hj : j ≤ ([] : List EvT.den).length ∧ (([] : List EvT.den).take j).all (insOk ([] : List ByteArray).length ([] : List EvT.den).length) = true)
   simp (maxSteps:=9^9) only [M18_I, C36, go_sem, Int.reduceLT, Int.reduceLE, Int.reduceEq, Int.reduceNe, Int.reduceAdd, Int.reduceSub, Int.reduceMul, Int.reduceToNat, Int.reduceNeg, Nat.reduceEqDiff, Nat.reduceLeDiff, Nat.reduceSub, Nat.reduceMul, Nat.reduceLT, Nat.reduceBEq, Nat.reduceAdd]
   rintro c rfl
   refine sw_intro (fun hd => ?_) (fun hd => ?_) <;> simp only [decide_eq_true_eq, decide_eq_false_iff_not] at hd
   ·exact absurd hd (by omega)
   have e2 : ([] : List EvT.den).length ≤ j := by first | omega | (simp only [List.length_nil] at hd ⊢; omega)
   rw [List.take_of_length_le e2] at hj
   rw [show formP ([] : List ByteArray) ([] : List EvT.den) = true from formP_iff.2 ⟨⟨by first | omega | (simp only [List.length_nil] at c1 ⊢; omega), by first | omega | (simp only [List.length_nil] at c2 ⊢; omega)⟩, hk, hj.2⟩] at h
   exact h
  ·refine ⟨by simp, [(1, L18 .nils (.sl q 16 EvT code) ([] : List ByteArray)), (2, M18 .nils (.sl q 16 EvT code) ([] : List ByteArray).length (code : List EvT.den))], ?_⟩
   simp (maxSteps:=9^9) only [a18, r18, go_sem, Int.reduceLT, Int.reduceLE, Int.reduceEq, Int.reduceNe, Int.reduceAdd, Int.reduceSub, Int.reduceMul, Int.reduceToNat, Int.reduceNeg, Nat.reduceEqDiff, Nat.reduceLeDiff, Nat.reduceSub, Nat.reduceMul, Nat.reduceLT, Nat.reduceBEq, Nat.reduceAdd]
   have hf : ¬ ((([] : List ByteArray).length ≤ 8 ∧ (code : List EvT.den).length ≤ 200) ∧ ([] : List ByteArray).all keyOk = true ∧ (code : List EvT.den).all (insOk ([] : List ByteArray).length (code : List EvT.den).length) = true) → K (.bool false) [] := fun hh => by rw [← formP_iff, Bool.not_eq_true] at hh; rw [hh] at h; exact h
   have c1 : ¬ (8 : Int) < (([] : List ByteArray).length : Nat) := by simp only [List.length_nil]; omega
   rintro hc1 hc2 m rfl c rfl
   refine sw_intro (fun c2 => ?_) (fun c2 => ?_) <;> simp only [decide_eq_true_eq, decide_eq_false_iff_not] at c2
   ·exact hf (fun hh => by have := hh.1.2; omega)
   refine loop_intro (A := L18 .nils (.sl q 16 EvT code) ([] : List ByteArray)) (0 : Nat) ?_ ⟨Nat.zero_le _, rfl⟩ ?_
   ·simp (maxSteps:=9^9) only [L18_I, go_sem, Int.reduceLT, Int.reduceLE, Int.reduceEq, Int.reduceNe, Int.reduceAdd, Int.reduceSub, Int.reduceMul, Int.reduceToNat, Int.reduceNeg, Nat.reduceEqDiff, Nat.reduceLeDiff, Nat.reduceSub, Nat.reduceMul, Nat.reduceLT, Nat.reduceBEq, Nat.reduceAdd]
    rfl
   intro (i : Nat) (hi : i ≤ ([] : List ByteArray).length ∧ (([] : List ByteArray).take i).all keyOk = true)
   simp (maxSteps:=9^9) only [L18_I, C39, go_sem, Int.reduceLT, Int.reduceLE, Int.reduceEq, Int.reduceNe, Int.reduceAdd, Int.reduceSub, Int.reduceMul, Int.reduceToNat, Int.reduceNeg, Nat.reduceEqDiff, Nat.reduceLeDiff, Nat.reduceSub, Nat.reduceMul, Nat.reduceLT, Nat.reduceBEq, Nat.reduceAdd]
   rintro c rfl
   refine sw_intro (fun hc => ?_) (fun hc => ?_) <;> simp only [decide_eq_true_eq, decide_eq_false_iff_not] at hc
   ·exact absurd hc (by omega)
   have e : ([] : List ByteArray).length ≤ i := by first | omega | (simp only [List.length_nil] at hc ⊢; omega)
   have hk := hi.2
   rw [List.take_of_length_le e] at hk
   rintro _ _ m rfl
   refine loop_intro (A := M18 .nils (.sl q 16 EvT code) ([] : List ByteArray).length (code : List EvT.den)) (0 : Nat) ?_ ⟨Nat.zero_le _, rfl⟩ ?_
   ·simp (maxSteps:=9^9) only [M18_I, go_sem, Int.reduceLT, Int.reduceLE, Int.reduceEq, Int.reduceNe, Int.reduceAdd, Int.reduceSub, Int.reduceMul, Int.reduceToNat, Int.reduceNeg, Nat.reduceEqDiff, Nat.reduceLeDiff, Nat.reduceSub, Nat.reduceMul, Nat.reduceLT, Nat.reduceBEq, Nat.reduceAdd]
    rfl
   intro (j : Nat) (hj : j ≤ (code : List EvT.den).length ∧ ((code : List EvT.den).take j).all (insOk ([] : List ByteArray).length (code : List EvT.den).length) = true)
   simp (maxSteps:=9^9) only [M18_I, C36, go_sem, Int.reduceLT, Int.reduceLE, Int.reduceEq, Int.reduceNe, Int.reduceAdd, Int.reduceSub, Int.reduceMul, Int.reduceToNat, Int.reduceNeg, Nat.reduceEqDiff, Nat.reduceLeDiff, Nat.reduceSub, Nat.reduceMul, Nat.reduceLT, Nat.reduceBEq, Nat.reduceAdd]
   rintro c rfl
   refine sw_intro (fun hd => ?_) (fun hd => ?_) <;> simp only [decide_eq_true_eq, decide_eq_false_iff_not] at hd
   ·refine nd_intro hd ?_
    have hb : ¬ insOk ([] : List ByteArray).length code.length (elt EvT code j) = true → K (.bool false) [] := fun hn => hf (fun hh => hn (List.all_eq_true.1 hh.2.2 _ (List.mem_of_getElem? (elt_get hd))))
    have hnx : ∀ (r : List SB) (K0 : Nat → Nat), insOk ([] : List ByteArray).length code.length (elt EvT code j) = true → ∀ m, m = IntKind.i64.wrap ((j : Int) + 1) → lpE (M18 .nils (.sl q 16 EvT code) (([] : List ByteArray)).length code) 0 [1, 34, 35] (0 : Nat) j { fr := [(1, .ptr 0 0), (34, .int .i64 code.length), (35, .int .i64 m)], hp := .struct [.nils, (.sl q 16 EvT code)] :: r } := fun r _ hk2 m hm => by
     rw [w64 (by omega)] at hm
     subst hm
     refine lpE_intro (A := M18 .nils (.sl q 16 EvT code) (([] : List ByteArray)).length code) (j + 1) (by simp (maxSteps:=9^9) only [M18_I, go_sem, Int.reduceLT, Int.reduceLE, Int.reduceEq, Int.reduceNe, Int.reduceAdd, Int.reduceSub, Int.reduceMul, Int.reduceToNat, Int.reduceNeg, Nat.reduceEqDiff, Nat.reduceLeDiff, Nat.reduceSub, Nat.reduceMul, Nat.reduceLT, Nat.reduceBEq, Nat.reduceAdd]; rfl) ⟨by omega, ?_⟩ (by show code.length - (j + 1) < code.length - j; omega)
     have e3 := take_elt (t := EvT) hd
     show List.all (List.take (j + 1) (code : List EvT.den)) _ = true
     rw [← e3, List.all_append, hj.2]
     simpa using hk2
    rw [insOk_iff] at hb hnx
    refine ⟨fun ho => ?_, fun ho => ?_⟩
    ·intros
     exact hb (fun hh => ho hh.1)
    rintro _ _ m rfl _ _ m1 hm1
    rw [w64 (by omega)] at hm1
    replace hm1 : m1 = ((([] : List ByteArray).length : Nat) : Int) - 1 := hm1
    obtain ⟨hw, ho5⟩ := opK_cases ho
    refine nd_intro (by omega) (nd_intro (by omega) ?_)
    rintro c rfl
    refine sw_intro (fun c3 => absurd (of_decide_eq_true c3) hw) (fun c3 => ?_)
    rintro c rfl
    refine sw_intro (fun he => ?_) (fun he => ?_) <;> simp only [Bool.not_eq_true', Bool.not_eq_false', decide_eq_true_eq, decide_eq_false_iff_not] at he
    ·refine nd_intro hd ?_
     rintro c rfl
     refine sw_intro (fun hl => ?_) (fun hl => ?_) <;> simp only [decide_eq_true_eq, decide_eq_false_iff_not] at hl
     ·exact hb (fun hh => hh.2.elim he (fun h2 => absurd h2.1 (Int.not_le.2 hl)))
     refine nd_intro hd ?_
     rw [opK_most (n := ([] : List ByteArray).length) (c := code.length) ho he hm1]
     rintro c rfl
     refine sw_intro (fun hg => ?_) (fun hg => ?_) <;> simp only [decide_eq_true_eq, decide_eq_false_iff_not] at hg
     ·exact hb (fun hh => hh.2.elim he (fun h2 => bel_of hg h2.2))
     intro _ _ m hm
     exact hnx _ id ⟨ho, .inr ⟨Int.not_lt.1 hl, bel_not hg⟩⟩ m hm
    ·intro _ _ m hm
     exact hnx _ id ⟨ho, .inl he⟩ m hm
   have e2 : (code : List EvT.den).length ≤ j := by first | omega | (simp only [List.length_nil] at hd ⊢; omega)
   rw [List.take_of_length_le e2] at hj
   rw [show formP ([] : List ByteArray) (code : List EvT.den) = true from formP_iff.2 ⟨⟨by first | omega | (simp only [List.length_nil] at c1 ⊢; omega), by first | omega | (simp only [List.length_nil] at c2 ⊢; omega)⟩, hk, hj.2⟩] at h
   exact h
  ·refine ⟨by simp, [(1, L18 (.sl p 16 .str names) .nils names), (2, M18 (.sl p 16 .str names) .nils (names : List ByteArray).length ([] : List EvT.den))], ?_⟩
   simp (maxSteps:=9^9) only [a18, r18, go_sem, Int.reduceLT, Int.reduceLE, Int.reduceEq, Int.reduceNe, Int.reduceAdd, Int.reduceSub, Int.reduceMul, Int.reduceToNat, Int.reduceNeg, Nat.reduceEqDiff, Nat.reduceLeDiff, Nat.reduceSub, Nat.reduceMul, Nat.reduceLT, Nat.reduceBEq, Nat.reduceAdd]
   have hf : ¬ (((names : List ByteArray).length ≤ 8 ∧ ([] : List EvT.den).length ≤ 200) ∧ (names : List ByteArray).all keyOk = true ∧ ([] : List EvT.den).all (insOk (names : List ByteArray).length ([] : List EvT.den).length) = true) → K (.bool false) [] := fun hh => by rw [← formP_iff, Bool.not_eq_true] at hh; rw [hh] at h; exact h
   rintro hn1 hn2 m rfl c rfl
   refine sw_intro (fun c1 => ?_) (fun c1 => ?_) <;> simp only [decide_eq_true_eq, decide_eq_false_iff_not] at c1
   ·exact hf (fun hh => by have := hh.1.1; omega)
   have c2 : ¬ (200 : Int) < (([] : List EvT.den).length : Nat) := by simp only [List.length_nil]; omega
   rintro _ _ m rfl
   refine loop_intro (A := L18 (.sl p 16 .str names) .nils names) (0 : Nat) ?_ ⟨Nat.zero_le _, rfl⟩ ?_
   ·simp (maxSteps:=9^9) only [L18_I, go_sem, Int.reduceLT, Int.reduceLE, Int.reduceEq, Int.reduceNe, Int.reduceAdd, Int.reduceSub, Int.reduceMul, Int.reduceToNat, Int.reduceNeg, Nat.reduceEqDiff, Nat.reduceLeDiff, Nat.reduceSub, Nat.reduceMul, Nat.reduceLT, Nat.reduceBEq, Nat.reduceAdd]
    rfl
   intro (i : Nat) (hi : i ≤ (names : List ByteArray).length ∧ ((names : List ByteArray).take i).all keyOk = true)
   simp (maxSteps:=9^9) only [L18_I, C39, go_sem, Int.reduceLT, Int.reduceLE, Int.reduceEq, Int.reduceNe, Int.reduceAdd, Int.reduceSub, Int.reduceMul, Int.reduceToNat, Int.reduceNeg, Nat.reduceEqDiff, Nat.reduceLeDiff, Nat.reduceSub, Nat.reduceMul, Nat.reduceLT, Nat.reduceBEq, Nat.reduceAdd]
   rintro c rfl
   refine sw_intro (fun hc => ?_) (fun hc => ?_) <;> simp only [decide_eq_true_eq, decide_eq_false_iff_not] at hc
   ·refine nd_intro hc (sw_intro (fun hk => ?_) (fun hk => ?_))
    case refine_2 =>
     refine hf (fun hh => ?_)
     have hm := List.all_eq_true.1 hh.2.1 (elt .str names i) (List.mem_of_getElem? (elt_get hc))
     rw [hm] at hk
     simp at hk
    rintro _ _ m hm
    rw [w64 (by omega)] at hm
    subst hm
    refine lpE_intro (A := L18 (.sl p 16 .str names) .nils names) (i + 1) (by simp (maxSteps:=9^9) only [L18_I, go_sem, Int.reduceLT, Int.reduceLE, Int.reduceEq, Int.reduceNe, Int.reduceAdd, Int.reduceSub, Int.reduceMul, Int.reduceToNat, Int.reduceNeg, Nat.reduceEqDiff, Nat.reduceLeDiff, Nat.reduceSub, Nat.reduceMul, Nat.reduceLT, Nat.reduceBEq, Nat.reduceAdd]; rfl) ⟨by omega, ?_⟩ (by show (names : List ByteArray).length - (i + 1) < (names : List ByteArray).length - i; omega)
    have e3 := take_elt (t := .str) hc
    show List.all (List.take (i + 1) (names : List ByteArray)) _ = true
    rw [← e3, List.all_append, hi.2]
    simpa using hk
   have e : (names : List ByteArray).length ≤ i := by first | omega | (simp only [List.length_nil] at hc ⊢; omega)
   have hk := hi.2
   rw [List.take_of_length_le e] at hk
   refine loop_intro (A := M18 (.sl p 16 .str names) .nils (names : List ByteArray).length ([] : List EvT.den)) (0 : Nat) ?_ ⟨Nat.zero_le _, rfl⟩ ?_
   ·simp (maxSteps:=9^9) only [M18_I, go_sem, Int.reduceLT, Int.reduceLE, Int.reduceEq, Int.reduceNe, Int.reduceAdd, Int.reduceSub, Int.reduceMul, Int.reduceToNat, Int.reduceNeg, Nat.reduceEqDiff, Nat.reduceLeDiff, Nat.reduceSub, Nat.reduceMul, Nat.reduceLT, Nat.reduceBEq, Nat.reduceAdd]
    rfl
   intro (j : Nat) (hj : j ≤ ([] : List EvT.den).length ∧ (([] : List EvT.den).take j).all (insOk (names : List ByteArray).length ([] : List EvT.den).length) = true)
   simp (maxSteps:=9^9) only [M18_I, C36, go_sem, Int.reduceLT, Int.reduceLE, Int.reduceEq, Int.reduceNe, Int.reduceAdd, Int.reduceSub, Int.reduceMul, Int.reduceToNat, Int.reduceNeg, Nat.reduceEqDiff, Nat.reduceLeDiff, Nat.reduceSub, Nat.reduceMul, Nat.reduceLT, Nat.reduceBEq, Nat.reduceAdd]
   rintro c rfl
   refine sw_intro (fun hd => ?_) (fun hd => ?_) <;> simp only [decide_eq_true_eq, decide_eq_false_iff_not] at hd
   ·exact absurd hd (by omega)
   have e2 : ([] : List EvT.den).length ≤ j := by first | omega | (simp only [List.length_nil] at hd ⊢; omega)
   rw [List.take_of_length_le e2] at hj
   rw [show formP names ([] : List EvT.den) = true from formP_iff.2 ⟨⟨by first | omega | (simp only [List.length_nil] at c1 ⊢; omega), by first | omega | (simp only [List.length_nil] at c2 ⊢; omega)⟩, hk, hj.2⟩] at h
   exact h
  ·refine ⟨by simp, [(1, L18 (.sl p 16 .str names) (.sl q 16 EvT code) names), (2, M18 (.sl p 16 .str names) (.sl q 16 EvT code) (names : List ByteArray).length (code : List EvT.den))], ?_⟩
   simp (maxSteps:=9^9) only [a18, r18, go_sem, Int.reduceLT, Int.reduceLE, Int.reduceEq, Int.reduceNe, Int.reduceAdd, Int.reduceSub, Int.reduceMul, Int.reduceToNat, Int.reduceNeg, Nat.reduceEqDiff, Nat.reduceLeDiff, Nat.reduceSub, Nat.reduceMul, Nat.reduceLT, Nat.reduceBEq, Nat.reduceAdd]
   have hf : ¬ (((names : List ByteArray).length ≤ 8 ∧ (code : List EvT.den).length ≤ 200) ∧ (names : List ByteArray).all keyOk = true ∧ (code : List EvT.den).all (insOk (names : List ByteArray).length (code : List EvT.den).length) = true) → K (.bool false) [] := fun hh => by rw [← formP_iff, Bool.not_eq_true] at hh; rw [hh] at h; exact h
   rintro hn1 hn2 m rfl c rfl
   refine sw_intro (fun c1 => ?_) (fun c1 => ?_) <;> simp only [decide_eq_true_eq, decide_eq_false_iff_not] at c1
   ·exact hf (fun hh => by have := hh.1.1; omega)
   rintro hc1 hc2 m rfl c rfl
   refine sw_intro (fun c2 => ?_) (fun c2 => ?_) <;> simp only [decide_eq_true_eq, decide_eq_false_iff_not] at c2
   ·exact hf (fun hh => by have := hh.1.2; omega)
   rintro _ _ m rfl
   refine loop_intro (A := L18 (.sl p 16 .str names) (.sl q 16 EvT code) names) (0 : Nat) ?_ ⟨Nat.zero_le _, rfl⟩ ?_
   ·simp (maxSteps:=9^9) only [L18_I, go_sem, Int.reduceLT, Int.reduceLE, Int.reduceEq, Int.reduceNe, Int.reduceAdd, Int.reduceSub, Int.reduceMul, Int.reduceToNat, Int.reduceNeg, Nat.reduceEqDiff, Nat.reduceLeDiff, Nat.reduceSub, Nat.reduceMul, Nat.reduceLT, Nat.reduceBEq, Nat.reduceAdd]
    rfl
   intro (i : Nat) (hi : i ≤ (names : List ByteArray).length ∧ ((names : List ByteArray).take i).all keyOk = true)
   simp (maxSteps:=9^9) only [L18_I, C39, go_sem, Int.reduceLT, Int.reduceLE, Int.reduceEq, Int.reduceNe, Int.reduceAdd, Int.reduceSub, Int.reduceMul, Int.reduceToNat, Int.reduceNeg, Nat.reduceEqDiff, Nat.reduceLeDiff, Nat.reduceSub, Nat.reduceMul, Nat.reduceLT, Nat.reduceBEq, Nat.reduceAdd]
   rintro c rfl
   refine sw_intro (fun hc => ?_) (fun hc => ?_) <;> simp only [decide_eq_true_eq, decide_eq_false_iff_not] at hc
   ·refine nd_intro hc (sw_intro (fun hk => ?_) (fun hk => ?_))
    case refine_2 =>
     refine hf (fun hh => ?_)
     have hm := List.all_eq_true.1 hh.2.1 (elt .str names i) (List.mem_of_getElem? (elt_get hc))
     rw [hm] at hk
     simp at hk
    rintro _ _ m hm
    rw [w64 (by omega)] at hm
    subst hm
    refine lpE_intro (A := L18 (.sl p 16 .str names) (.sl q 16 EvT code) names) (i + 1) (by simp (maxSteps:=9^9) only [L18_I, go_sem, Int.reduceLT, Int.reduceLE, Int.reduceEq, Int.reduceNe, Int.reduceAdd, Int.reduceSub, Int.reduceMul, Int.reduceToNat, Int.reduceNeg, Nat.reduceEqDiff, Nat.reduceLeDiff, Nat.reduceSub, Nat.reduceMul, Nat.reduceLT, Nat.reduceBEq, Nat.reduceAdd]; rfl) ⟨by omega, ?_⟩ (by show (names : List ByteArray).length - (i + 1) < (names : List ByteArray).length - i; omega)
    have e3 := take_elt (t := .str) hc
    show List.all (List.take (i + 1) (names : List ByteArray)) _ = true
    rw [← e3, List.all_append, hi.2]
    simpa using hk
   have e : (names : List ByteArray).length ≤ i := by first | omega | (simp only [List.length_nil] at hc ⊢; omega)
   have hk := hi.2
   rw [List.take_of_length_le e] at hk
   rintro _ _ m rfl
   refine loop_intro (A := M18 (.sl p 16 .str names) (.sl q 16 EvT code) (names : List ByteArray).length (code : List EvT.den)) (0 : Nat) ?_ ⟨Nat.zero_le _, rfl⟩ ?_
   ·simp (maxSteps:=9^9) only [M18_I, go_sem, Int.reduceLT, Int.reduceLE, Int.reduceEq, Int.reduceNe, Int.reduceAdd, Int.reduceSub, Int.reduceMul, Int.reduceToNat, Int.reduceNeg, Nat.reduceEqDiff, Nat.reduceLeDiff, Nat.reduceSub, Nat.reduceMul, Nat.reduceLT, Nat.reduceBEq, Nat.reduceAdd]
    rfl
   intro (j : Nat) (hj : j ≤ (code : List EvT.den).length ∧ ((code : List EvT.den).take j).all (insOk (names : List ByteArray).length (code : List EvT.den).length) = true)
   simp (maxSteps:=9^9) only [M18_I, C36, go_sem, Int.reduceLT, Int.reduceLE, Int.reduceEq, Int.reduceNe, Int.reduceAdd, Int.reduceSub, Int.reduceMul, Int.reduceToNat, Int.reduceNeg, Nat.reduceEqDiff, Nat.reduceLeDiff, Nat.reduceSub, Nat.reduceMul, Nat.reduceLT, Nat.reduceBEq, Nat.reduceAdd]
   rintro c rfl
   refine sw_intro (fun hd => ?_) (fun hd => ?_) <;> simp only [decide_eq_true_eq, decide_eq_false_iff_not] at hd
   ·refine nd_intro hd ?_
    have hb : ¬ insOk (names : List ByteArray).length code.length (elt EvT code j) = true → K (.bool false) [] := fun hn => hf (fun hh => hn (List.all_eq_true.1 hh.2.2 _ (List.mem_of_getElem? (elt_get hd))))
    have hnx : ∀ (r : List SB) (K0 : Nat → Nat), insOk (names : List ByteArray).length code.length (elt EvT code j) = true → ∀ m, m = IntKind.i64.wrap ((j : Int) + 1) → lpE (M18 (.sl p 16 .str names) (.sl q 16 EvT code) ((names : List ByteArray)).length code) 0 [1, 34, 35] (0 : Nat) j { fr := [(1, .ptr 0 0), (34, .int .i64 code.length), (35, .int .i64 m)], hp := .struct [(.sl p 16 .str names), (.sl q 16 EvT code)] :: r } := fun r _ hk2 m hm => by
     rw [w64 (by omega)] at hm
     subst hm
     refine lpE_intro (A := M18 (.sl p 16 .str names) (.sl q 16 EvT code) ((names : List ByteArray)).length code) (j + 1) (by simp (maxSteps:=9^9) only [M18_I, go_sem, Int.reduceLT, Int.reduceLE, Int.reduceEq, Int.reduceNe, Int.reduceAdd, Int.reduceSub, Int.reduceMul, Int.reduceToNat, Int.reduceNeg, Nat.reduceEqDiff, Nat.reduceLeDiff, Nat.reduceSub, Nat.reduceMul, Nat.reduceLT, Nat.reduceBEq, Nat.reduceAdd]; rfl) ⟨by omega, ?_⟩ (by show code.length - (j + 1) < code.length - j; omega)
     have e3 := take_elt (t := EvT) hd
     show List.all (List.take (j + 1) (code : List EvT.den)) _ = true
     rw [← e3, List.all_append, hj.2]
     simpa using hk2
    rw [insOk_iff] at hb hnx
    refine ⟨fun ho => ?_, fun ho => ?_⟩
    ·intros
     exact hb (fun hh => ho hh.1)
    rintro _ _ m rfl _ _ m2 rfl _ _ m1 hm1
    rw [w64 (by omega)] at hm1
    obtain ⟨hw, ho5⟩ := opK_cases ho
    refine nd_intro (by omega) (nd_intro (by omega) ?_)
    rintro c rfl
    refine sw_intro (fun c3 => absurd (of_decide_eq_true c3) hw) (fun c3 => ?_)
    rintro c rfl
    refine sw_intro (fun he => ?_) (fun he => ?_) <;> simp only [Bool.not_eq_true', Bool.not_eq_false', decide_eq_true_eq, decide_eq_false_iff_not] at he
    ·refine nd_intro hd ?_
     rintro c rfl
     refine sw_intro (fun hl => ?_) (fun hl => ?_) <;> simp only [decide_eq_true_eq, decide_eq_false_iff_not] at hl
     ·exact hb (fun hh => hh.2.elim he (fun h2 => absurd h2.1 (Int.not_le.2 hl)))
     refine nd_intro hd ?_
     rw [opK_most (n := (names : List ByteArray).length) (c := code.length) ho he hm1]
     rintro c rfl
     refine sw_intro (fun hg => ?_) (fun hg => ?_) <;> simp only [decide_eq_true_eq, decide_eq_false_iff_not] at hg
     ·exact hb (fun hh => hh.2.elim he (fun h2 => bel_of hg h2.2))
     intro _ _ m hm
     exact hnx _ id ⟨ho, .inr ⟨Int.not_lt.1 hl, bel_not hg⟩⟩ m hm
    ·intro _ _ m hm
     exact hnx _ id ⟨ho, .inl he⟩ m hm
   have e2 : (code : List EvT.den).length ≤ j := by first | omega | (simp only [List.length_nil] at hd ⊢; omega)
   rw [List.take_of_length_le e2] at hj
   rw [show formP names (code : List EvT.den) = true from formP_iff.2 ⟨⟨by first | omega | (simp only [List.length_nil] at c1 ⊢; omega), by first | omega | (simp only [List.length_nil] at c2 ⊢; omega)⟩, hk, hj.2⟩] at h
   exact h
 ·exact h.elim
end Go.V
namespace Go.V
open Go.Proofs
set_option maxRecDepth 100000
set_option maxHeartbeats 8000000
set_option linter.unusedSimpArgs false
set_option linter.unnecessarySimpa false
set_option linter.unusedVariables false
def C15 : Contract := fun args hp K => match args, hp with
 | [.agg [x, y]], [] => onL .str 16 x fun names => onL EvT 16 y fun code => names.length ≤ 100000 ∧ (code : List EvT.den).length ≤ 100000 ∧ K (.agg [.sl true 16 .str names, .sl true 16 EvT code]) []
 | _, _ => False
def L15 (x y : SV) (names : List ByteArray) (code : List EvT.den) : LoopAnn := { G := Nat, I := fun i => ⟨[(1, .ptr 0 0), (2, .ptr 1 0), (3, .ptr 4 0), (12, .int .i64 code.length), (13, .int .i64 i)], [.struct [x, y], .struct [.own 2, .own 3], .row true 16 .str [], .row true 16 EvT [], .struct [.own 5, .own 6], .row true 16 .str names, .row true 16 EvT (code.take i)]⟩, R := fun _ i => i ≤ code.length, μ := fun i => code.length - i }
theorem L15_I {x y names code} (i : Nat) : (L15 x y names code).I i = ⟨[(1, .ptr 0 0), (2, .ptr 1 0), (3, .ptr 4 0), (12, .int .i64 code.length), (13, .int .i64 i)], [.struct [x, y], .struct [.own 2, .own 3], .row true 16 .str [], .row true 16 EvT [], .struct [.own 5, .own 6], .row true 16 .str names, .row true 16 EvT (code.take i)]⟩ := rfl
theorem s15 : Sound Tryd.prog 15 C15 := by
 refine sound_of_okF ok15 .nil ?_
 intro args hp K h
 unfold C15 at h
 split at h
 ·rename_i x y
  have hmx := maxLen_val
  rcases h with ⟨rfl, ⟨rfl, hn, hc, h⟩ | ⟨q, code, rfl, hn, hc, h⟩⟩ | ⟨p, names, rfl, ⟨rfl, hn, hc, h⟩ | ⟨q, code, rfl, hn, hc, h⟩⟩
  ·refine ⟨by simp, [(1, L15 .nils .nils ([] : List ByteArray) ([] : List EvT.den))], ?_⟩
   simp (maxSteps:=9^9) only [a15, r15, go_sem, Int.reduceLT, Int.reduceLE, Int.reduceEq, Int.reduceNe, Int.reduceAdd, Int.reduceSub, Int.reduceMul, Int.reduceToNat, Int.reduceNeg, Nat.reduceEqDiff, Nat.reduceLeDiff, Nat.reduceSub, Nat.reduceMul, Nat.reduceLT, Nat.reduceBEq, Nat.reduceAdd]
   refine loop_intro (A := L15 .nils .nils ([] : List ByteArray) ([] : List EvT.den)) (0 : Nat) ?_ (Nat.zero_le _) ?_
   ·simp (maxSteps:=9^9) only [L15_I, go_sem, Int.reduceLT, Int.reduceLE, Int.reduceEq, Int.reduceNe, Int.reduceAdd, Int.reduceSub, Int.reduceMul, Int.reduceToNat, Int.reduceNeg, Nat.reduceEqDiff, Nat.reduceLeDiff, Nat.reduceSub, Nat.reduceMul, Nat.reduceLT, Nat.reduceBEq, Nat.reduceAdd]
    rfl
   ·intro (i : Nat) (hi : i ≤ ([] : List EvT.den).length)
    simp (maxSteps:=9^9) only [L15_I, go_sem, Int.reduceLT, Int.reduceLE, Int.reduceEq, Int.reduceNe, Int.reduceAdd, Int.reduceSub, Int.reduceMul, Int.reduceToNat, Int.reduceNeg, Nat.reduceEqDiff, Nat.reduceLeDiff, Nat.reduceSub, Nat.reduceMul, Nat.reduceLT, Nat.reduceBEq, Nat.reduceAdd]
    rintro c rfl
    refine sw_intro (fun hc => ?_) (fun hc => ?_) <;> simp only [decide_eq_true_eq, decide_eq_false_iff_not] at hc
    ·exact absurd hc (by omega)
    ·rw [List.take_nil]
     exact h
  ·refine ⟨by simp, [(1, L15 .nils (.sl q 16 EvT code) ([] : List ByteArray) (code : List EvT.den))], ?_⟩
   simp (maxSteps:=9^9) only [a15, r15, go_sem, Int.reduceLT, Int.reduceLE, Int.reduceEq, Int.reduceNe, Int.reduceAdd, Int.reduceSub, Int.reduceMul, Int.reduceToNat, Int.reduceNeg, Nat.reduceEqDiff, Nat.reduceLeDiff, Nat.reduceSub, Nat.reduceMul, Nat.reduceLT, Nat.reduceBEq, Nat.reduceAdd]
   rintro _ _ m rfl
   refine loop_intro (A := L15 .nils (.sl q 16 EvT code) ([] : List ByteArray) (code : List EvT.den)) (0 : Nat) ?_ (Nat.zero_le _) ?_
   ·simp (maxSteps:=9^9) only [L15_I, go_sem, Int.reduceLT, Int.reduceLE, Int.reduceEq, Int.reduceNe, Int.reduceAdd, Int.reduceSub, Int.reduceMul, Int.reduceToNat, Int.reduceNeg, Nat.reduceEqDiff, Nat.reduceLeDiff, Nat.reduceSub, Nat.reduceMul, Nat.reduceLT, Nat.reduceBEq, Nat.reduceAdd]
    rfl
   ·intro (i : Nat) (hi : i ≤ (code : List EvT.den).length)
    simp (maxSteps:=9^9) only [L15_I, go_sem, Int.reduceLT, Int.reduceLE, Int.reduceEq, Int.reduceNe, Int.reduceAdd, Int.reduceSub, Int.reduceMul, Int.reduceToNat, Int.reduceNeg, Nat.reduceEqDiff, Nat.reduceLeDiff, Nat.reduceSub, Nat.reduceMul, Nat.reduceLT, Nat.reduceBEq, Nat.reduceAdd]
    rintro c rfl
    refine sw_intro (fun hc => ?_) (fun hc => ?_) <;> simp only [decide_eq_true_eq, decide_eq_false_iff_not] at hc
    ·refine nd_intro hc ⟨fun h9 => by rw [List.length_take]; omega, fun h9 => ?_⟩
     rintro _ _ m hm
     rw [w64 (by omega)] at hm
     subst hm
     refine lpE_intro (A := L15 .nils (.sl q 16 EvT code) ([] : List ByteArray) (code : List EvT.den)) (i + 1 : Nat) ?_ (by show i + 1 ≤ code.length; omega) (by show code.length - (i + 1) < code.length - i; omega)
     have e := take_elt (t := EvT) hc
     simp (maxSteps:=9^9) only [L15_I, ← e, go_sem, Int.reduceLT, Int.reduceLE, Int.reduceEq, Int.reduceNe, Int.reduceAdd, Int.reduceSub, Int.reduceMul, Int.reduceToNat, Int.reduceNeg, Nat.reduceEqDiff, Nat.reduceLeDiff, Nat.reduceSub, Nat.reduceMul, Nat.reduceLT, Nat.reduceBEq, Nat.reduceAdd]
     rfl
    ·rw [List.take_of_length_le (by omega)]
     exact h
  ·refine ⟨by simp, [(1, L15 (.sl p 16 .str names) .nils (names : List ByteArray) ([] : List EvT.den))], ?_⟩
   simp (maxSteps:=9^9) only [a15, r15, go_sem, Int.reduceLT, Int.reduceLE, Int.reduceEq, Int.reduceNe, Int.reduceAdd, Int.reduceSub, Int.reduceMul, Int.reduceToNat, Int.reduceNeg, Nat.reduceEqDiff, Nat.reduceLeDiff, Nat.reduceSub, Nat.reduceMul, Nat.reduceLT, Nat.reduceBEq, Nat.reduceAdd]
   refine ⟨fun h9 => h9, fun hl => ?_⟩
   refine loop_intro (A := L15 (.sl p 16 .str names) .nils (names : List ByteArray) ([] : List EvT.den)) (0 : Nat) ?_ (Nat.zero_le _) ?_
   ·simp (maxSteps:=9^9) only [L15_I, go_sem, Int.reduceLT, Int.reduceLE, Int.reduceEq, Int.reduceNe, Int.reduceAdd, Int.reduceSub, Int.reduceMul, Int.reduceToNat, Int.reduceNeg, Nat.reduceEqDiff, Nat.reduceLeDiff, Nat.reduceSub, Nat.reduceMul, Nat.reduceLT, Nat.reduceBEq, Nat.reduceAdd]
    rfl
   ·intro (i : Nat) (hi : i ≤ ([] : List EvT.den).length)
    simp (maxSteps:=9^9) only [L15_I, go_sem, Int.reduceLT, Int.reduceLE, Int.reduceEq, Int.reduceNe, Int.reduceAdd, Int.reduceSub, Int.reduceMul, Int.reduceToNat, Int.reduceNeg, Nat.reduceEqDiff, Nat.reduceLeDiff, Nat.reduceSub, Nat.reduceMul, Nat.reduceLT, Nat.reduceBEq, Nat.reduceAdd]
    rintro c rfl
    refine sw_intro (fun hc => ?_) (fun hc => ?_) <;> simp only [decide_eq_true_eq, decide_eq_false_iff_not] at hc
    ·exact absurd hc (by omega)
    ·rw [List.take_nil]
     exact h
  ·refine ⟨by simp, [(1, L15 (.sl p 16 .str names) (.sl q 16 EvT code) (names : List ByteArray) (code : List EvT.den))], ?_⟩
   simp (maxSteps:=9^9) only [a15, r15, go_sem, Int.reduceLT, Int.reduceLE, Int.reduceEq, Int.reduceNe, Int.reduceAdd, Int.reduceSub, Int.reduceMul, Int.reduceToNat, Int.reduceNeg, Nat.reduceEqDiff, Nat.reduceLeDiff, Nat.reduceSub, Nat.reduceMul, Nat.reduceLT, Nat.reduceBEq, Nat.reduceAdd]
   refine ⟨fun h9 => h9, fun hl => ?_⟩
   rintro _ _ m rfl
   refine loop_intro (A := L15 (.sl p 16 .str names) (.sl q 16 EvT code) (names : List ByteArray) (code : List EvT.den)) (0 : Nat) ?_ (Nat.zero_le _) ?_
   ·simp (maxSteps:=9^9) only [L15_I, go_sem, Int.reduceLT, Int.reduceLE, Int.reduceEq, Int.reduceNe, Int.reduceAdd, Int.reduceSub, Int.reduceMul, Int.reduceToNat, Int.reduceNeg, Nat.reduceEqDiff, Nat.reduceLeDiff, Nat.reduceSub, Nat.reduceMul, Nat.reduceLT, Nat.reduceBEq, Nat.reduceAdd]
    rfl
   ·intro (i : Nat) (hi : i ≤ (code : List EvT.den).length)
    simp (maxSteps:=9^9) only [L15_I, go_sem, Int.reduceLT, Int.reduceLE, Int.reduceEq, Int.reduceNe, Int.reduceAdd, Int.reduceSub, Int.reduceMul, Int.reduceToNat, Int.reduceNeg, Nat.reduceEqDiff, Nat.reduceLeDiff, Nat.reduceSub, Nat.reduceMul, Nat.reduceLT, Nat.reduceBEq, Nat.reduceAdd]
    rintro c rfl
    refine sw_intro (fun hc => ?_) (fun hc => ?_) <;> simp only [decide_eq_true_eq, decide_eq_false_iff_not] at hc
    ·refine nd_intro hc ⟨fun h9 => by rw [List.length_take]; omega, fun h9 => ?_⟩
     rintro _ _ m hm
     rw [w64 (by omega)] at hm
     subst hm
     refine lpE_intro (A := L15 (.sl p 16 .str names) (.sl q 16 EvT code) (names : List ByteArray) (code : List EvT.den)) (i + 1 : Nat) ?_ (by show i + 1 ≤ code.length; omega) (by show code.length - (i + 1) < code.length - i; omega)
     have e := take_elt (t := EvT) hc
     simp (maxSteps:=9^9) only [L15_I, ← e, go_sem, Int.reduceLT, Int.reduceLE, Int.reduceEq, Int.reduceNe, Int.reduceAdd, Int.reduceSub, Int.reduceMul, Int.reduceToNat, Int.reduceNeg, Nat.reduceEqDiff, Nat.reduceLeDiff, Nat.reduceSub, Nat.reduceMul, Nat.reduceLT, Nat.reduceBEq, Nat.reduceAdd]
     rfl
    ·rw [List.take_of_length_le (by omega)]
     exact h
 ·exact h.elim
end Go.V
namespace Go.V
set_option linter.unusedSimpArgs false
set_option linter.unnecessarySimpa false
set_option linter.unusedVariables false
theorem index_one (c : UInt8) : ∀ l : List UInt8, Go.Lib.index l [c] = if l.contains c then ((l.takeWhile (· != c)).length : Int) else -1
 | [] => by simp [Go.Lib.index]
 | b :: l => by
  have ih := index_one c l
  simp only [Go.Lib.index, List.isPrefixOf, Bool.and_true]
  by_cases h : c = b
  ·subst h
   simp [List.takeWhile_cons]
  ·have h1 : (c == b) = false := by simpa using h
   have h2 : (b != c) = true := by simpa using fun e => h e.symm
   have h3 : (b == c) = false := by simpa using fun e => h e.symm
   rw [h1, ih]
   simp only [Bool.false_eq_true, if_false, List.contains_cons, h1, Bool.false_or, List.takeWhile_cons, h2, if_true, List.length_cons]
   cases hc : l.contains c
   ·simp
   ·have : ¬ (((l.takeWhile (· != c)).length : Int) = -1) := by omega
    simp [this]
theorem cut_one (c : UInt8) (l : List UInt8) : Go.Lib.cut l [c] = (l.takeWhile (· != c), (l.dropWhile (· != c)).drop 1, l.contains c) := by
 unfold Go.Lib.cut
 rw [index_one]
 cases hc : l.contains c
 ·simp only [Bool.false_eq_true, if_false]
  have h1 : l.takeWhile (· != c) = l := by
   have hn : c ∉ l := by simpa using hc
   clear hc
   induction l with
   | nil => rfl
   | cons x r ih =>
    have hx : (x != c) = true := by simpa using fun e : x = c => hn (by simp [e])
    rw [List.takeWhile_cons, if_pos hx, ih (fun h => hn (List.mem_cons_of_mem _ h))]
  have h2 : l.dropWhile (· != c) = [] := by
   have := List.takeWhile_append_dropWhile (p := (· != c)) (l := l)
   rw [h1] at this
   have := congrArg List.length this
   simp at this
   exact this
  rw [h1, h2]
  simp
 ·simp only [if_true]
  have e : ((l.takeWhile (· != c)).length : Int).toNat = (l.takeWhile (· != c)).length := Int.toNat_natCast _
  rw [if_pos (by omega), e]
  have h3 := List.takeWhile_append_dropWhile (p := (· != c)) (l := l)
  have h45 : ∀ a b : List UInt8, a ++ b = l → l.take a.length = a ∧ l.drop a.length = b := by
   rintro a b rfl
   simp
  obtain ⟨h4, h5⟩ := h45 _ _ h3
  rw [h4, ← List.drop_drop, h5]
  rfl
def linesGo : List UInt8 → List UInt8 → List (List UInt8)
 | [], acc => if acc = [] then [] else [acc]
 | c :: r, acc => if c = 10 then acc :: linesGo r [] else linesGo r (acc ++ [c])
def linesL (l : List UInt8) : List (List UInt8) := linesGo l []
theorem linesGo_eq : ∀ (l acc : List UInt8), linesGo l acc = if acc ++ l = [] then [] else (acc ++ l.takeWhile (· != 10)) :: linesL ((l.dropWhile (· != 10)).drop 1)
 | [], acc => by
  simp only [linesGo, List.append_nil, List.takeWhile_nil, List.dropWhile_nil, List.drop_nil, linesL]
  by_cases h : acc = [] <;> simp [h]
 | c :: r, acc => by
  simp only [linesGo]
  have h0 : acc ++ c :: r ≠ [] := by simp
  rw [if_neg h0]
  by_cases h : c = 10
  ·subst h
   simp [List.takeWhile_cons, List.dropWhile_cons, linesL]
  ·have h1 : (c != 10) = true := by simpa using h
   rw [if_neg h, linesGo_eq r (acc ++ [c])]
   simp [List.takeWhile_cons, List.dropWhile_cons, h1]
theorem linesL_cut {l : List UInt8} (h : l ≠ []) : linesL l = (Go.Lib.cut l [10]).1 :: linesL (Go.Lib.cut l [10]).2.1 := by
 rw [cut_one]
 show linesGo l [] = _
 rw [linesGo_eq, if_neg (by simpa using h)]
 rfl
theorem cut_len {c : UInt8} {l : List UInt8} : (Go.Lib.cut l [c]).1.length ≤ l.length ∧ (Go.Lib.cut l [c]).2.1.length ≤ l.length := by
 rw [cut_one]
 have h3 := congrArg List.length (List.takeWhile_append_dropWhile (p := (· != c)) (l := l))
 simp only [List.length_append, List.length_drop] at h3 ⊢
 omega
theorem cut_lt {c : UInt8} {l : List UInt8} (h : l ≠ []) : (Go.Lib.cut l [c]).2.1.length < l.length := by
 rw [cut_one]
 have h3 := congrArg List.length (List.takeWhile_append_dropWhile (p := (· != c)) (l := l))
 have h4 : 0 < l.length := List.length_pos_iff.2 h
 simp only [List.length_append, List.length_drop] at h3 ⊢
 omega
/-! ### hexadecimal digits -/
def hexT : List UInt8 := [48, 49, 50, 51, 52, 53, 54, 55, 56, 57, 97, 98, 99, 100, 101, 102]
def hexC (c : UInt8) : List UInt8 := [hexT.getD (c.toNat / 16) 0, hexT.getD (c.toNat % 16) 0]
def hexL (l : List UInt8) : List UInt8 := l.flatMap hexC
def digV (c : UInt8) : Option Nat := if 48 ≤ c.toNat ∧ c.toNat ≤ 57 then some (c.toNat - 48) else if 97 ≤ c.toNat ∧ c.toNat ≤ 102 then some (c.toNat - 87) else none
def unhexL : List UInt8 → Option (List UInt8)
 | [] => some []
 | [_] => none
 | a :: b :: r => match digV a, digV b with
  | some x, some y => (unhexL r).map (UInt8.ofNat (16 * x + y) :: ·)
  | _, _ => none
theorem digV_idx : ∀ c : UInt8, Go.Lib.indexByte hexT c = match digV c with | some x => (x : Int) | none => -1 := by
 intro c
 have : ∀ n : Nat, n < 256 → Go.Lib.indexByte hexT (UInt8.ofNat n) = match digV (UInt8.ofNat n) with | some x => (x : Int) | none => -1 := by decide +kernel
 have := this c.toNat (UInt8.toNat_lt c)
 simpa using this
theorem digV_lt {c : UInt8} {x : Nat} (h : digV c = some x) : x < 16 := by
 unfold digV at h
 split at h
 ·cases h; omega
 ·split at h
  ·cases h; omega
  ·cases h
end Go.V
