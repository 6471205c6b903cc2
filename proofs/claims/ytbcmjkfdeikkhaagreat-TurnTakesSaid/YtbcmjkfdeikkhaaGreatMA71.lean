/- A part of the proof layer, or functions of the given program in it: contracts and their proofs. -/
import Derived.Test.YtbcmjkfdeikkhaaGreatMA61
import Derived.Test.YtbcmjkfdeikkhaaGreatA69
namespace Go.V
open Go.Proofs
set_option maxRecDepth 100000
set_option maxHeartbeats 8000000
set_option linter.unusedSimpArgs false
set_option linter.unnecessarySimpa false
set_option linter.unusedVariables false
/-! ### programs: sizes that are looked at, and the other package's -/
def fewP (names : List ByteArray) (code : List EvT.den) : Bool := (decide (names.length ≤ 51) && names.all (fun s => decide (s.size ≤ 1000))) && decide (code.length ≤ 1000)
theorem fewP_iff {names : List ByteArray} {code : List EvT.den} : fewP names code = true ↔ (names.length ≤ 51 ∧ names.all (fun s => decide (s.size ≤ 1000)) = true) ∧ code.length ≤ 1000 := by
 simp [fewP]
def C21 : Contract := fun args hp K => match args, hp with
 | [.agg [x, y]], [] => onL .str 16 x fun names => onL EvT 16 y fun code => K (.bool (fewP names code)) []
 | _, _ => False
def L21 (x y : SV) (names : List ByteArray) : LoopAnn := { G := Nat, I := fun i => ⟨[(1, .ptr 0 0), (6, .int .i64 names.length), (7, .int .i64 i)], [.struct [x, y]]⟩, R := fun _ i => i ≤ names.length ∧ i ≤ 51 ∧ (names.take i).all (fun s => decide (s.size ≤ 1000)) = true, μ := fun i => names.length - i }
theorem L21_I {x y names} (i : Nat) : (L21 x y names).I i = ⟨[(1, .ptr 0 0), (6, .int .i64 names.length), (7, .int .i64 i)], [.struct [x, y]]⟩ := rfl
theorem s21 : Sound Tryz.prog 21 C21 := by
 refine sound_of_okF ok21 .nil ?_
 intro args hp K h
 unfold C21 at h
 split at h
 ·rename_i x y
  have hmx := maxLen_val
  obtain ⟨names, hx, h1⟩ : ∃ names, (x = .nils ∧ names = [] ∨ ∃ p, x = .sl p 16 .str names) ∧ onL EvT 16 y fun code => K (.bool (fewP names code)) [] := by
   rcases h with ⟨hx, h2⟩ | ⟨p, names, hx, h2⟩
   ·exact ⟨[], .inl ⟨hx, rfl⟩, h2⟩
   ·exact ⟨names, .inr ⟨p, hx⟩, h2⟩
  clear h
  obtain ⟨code, hy, h⟩ : ∃ code, (y = .nils ∧ code = [] ∨ ∃ p, y = .sl p 16 EvT code) ∧ K (.bool (fewP names code)) [] := by
   rcases h1 with ⟨hy, h2⟩ | ⟨p, code, hy, h2⟩
   ·exact ⟨[], .inl ⟨hy, rfl⟩, h2⟩
   ·exact ⟨code, .inr ⟨p, hy⟩, h2⟩
  clear h1
  have hf : ¬ ((names.length ≤ 51 ∧ names.all (fun s => decide (s.size ≤ 1000)) = true) ∧ (code : List EvT.den).length ≤ 1000) → K (.bool false) [] := fun hh => by rw [← fewP_iff, Bool.not_eq_true] at hh; rw [hh] at h; exact h
  have hend : ∀ {i : Nat}, i ≤ names.length ∧ i ≤ 51 ∧ (names.take i).all (fun s => decide (s.size ≤ 1000)) = true → ¬ i < names.length → ∀ c, c = decide ((code.length : Int) ≤ 1000) → K (.bool c) [] := by
   intro i hi hc c hcc
   have e : i = names.length := by omega
   subst e
   rw [List.take_length] at hi
   have e2 : c = fewP names code := by
    rw [hcc]
    unfold fewP
    rw [hi.2.2, decide_eq_true hi.2.1]
    simp only [Bool.true_and]
    exact decide_eq_decide.2 (by omega)
   rw [e2]
   exact h
  rcases hx with ⟨rfl, rfl⟩ | ⟨p, rfl⟩ <;> rcases hy with ⟨rfl, rfl⟩ | ⟨q, rfl⟩
  ·refine ⟨by simp, [(1, L21 .nils .nils ([] : List ByteArray))], ?_⟩
   simp (maxSteps:=9^9) only [a21, r21, go_sem, Nat.reduceBEq]
   refine loop_intro (A := L21 .nils .nils ([] : List ByteArray)) (0 : Nat) ?_ ⟨Nat.zero_le _, by omega, rfl⟩ ?_
   ·simp (maxSteps:=9^9) only [L21_I, go_sem, Nat.reduceBEq]
    rfl
   ·intro (i : Nat) (hi : i ≤ ([] : List ByteArray).length ∧ i ≤ 51 ∧ (([] : List ByteArray).take i).all (fun s => decide (s.size ≤ 1000)) = true)
    simp (maxSteps:=9^9) only [L21_I, go_sem, Int.reduceLE, Nat.reduceSub, Nat.reduceBEq]
    rintro c rfl
    refine sw_intro (fun hc => ?_) (fun hc => ?_) <;> simp only [decide_eq_true_eq, decide_eq_false_iff_not] at hc
    ·exact absurd hc (by omega)
    exact hend hi hc true rfl
  ·refine ⟨by simp, [(1, L21 .nils (.sl q 16 EvT code) ([] : List ByteArray))], ?_⟩
   simp (maxSteps:=9^9) only [a21, r21, go_sem, Nat.reduceBEq]
   refine loop_intro (A := L21 .nils (.sl q 16 EvT code) ([] : List ByteArray)) (0 : Nat) ?_ ⟨Nat.zero_le _, by omega, rfl⟩ ?_
   ·simp (maxSteps:=9^9) only [L21_I, go_sem, Nat.reduceBEq]
    rfl
   ·intro (i : Nat) (hi : i ≤ ([] : List ByteArray).length ∧ i ≤ 51 ∧ (([] : List ByteArray).take i).all (fun s => decide (s.size ≤ 1000)) = true)
    simp (maxSteps:=9^9) only [L21_I, go_sem, Nat.reduceSub, Nat.reduceBEq]
    rintro c rfl
    refine sw_intro (fun hc => ?_) (fun hc => ?_) <;> simp only [decide_eq_true_eq, decide_eq_false_iff_not] at hc
    ·exact absurd hc (by omega)
    rintro _ _ m rfl c hcc
    exact hend hi hc c hcc
  ·refine ⟨by simp, [(1, L21 (.sl p 16 .str names) .nils names)], ?_⟩
   simp (maxSteps:=9^9) only [a21, r21, go_sem, Nat.reduceBEq]
   rintro _ _ m rfl
   refine loop_intro (A := L21 (.sl p 16 .str names) .nils names) (0 : Nat) ?_ ⟨Nat.zero_le _, by omega, rfl⟩ ?_
   ·simp (maxSteps:=9^9) only [L21_I, go_sem, Nat.reduceBEq]
    rfl
   ·intro (i : Nat) (hi : i ≤ names.length ∧ i ≤ 51 ∧ (names.take i).all (fun s => decide (s.size ≤ 1000)) = true)
    simp (maxSteps:=9^9) only [L21_I, go_sem, Int.reduceLE, Nat.reduceSub, Nat.reduceBEq]
    rintro c rfl
    refine sw_intro (fun hc => ?_) (fun hc => ?_) <;> simp only [decide_eq_true_eq, decide_eq_false_iff_not] at hc
    ·refine nd_intro hc ?_
     rintro _ m rfl c rfl
     have hall : names.all (fun s => decide (s.size ≤ 1000)) = true → (elt .str names i).size ≤ 1000 := fun hh => by
      have := List.all_eq_true.1 hh (elt .str names i) (List.mem_of_getElem? (elt_get hc))
      simpa using this
     refine sw_intro (fun h1 => ?_) (fun h1 => ?_) <;> simp only [decide_eq_true_eq, decide_eq_false_iff_not] at h1
     ·refine hf (fun hh => ?_)
      have := hall hh.1.2
      omega
     rintro c rfl
     refine sw_intro (fun h2 => ?_) (fun h2 => ?_) <;> simp only [decide_eq_true_eq, decide_eq_false_iff_not] at h2
     ·exact hf (fun hh => by have := hh.1.1; omega)
     rintro _ _ m hm
     rw [w64 (by omega)] at hm
     subst hm
     refine lpE_intro (A := L21 (.sl p 16 .str names) .nils names) (i + 1) (by simp (maxSteps:=9^9) only [go_sem, Nat.reduceBEq]; rfl) ⟨by omega, by omega, ?_⟩ (by show names.length - (i + 1) < names.length - i; omega)
     have e3 := take_elt (t := .str) hc
     show List.all (List.take (i + 1) names) _ = true
     rw [← e3, List.all_append, hi.2.2]
     simp only [List.all_cons, List.all_nil, Bool.and_true, Bool.true_and, decide_eq_true_eq]
     omega
    exact hend hi hc true rfl
  ·refine ⟨by simp, [(1, L21 (.sl p 16 .str names) (.sl q 16 EvT code) names)], ?_⟩
   simp (maxSteps:=9^9) only [a21, r21, go_sem, Nat.reduceBEq]
   rintro _ _ m rfl
   refine loop_intro (A := L21 (.sl p 16 .str names) (.sl q 16 EvT code) names) (0 : Nat) ?_ ⟨Nat.zero_le _, by omega, rfl⟩ ?_
   ·simp (maxSteps:=9^9) only [L21_I, go_sem, Nat.reduceBEq]
    rfl
   ·intro (i : Nat) (hi : i ≤ names.length ∧ i ≤ 51 ∧ (names.take i).all (fun s => decide (s.size ≤ 1000)) = true)
    simp (maxSteps:=9^9) only [L21_I, go_sem, Nat.reduceSub, Nat.reduceBEq]
    rintro c rfl
    refine sw_intro (fun hc => ?_) (fun hc => ?_) <;> simp only [decide_eq_true_eq, decide_eq_false_iff_not] at hc
    ·refine nd_intro hc ?_
     rintro _ m rfl c rfl
     have hall : names.all (fun s => decide (s.size ≤ 1000)) = true → (elt .str names i).size ≤ 1000 := fun hh => by
      have := List.all_eq_true.1 hh (elt .str names i) (List.mem_of_getElem? (elt_get hc))
      simpa using this
     refine sw_intro (fun h1 => ?_) (fun h1 => ?_) <;> simp only [decide_eq_true_eq, decide_eq_false_iff_not] at h1
     ·refine hf (fun hh => ?_)
      have := hall hh.1.2
      omega
     rintro c rfl
     refine sw_intro (fun h2 => ?_) (fun h2 => ?_) <;> simp only [decide_eq_true_eq, decide_eq_false_iff_not] at h2
     ·exact hf (fun hh => by have := hh.1.1; omega)
     rintro _ _ m hm
     rw [w64 (by omega)] at hm
     subst hm
     refine lpE_intro (A := L21 (.sl p 16 .str names) (.sl q 16 EvT code) names) (i + 1) (by simp (maxSteps:=9^9) only [go_sem, Nat.reduceBEq]; rfl) ⟨by omega, by omega, ?_⟩ (by show names.length - (i + 1) < names.length - i; omega)
     have e3 := take_elt (t := .str) hc
     show List.all (List.take (i + 1) names) _ = true
     rw [← e3, List.all_append, hi.2.2]
     simp only [List.all_cons, List.all_nil, Bool.and_true, Bool.true_and, decide_eq_true_eq]
     omega
    rintro _ _ m rfl c hcc
    exact hend hi hc c hcc
 ·exact h.elim
def C98 : Contract := fun args hp K => match args, hp with
 | [.int .i64 op], [] => (¬ (0 ≤ op ∧ op < 24) → K (.tup [.str ByteArray.empty, .int .i64 0]) []) ∧ ((0 ≤ op ∧ op < 24) → K (.tup [.str (elt WdT opT op.toNat).1, .int .i64 (opK op)]) [])
 | _, _ => False
theorem s98 : Sound Tryz.prog 98 C98 := by
 refine sound_of_okF ok98 .nil ?_
 intro args hp K h
 unfold C98 at h
 split at h
 ·rename_i op
  refine ⟨by simp, [], ?_⟩
  by_cases h0 : 0 ≤ op ∧ op < 24
  ·have h2 := h.2 h0
   clear h
   have hop : op = 0 ∨ op = 1 ∨ op = 2 ∨ op = 3 ∨ op = 4 ∨ op = 5 ∨ op = 6 ∨ op = 7 ∨ op = 8 ∨ op = 9 ∨ op = 10 ∨ op = 11 ∨ op = 12 ∨ op = 13 ∨ op = 14 ∨ op = 15 ∨ op = 16 ∨ op = 17 ∨ op = 18 ∨ op = 19 ∨ op = 20 ∨ op = 21 ∨ op = 22 ∨ op = 23 := by omega
   clear h0
   rcases hop with rfl | rfl | rfl | rfl | rfl | rfl | rfl | rfl | rfl | rfl | rfl | rfl | rfl | rfl | rfl | rfl | rfl | rfl | rfl | rfl | rfl | rfl | rfl | rfl <;> simp (maxSteps:=9^9) only [a98, r98, go_sem, Int.reduceEq, Nat.reduceBEq] <;> exact h2
  ·have h1 := h.1 h0
   clear h
   simp (maxSteps:=9^9) only [a98, r98, go_sem, Nat.reduceBEq]
   iterate 24
    rintro c rfl
    refine sw_intro (fun hc => ?_) (fun hc => ?_) <;> simp only [decide_eq_true_eq, decide_eq_false_iff_not] at hc
    ·exact absurd hc (by omega)
   exact h1
 ·exact h.elim
theorem opK_cases {op : Int} (h : 0 ≤ op ∧ op < 24) : (elt WdT opT op.toNat).1 ≠ ByteArray.empty ∧ (opK op = 0 ∨ opK op = 1 ∨ opK op = 2 ∨ opK op = 3 ∨ opK op = 4 ∨ opK op = 5) := by
 have hop : op = 0 ∨ op = 1 ∨ op = 2 ∨ op = 3 ∨ op = 4 ∨ op = 5 ∨ op = 6 ∨ op = 7 ∨ op = 8 ∨ op = 9 ∨ op = 10 ∨ op = 11 ∨ op = 12 ∨ op = 13 ∨ op = 14 ∨ op = 15 ∨ op = 16 ∨ op = 17 ∨ op = 18 ∨ op = 19 ∨ op = 20 ∨ op = 21 ∨ op = 22 ∨ op = 23 := by omega
 rcases hop with rfl | rfl | rfl | rfl | rfl | rfl | rfl | rfl | rfl | rfl | rfl | rfl | rfl | rfl | rfl | rfl | rfl | rfl | rfl | rfl | rfl | rfl | rfl | rfl <;> decide
theorem opK_most {op m1 : Int} {n c : Nat} (h : 0 ≤ op ∧ op < 24) (h1 : ¬ opK op = 1) (hm : m1 = (n : Int) - 1) : elt (.int .i64) [0, 9223372036854775807, 7, 3, (c : Int), m1] (opK op).toNat = belowI (opK op) n c - 1 := by
 rcases (opK_cases h).2 with e | e | e | e | e | e <;> rw [e] at h1 ⊢
 ·rfl
 ·exact absurd rfl h1
 ·rfl
 ·rfl
 ·show (c : Int) = ((c : Int) + 1) - 1
  omega
 ·show m1 = _
  exact hm
theorem bel_of {b a : Int} (h : b - 1 < a) : ¬ a < b := by omega
theorem bel_not {b a : Int} (h : ¬ b - 1 < a) : a < b := by omega
theorem insOk_iff {n c : Nat} {x : EvT.den} : insOk n c x = true ↔ (0 ≤ x.1 ∧ x.1 < 24) ∧ (opK x.1 = 1 ∨ (0 ≤ x.2 ∧ x.2 < belowI (opK x.1) n c)) := by
 simp only [insOk, Bool.and_eq_true, Bool.or_eq_true, decide_eq_true_eq]
def C37 : Contract := fun args hp K => match args, hp with
 | [.agg [x, y]], [] => onL .str 16 x fun names => onL EvT 16 y fun code => K (.bool (formP names code)) []
 | _, _ => False
def L37 (x y : SV) (names : List ByteArray) : LoopAnn := { G := Nat, I := fun i => ⟨[(1, .ptr 0 0), (20, .int .i64 names.length), (21, .int .i64 i)], [.struct [x, y]]⟩, R := fun _ i => i ≤ names.length ∧ (names.take i).all keyOk = true, μ := fun i => names.length - i }
theorem L37_I {x y names} (i : Nat) : (L37 x y names).I i = ⟨[(1, .ptr 0 0), (20, .int .i64 names.length), (21, .int .i64 i)], [.struct [x, y]]⟩ := rfl
def M37 (x y : SV) (n : Nat) (code : List EvT.den) : LoopAnn := { G := Nat, I := fun i => ⟨[(1, .ptr 0 0), (34, .int .i64 code.length), (35, .int .i64 i)], [.struct [x, y]]⟩, R := fun _ i => i ≤ code.length ∧ (code.take i).all (insOk n code.length) = true, μ := fun i => code.length - i }
theorem M37_I {x y n code} (i : Nat) : (M37 x y n code).I i = ⟨[(1, .ptr 0 0), (34, .int .i64 code.length), (35, .int .i64 i)], [.struct [x, y]]⟩ := rfl
theorem s37 : Sound Tryz.prog 37 C37 := by
 refine sound_of_okF ok37 (.cons s82 (callable_of_okF ok82) (.cons s98 (callable_of_okF ok98) .nil)) ?_
 intro args hp K h
 unfold C37 at h
 split at h
 ·rename_i x y
  have hmx := maxLen_val
  rcases h with ⟨rfl, ⟨rfl, h⟩ | ⟨q, code, rfl, h⟩⟩ | ⟨p, names, rfl, ⟨rfl, h⟩ | ⟨q, code, rfl, h⟩⟩
  ·refine ⟨by simp, [(1, L37 .nils .nils ([] : List ByteArray)), (2, M37 .nils .nils ([] : List ByteArray).length ([] : List EvT.den))], ?_⟩
   simp (maxSteps:=9^9) only [a37, r37, go_sem, Int.reduceLT, Nat.reduceSub, Nat.reduceBEq]
   have hf : ¬ ((([] : List ByteArray).length ≤ 8 ∧ ([] : List EvT.den).length ≤ 200) ∧ ([] : List ByteArray).all keyOk = true ∧ ([] : List EvT.den).all (insOk ([] : List ByteArray).length ([] : List EvT.den).length) = true) → K (.bool false) [] := fun hh => by rw [← formP_iff, Bool.not_eq_true] at hh; rw [hh] at h; exact h
   have c1 : ¬ (8 : Int) < (([] : List ByteArray).length : Nat) := by simp only [List.length_nil]; omega
   have c2 : ¬ (200 : Int) < (([] : List EvT.den).length : Nat) := by simp only [List.length_nil]; omega
   refine loop_intro (A := L37 .nils .nils ([] : List ByteArray)) (0 : Nat) ?_ ⟨Nat.zero_le _, rfl⟩ ?_
   ·simp (maxSteps:=9^9) only [L37_I, go_sem, Nat.reduceBEq]
    rfl
   intro (i : Nat) (hi : i ≤ ([] : List ByteArray).length ∧ (([] : List ByteArray).take i).all keyOk = true)
   simp (maxSteps:=9^9) only [L37_I, go_sem, Nat.reduceSub, Nat.reduceBEq]
   rintro c rfl
   refine sw_intro (fun hc => ?_) (fun hc => ?_) <;> simp only [decide_eq_true_eq, decide_eq_false_iff_not] at hc
   ·exact absurd hc (by omega)
   have e : ([] : List ByteArray).length ≤ i := by first | omega | (simp only [List.length_nil] at hc ⊢; omega)
   have hk := hi.2
   rw [List.take_of_length_le e] at hk
   refine loop_intro (A := M37 .nils .nils ([] : List ByteArray).length ([] : List EvT.den)) (0 : Nat) ?_ ⟨Nat.zero_le _, rfl⟩ ?_
   ·simp (maxSteps:=9^9) only [M37_I, go_sem, Nat.reduceBEq]
    rfl
   intro (j : Nat) (hj : j ≤ ([] : List EvT.den).length ∧ (([] : List EvT.den).take j).all (insOk ([] : List ByteArray).length ([] : List EvT.den).length) = true)
   simp (maxSteps:=9^9) only [M37_I, go_sem, Nat.reduceSub, Nat.reduceBEq]
   rintro c rfl
   refine sw_intro (fun hd => ?_) (fun hd => ?_) <;> simp only [decide_eq_true_eq, decide_eq_false_iff_not] at hd
   ·exact absurd hd (by omega)
   have e2 : ([] : List EvT.den).length ≤ j := by first | omega | (simp only [List.length_nil] at hd ⊢; omega)
   rw [List.take_of_length_le e2] at hj
   rw [show formP ([] : List ByteArray) ([] : List EvT.den) = true from formP_iff.2 ⟨⟨by first | omega | (simp only [List.length_nil] at c1 ⊢; omega), by first | omega | (simp only [List.length_nil] at c2 ⊢; omega)⟩, hk, hj.2⟩] at h
   exact h
  ·refine ⟨by simp, [(1, L37 .nils (.sl q 16 EvT code) ([] : List ByteArray)), (2, M37 .nils (.sl q 16 EvT code) ([] : List ByteArray).length (code : List EvT.den))], ?_⟩
   simp (maxSteps:=9^9) only [a37, r37, go_sem, Int.reduceLT, Nat.reduceSub, Nat.reduceBEq]
   have hf : ¬ ((([] : List ByteArray).length ≤ 8 ∧ (code : List EvT.den).length ≤ 200) ∧ ([] : List ByteArray).all keyOk = true ∧ (code : List EvT.den).all (insOk ([] : List ByteArray).length (code : List EvT.den).length) = true) → K (.bool false) [] := fun hh => by rw [← formP_iff, Bool.not_eq_true] at hh; rw [hh] at h; exact h
   have c1 : ¬ (8 : Int) < (([] : List ByteArray).length : Nat) := by simp only [List.length_nil]; omega
   rintro hc1 hc2 m rfl c rfl
   refine sw_intro (fun c2 => ?_) (fun c2 => ?_) <;> simp only [decide_eq_true_eq, decide_eq_false_iff_not] at c2
   ·exact hf (fun hh => by have := hh.1.2; omega)
   refine loop_intro (A := L37 .nils (.sl q 16 EvT code) ([] : List ByteArray)) (0 : Nat) ?_ ⟨Nat.zero_le _, rfl⟩ ?_
   ·simp (maxSteps:=9^9) only [L37_I, go_sem, Nat.reduceBEq]
    rfl
   intro (i : Nat) (hi : i ≤ ([] : List ByteArray).length ∧ (([] : List ByteArray).take i).all keyOk = true)
   simp (maxSteps:=9^9) only [L37_I, go_sem, Nat.reduceSub, Nat.reduceBEq]
   rintro c rfl
   refine sw_intro (fun hc => ?_) (fun hc => ?_) <;> simp only [decide_eq_true_eq, decide_eq_false_iff_not] at hc
   ·exact absurd hc (by omega)
   have e : ([] : List ByteArray).length ≤ i := by first | omega | (simp only [List.length_nil] at hc ⊢; omega)
   have hk := hi.2
   rw [List.take_of_length_le e] at hk
   rintro _ _ m rfl
   refine loop_intro (A := M37 .nils (.sl q 16 EvT code) ([] : List ByteArray).length (code : List EvT.den)) (0 : Nat) ?_ ⟨Nat.zero_le _, rfl⟩ ?_
   ·simp (maxSteps:=9^9) only [M37_I, go_sem, Nat.reduceBEq]
    rfl
   intro (j : Nat) (hj : j ≤ (code : List EvT.den).length ∧ ((code : List EvT.den).take j).all (insOk ([] : List ByteArray).length (code : List EvT.den).length) = true)
   simp (maxSteps:=9^9) only [M37_I, C98, go_sem, Int.reduceSub, Int.reduceToNat, Int.reduceNeg, Nat.reduceSub, Nat.reduceLT, Nat.reduceBEq, Nat.reduceAdd]
   rintro c rfl
   refine sw_intro (fun hd => ?_) (fun hd => ?_) <;> simp only [decide_eq_true_eq, decide_eq_false_iff_not] at hd
   ·refine nd_intro hd ?_
    have hb : ¬ insOk ([] : List ByteArray).length code.length (elt EvT code j) = true → K (.bool false) [] := fun hn => hf (fun hh => hn (List.all_eq_true.1 hh.2.2 _ (List.mem_of_getElem? (elt_get hd))))
    have hnx : ∀ (r : List SB) (K0 : Nat → Nat), insOk ([] : List ByteArray).length code.length (elt EvT code j) = true → ∀ m, m = IntKind.i64.wrap ((j : Int) + 1) → lpE (M37 .nils (.sl q 16 EvT code) (([] : List ByteArray)).length code) 0 [1, 34, 35] (0 : Nat) j { fr := [(1, .ptr 0 0), (34, .int .i64 code.length), (35, .int .i64 m)], hp := .struct [.nils, (.sl q 16 EvT code)] :: r } := fun r _ hk2 m hm => by
     rw [w64 (by omega)] at hm
     subst hm
     refine lpE_intro (A := M37 .nils (.sl q 16 EvT code) (([] : List ByteArray)).length code) (j + 1) (by simp (maxSteps:=9^9) only [go_sem, Nat.reduceBEq]; rfl) ⟨by omega, ?_⟩ (by show code.length - (j + 1) < code.length - j; omega)
     have e3 := take_elt (t := EvT) hd
     show List.all (List.take (j + 1) (code : List EvT.den)) _ = true
     rw [← e3, List.all_append, hj.2]
     simpa using hk2
    rw [insOk_iff] at hb hnx
    refine ⟨fun ho => ?_, fun ho => ?_⟩
    ·intros
     exact hb (fun hh => ho hh.1)
    rintro _ _ m rfl _ _ m1 hm1
    rw [w64 (by omega)] at hm1
    replace hm1 : m1 = ((([] : List ByteArray).length : Nat) : Int) - 1 := hm1
    obtain ⟨hw, ho5⟩ := opK_cases ho
    refine nd_intro (by omega) (nd_intro (by omega) ?_)
    rintro c rfl
    refine sw_intro (fun c3 => absurd (of_decide_eq_true c3) hw) (fun c3 => ?_)
    rintro c rfl
    refine sw_intro (fun he => ?_) (fun he => ?_) <;> simp only [Bool.not_eq_true', Bool.not_eq_false', decide_eq_true_eq, decide_eq_false_iff_not] at he
    ·refine nd_intro hd ?_
     rintro c rfl
     refine sw_intro (fun hl => ?_) (fun hl => ?_) <;> simp only [decide_eq_true_eq, decide_eq_false_iff_not] at hl
     ·exact hb (fun hh => hh.2.elim he (fun h2 => absurd h2.1 (Int.not_le.2 hl)))
     refine nd_intro hd ?_
     rw [opK_most (n := ([] : List ByteArray).length) (c := code.length) ho he hm1]
     rintro c rfl
     refine sw_intro (fun hg => ?_) (fun hg => ?_) <;> simp only [decide_eq_true_eq, decide_eq_false_iff_not] at hg
     ·exact hb (fun hh => hh.2.elim he (fun h2 => bel_of hg h2.2))
     intro _ _ m hm
     exact hnx _ id ⟨ho, .inr ⟨Int.not_lt.1 hl, bel_not hg⟩⟩ m hm
    ·intro _ _ m hm
     exact hnx _ id ⟨ho, .inl he⟩ m hm
   have e2 : (code : List EvT.den).length ≤ j := by first | omega | (simp only [List.length_nil] at hd ⊢; omega)
   rw [List.take_of_length_le e2] at hj
   rw [show formP ([] : List ByteArray) (code : List EvT.den) = true from formP_iff.2 ⟨⟨by first | omega | (simp only [List.length_nil] at c1 ⊢; omega), by first | omega | (simp only [List.length_nil] at c2 ⊢; omega)⟩, hk, hj.2⟩] at h
   exact h
  ·refine ⟨by simp, [(1, L37 (.sl p 16 .str names) .nils names), (2, M37 (.sl p 16 .str names) .nils (names : List ByteArray).length ([] : List EvT.den))], ?_⟩
   simp (maxSteps:=9^9) only [a37, r37, go_sem, Int.reduceLT, Nat.reduceSub, Nat.reduceBEq]
   have hf : ¬ (((names : List ByteArray).length ≤ 8 ∧ ([] : List EvT.den).length ≤ 200) ∧ (names : List ByteArray).all keyOk = true ∧ ([] : List EvT.den).all (insOk (names : List ByteArray).length ([] : List EvT.den).length) = true) → K (.bool false) [] := fun hh => by rw [← formP_iff, Bool.not_eq_true] at hh; rw [hh] at h; exact h
   rintro hn1 hn2 m rfl c rfl
   refine sw_intro (fun c1 => ?_) (fun c1 => ?_) <;> simp only [decide_eq_true_eq, decide_eq_false_iff_not] at c1
   ·exact hf (fun hh => by have := hh.1.1; omega)
   have c2 : ¬ (200 : Int) < (([] : List EvT.den).length : Nat) := by simp only [List.length_nil]; omega
   rintro _ _ m rfl
   refine loop_intro (A := L37 (.sl p 16 .str names) .nils names) (0 : Nat) ?_ ⟨Nat.zero_le _, rfl⟩ ?_
   ·simp (maxSteps:=9^9) only [L37_I, go_sem, Nat.reduceBEq]
    rfl
   intro (i : Nat) (hi : i ≤ (names : List ByteArray).length ∧ ((names : List ByteArray).take i).all keyOk = true)
   simp (maxSteps:=9^9) only [L37_I, C82, go_sem, Nat.reduceSub, Nat.reduceBEq]
   rintro c rfl
   refine sw_intro (fun hc => ?_) (fun hc => ?_) <;> simp only [decide_eq_true_eq, decide_eq_false_iff_not] at hc
   ·refine nd_intro hc (sw_intro (fun hk => ?_) (fun hk => ?_))
    case refine_2 =>
     refine hf (fun hh => ?_)
     have hm := List.all_eq_true.1 hh.2.1 (elt .str names i) (List.mem_of_getElem? (elt_get hc))
     rw [hm] at hk
     simp at hk
    rintro _ _ m hm
    rw [w64 (by omega)] at hm
    subst hm
    refine lpE_intro (A := L37 (.sl p 16 .str names) .nils names) (i + 1) (by simp (maxSteps:=9^9) only [go_sem, Nat.reduceBEq]; rfl) ⟨by omega, ?_⟩ (by show (names : List ByteArray).length - (i + 1) < (names : List ByteArray).length - i; omega)
    have e3 := take_elt (t := .str) hc
    show List.all (List.take (i + 1) (names : List ByteArray)) _ = true
    rw [← e3, List.all_append, hi.2]
    simpa using hk
   have e : (names : List ByteArray).length ≤ i := by first | omega | (simp only [List.length_nil] at hc ⊢; omega)
   have hk := hi.2
   rw [List.take_of_length_le e] at hk
   refine loop_intro (A := M37 (.sl p 16 .str names) .nils (names : List ByteArray).length ([] : List EvT.den)) (0 : Nat) ?_ ⟨Nat.zero_le _, rfl⟩ ?_
   ·simp (maxSteps:=9^9) only [M37_I, go_sem, Nat.reduceBEq]
    rfl
   intro (j : Nat) (hj : j ≤ ([] : List EvT.den).length ∧ (([] : List EvT.den).take j).all (insOk (names : List ByteArray).length ([] : List EvT.den).length) = true)
   simp (maxSteps:=9^9) only [M37_I, go_sem, Nat.reduceSub, Nat.reduceBEq]
   rintro c rfl
   refine sw_intro (fun hd => ?_) (fun hd => ?_) <;> simp only [decide_eq_true_eq, decide_eq_false_iff_not] at hd
   ·exact absurd hd (by omega)
   have e2 : ([] : List EvT.den).length ≤ j := by first | omega | (simp only [List.length_nil] at hd ⊢; omega)
   rw [List.take_of_length_le e2] at hj
   rw [show formP names ([] : List EvT.den) = true from formP_iff.2 ⟨⟨by first | omega | (simp only [List.length_nil] at c1 ⊢; omega), by first | omega | (simp only [List.length_nil] at c2 ⊢; omega)⟩, hk, hj.2⟩] at h
   exact h
  ·refine ⟨by simp, [(1, L37 (.sl p 16 .str names) (.sl q 16 EvT code) names), (2, M37 (.sl p 16 .str names) (.sl q 16 EvT code) (names : List ByteArray).length (code : List EvT.den))], ?_⟩
   simp (maxSteps:=9^9) only [a37, r37, go_sem, Nat.reduceSub, Nat.reduceBEq]
   have hf : ¬ (((names : List ByteArray).length ≤ 8 ∧ (code : List EvT.den).length ≤ 200) ∧ (names : List ByteArray).all keyOk = true ∧ (code : List EvT.den).all (insOk (names : List ByteArray).length (code : List EvT.den).length) = true) → K (.bool false) [] := fun hh => by rw [← formP_iff, Bool.not_eq_true] at hh; rw [hh] at h; exact h
   rintro hn1 hn2 m rfl c rfl
   refine sw_intro (fun c1 => ?_) (fun c1 => ?_) <;> simp only [decide_eq_true_eq, decide_eq_false_iff_not] at c1
   ·exact hf (fun hh => by have := hh.1.1; omega)
   rintro hc1 hc2 m rfl c rfl
   refine sw_intro (fun c2 => ?_) (fun c2 => ?_) <;> simp only [decide_eq_true_eq, decide_eq_false_iff_not] at c2
   ·exact hf (fun hh => by have := hh.1.2; omega)
   rintro _ _ m rfl
   refine loop_intro (A := L37 (.sl p 16 .str names) (.sl q 16 EvT code) names) (0 : Nat) ?_ ⟨Nat.zero_le _, rfl⟩ ?_
   ·simp (maxSteps:=9^9) only [L37_I, go_sem, Nat.reduceBEq]
    rfl
   intro (i : Nat) (hi : i ≤ (names : List ByteArray).length ∧ ((names : List ByteArray).take i).all keyOk = true)
   simp (maxSteps:=9^9) only [L37_I, C82, go_sem, Nat.reduceSub, Nat.reduceBEq]
   rintro c rfl
   refine sw_intro (fun hc => ?_) (fun hc => ?_) <;> simp only [decide_eq_true_eq, decide_eq_false_iff_not] at hc
   ·refine nd_intro hc (sw_intro (fun hk => ?_) (fun hk => ?_))
    case refine_2 =>
     refine hf (fun hh => ?_)
     have hm := List.all_eq_true.1 hh.2.1 (elt .str names i) (List.mem_of_getElem? (elt_get hc))
     rw [hm] at hk
     simp at hk
    rintro _ _ m hm
    rw [w64 (by omega)] at hm
    subst hm
    refine lpE_intro (A := L37 (.sl p 16 .str names) (.sl q 16 EvT code) names) (i + 1) (by simp (maxSteps:=9^9) only [go_sem, Nat.reduceBEq]; rfl) ⟨by omega, ?_⟩ (by show (names : List ByteArray).length - (i + 1) < (names : List ByteArray).length - i; omega)
    have e3 := take_elt (t := .str) hc
    show List.all (List.take (i + 1) (names : List ByteArray)) _ = true
    rw [← e3, List.all_append, hi.2]
    simpa using hk
   have e : (names : List ByteArray).length ≤ i := by first | omega | (simp only [List.length_nil] at hc ⊢; omega)
   have hk := hi.2
   rw [List.take_of_length_le e] at hk
   rintro _ _ m rfl
   refine loop_intro (A := M37 (.sl p 16 .str names) (.sl q 16 EvT code) (names : List ByteArray).length (code : List EvT.den)) (0 : Nat) ?_ ⟨Nat.zero_le _, rfl⟩ ?_
   ·simp (maxSteps:=9^9) only [M37_I, go_sem, Nat.reduceBEq]
    rfl
   intro (j : Nat) (hj : j ≤ (code : List EvT.den).length ∧ ((code : List EvT.den).take j).all (insOk (names : List ByteArray).length (code : List EvT.den).length) = true)
   simp (maxSteps:=9^9) only [M37_I, C98, go_sem, Int.reduceToNat, Nat.reduceSub, Nat.reduceLT, Nat.reduceBEq, Nat.reduceAdd]
   rintro c rfl
   refine sw_intro (fun hd => ?_) (fun hd => ?_) <;> simp only [decide_eq_true_eq, decide_eq_false_iff_not] at hd
   ·refine nd_intro hd ?_
    have hb : ¬ insOk (names : List ByteArray).length code.length (elt EvT code j) = true → K (.bool false) [] := fun hn => hf (fun hh => hn (List.all_eq_true.1 hh.2.2 _ (List.mem_of_getElem? (elt_get hd))))
    have hnx : ∀ (r : List SB) (K0 : Nat → Nat), insOk (names : List ByteArray).length code.length (elt EvT code j) = true → ∀ m, m = IntKind.i64.wrap ((j : Int) + 1) → lpE (M37 (.sl p 16 .str names) (.sl q 16 EvT code) ((names : List ByteArray)).length code) 0 [1, 34, 35] (0 : Nat) j { fr := [(1, .ptr 0 0), (34, .int .i64 code.length), (35, .int .i64 m)], hp := .struct [(.sl p 16 .str names), (.sl q 16 EvT code)] :: r } := fun r _ hk2 m hm => by
     rw [w64 (by omega)] at hm
     subst hm
     refine lpE_intro (A := M37 (.sl p 16 .str names) (.sl q 16 EvT code) ((names : List ByteArray)).length code) (j + 1) (by simp (maxSteps:=9^9) only [go_sem, Nat.reduceBEq]; rfl) ⟨by omega, ?_⟩ (by show code.length - (j + 1) < code.length - j; omega)
     have e3 := take_elt (t := EvT) hd
     show List.all (List.take (j + 1) (code : List EvT.den)) _ = true
     rw [← e3, List.all_append, hj.2]
     simpa using hk2
    rw [insOk_iff] at hb hnx
    refine ⟨fun ho => ?_, fun ho => ?_⟩
    ·intros
     exact hb (fun hh => ho hh.1)
    rintro _ _ m rfl _ _ m2 rfl _ _ m1 hm1
    rw [w64 (by omega)] at hm1
    obtain ⟨hw, ho5⟩ := opK_cases ho
    refine nd_intro (by omega) (nd_intro (by omega) ?_)
    rintro c rfl
    refine sw_intro (fun c3 => absurd (of_decide_eq_true c3) hw) (fun c3 => ?_)
    rintro c rfl
    refine sw_intro (fun he => ?_) (fun he => ?_) <;> simp only [Bool.not_eq_true', Bool.not_eq_false', decide_eq_true_eq, decide_eq_false_iff_not] at he
    ·refine nd_intro hd ?_
     rintro c rfl
     refine sw_intro (fun hl => ?_) (fun hl => ?_) <;> simp only [decide_eq_true_eq, decide_eq_false_iff_not] at hl
     ·exact hb (fun hh => hh.2.elim he (fun h2 => absurd h2.1 (Int.not_le.2 hl)))
     refine nd_intro hd ?_
     rw [opK_most (n := (names : List ByteArray).length) (c := code.length) ho he hm1]
     rintro c rfl
     refine sw_intro (fun hg => ?_) (fun hg => ?_) <;> simp only [decide_eq_true_eq, decide_eq_false_iff_not] at hg
     ·exact hb (fun hh => hh.2.elim he (fun h2 => bel_of hg h2.2))
     intro _ _ m hm
     exact hnx _ id ⟨ho, .inr ⟨Int.not_lt.1 hl, bel_not hg⟩⟩ m hm
    ·intro _ _ m hm
     exact hnx _ id ⟨ho, .inl he⟩ m hm
   have e2 : (code : List EvT.den).length ≤ j := by first | omega | (simp only [List.length_nil] at hd ⊢; omega)
   rw [List.take_of_length_le e2] at hj
   rw [show formP names (code : List EvT.den) = true from formP_iff.2 ⟨⟨by first | omega | (simp only [List.length_nil] at c1 ⊢; omega), by first | omega | (simp only [List.length_nil] at c2 ⊢; omega)⟩, hk, hj.2⟩] at h
   exact h
 ·exact h.elim
end Go.V
namespace Go.V
open Go.Proofs
set_option maxRecDepth 100000
set_option maxHeartbeats 8000000
set_option linter.unusedSimpArgs false
set_option linter.unnecessarySimpa false
set_option linter.unusedVariables false
def C10 : Contract := fun args hp K => match args, hp with
 | [.agg [x, y]], [] => onL .str 16 x fun names => onL EvT 16 y fun code => names.length ≤ 100000 ∧ (code : List EvT.den).length ≤ 100000 ∧ K (.agg [.sl true 16 .str names, .sl true 16 EvT code]) []
 | _, _ => False
def L10 (x y : SV) (names : List ByteArray) (code : List EvT.den) : LoopAnn := { G := Nat, I := fun i => ⟨[(1, .ptr 0 0), (2, .ptr 1 0), (3, .ptr 4 0), (12, .int .i64 code.length), (13, .int .i64 i)], [.struct [x, y], .struct [.own 2, .own 3], .row true 16 .str [], .row true 16 EvT [], .struct [.own 5, .own 6], .row true 16 .str names, .row true 16 EvT (code.take i)]⟩, R := fun _ i => i ≤ code.length, μ := fun i => code.length - i }
theorem L10_I {x y names code} (i : Nat) : (L10 x y names code).I i = ⟨[(1, .ptr 0 0), (2, .ptr 1 0), (3, .ptr 4 0), (12, .int .i64 code.length), (13, .int .i64 i)], [.struct [x, y], .struct [.own 2, .own 3], .row true 16 .str [], .row true 16 EvT [], .struct [.own 5, .own 6], .row true 16 .str names, .row true 16 EvT (code.take i)]⟩ := rfl
theorem s10 : Sound Tryz.prog 10 C10 := by
 refine sound_of_okF ok10 .nil ?_
 intro args hp K h
 unfold C10 at h
 split at h
 ·rename_i x y
  have hmx := maxLen_val
  rcases h with ⟨rfl, ⟨rfl, hn, hc, h⟩ | ⟨q, code, rfl, hn, hc, h⟩⟩ | ⟨p, names, rfl, ⟨rfl, hn, hc, h⟩ | ⟨q, code, rfl, hn, hc, h⟩⟩
  ·refine ⟨by simp, [(1, L10 .nils .nils ([] : List ByteArray) ([] : List EvT.den))], ?_⟩
   simp (maxSteps:=9^9) only [a10, r10, go_sem, Nat.reduceLeDiff, Nat.reduceSub, Nat.reduceMul, Nat.reduceBEq, Nat.reduceAdd]
   refine loop_intro (A := L10 .nils .nils ([] : List ByteArray) ([] : List EvT.den)) (0 : Nat) ?_ (Nat.zero_le _) ?_
   ·simp (maxSteps:=9^9) only [L10_I, go_sem, Nat.reduceBEq, Nat.reduceAdd]
    rfl
   ·intro (i : Nat) (hi : i ≤ ([] : List EvT.den).length)
    simp (maxSteps:=9^9) only [L10_I, go_sem, Nat.reduceLeDiff, Nat.reduceSub, Nat.reduceBEq, Nat.reduceAdd]
    rintro c rfl
    refine sw_intro (fun hc => ?_) (fun hc => ?_) <;> simp only [decide_eq_true_eq, decide_eq_false_iff_not] at hc
    ·exact absurd hc (by omega)
    ·rw [List.take_nil]
     exact h
  ·refine ⟨by simp, [(1, L10 .nils (.sl q 16 EvT code) ([] : List ByteArray) (code : List EvT.den))], ?_⟩
   simp (maxSteps:=9^9) only [a10, r10, go_sem, Nat.reduceLeDiff, Nat.reduceSub, Nat.reduceMul, Nat.reduceBEq, Nat.reduceAdd]
   rintro _ _ m rfl
   refine loop_intro (A := L10 .nils (.sl q 16 EvT code) ([] : List ByteArray) (code : List EvT.den)) (0 : Nat) ?_ (Nat.zero_le _) ?_
   ·simp (maxSteps:=9^9) only [L10_I, go_sem, Nat.reduceBEq, Nat.reduceAdd]
    rfl
   ·intro (i : Nat) (hi : i ≤ (code : List EvT.den).length)
    simp (maxSteps:=9^9) only [L10_I, go_sem, Nat.reduceLeDiff, Nat.reduceSub, Nat.reduceMul, Nat.reduceBEq, Nat.reduceAdd]
    rintro c rfl
    refine sw_intro (fun hc => ?_) (fun hc => ?_) <;> simp only [decide_eq_true_eq, decide_eq_false_iff_not] at hc
    ·refine nd_intro hc ⟨fun h9 => by rw [List.length_take]; omega, fun h9 => ?_⟩
     rintro _ _ m hm
     rw [w64 (by omega)] at hm
     subst hm
     refine lpE_intro (A := L10 .nils (.sl q 16 EvT code) ([] : List ByteArray) (code : List EvT.den)) (i + 1 : Nat) ?_ (by show i + 1 ≤ code.length; omega) (by show code.length - (i + 1) < code.length - i; omega)
     have e := take_elt (t := EvT) hc
     simp (maxSteps:=9^9) only [L10_I, ← e, go_sem, Nat.reduceBEq, Nat.reduceAdd]
     rfl
    ·rw [List.take_of_length_le (by omega)]
     exact h
  ·refine ⟨by simp, [(1, L10 (.sl p 16 .str names) .nils (names : List ByteArray) ([] : List EvT.den))], ?_⟩
   simp (maxSteps:=9^9) only [a10, r10, go_sem, Nat.reduceLeDiff, Nat.reduceSub, Nat.reduceMul, Nat.reduceBEq, Nat.reduceAdd]
   refine ⟨fun h9 => h9, fun hl => ?_⟩
   refine loop_intro (A := L10 (.sl p 16 .str names) .nils (names : List ByteArray) ([] : List EvT.den)) (0 : Nat) ?_ (Nat.zero_le _) ?_
   ·simp (maxSteps:=9^9) only [L10_I, go_sem, Nat.reduceBEq, Nat.reduceAdd]
    rfl
   ·intro (i : Nat) (hi : i ≤ ([] : List EvT.den).length)
    simp (maxSteps:=9^9) only [L10_I, go_sem, Nat.reduceLeDiff, Nat.reduceSub, Nat.reduceBEq, Nat.reduceAdd]
    rintro c rfl
    refine sw_intro (fun hc => ?_) (fun hc => ?_) <;> simp only [decide_eq_true_eq, decide_eq_false_iff_not] at hc
    ·exact absurd hc (by omega)
    ·rw [List.take_nil]
     exact h
  ·refine ⟨by simp, [(1, L10 (.sl p 16 .str names) (.sl q 16 EvT code) (names : List ByteArray) (code : List EvT.den))], ?_⟩
   simp (maxSteps:=9^9) only [a10, r10, go_sem, Nat.reduceLeDiff, Nat.reduceSub, Nat.reduceMul, Nat.reduceBEq, Nat.reduceAdd]
   refine ⟨fun h9 => h9, fun hl => ?_⟩
   rintro _ _ m rfl
   refine loop_intro (A := L10 (.sl p 16 .str names) (.sl q 16 EvT code) (names : List ByteArray) (code : List EvT.den)) (0 : Nat) ?_ (Nat.zero_le _) ?_
   ·simp (maxSteps:=9^9) only [L10_I, go_sem, Nat.reduceBEq, Nat.reduceAdd]
    rfl
   ·intro (i : Nat) (hi : i ≤ (code : List EvT.den).length)
    simp (maxSteps:=9^9) only [L10_I, go_sem, Nat.reduceLeDiff, Nat.reduceSub, Nat.reduceMul, Nat.reduceBEq, Nat.reduceAdd]
    rintro c rfl
    refine sw_intro (fun hc => ?_) (fun hc => ?_) <;> simp only [decide_eq_true_eq, decide_eq_false_iff_not] at hc
    ·refine nd_intro hc ⟨fun h9 => by rw [List.length_take]; omega, fun h9 => ?_⟩
     rintro _ _ m hm
     rw [w64 (by omega)] at hm
     subst hm
     refine lpE_intro (A := L10 (.sl p 16 .str names) (.sl q 16 EvT code) (names : List ByteArray) (code : List EvT.den)) (i + 1 : Nat) ?_ (by show i + 1 ≤ code.length; omega) (by show code.length - (i + 1) < code.length - i; omega)
     have e := take_elt (t := EvT) hc
     simp (maxSteps:=9^9) only [L10_I, ← e, go_sem, Nat.reduceBEq, Nat.reduceAdd]
     rfl
    ·rw [List.take_of_length_le (by omega)]
     exact h
 ·exact h.elim
end Go.V
namespace Go.V
open Go.Proofs
set_option maxRecDepth 100000
set_option maxHeartbeats 8000000
set_option linter.unusedSimpArgs false
set_option linter.unnecessarySimpa false
set_option linter.unusedVariables false
/-! ### turns of which the outcome is known -/
theorem takeK_done {S : ActS} {ls : List LastT.den} {names : List ByteArray} {code : List EvT.den} {now : Int} {K : SV → List SB → Prop} {f : ByteArray} {s k : Int} {xs : List Int} {r : List LetT.den} {X : Mc × Int} {p : List OutT.den × List LastT.den}
  (ok : takeOk S names code now) (hr : S.inb = (f, s, k, xs) :: r) (hX : X = runI 501 (startM names code f s k xs now (appE S.b S.ev))) (h0 : X.2 = 0) (hs : sendO S.o (S.l, ls) X.1.sent = some p)
  (hK : K (.tup [.agg [.bool true, .bool false, .int .i64 0, .int .i64 X.1.steps, .sl true 48 TimT X.1.tim], .int .i64 0]) (doneH S r X.1.ev p)) : TakeK S ls names code now K where
 bad := fun h => (h ok).elim
 none := fun _ h => by rw [hr] at h; cases h
 again := fun _ f' s' k' xs' r' hr' X' hX' h1 => by
  rw [hr] at hr'; cases hr'; rw [hX', ← hX] at h1; exact (h1 h0).elim
 full := fun _ f' s' k' xs' r' hr' X' hX' h1 => by
  rw [hr] at hr'; cases hr'; rw [hX', ← hX] at h1; exact (h1 h0).elim
 poison := fun _ f' s' k' xs' r' hr' X' hX' h1 => by
  rw [hr] at hr'; cases hr'; rw [hX', ← hX] at h1; exact (h1 h0).elim
 room := fun _ f' s' k' xs' r' hr' X' hX' h1 h2 => by
  rw [hr] at hr'; cases hr'; rw [hX', ← hX, hs] at h2; cases h2
 done := fun _ f' s' k' xs' r' hr' X' hX' h1 p' h2 => by
  rw [hr] at hr'; cases hr'; rw [hX', ← hX, hs] at h2; cases h2; rw [hX', ← hX]; exact hK
theorem takeK_room {S : ActS} {ls : List LastT.den} {names : List ByteArray} {code : List EvT.den} {now : Int} {K : SV → List SB → Prop} {f : ByteArray} {s k : Int} {xs : List Int} {r : List LetT.den} {X : Mc × Int}
  (ok : takeOk S names code now) (hr : S.inb = (f, s, k, xs) :: r) (hX : X = runI 501 (startM names code f s k xs now (appE S.b S.ev))) (h0 : X.2 = 0) (hs : sendO S.o (S.l, ls) X.1.sent = none)
  (hK : K (.tup [out0, .int .i64 8]) (acH false S)) : TakeK S ls names code now K where
 bad := fun h => (h ok).elim
 none := fun _ h => by rw [hr] at h; cases h
 again := fun _ f' s' k' xs' r' hr' X' hX' h1 => by
  rw [hr] at hr'; cases hr'; rw [hX', ← hX] at h1; exact (h1 h0).elim
 full := fun _ f' s' k' xs' r' hr' X' hX' h1 => by
  rw [hr] at hr'; cases hr'; rw [hX', ← hX] at h1; exact (h1 h0).elim
 poison := fun _ f' s' k' xs' r' hr' X' hX' h1 => by
  rw [hr] at hr'; cases hr'; rw [hX', ← hX] at h1; exact (h1 h0).elim
 room := fun _ f' s' k' xs' r' hr' X' hX' h1 h2 => hK
 done := fun _ f' s' k' xs' r' hr' X' hX' h1 p' h2 => by
  rw [hr] at hr'; cases hr'; rw [hX', ← hX, hs] at h2; cases h2
theorem takeK_none {S : ActS} {ls : List LastT.den} {names : List ByteArray} {code : List EvT.den} {now : Int} {K : SV → List SB → Prop} (hr : S.inb = [])
  (hK : takeOk S names code now → K (.tup [out0, .int .i64 5]) (acH false S)) (hK1 : ¬ takeOk S names code now → K (.tup [out0, .int .i64 1]) (acH false S)) : TakeK S ls names code now K where
 bad := hK1
 none := fun h _ => hK h
 again := fun _ f' s' k' xs' r' hr' => by rw [hr] at hr'; cases hr'
 full := fun _ f' s' k' xs' r' hr' => by rw [hr] at hr'; cases hr'
 poison := fun _ f' s' k' xs' r' hr' => by rw [hr] at hr'; cases hr'
 room := fun _ f' s' k' xs' r' hr' => by rw [hr] at hr'; cases hr'
 done := fun _ f' s' k' xs' r' hr' => by rw [hr] at hr'; cases hr'
theorem goodA_new {k : ByteArray} (h : keyOk k = true) : GoodA (newS k) [] 1000 :=
 ⟨rfl, rfl, Nat.zero_le _, Nat.zero_le _, rfl, (Inv.new h).mono (by omega), Rel.nil⟩
theorem goodA_inb {S : ActS} {ls B} (h : GoodA S ls B) {inb : List LetT.den} (h8 : inb.length ≤ 8) (hf : inb.all fmL = true) : GoodA { S with inb := inb } ls B :=
 ⟨h.b8, h.ev, h.e16, h8, hf, h.inv, h.rel⟩
theorem c21_nil {S : ActS} {ls : List LastT.den} {B : Int} {code : List EvT.den} {now : Int} {K : SV → List SB → Prop} (g : GoodA S ls B) (h : TakeK S ls [] code now K) :
  C9 [.agg [.nils, .sl true 16 EvT code], .ptr 0 0, .int .i64 now] (acH false S) K := .inl ⟨rfl, .inl ⟨S, rfl, ls, B, g, h⟩⟩
theorem c21_sl {S : ActS} {ls : List LastT.den} {B : Int} {names : List ByteArray} {code : List EvT.den} {now : Int} {K : SV → List SB → Prop} (g : GoodA S ls B) (h : TakeK S ls names code now K) :
  C9 [.agg [.sl true 16 .str names, .sl true 16 EvT code], .ptr 0 0, .int .i64 now] (acH false S) K := .inr ⟨names, rfl, .inl ⟨S, rfl, ls, B, g, h⟩⟩
/-! ### awake -/
def awkC : List EvT.den := [(5, 0), (3, 0)]
def awkM : Mc := ⟨[], awkC, ByteArray.empty, 0, 4, [], 0, 2, [], [4, 0, 0, 0, 0, 0, 0, 0], [(0, 4)], [], [], 2, 0, false⟩
theorem awk_run : (awkM, (0 : Int)) = runI 501 (startM [] awkC ByteArray.empty 0 4 [] 0 (appE (List.replicate 8 0) [])) := rfl
def C6 : Contract := fun args hp K => args = [] ∧ hp = [] ∧ K (.bool true) []
theorem s6 : Sound Tryz.prog 6 C6 := by
 refine sound_of_okF ok6 (.cons s18 (callable_of_okF ok18) (.cons s19 (callable_of_okF ok19) (.cons s9 (callable_of_okF ok9) (.cons s20 (callable_of_okF ok20) (.cons s11 (callable_of_okF ok11) .nil))))) ?_
 intro args hp K h
 unfold C6 at h
 obtain ⟨rfl, rfl, h⟩ := h
 refine ⟨by simp, [], ?_⟩
 have hmx := maxLen_val
 simp (maxSteps:=9^9) only [a6, r6, C18, C19, inH, newS, acH, go_sem, Int.reduceEq, Nat.reduceLeDiff, Nat.reduceSub, Nat.reduceLT, Nat.reduceBEq, Nat.reduceAdd]
 refine ⟨fun _ => ⟨fun h9 => absurd h9 (by decide), fun _ h9 => h9.elim, fun _ => ?_⟩, fun h9 => absurd h9 (by decide)⟩
 refine c21_nil (S := { (newS ⟨#[97]⟩) with inb := [(ByteArray.empty, 0, 4, [])] }) (goodA_inb (goodA_new rfl) (by simp) rfl) (takeK_done ⟨rfl, rfl, Int.le_refl 0⟩ rfl awk_run rfl rfl ?_)
 simp (maxSteps:=9^9) only [doneH, newS, C20, C11, jAdd, awkM, go_sem, Int.reduceToNat, Nat.reduceLeDiff, Nat.reduceSub, Nat.reduceLT, Nat.reduceBEq, Nat.reduceAdd]
 refine ⟨rfl, rfl, fun c hc => ?_⟩
 rw [show c = true from hc]
 refine sw_intro (fun _ => ?_) (fun h9 => by cases h9)
 rintro c rfl
 exact h
end Go.V
