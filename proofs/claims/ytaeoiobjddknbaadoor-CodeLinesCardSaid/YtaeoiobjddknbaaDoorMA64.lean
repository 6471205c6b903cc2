/- A part of the proof layer, or functions of the given program in it: contracts and their proofs. -/
import Derived.Test.YtaeoiobjddknbaaDoorMN1
namespace Go.V
open Go.Proofs
set_option maxRecDepth 100000
set_option maxHeartbeats 8000000
set_option linter.unusedSimpArgs false
set_option linter.unnecessarySimpa false
set_option linter.unusedVariables false
def insOk (n c : Nat) (x : EvT.den) : Bool := (decide (0 ≤ x.1) && decide (x.1 < 24)) && (decide (opK x.1 = 1) || (decide (0 ≤ x.2) && decide (x.2 < belowI (opK x.1) n c)))
def formP (names : List ByteArray) (code : List EvT.den) : Bool := (decide (names.length ≤ 8) && decide (code.length ≤ 200)) && (names.all keyOk && code.all (insOk names.length code.length))
theorem formP_iff {names : List ByteArray} {code : List EvT.den} : formP names code = true ↔ (names.length ≤ 8 ∧ code.length ≤ 200) ∧ names.all keyOk = true ∧ code.all (insOk names.length code.length) = true := by
 simp [formP]
def C17 : Contract := fun args hp K => match args, hp with
 | [.agg [x, y]], [] => onL .str 16 x fun names => onL EvT 16 y fun code => K (.bool (formP names code)) []
 | _, _ => False
def L17 (x y : SV) (names : List ByteArray) (z : SV) : LoopAnn := { G := Nat, I := fun i => ⟨[(1, .ptr 0 0), (21, z), (22, .int .i64 names.length), (23, .int .i64 i)], [.struct [x, y]]⟩, R := fun _ i => i ≤ names.length ∧ (names.take i).all keyOk = true, μ := fun i => names.length - i }
theorem L17_I {x y names z} (i : Nat) : (L17 x y names z).I i = ⟨[(1, .ptr 0 0), (21, z), (22, .int .i64 names.length), (23, .int .i64 i)], [.struct [x, y]]⟩ := rfl
def M17 (x y : SV) (n : Nat) (code : List EvT.den) (z : SV) : LoopAnn := { G := Nat, I := fun i => ⟨[(1, .ptr 0 0), (32, z), (33, .int .i64 code.length), (34, .int .i64 i)], [.struct [x, y]]⟩, R := fun _ i => i ≤ code.length ∧ (code.take i).all (insOk n code.length) = true, μ := fun i => code.length - i }
theorem M17_I {x y n code z} (i : Nat) : (M17 x y n code z).I i = ⟨[(1, .ptr 0 0), (32, z), (33, .int .i64 code.length), (34, .int .i64 i)], [.struct [x, y]]⟩ := rfl
theorem s17 : Sound Tryd.prog 17 C17 := by
 refine sound_of_okF ok17 (.cons s37 (callable_of_okF ok37) (.cons s32 (callable_of_okF ok32) (.cons s38 (callable_of_okF ok38) .nil))) ?_
 intro args hp K h
 unfold C17 at h
 split at h
 ·rename_i x y
  have hmx := maxLen_val
  rcases h with ⟨rfl, ⟨rfl, h⟩ | ⟨q, code, rfl, h⟩⟩ | ⟨p, names, rfl, ⟨rfl, h⟩ | ⟨q, code, rfl, h⟩⟩
  ·refine ⟨by simp, [(1, L17 .nils .nils [] .nils), (2, M17 .nils .nils 0 [] .nils)], ?_⟩
   simp (maxSteps:=9^9) only [a17, r17, go_sem, Int.reduceLT, Int.reduceLE, Int.reduceEq, Int.reduceNe, Int.reduceAdd, Int.reduceSub, Int.reduceMul, Int.reduceToNat, Int.reduceNeg, Nat.reduceEqDiff, Nat.reduceLeDiff, Nat.reduceSub, Nat.reduceMul, Nat.reduceLT, Nat.reduceBEq, Nat.reduceAdd]
   have hf : ¬ ((([] : List ByteArray).length ≤ 8 ∧ ([] : List EvT.den).length ≤ 200) ∧ ([] : List ByteArray).all keyOk = true ∧ ([] : List EvT.den).all (insOk ([] : List ByteArray).length ([] : List EvT.den).length) = true) → K (.bool false) [] := fun hh => by rw [← formP_iff, Bool.not_eq_true] at hh; rw [hh] at h; exact h
   have c1 : ¬ (8 : Int) < (0 : Nat) := by omega
   have c2 : ¬ (200 : Int) < (0 : Nat) := by omega
   refine loop_intro (A := L17 .nils .nils [] .nils) (0 : Nat) ?_ ⟨Nat.zero_le _, rfl⟩ ?_
   ·simp (maxSteps:=9^9) only [L17_I, go_sem, Int.reduceLT, Int.reduceLE, Int.reduceEq, Int.reduceNe, Int.reduceAdd, Int.reduceSub, Int.reduceMul, Int.reduceToNat, Int.reduceNeg, Nat.reduceEqDiff, Nat.reduceLeDiff, Nat.reduceSub, Nat.reduceMul, Nat.reduceLT, Nat.reduceBEq, Nat.reduceAdd]
    rfl
   ·intro (i : Nat) (hi : i ≤ ([] : List ByteArray).length ∧ (([] : List ByteArray).take i).all keyOk = true)
    simp (maxSteps:=9^9) only [L17_I, C37, go_sem, Int.reduceLT, Int.reduceLE, Int.reduceEq, Int.reduceNe, Int.reduceAdd, Int.reduceSub, Int.reduceMul, Int.reduceToNat, Int.reduceNeg, Nat.reduceEqDiff, Nat.reduceLeDiff, Nat.reduceSub, Nat.reduceMul, Nat.reduceLT, Nat.reduceBEq, Nat.reduceAdd]
    rintro c rfl
    refine sw_intro (fun hc => ?_) (fun hc => ?_) <;> simp only [decide_eq_true_eq, decide_eq_false_iff_not] at hc
    ·exact absurd hc (by omega)
    ·have e : i = ([] : List ByteArray).length := by have := hi.1; simp only [List.length_nil] at this ⊢; omega
     have hk := hi.2
     clear e
     refine loop_intro (A := M17 .nils .nils 0 [] .nils) (0 : Nat) ?_ ⟨Nat.zero_le _, rfl⟩ ?_
     ·simp (maxSteps:=9^9) only [M17_I, go_sem, Int.reduceLT, Int.reduceLE, Int.reduceEq, Int.reduceNe, Int.reduceAdd, Int.reduceSub, Int.reduceMul, Int.reduceToNat, Int.reduceNeg, Nat.reduceEqDiff, Nat.reduceLeDiff, Nat.reduceSub, Nat.reduceMul, Nat.reduceLT, Nat.reduceBEq, Nat.reduceAdd]
      rfl
     ·intro (j : Nat) (hj : j ≤ ([] : List EvT.den).length ∧ (([] : List EvT.den).take j).all (insOk 0 ([] : List EvT.den).length) = true)
      simp (maxSteps:=9^9) only [M17_I, C32, C38, go_sem, Int.reduceLT, Int.reduceLE, Int.reduceEq, Int.reduceNe, Int.reduceAdd, Int.reduceSub, Int.reduceMul, Int.reduceToNat, Int.reduceNeg, Nat.reduceEqDiff, Nat.reduceLeDiff, Nat.reduceSub, Nat.reduceMul, Nat.reduceLT, Nat.reduceBEq, Nat.reduceAdd]
      rintro c rfl
      refine sw_intro (fun hd => ?_) (fun hd => ?_) <;> simp only [decide_eq_true_eq, decide_eq_false_iff_not] at hd
      ·exact absurd hd (by omega)
      ·have e2 : ([] : List EvT.den).length ≤ j := by simp only [List.length_nil]; omega
       rw [List.take_of_length_le e2] at hj
       rw [show formP [] [] = true from formP_iff.2 ⟨⟨by simp only [List.length_nil]; omega, by simp only [List.length_nil]; omega⟩, by simpa using hk, hj.2⟩] at h
       exact h
  ·refine ⟨by simp, [(1, L17 .nils (.sl q 16 EvT code) [] .nils), (2, M17 .nils (.sl q 16 EvT code) 0 code (.sl q 16 EvT code))], ?_⟩
   simp (maxSteps:=9^9) only [a17, r17, go_sem, Int.reduceLT, Int.reduceLE, Int.reduceEq, Int.reduceNe, Int.reduceAdd, Int.reduceSub, Int.reduceMul, Int.reduceToNat, Int.reduceNeg, Nat.reduceEqDiff, Nat.reduceLeDiff, Nat.reduceSub, Nat.reduceMul, Nat.reduceLT, Nat.reduceBEq, Nat.reduceAdd]
   have hf : ¬ ((([] : List ByteArray).length ≤ 8 ∧ (code : List EvT.den).length ≤ 200) ∧ ([] : List ByteArray).all keyOk = true ∧ (code : List EvT.den).all (insOk ([] : List ByteArray).length (code : List EvT.den).length) = true) → K (.bool false) [] := fun hh => by rw [← formP_iff, Bool.not_eq_true] at hh; rw [hh] at h; exact h
   have c1 : ¬ (8 : Int) < (0 : Nat) := by omega
   rintro hc1 hc2 m rfl c rfl
   refine sw_intro (fun c2 => ?_) (fun c2 => ?_) <;> simp only [decide_eq_true_eq, decide_eq_false_iff_not] at c2
   ·exact hf (fun hh => by have := hh.1.2; omega)
   refine loop_intro (A := L17 .nils (.sl q 16 EvT code) [] .nils) (0 : Nat) ?_ ⟨Nat.zero_le _, rfl⟩ ?_
   ·simp (maxSteps:=9^9) only [L17_I, go_sem, Int.reduceLT, Int.reduceLE, Int.reduceEq, Int.reduceNe, Int.reduceAdd, Int.reduceSub, Int.reduceMul, Int.reduceToNat, Int.reduceNeg, Nat.reduceEqDiff, Nat.reduceLeDiff, Nat.reduceSub, Nat.reduceMul, Nat.reduceLT, Nat.reduceBEq, Nat.reduceAdd]
    rfl
   ·intro (i : Nat) (hi : i ≤ ([] : List ByteArray).length ∧ (([] : List ByteArray).take i).all keyOk = true)
    simp (maxSteps:=9^9) only [L17_I, C37, go_sem, Int.reduceLT, Int.reduceLE, Int.reduceEq, Int.reduceNe, Int.reduceAdd, Int.reduceSub, Int.reduceMul, Int.reduceToNat, Int.reduceNeg, Nat.reduceEqDiff, Nat.reduceLeDiff, Nat.reduceSub, Nat.reduceMul, Nat.reduceLT, Nat.reduceBEq, Nat.reduceAdd]
    rintro c rfl
    refine sw_intro (fun hc => ?_) (fun hc => ?_) <;> simp only [decide_eq_true_eq, decide_eq_false_iff_not] at hc
    ·exact absurd hc (by omega)
    ·have e : i = ([] : List ByteArray).length := by have := hi.1; simp only [List.length_nil] at this ⊢; omega
     have hk := hi.2
     clear e
     rintro _ _ m rfl
     refine loop_intro (A := M17 .nils (.sl q 16 EvT code) 0 code (.sl q 16 EvT code)) (0 : Nat) ?_ ⟨Nat.zero_le _, rfl⟩ ?_
     ·simp (maxSteps:=9^9) only [M17_I, go_sem, Int.reduceLT, Int.reduceLE, Int.reduceEq, Int.reduceNe, Int.reduceAdd, Int.reduceSub, Int.reduceMul, Int.reduceToNat, Int.reduceNeg, Nat.reduceEqDiff, Nat.reduceLeDiff, Nat.reduceSub, Nat.reduceMul, Nat.reduceLT, Nat.reduceBEq, Nat.reduceAdd]
      rfl
     ·intro (j : Nat) (hj : j ≤ (code : List EvT.den).length ∧ ((code : List EvT.den).take j).all (insOk 0 (code : List EvT.den).length) = true)
      simp (maxSteps:=9^9) only [M17_I, C32, C38, go_sem, Int.reduceLT, Int.reduceLE, Int.reduceEq, Int.reduceNe, Int.reduceAdd, Int.reduceSub, Int.reduceMul, Int.reduceToNat, Int.reduceNeg, Nat.reduceEqDiff, Nat.reduceLeDiff, Nat.reduceSub, Nat.reduceMul, Nat.reduceLT, Nat.reduceBEq, Nat.reduceAdd]
      rintro c rfl
      refine sw_intro (fun hd => ?_) (fun hd => ?_) <;> simp only [decide_eq_true_eq, decide_eq_false_iff_not] at hd
      ·refine nd_intro hd ?_
       have hb : ¬ insOk 0 code.length (elt EvT code j) = true → K (.bool false) [] := fun hn => hf (fun hh => hn (List.all_eq_true.1 hh.2.2 _ (List.mem_of_getElem? (elt_get hd))))
       have hnx : insOk 0 code.length (elt EvT code j) = true → ∀ m, m = IntKind.i64.wrap ((j : Int) + 1) → lpE (M17 .nils (.sl q 16 EvT code) 0 code (.sl q 16 EvT code)) 0 [1, 32, 33, 34] (0 : Nat) j { fr := [(1, .ptr 0 0), (32, (.sl q 16 EvT code)), (33, .int .i64 code.length), (34, .int .i64 m)], hp := [.struct [.nils, (.sl q 16 EvT code)], .struct [.int .i64 (elt EvT code j).fst, .int .i64 (elt EvT code j).snd]] } := fun hk2 m hm => by
        rw [w64 (by omega)] at hm
        subst hm
        refine lpE_intro (A := M17 .nils (.sl q 16 EvT code) 0 code (.sl q 16 EvT code)) (j + 1) (by simp (maxSteps:=9^9) only [M17_I, go_sem, Int.reduceLT, Int.reduceLE, Int.reduceEq, Int.reduceNe, Int.reduceAdd, Int.reduceSub, Int.reduceMul, Int.reduceToNat, Int.reduceNeg, Nat.reduceEqDiff, Nat.reduceLeDiff, Nat.reduceSub, Nat.reduceMul, Nat.reduceLT, Nat.reduceBEq, Nat.reduceAdd]; rfl) ⟨by omega, ?_⟩ (by show code.length - (j + 1) < code.length - j; omega)
        have e3 := take_elt (t := EvT) hd
        show List.all (List.take (j + 1) (code : List EvT.den)) _ = true
        rw [← e3, List.all_append, hj.2]
        simpa using hk2
       simp only [insOk, Bool.and_eq_true, Bool.or_eq_true, decide_eq_true_eq] at hb hnx
       refine ⟨fun ho => hb (fun hh => ho hh.1), fun ho => ?_⟩
       rintro c rfl
       refine sw_intro (fun he => ?_) (fun he => ?_) <;> simp only [Bool.not_eq_true', Bool.not_eq_false', decide_eq_true_eq, decide_eq_false_iff_not] at he
       ·rintro c rfl
        refine sw_intro (fun hl => ?_) (fun hl => ?_) <;> simp only [decide_eq_true_eq, decide_eq_false_iff_not] at hl
        ·exact hb (fun hh => hh.2.elim he (fun h2 => absurd h2.1 (Int.not_le.2 hl)))
        refine ⟨by omega, ?_⟩
        rintro c rfl
        refine sw_intro (fun hg => ?_) (fun hg => ?_) <;> simp only [decide_eq_true_eq, decide_eq_false_iff_not] at hg
        ·exact hb (fun hh => hh.2.elim he (fun h2 => absurd h2.2 (Int.not_lt.2 hg)))
        intro _ _ m hm
        exact hnx ⟨ho, .inr ⟨Int.not_lt.1 hl, Int.not_le.1 hg⟩⟩ m hm
       ·intro _ _ m hm
        exact hnx ⟨ho, .inl he⟩ m hm
      ·have e2 : (code : List EvT.den).length ≤ j := by  omega
       rw [List.take_of_length_le e2] at hj
       rw [show formP [] code = true from formP_iff.2 ⟨⟨by simp only [List.length_nil]; omega, by  omega⟩, by simpa using hk, hj.2⟩] at h
       exact h
  ·refine ⟨by simp, [(1, L17 (.sl p 16 .str names) .nils names (.sl p 16 .str names)), (2, M17 (.sl p 16 .str names) .nils names.length [] .nils)], ?_⟩
   simp (maxSteps:=9^9) only [a17, r17, go_sem, Int.reduceLT, Int.reduceLE, Int.reduceEq, Int.reduceNe, Int.reduceAdd, Int.reduceSub, Int.reduceMul, Int.reduceToNat, Int.reduceNeg, Nat.reduceEqDiff, Nat.reduceLeDiff, Nat.reduceSub, Nat.reduceMul, Nat.reduceLT, Nat.reduceBEq, Nat.reduceAdd]
   have hf : ¬ (((names : List ByteArray).length ≤ 8 ∧ ([] : List EvT.den).length ≤ 200) ∧ (names : List ByteArray).all keyOk = true ∧ ([] : List EvT.den).all (insOk (names : List ByteArray).length ([] : List EvT.den).length) = true) → K (.bool false) [] := fun hh => by rw [← formP_iff, Bool.not_eq_true] at hh; rw [hh] at h; exact h
   rintro hn1 hn2 m rfl c rfl
   refine sw_intro (fun c1 => ?_) (fun c1 => ?_) <;> simp only [decide_eq_true_eq, decide_eq_false_iff_not] at c1
   ·exact hf (fun hh => by have := hh.1.1; omega)
   have c2 : ¬ (200 : Int) < (0 : Nat) := by omega
   rintro _ _ m rfl
   refine loop_intro (A := L17 (.sl p 16 .str names) .nils names (.sl p 16 .str names)) (0 : Nat) ?_ ⟨Nat.zero_le _, rfl⟩ ?_
   ·simp (maxSteps:=9^9) only [L17_I, go_sem, Int.reduceLT, Int.reduceLE, Int.reduceEq, Int.reduceNe, Int.reduceAdd, Int.reduceSub, Int.reduceMul, Int.reduceToNat, Int.reduceNeg, Nat.reduceEqDiff, Nat.reduceLeDiff, Nat.reduceSub, Nat.reduceMul, Nat.reduceLT, Nat.reduceBEq, Nat.reduceAdd]
    rfl
   ·intro (i : Nat) (hi : i ≤ (names : List ByteArray).length ∧ ((names : List ByteArray).take i).all keyOk = true)
    simp (maxSteps:=9^9) only [L17_I, C37, go_sem, Int.reduceLT, Int.reduceLE, Int.reduceEq, Int.reduceNe, Int.reduceAdd, Int.reduceSub, Int.reduceMul, Int.reduceToNat, Int.reduceNeg, Nat.reduceEqDiff, Nat.reduceLeDiff, Nat.reduceSub, Nat.reduceMul, Nat.reduceLT, Nat.reduceBEq, Nat.reduceAdd]
    rintro c rfl
    refine sw_intro (fun hc => ?_) (fun hc => ?_) <;> simp only [decide_eq_true_eq, decide_eq_false_iff_not] at hc
    ·refine nd_intro hc (sw_intro (fun hk => ?_) (fun hk => ?_))
     case refine_2 =>
      refine hf (fun hh => ?_)
      have hm := List.all_eq_true.1 hh.2.1 (elt .str names i) (List.mem_of_getElem? (elt_get hc))
      rw [hm] at hk
      simp at hk
     rintro _ _ m hm
     rw [w64 (by omega)] at hm
     subst hm
     refine lpE_intro (A := L17 (.sl p 16 .str names) .nils names (.sl p 16 .str names)) (i + 1) (by simp (maxSteps:=9^9) only [L17_I, go_sem, Int.reduceLT, Int.reduceLE, Int.reduceEq, Int.reduceNe, Int.reduceAdd, Int.reduceSub, Int.reduceMul, Int.reduceToNat, Int.reduceNeg, Nat.reduceEqDiff, Nat.reduceLeDiff, Nat.reduceSub, Nat.reduceMul, Nat.reduceLT, Nat.reduceBEq, Nat.reduceAdd]; rfl) ⟨by omega, ?_⟩ (by show (names : List ByteArray).length - (i + 1) < (names : List ByteArray).length - i; omega)
     have e3 := take_elt (t := .str) hc
     show List.all (List.take (i + 1) (names : List ByteArray)) _ = true
     rw [← e3, List.all_append, hi.2]
     simpa using hk
    ·have e : i = (names : List ByteArray).length := by have := hi.1;  omega
     have hk := hi.2
     subst e; simp only [List.take_length] at hk
     refine loop_intro (A := M17 (.sl p 16 .str names) .nils names.length [] .nils) (0 : Nat) ?_ ⟨Nat.zero_le _, rfl⟩ ?_
     ·simp (maxSteps:=9^9) only [M17_I, go_sem, Int.reduceLT, Int.reduceLE, Int.reduceEq, Int.reduceNe, Int.reduceAdd, Int.reduceSub, Int.reduceMul, Int.reduceToNat, Int.reduceNeg, Nat.reduceEqDiff, Nat.reduceLeDiff, Nat.reduceSub, Nat.reduceMul, Nat.reduceLT, Nat.reduceBEq, Nat.reduceAdd]
      rfl
     ·intro (j : Nat) (hj : j ≤ ([] : List EvT.den).length ∧ (([] : List EvT.den).take j).all (insOk names.length ([] : List EvT.den).length) = true)
      simp (maxSteps:=9^9) only [M17_I, C32, C38, go_sem, Int.reduceLT, Int.reduceLE, Int.reduceEq, Int.reduceNe, Int.reduceAdd, Int.reduceSub, Int.reduceMul, Int.reduceToNat, Int.reduceNeg, Nat.reduceEqDiff, Nat.reduceLeDiff, Nat.reduceSub, Nat.reduceMul, Nat.reduceLT, Nat.reduceBEq, Nat.reduceAdd]
      rintro c rfl
      refine sw_intro (fun hd => ?_) (fun hd => ?_) <;> simp only [decide_eq_true_eq, decide_eq_false_iff_not] at hd
      ·exact absurd hd (by omega)
      ·have e2 : ([] : List EvT.den).length ≤ j := by simp only [List.length_nil]; omega
       rw [List.take_of_length_le e2] at hj
       rw [show formP names [] = true from formP_iff.2 ⟨⟨by  omega, by simp only [List.length_nil]; omega⟩, by simpa using hk, hj.2⟩] at h
       exact h
  ·refine ⟨by simp, [(1, L17 (.sl p 16 .str names) (.sl q 16 EvT code) names (.sl p 16 .str names)), (2, M17 (.sl p 16 .str names) (.sl q 16 EvT code) names.length code (.sl q 16 EvT code))], ?_⟩
   simp (maxSteps:=9^9) only [a17, r17, go_sem, Int.reduceLT, Int.reduceLE, Int.reduceEq, Int.reduceNe, Int.reduceAdd, Int.reduceSub, Int.reduceMul, Int.reduceToNat, Int.reduceNeg, Nat.reduceEqDiff, Nat.reduceLeDiff, Nat.reduceSub, Nat.reduceMul, Nat.reduceLT, Nat.reduceBEq, Nat.reduceAdd]
   have hf : ¬ (((names : List ByteArray).length ≤ 8 ∧ (code : List EvT.den).length ≤ 200) ∧ (names : List ByteArray).all keyOk = true ∧ (code : List EvT.den).all (insOk (names : List ByteArray).length (code : List EvT.den).length) = true) → K (.bool false) [] := fun hh => by rw [← formP_iff, Bool.not_eq_true] at hh; rw [hh] at h; exact h
   rintro hn1 hn2 m rfl c rfl
   refine sw_intro (fun c1 => ?_) (fun c1 => ?_) <;> simp only [decide_eq_true_eq, decide_eq_false_iff_not] at c1
   ·exact hf (fun hh => by have := hh.1.1; omega)
   rintro hc1 hc2 m rfl c rfl
   refine sw_intro (fun c2 => ?_) (fun c2 => ?_) <;> simp only [decide_eq_true_eq, decide_eq_false_iff_not] at c2
   ·exact hf (fun hh => by have := hh.1.2; omega)
   rintro _ _ m rfl
   refine loop_intro (A := L17 (.sl p 16 .str names) (.sl q 16 EvT code) names (.sl p 16 .str names)) (0 : Nat) ?_ ⟨Nat.zero_le _, rfl⟩ ?_
   ·simp (maxSteps:=9^9) only [L17_I, go_sem, Int.reduceLT, Int.reduceLE, Int.reduceEq, Int.reduceNe, Int.reduceAdd, Int.reduceSub, Int.reduceMul, Int.reduceToNat, Int.reduceNeg, Nat.reduceEqDiff, Nat.reduceLeDiff, Nat.reduceSub, Nat.reduceMul, Nat.reduceLT, Nat.reduceBEq, Nat.reduceAdd]
    rfl
   ·intro (i : Nat) (hi : i ≤ (names : List ByteArray).length ∧ ((names : List ByteArray).take i).all keyOk = true)
    simp (maxSteps:=9^9) only [L17_I, C37, go_sem, Int.reduceLT, Int.reduceLE, Int.reduceEq, Int.reduceNe, Int.reduceAdd, Int.reduceSub, Int.reduceMul, Int.reduceToNat, Int.reduceNeg, Nat.reduceEqDiff, Nat.reduceLeDiff, Nat.reduceSub, Nat.reduceMul, Nat.reduceLT, Nat.reduceBEq, Nat.reduceAdd]
    rintro c rfl
    refine sw_intro (fun hc => ?_) (fun hc => ?_) <;> simp only [decide_eq_true_eq, decide_eq_false_iff_not] at hc
    ·refine nd_intro hc (sw_intro (fun hk => ?_) (fun hk => ?_))
     case refine_2 =>
      refine hf (fun hh => ?_)
      have hm := List.all_eq_true.1 hh.2.1 (elt .str names i) (List.mem_of_getElem? (elt_get hc))
      rw [hm] at hk
      simp at hk
     rintro _ _ m hm
     rw [w64 (by omega)] at hm
     subst hm
     refine lpE_intro (A := L17 (.sl p 16 .str names) (.sl q 16 EvT code) names (.sl p 16 .str names)) (i + 1) (by simp (maxSteps:=9^9) only [L17_I, go_sem, Int.reduceLT, Int.reduceLE, Int.reduceEq, Int.reduceNe, Int.reduceAdd, Int.reduceSub, Int.reduceMul, Int.reduceToNat, Int.reduceNeg, Nat.reduceEqDiff, Nat.reduceLeDiff, Nat.reduceSub, Nat.reduceMul, Nat.reduceLT, Nat.reduceBEq, Nat.reduceAdd]; rfl) ⟨by omega, ?_⟩ (by show (names : List ByteArray).length - (i + 1) < (names : List ByteArray).length - i; omega)
     have e3 := take_elt (t := .str) hc
     show List.all (List.take (i + 1) (names : List ByteArray)) _ = true
     rw [← e3, List.all_append, hi.2]
     simpa using hk
    ·have e : i = (names : List ByteArray).length := by have := hi.1;  omega
     have hk := hi.2
     subst e; simp only [List.take_length] at hk
     rintro _ _ m rfl
     refine loop_intro (A := M17 (.sl p 16 .str names) (.sl q 16 EvT code) names.length code (.sl q 16 EvT code)) (0 : Nat) ?_ ⟨Nat.zero_le _, rfl⟩ ?_
     ·simp (maxSteps:=9^9) only [M17_I, go_sem, Int.reduceLT, Int.reduceLE, Int.reduceEq, Int.reduceNe, Int.reduceAdd, Int.reduceSub, Int.reduceMul, Int.reduceToNat, Int.reduceNeg, Nat.reduceEqDiff, Nat.reduceLeDiff, Nat.reduceSub, Nat.reduceMul, Nat.reduceLT, Nat.reduceBEq, Nat.reduceAdd]
      rfl
     ·intro (j : Nat) (hj : j ≤ (code : List EvT.den).length ∧ ((code : List EvT.den).take j).all (insOk names.length (code : List EvT.den).length) = true)
      simp (maxSteps:=9^9) only [M17_I, C32, C38, go_sem, Int.reduceLT, Int.reduceLE, Int.reduceEq, Int.reduceNe, Int.reduceAdd, Int.reduceSub, Int.reduceMul, Int.reduceToNat, Int.reduceNeg, Nat.reduceEqDiff, Nat.reduceLeDiff, Nat.reduceSub, Nat.reduceMul, Nat.reduceLT, Nat.reduceBEq, Nat.reduceAdd]
      rintro c rfl
      refine sw_intro (fun hd => ?_) (fun hd => ?_) <;> simp only [decide_eq_true_eq, decide_eq_false_iff_not] at hd
      ·refine nd_intro hd ?_
       have hb : ¬ insOk names.length code.length (elt EvT code j) = true → K (.bool false) [] := fun hn => hf (fun hh => hn (List.all_eq_true.1 hh.2.2 _ (List.mem_of_getElem? (elt_get hd))))
       have hnx : insOk names.length code.length (elt EvT code j) = true → ∀ m, m = IntKind.i64.wrap ((j : Int) + 1) → lpE (M17 (.sl p 16 .str names) (.sl q 16 EvT code) names.length code (.sl q 16 EvT code)) 0 [1, 32, 33, 34] (0 : Nat) j { fr := [(1, .ptr 0 0), (32, (.sl q 16 EvT code)), (33, .int .i64 code.length), (34, .int .i64 m)], hp := [.struct [(.sl p 16 .str names), (.sl q 16 EvT code)], .struct [.int .i64 (elt EvT code j).fst, .int .i64 (elt EvT code j).snd]] } := fun hk2 m hm => by
        rw [w64 (by omega)] at hm
        subst hm
        refine lpE_intro (A := M17 (.sl p 16 .str names) (.sl q 16 EvT code) names.length code (.sl q 16 EvT code)) (j + 1) (by simp (maxSteps:=9^9) only [M17_I, go_sem, Int.reduceLT, Int.reduceLE, Int.reduceEq, Int.reduceNe, Int.reduceAdd, Int.reduceSub, Int.reduceMul, Int.reduceToNat, Int.reduceNeg, Nat.reduceEqDiff, Nat.reduceLeDiff, Nat.reduceSub, Nat.reduceMul, Nat.reduceLT, Nat.reduceBEq, Nat.reduceAdd]; rfl) ⟨by omega, ?_⟩ (by show code.length - (j + 1) < code.length - j; omega)
        have e3 := take_elt (t := EvT) hd
        show List.all (List.take (j + 1) (code : List EvT.den)) _ = true
        rw [← e3, List.all_append, hj.2]
        simpa using hk2
       simp only [insOk, Bool.and_eq_true, Bool.or_eq_true, decide_eq_true_eq] at hb hnx
       refine ⟨fun ho => hb (fun hh => ho hh.1), fun ho => ?_⟩
       rintro c rfl
       refine sw_intro (fun he => ?_) (fun he => ?_) <;> simp only [Bool.not_eq_true', Bool.not_eq_false', decide_eq_true_eq, decide_eq_false_iff_not] at he
       ·rintro c rfl
        refine sw_intro (fun hl => ?_) (fun hl => ?_) <;> simp only [decide_eq_true_eq, decide_eq_false_iff_not] at hl
        ·exact hb (fun hh => hh.2.elim he (fun h2 => absurd h2.1 (Int.not_le.2 hl)))
        refine ⟨by omega, by omega, ?_⟩
        rintro c rfl
        refine sw_intro (fun hg => ?_) (fun hg => ?_) <;> simp only [decide_eq_true_eq, decide_eq_false_iff_not] at hg
        ·exact hb (fun hh => hh.2.elim he (fun h2 => absurd h2.2 (Int.not_lt.2 hg)))
        intro _ _ m hm
        exact hnx ⟨ho, .inr ⟨Int.not_lt.1 hl, Int.not_le.1 hg⟩⟩ m hm
       ·intro _ _ m hm
        exact hnx ⟨ho, .inl he⟩ m hm
      ·have e2 : (code : List EvT.den).length ≤ j := by  omega
       rw [List.take_of_length_le e2] at hj
       rw [show formP names code = true from formP_iff.2 ⟨⟨by  omega, by  omega⟩, by simpa using hk, hj.2⟩] at h
       exact h
 ·exact h.elim
end Go.V
namespace Go.V
open Go.Proofs
set_option maxRecDepth 100000
set_option maxHeartbeats 8000000
set_option linter.unusedSimpArgs false
set_option linter.unnecessarySimpa false
set_option linter.unusedVariables false
/-! ### programs: sizes that are looked at, and the other package's -/
def fewP (names : List ByteArray) (code : List EvT.den) : Bool := (decide (names.length ≤ 51) && names.all (fun s => decide (s.size ≤ 1000))) && decide (code.length ≤ 1000)
theorem fewP_iff {names : List ByteArray} {code : List EvT.den} : fewP names code = true ↔ (names.length ≤ 51 ∧ names.all (fun s => decide (s.size ≤ 1000)) = true) ∧ code.length ≤ 1000 := by
 simp [fewP]
def C13 : Contract := fun args hp K => match args, hp with
 | [.agg [x, y]], [] => onL .str 16 x fun names => onL EvT 16 y fun code => K (.bool (fewP names code)) []
 | _, _ => False
def L13 (x y : SV) (names : List ByteArray) : LoopAnn := { G := Nat, I := fun i => ⟨[(1, .ptr 0 0), (6, .int .i64 names.length), (7, .int .i64 i)], [.struct [x, y]]⟩, R := fun _ i => i ≤ names.length ∧ i ≤ 51 ∧ (names.take i).all (fun s => decide (s.size ≤ 1000)) = true, μ := fun i => names.length - i }
theorem L13_I {x y names} (i : Nat) : (L13 x y names).I i = ⟨[(1, .ptr 0 0), (6, .int .i64 names.length), (7, .int .i64 i)], [.struct [x, y]]⟩ := rfl
theorem s13 : Sound Tryd.prog 13 C13 := by
 refine sound_of_okF ok13 .nil ?_
 intro args hp K h
 unfold C13 at h
 split at h
 ·rename_i x y
  have hmx := maxLen_val
  obtain ⟨names, hx, h1⟩ : ∃ names, (x = .nils ∧ names = [] ∨ ∃ p, x = .sl p 16 .str names) ∧ onL EvT 16 y fun code => K (.bool (fewP names code)) [] := by
   rcases h with ⟨hx, h2⟩ | ⟨p, names, hx, h2⟩
   ·exact ⟨[], .inl ⟨hx, rfl⟩, h2⟩
   ·exact ⟨names, .inr ⟨p, hx⟩, h2⟩
  clear h
  obtain ⟨code, hy, h⟩ : ∃ code, (y = .nils ∧ code = [] ∨ ∃ p, y = .sl p 16 EvT code) ∧ K (.bool (fewP names code)) [] := by
   rcases h1 with ⟨hy, h2⟩ | ⟨p, code, hy, h2⟩
   ·exact ⟨[], .inl ⟨hy, rfl⟩, h2⟩
   ·exact ⟨code, .inr ⟨p, hy⟩, h2⟩
  clear h1
  have hf : ¬ ((names.length ≤ 51 ∧ names.all (fun s => decide (s.size ≤ 1000)) = true) ∧ (code : List EvT.den).length ≤ 1000) → K (.bool false) [] := fun hh => by rw [← fewP_iff, Bool.not_eq_true] at hh; rw [hh] at h; exact h
  have hend : ∀ {i : Nat}, i ≤ names.length ∧ i ≤ 51 ∧ (names.take i).all (fun s => decide (s.size ≤ 1000)) = true → ¬ i < names.length → ∀ c, c = decide ((code.length : Int) ≤ 1000) → K (.bool c) [] := by
   intro i hi hc c hcc
   have e : i = names.length := by omega
   subst e
   rw [List.take_length] at hi
   have e2 : c = fewP names code := by
    rw [hcc]
    unfold fewP
    rw [hi.2.2, decide_eq_true hi.2.1]
    simp only [Bool.true_and]
    exact decide_eq_decide.2 (by omega)
   rw [e2]
   exact h
  rcases hx with ⟨rfl, rfl⟩ | ⟨p, rfl⟩ <;> rcases hy with ⟨rfl, rfl⟩ | ⟨q, rfl⟩
  ·refine ⟨by simp, [(1, L13 .nils .nils ([] : List ByteArray))], ?_⟩
   simp (maxSteps:=9^9) only [a13, r13, go_sem, Int.reduceLT, Int.reduceLE, Int.reduceEq, Int.reduceNe, Int.reduceAdd, Int.reduceSub, Int.reduceMul, Int.reduceToNat, Int.reduceNeg, Nat.reduceEqDiff, Nat.reduceLeDiff, Nat.reduceSub, Nat.reduceMul, Nat.reduceLT, Nat.reduceBEq, Nat.reduceAdd]
   refine loop_intro (A := L13 .nils .nils ([] : List ByteArray)) (0 : Nat) ?_ ⟨Nat.zero_le _, by omega, rfl⟩ ?_
   ·simp (maxSteps:=9^9) only [L13_I, go_sem, Int.reduceLT, Int.reduceLE, Int.reduceEq, Int.reduceNe, Int.reduceAdd, Int.reduceSub, Int.reduceMul, Int.reduceToNat, Int.reduceNeg, Nat.reduceEqDiff, Nat.reduceLeDiff, Nat.reduceSub, Nat.reduceMul, Nat.reduceLT, Nat.reduceBEq, Nat.reduceAdd]
    rfl
   ·intro (i : Nat) (hi : i ≤ ([] : List ByteArray).length ∧ i ≤ 51 ∧ (([] : List ByteArray).take i).all (fun s => decide (s.size ≤ 1000)) = true)
    simp (maxSteps:=9^9) only [L13_I, go_sem, Int.reduceLT, Int.reduceLE, Int.reduceEq, Int.reduceNe, Int.reduceAdd, Int.reduceSub, Int.reduceMul, Int.reduceToNat, Int.reduceNeg, Nat.reduceEqDiff, Nat.reduceLeDiff, Nat.reduceSub, Nat.reduceMul, Nat.reduceLT, Nat.reduceBEq, Nat.reduceAdd]
    rintro c rfl
    refine sw_intro (fun hc => ?_) (fun hc => ?_) <;> simp only [decide_eq_true_eq, decide_eq_false_iff_not] at hc
    ·exact absurd hc (by omega)
    exact hend hi hc true rfl
  ·refine ⟨by simp, [(1, L13 .nils (.sl q 16 EvT code) ([] : List ByteArray))], ?_⟩
   simp (maxSteps:=9^9) only [a13, r13, go_sem, Int.reduceLT, Int.reduceLE, Int.reduceEq, Int.reduceNe, Int.reduceAdd, Int.reduceSub, Int.reduceMul, Int.reduceToNat, Int.reduceNeg, Nat.reduceEqDiff, Nat.reduceLeDiff, Nat.reduceSub, Nat.reduceMul, Nat.reduceLT, Nat.reduceBEq, Nat.reduceAdd]
   refine loop_intro (A := L13 .nils (.sl q 16 EvT code) ([] : List ByteArray)) (0 : Nat) ?_ ⟨Nat.zero_le _, by omega, rfl⟩ ?_
   ·simp (maxSteps:=9^9) only [L13_I, go_sem, Int.reduceLT, Int.reduceLE, Int.reduceEq, Int.reduceNe, Int.reduceAdd, Int.reduceSub, Int.reduceMul, Int.reduceToNat, Int.reduceNeg, Nat.reduceEqDiff, Nat.reduceLeDiff, Nat.reduceSub, Nat.reduceMul, Nat.reduceLT, Nat.reduceBEq, Nat.reduceAdd]
    rfl
   ·intro (i : Nat) (hi : i ≤ ([] : List ByteArray).length ∧ i ≤ 51 ∧ (([] : List ByteArray).take i).all (fun s => decide (s.size ≤ 1000)) = true)
    simp (maxSteps:=9^9) only [L13_I, go_sem, Int.reduceLT, Int.reduceLE, Int.reduceEq, Int.reduceNe, Int.reduceAdd, Int.reduceSub, Int.reduceMul, Int.reduceToNat, Int.reduceNeg, Nat.reduceEqDiff, Nat.reduceLeDiff, Nat.reduceSub, Nat.reduceMul, Nat.reduceLT, Nat.reduceBEq, Nat.reduceAdd]
    rintro c rfl
    refine sw_intro (fun hc => ?_) (fun hc => ?_) <;> simp only [decide_eq_true_eq, decide_eq_false_iff_not] at hc
    ·exact absurd hc (by omega)
    rintro _ _ m rfl c hcc
    exact hend hi hc c hcc
  ·refine ⟨by simp, [(1, L13 (.sl p 16 .str names) .nils names)], ?_⟩
   simp (maxSteps:=9^9) only [a13, r13, go_sem, Int.reduceLT, Int.reduceLE, Int.reduceEq, Int.reduceNe, Int.reduceAdd, Int.reduceSub, Int.reduceMul, Int.reduceToNat, Int.reduceNeg, Nat.reduceEqDiff, Nat.reduceLeDiff, Nat.reduceSub, Nat.reduceMul, Nat.reduceLT, Nat.reduceBEq, Nat.reduceAdd]
   rintro _ _ m rfl
   refine loop_intro (A := L13 (.sl p 16 .str names) .nils names) (0 : Nat) ?_ ⟨Nat.zero_le _, by omega, rfl⟩ ?_
   ·simp (maxSteps:=9^9) only [L13_I, go_sem, Int.reduceLT, Int.reduceLE, Int.reduceEq, Int.reduceNe, Int.reduceAdd, Int.reduceSub, Int.reduceMul, Int.reduceToNat, Int.reduceNeg, Nat.reduceEqDiff, Nat.reduceLeDiff, Nat.reduceSub, Nat.reduceMul, Nat.reduceLT, Nat.reduceBEq, Nat.reduceAdd]
    rfl
   ·intro (i : Nat) (hi : i ≤ names.length ∧ i ≤ 51 ∧ (names.take i).all (fun s => decide (s.size ≤ 1000)) = true)
    simp (maxSteps:=9^9) only [L13_I, go_sem, Int.reduceLT, Int.reduceLE, Int.reduceEq, Int.reduceNe, Int.reduceAdd, Int.reduceSub, Int.reduceMul, Int.reduceToNat, Int.reduceNeg, Nat.reduceEqDiff, Nat.reduceLeDiff, Nat.reduceSub, Nat.reduceMul, Nat.reduceLT, Nat.reduceBEq, Nat.reduceAdd]
    rintro c rfl
    refine sw_intro (fun hc => ?_) (fun hc => ?_) <;> simp only [decide_eq_true_eq, decide_eq_false_iff_not] at hc
    ·refine nd_intro hc ?_
     rintro _ m rfl c rfl
     have hall : names.all (fun s => decide (s.size ≤ 1000)) = true → (elt .str names i).size ≤ 1000 := fun hh => by
      have := List.all_eq_true.1 hh (elt .str names i) (List.mem_of_getElem? (elt_get hc))
      simpa using this
     refine sw_intro (fun h1 => ?_) (fun h1 => ?_) <;> simp only [decide_eq_true_eq, decide_eq_false_iff_not] at h1
     ·refine hf (fun hh => ?_)
      have := hall hh.1.2
      omega
     rintro c rfl
     refine sw_intro (fun h2 => ?_) (fun h2 => ?_) <;> simp only [decide_eq_true_eq, decide_eq_false_iff_not] at h2
     ·exact hf (fun hh => by have := hh.1.1; omega)
     rintro _ _ m hm
     rw [w64 (by omega)] at hm
     subst hm
     refine lpE_intro (A := L13 (.sl p 16 .str names) .nils names) (i + 1) (by simp (maxSteps:=9^9) only [L13_I, go_sem, Int.reduceLT, Int.reduceLE, Int.reduceEq, Int.reduceNe, Int.reduceAdd, Int.reduceSub, Int.reduceMul, Int.reduceToNat, Int.reduceNeg, Nat.reduceEqDiff, Nat.reduceLeDiff, Nat.reduceSub, Nat.reduceMul, Nat.reduceLT, Nat.reduceBEq, Nat.reduceAdd]; rfl) ⟨by omega, by omega, ?_⟩ (by show names.length - (i + 1) < names.length - i; omega)
     have e3 := take_elt (t := .str) hc
     show List.all (List.take (i + 1) names) _ = true
     rw [← e3, List.all_append, hi.2.2]
     simp only [List.all_cons, List.all_nil, Bool.and_true, Bool.true_and, decide_eq_true_eq]
     omega
    exact hend hi hc true rfl
  ·refine ⟨by simp, [(1, L13 (.sl p 16 .str names) (.sl q 16 EvT code) names)], ?_⟩
   simp (maxSteps:=9^9) only [a13, r13, go_sem, Int.reduceLT, Int.reduceLE, Int.reduceEq, Int.reduceNe, Int.reduceAdd, Int.reduceSub, Int.reduceMul, Int.reduceToNat, Int.reduceNeg, Nat.reduceEqDiff, Nat.reduceLeDiff, Nat.reduceSub, Nat.reduceMul, Nat.reduceLT, Nat.reduceBEq, Nat.reduceAdd]
   rintro _ _ m rfl
   refine loop_intro (A := L13 (.sl p 16 .str names) (.sl q 16 EvT code) names) (0 : Nat) ?_ ⟨Nat.zero_le _, by omega, rfl⟩ ?_
   ·simp (maxSteps:=9^9) only [L13_I, go_sem, Int.reduceLT, Int.reduceLE, Int.reduceEq, Int.reduceNe, Int.reduceAdd, Int.reduceSub, Int.reduceMul, Int.reduceToNat, Int.reduceNeg, Nat.reduceEqDiff, Nat.reduceLeDiff, Nat.reduceSub, Nat.reduceMul, Nat.reduceLT, Nat.reduceBEq, Nat.reduceAdd]
    rfl
   ·intro (i : Nat) (hi : i ≤ names.length ∧ i ≤ 51 ∧ (names.take i).all (fun s => decide (s.size ≤ 1000)) = true)
    simp (maxSteps:=9^9) only [L13_I, go_sem, Int.reduceLT, Int.reduceLE, Int.reduceEq, Int.reduceNe, Int.reduceAdd, Int.reduceSub, Int.reduceMul, Int.reduceToNat, Int.reduceNeg, Nat.reduceEqDiff, Nat.reduceLeDiff, Nat.reduceSub, Nat.reduceMul, Nat.reduceLT, Nat.reduceBEq, Nat.reduceAdd]
    rintro c rfl
    refine sw_intro (fun hc => ?_) (fun hc => ?_) <;> simp only [decide_eq_true_eq, decide_eq_false_iff_not] at hc
    ·refine nd_intro hc ?_
     rintro _ m rfl c rfl
     have hall : names.all (fun s => decide (s.size ≤ 1000)) = true → (elt .str names i).size ≤ 1000 := fun hh => by
      have := List.all_eq_true.1 hh (elt .str names i) (List.mem_of_getElem? (elt_get hc))
      simpa using this
     refine sw_intro (fun h1 => ?_) (fun h1 => ?_) <;> simp only [decide_eq_true_eq, decide_eq_false_iff_not] at h1
     ·refine hf (fun hh => ?_)
      have := hall hh.1.2
      omega
     rintro c rfl
     refine sw_intro (fun h2 => ?_) (fun h2 => ?_) <;> simp only [decide_eq_true_eq, decide_eq_false_iff_not] at h2
     ·exact hf (fun hh => by have := hh.1.1; omega)
     rintro _ _ m hm
     rw [w64 (by omega)] at hm
     subst hm
     refine lpE_intro (A := L13 (.sl p 16 .str names) (.sl q 16 EvT code) names) (i + 1) (by simp (maxSteps:=9^9) only [L13_I, go_sem, Int.reduceLT, Int.reduceLE, Int.reduceEq, Int.reduceNe, Int.reduceAdd, Int.reduceSub, Int.reduceMul, Int.reduceToNat, Int.reduceNeg, Nat.reduceEqDiff, Nat.reduceLeDiff, Nat.reduceSub, Nat.reduceMul, Nat.reduceLT, Nat.reduceBEq, Nat.reduceAdd]; rfl) ⟨by omega, by omega, ?_⟩ (by show names.length - (i + 1) < names.length - i; omega)
     have e3 := take_elt (t := .str) hc
     show List.all (List.take (i + 1) names) _ = true
     rw [← e3, List.all_append, hi.2.2]
     simp only [List.all_cons, List.all_nil, Bool.and_true, Bool.true_and, decide_eq_true_eq]
     omega
    rintro _ _ m rfl c hcc
    exact hend hi hc c hcc
 ·exact h.elim
end Go.V
namespace Go.V
open Go.Proofs
set_option maxRecDepth 100000
set_option maxHeartbeats 8000000
set_option linter.unusedSimpArgs false
set_option linter.unnecessarySimpa false
set_option linter.unusedVariables false
def C15 : Contract := fun args hp K => match args, hp with
 | [.agg [x, y]], [] => onL .str 16 x fun names => onL EvT 16 y fun code => names.length ≤ 100000 ∧ (code : List EvT.den).length ≤ 100000 ∧ K (.agg [.sl true 16 .str names, .sl true 16 EvT code]) []
 | _, _ => False
def L15 (x y : SV) (names : List ByteArray) (code : List EvT.den) : LoopAnn := { G := Nat, I := fun i => ⟨[(1, .ptr 0 0), (2, .ptr 1 0), (3, .ptr 4 0), (12, .int .i64 code.length), (13, .int .i64 i)], [.struct [x, y], .struct [.own 2, .own 3], .row true 16 .str [], .row true 16 EvT [], .struct [.own 5, .own 6], .row true 16 .str names, .row true 16 EvT (code.take i)]⟩, R := fun _ i => i ≤ code.length, μ := fun i => code.length - i }
theorem L15_I {x y names code} (i : Nat) : (L15 x y names code).I i = ⟨[(1, .ptr 0 0), (2, .ptr 1 0), (3, .ptr 4 0), (12, .int .i64 code.length), (13, .int .i64 i)], [.struct [x, y], .struct [.own 2, .own 3], .row true 16 .str [], .row true 16 EvT [], .struct [.own 5, .own 6], .row true 16 .str names, .row true 16 EvT (code.take i)]⟩ := rfl
theorem s15 : Sound Tryd.prog 15 C15 := by
 refine sound_of_okF ok15 .nil ?_
 intro args hp K h
 unfold C15 at h
 split at h
 ·rename_i x y
  have hmx := maxLen_val
  rcases h with ⟨rfl, ⟨rfl, hn, hc, h⟩ | ⟨q, code, rfl, hn, hc, h⟩⟩ | ⟨p, names, rfl, ⟨rfl, hn, hc, h⟩ | ⟨q, code, rfl, hn, hc, h⟩⟩
  ·refine ⟨by simp, [(1, L15 .nils .nils ([] : List ByteArray) ([] : List EvT.den))], ?_⟩
   simp (maxSteps:=9^9) only [a15, r15, go_sem, Int.reduceLT, Int.reduceLE, Int.reduceEq, Int.reduceNe, Int.reduceAdd, Int.reduceSub, Int.reduceMul, Int.reduceToNat, Int.reduceNeg, Nat.reduceEqDiff, Nat.reduceLeDiff, Nat.reduceSub, Nat.reduceMul, Nat.reduceLT, Nat.reduceBEq, Nat.reduceAdd]
   refine loop_intro (A := L15 .nils .nils ([] : List ByteArray) ([] : List EvT.den)) (0 : Nat) ?_ (Nat.zero_le _) ?_
   ·simp (maxSteps:=9^9) only [L15_I, go_sem, Int.reduceLT, Int.reduceLE, Int.reduceEq, Int.reduceNe, Int.reduceAdd, Int.reduceSub, Int.reduceMul, Int.reduceToNat, Int.reduceNeg, Nat.reduceEqDiff, Nat.reduceLeDiff, Nat.reduceSub, Nat.reduceMul, Nat.reduceLT, Nat.reduceBEq, Nat.reduceAdd]
    rfl
   ·intro (i : Nat) (hi : i ≤ ([] : List EvT.den).length)
    simp (maxSteps:=9^9) only [L15_I, go_sem, Int.reduceLT, Int.reduceLE, Int.reduceEq, Int.reduceNe, Int.reduceAdd, Int.reduceSub, Int.reduceMul, Int.reduceToNat, Int.reduceNeg, Nat.reduceEqDiff, Nat.reduceLeDiff, Nat.reduceSub, Nat.reduceMul, Nat.reduceLT, Nat.reduceBEq, Nat.reduceAdd]
    rintro c rfl
    refine sw_intro (fun hc => ?_) (fun hc => ?_) <;> simp only [decide_eq_true_eq, decide_eq_false_iff_not] at hc
    ·exact absurd hc (by omega)
    ·rw [List.take_nil]
     exact h
  ·refine ⟨by simp, [(1, L15 .nils (.sl q 16 EvT code) ([] : List ByteArray) (code : List EvT.den))], ?_⟩
   simp (maxSteps:=9^9) only [a15, r15, go_sem, Int.reduceLT, Int.reduceLE, Int.reduceEq, Int.reduceNe, Int.reduceAdd, Int.reduceSub, Int.reduceMul, Int.reduceToNat, Int.reduceNeg, Nat.reduceEqDiff, Nat.reduceLeDiff, Nat.reduceSub, Nat.reduceMul, Nat.reduceLT, Nat.reduceBEq, Nat.reduceAdd]
   rintro _ _ m rfl
   refine loop_intro (A := L15 .nils (.sl q 16 EvT code) ([] : List ByteArray) (code : List EvT.den)) (0 : Nat) ?_ (Nat.zero_le _) ?_
   ·simp (maxSteps:=9^9) only [L15_I, go_sem, Int.reduceLT, Int.reduceLE, Int.reduceEq, Int.reduceNe, Int.reduceAdd, Int.reduceSub, Int.reduceMul, Int.reduceToNat, Int.reduceNeg, Nat.reduceEqDiff, Nat.reduceLeDiff, Nat.reduceSub, Nat.reduceMul, Nat.reduceLT, Nat.reduceBEq, Nat.reduceAdd]
    rfl
   ·intro (i : Nat) (hi : i ≤ (code : List EvT.den).length)
    simp (maxSteps:=9^9) only [L15_I, go_sem, Int.reduceLT, Int.reduceLE, Int.reduceEq, Int.reduceNe, Int.reduceAdd, Int.reduceSub, Int.reduceMul, Int.reduceToNat, Int.reduceNeg, Nat.reduceEqDiff, Nat.reduceLeDiff, Nat.reduceSub, Nat.reduceMul, Nat.reduceLT, Nat.reduceBEq, Nat.reduceAdd]
    rintro c rfl
    refine sw_intro (fun hc => ?_) (fun hc => ?_) <;> simp only [decide_eq_true_eq, decide_eq_false_iff_not] at hc
    ·refine nd_intro hc ⟨fun h9 => by rw [List.length_take]; omega, fun h9 => ?_⟩
     rintro _ _ m hm
     rw [w64 (by omega)] at hm
     subst hm
     refine lpE_intro (A := L15 .nils (.sl q 16 EvT code) ([] : List ByteArray) (code : List EvT.den)) (i + 1 : Nat) ?_ (by show i + 1 ≤ code.length; omega) (by show code.length - (i + 1) < code.length - i; omega)
     have e := take_elt (t := EvT) hc
     simp (maxSteps:=9^9) only [L15_I, ← e, go_sem, Int.reduceLT, Int.reduceLE, Int.reduceEq, Int.reduceNe, Int.reduceAdd, Int.reduceSub, Int.reduceMul, Int.reduceToNat, Int.reduceNeg, Nat.reduceEqDiff, Nat.reduceLeDiff, Nat.reduceSub, Nat.reduceMul, Nat.reduceLT, Nat.reduceBEq, Nat.reduceAdd]
     rfl
    ·rw [List.take_of_length_le (by omega)]
     exact h
  ·refine ⟨by simp, [(1, L15 (.sl p 16 .str names) .nils (names : List ByteArray) ([] : List EvT.den))], ?_⟩
   simp (maxSteps:=9^9) only [a15, r15, go_sem, Int.reduceLT, Int.reduceLE, Int.reduceEq, Int.reduceNe, Int.reduceAdd, Int.reduceSub, Int.reduceMul, Int.reduceToNat, Int.reduceNeg, Nat.reduceEqDiff, Nat.reduceLeDiff, Nat.reduceSub, Nat.reduceMul, Nat.reduceLT, Nat.reduceBEq, Nat.reduceAdd]
   refine ⟨fun h9 => h9, fun hl => ?_⟩
   refine loop_intro (A := L15 (.sl p 16 .str names) .nils (names : List ByteArray) ([] : List EvT.den)) (0 : Nat) ?_ (Nat.zero_le _) ?_
   ·simp (maxSteps:=9^9) only [L15_I, go_sem, Int.reduceLT, Int.reduceLE, Int.reduceEq, Int.reduceNe, Int.reduceAdd, Int.reduceSub, Int.reduceMul, Int.reduceToNat, Int.reduceNeg, Nat.reduceEqDiff, Nat.reduceLeDiff, Nat.reduceSub, Nat.reduceMul, Nat.reduceLT, Nat.reduceBEq, Nat.reduceAdd]
    rfl
   ·intro (i : Nat) (hi : i ≤ ([] : List EvT.den).length)
    simp (maxSteps:=9^9) only [L15_I, go_sem, Int.reduceLT, Int.reduceLE, Int.reduceEq, Int.reduceNe, Int.reduceAdd, Int.reduceSub, Int.reduceMul, Int.reduceToNat, Int.reduceNeg, Nat.reduceEqDiff, Nat.reduceLeDiff, Nat.reduceSub, Nat.reduceMul, Nat.reduceLT, Nat.reduceBEq, Nat.reduceAdd]
    rintro c rfl
    refine sw_intro (fun hc => ?_) (fun hc => ?_) <;> simp only [decide_eq_true_eq, decide_eq_false_iff_not] at hc
    ·exact absurd hc (by omega)
    ·rw [List.take_nil]
     exact h
  ·refine ⟨by simp, [(1, L15 (.sl p 16 .str names) (.sl q 16 EvT code) (names : List ByteArray) (code : List EvT.den))], ?_⟩
   simp (maxSteps:=9^9) only [a15, r15, go_sem, Int.reduceLT, Int.reduceLE, Int.reduceEq, Int.reduceNe, Int.reduceAdd, Int.reduceSub, Int.reduceMul, Int.reduceToNat, Int.reduceNeg, Nat.reduceEqDiff, Nat.reduceLeDiff, Nat.reduceSub, Nat.reduceMul, Nat.reduceLT, Nat.reduceBEq, Nat.reduceAdd]
   refine ⟨fun h9 => h9, fun hl => ?_⟩
   rintro _ _ m rfl
   refine loop_intro (A := L15 (.sl p 16 .str names) (.sl q 16 EvT code) (names : List ByteArray) (code : List EvT.den)) (0 : Nat) ?_ (Nat.zero_le _) ?_
   ·simp (maxSteps:=9^9) only [L15_I, go_sem, Int.reduceLT, Int.reduceLE, Int.reduceEq, Int.reduceNe, Int.reduceAdd, Int.reduceSub, Int.reduceMul, Int.reduceToNat, Int.reduceNeg, Nat.reduceEqDiff, Nat.reduceLeDiff, Nat.reduceSub, Nat.reduceMul, Nat.reduceLT, Nat.reduceBEq, Nat.reduceAdd]
    rfl
   ·intro (i : Nat) (hi : i ≤ (code : List EvT.den).length)
    simp (maxSteps:=9^9) only [L15_I, go_sem, Int.reduceLT, Int.reduceLE, Int.reduceEq, Int.reduceNe, Int.reduceAdd, Int.reduceSub, Int.reduceMul, Int.reduceToNat, Int.reduceNeg, Nat.reduceEqDiff, Nat.reduceLeDiff, Nat.reduceSub, Nat.reduceMul, Nat.reduceLT, Nat.reduceBEq, Nat.reduceAdd]
    rintro c rfl
    refine sw_intro (fun hc => ?_) (fun hc => ?_) <;> simp only [decide_eq_true_eq, decide_eq_false_iff_not] at hc
    ·refine nd_intro hc ⟨fun h9 => by rw [List.length_take]; omega, fun h9 => ?_⟩
     rintro _ _ m hm
     rw [w64 (by omega)] at hm
     subst hm
     refine lpE_intro (A := L15 (.sl p 16 .str names) (.sl q 16 EvT code) (names : List ByteArray) (code : List EvT.den)) (i + 1 : Nat) ?_ (by show i + 1 ≤ code.length; omega) (by show code.length - (i + 1) < code.length - i; omega)
     have e := take_elt (t := EvT) hc
     simp (maxSteps:=9^9) only [L15_I, ← e, go_sem, Int.reduceLT, Int.reduceLE, Int.reduceEq, Int.reduceNe, Int.reduceAdd, Int.reduceSub, Int.reduceMul, Int.reduceToNat, Int.reduceNeg, Nat.reduceEqDiff, Nat.reduceLeDiff, Nat.reduceSub, Nat.reduceMul, Nat.reduceLT, Nat.reduceBEq, Nat.reduceAdd]
     rfl
    ·rw [List.take_of_length_le (by omega)]
     exact h
 ·exact h.elim
end Go.V
namespace Go.V
set_option linter.unusedSimpArgs false
set_option linter.unnecessarySimpa false
set_option linter.unusedVariables false
theorem index_one (c : UInt8) : ∀ l : List UInt8, Go.Lib.index l [c] = if l.contains c then ((l.takeWhile (· != c)).length : Int) else -1
 | [] => by simp [Go.Lib.index]
 | b :: l => by
  have ih := index_one c l
  simp only [Go.Lib.index, List.isPrefixOf, Bool.and_true]
  by_cases h : c = b
  ·subst h
   simp [List.takeWhile_cons]
  ·have h1 : (c == b) = false := by simpa using h
   have h2 : (b != c) = true := by simpa using fun e => h e.symm
   have h3 : (b == c) = false := by simpa using fun e => h e.symm
   rw [h1, ih]
   simp only [Bool.false_eq_true, if_false, List.contains_cons, h1, Bool.false_or, List.takeWhile_cons, h2, if_true, List.length_cons]
   cases hc : l.contains c
   ·simp
   ·have : ¬ (((l.takeWhile (· != c)).length : Int) = -1) := by omega
    simp [this]
theorem cut_one (c : UInt8) (l : List UInt8) : Go.Lib.cut l [c] = (l.takeWhile (· != c), (l.dropWhile (· != c)).drop 1, l.contains c) := by
 unfold Go.Lib.cut
 rw [index_one]
 cases hc : l.contains c
 ·simp only [Bool.false_eq_true, if_false]
  have h1 : l.takeWhile (· != c) = l := by
   have hn : c ∉ l := by simpa using hc
   clear hc
   induction l with
   | nil => rfl
   | cons x r ih =>
    have hx : (x != c) = true := by simpa using fun e : x = c => hn (by simp [e])
    rw [List.takeWhile_cons, if_pos hx, ih (fun h => hn (List.mem_cons_of_mem _ h))]
  have h2 : l.dropWhile (· != c) = [] := by
   have := List.takeWhile_append_dropWhile (p := (· != c)) (l := l)
   rw [h1] at this
   have := congrArg List.length this
   simp at this
   exact this
  rw [h1, h2]
  simp
 ·simp only [if_true]
  have e : ((l.takeWhile (· != c)).length : Int).toNat = (l.takeWhile (· != c)).length := Int.toNat_natCast _
  rw [if_pos (by omega), e]
  have h3 := List.takeWhile_append_dropWhile (p := (· != c)) (l := l)
  have h45 : ∀ a b : List UInt8, a ++ b = l → l.take a.length = a ∧ l.drop a.length = b := by
   rintro a b rfl
   simp
  obtain ⟨h4, h5⟩ := h45 _ _ h3
  rw [h4, ← List.drop_drop, h5]
  rfl
def linesGo : List UInt8 → List UInt8 → List (List UInt8)
 | [], acc => if acc = [] then [] else [acc]
 | c :: r, acc => if c = 10 then acc :: linesGo r [] else linesGo r (acc ++ [c])
def linesL (l : List UInt8) : List (List UInt8) := linesGo l []
theorem linesGo_eq : ∀ (l acc : List UInt8), linesGo l acc = if acc ++ l = [] then [] else (acc ++ l.takeWhile (· != 10)) :: linesL ((l.dropWhile (· != 10)).drop 1)
 | [], acc => by
  simp only [linesGo, List.append_nil, List.takeWhile_nil, List.dropWhile_nil, List.drop_nil, linesL]
  by_cases h : acc = [] <;> simp [h]
 | c :: r, acc => by
  simp only [linesGo]
  have h0 : acc ++ c :: r ≠ [] := by simp
  rw [if_neg h0]
  by_cases h : c = 10
  ·subst h
   simp [List.takeWhile_cons, List.dropWhile_cons, linesL]
  ·have h1 : (c != 10) = true := by simpa using h
   rw [if_neg h, linesGo_eq r (acc ++ [c])]
   simp [List.takeWhile_cons, List.dropWhile_cons, h1]
theorem linesL_cut {l : List UInt8} (h : l ≠ []) : linesL l = (Go.Lib.cut l [10]).1 :: linesL (Go.Lib.cut l [10]).2.1 := by
 rw [cut_one]
 show linesGo l [] = _
 rw [linesGo_eq, if_neg (by simpa using h)]
 rfl
theorem cut_len {c : UInt8} {l : List UInt8} : (Go.Lib.cut l [c]).1.length ≤ l.length ∧ (Go.Lib.cut l [c]).2.1.length ≤ l.length := by
 rw [cut_one]
 have h3 := congrArg List.length (List.takeWhile_append_dropWhile (p := (· != c)) (l := l))
 simp only [List.length_append, List.length_drop] at h3 ⊢
 omega
theorem cut_lt {c : UInt8} {l : List UInt8} (h : l ≠ []) : (Go.Lib.cut l [c]).2.1.length < l.length := by
 rw [cut_one]
 have h3 := congrArg List.length (List.takeWhile_append_dropWhile (p := (· != c)) (l := l))
 have h4 : 0 < l.length := List.length_pos_iff.2 h
 simp only [List.length_append, List.length_drop] at h3 ⊢
 omega
/-! ### hexadecimal digits -/
def hexT : List UInt8 := [48, 49, 50, 51, 52, 53, 54, 55, 56, 57, 97, 98, 99, 100, 101, 102]
def hexC (c : UInt8) : List UInt8 := [hexT.getD (c.toNat / 16) 0, hexT.getD (c.toNat % 16) 0]
def hexL (l : List UInt8) : List UInt8 := l.flatMap hexC
def digV (c : UInt8) : Option Nat := if 48 ≤ c.toNat ∧ c.toNat ≤ 57 then some (c.toNat - 48) else if 97 ≤ c.toNat ∧ c.toNat ≤ 102 then some (c.toNat - 87) else none
def unhexL : List UInt8 → Option (List UInt8)
 | [] => some []
 | [_] => none
 | a :: b :: r => match digV a, digV b with
  | some x, some y => (unhexL r).map (UInt8.ofNat (16 * x + y) :: ·)
  | _, _ => none
theorem digV_idx : ∀ c : UInt8, Go.Lib.indexByte hexT c = match digV c with | some x => (x : Int) | none => -1 := by
 intro c
 have : ∀ n : Nat, n < 256 → Go.Lib.indexByte hexT (UInt8.ofNat n) = match digV (UInt8.ofNat n) with | some x => (x : Int) | none => -1 := by decide +kernel
 have := this c.toNat (UInt8.toNat_lt c)
 simpa using this
theorem digV_lt {c : UInt8} {x : Nat} (h : digV c = some x) : x < 16 := by
 unfold digV at h
 split at h
 ·cases h; omega
 ·split at h
  ·cases h; omega
  ·cases h
end Go.V
namespace Go.V
open Go.Lib (decDigits itoa parseIntB parseUintB parseUintM)
set_option linter.unusedSimpArgs false
set_option linter.unnecessarySimpa false
set_option linter.unusedVariables false
def natGo : List UInt8 → Nat → Option Nat
 | [], n => some n
 | c :: r, n => if 48 ≤ c.toNat ∧ c.toNat ≤ 57 then (if 18446744073709551615 < 10 * n + (c.toNat - 48) then none else natGo r (10 * n + (c.toNat - 48))) else none
def natF (l : List UInt8) : Option Nat := if l = [] ∨ (1 < l.length ∧ l.head? = some 48) then none else natGo l 0
def numI (l : List UInt8) : Option Int :=
 if l.head? = some 45 then (natF l.tail).bind fun n => if n = 0 ∨ 9223372036854775808 < n then none else some (-(n : Int))
 else (natF l).bind fun n => if 9223372036854775807 < n then none else some (n : Int)
theorem natGo_append : ∀ (l l' : List UInt8) (n : Nat), natGo (l ++ l') n = (natGo l n).bind (natGo l')
 | [], l', n => rfl
 | c :: r, l', n => by
  simp only [List.cons_append, natGo]
  split
  ·split
   ·rfl
   ·exact natGo_append r l' _
  ·rfl
theorem dec_small {u : Nat} (h : u < 10) : decDigits u = [UInt8.ofNat (48 + u)] := by rw [decDigits, dif_pos h]
theorem dec_big {u : Nat} (h : ¬ u < 10) : decDigits u = decDigits (u / 10) ++ [UInt8.ofNat (48 + u % 10)] := by rw [decDigits, dif_neg h]
theorem ofNat_dig {d : Nat} (h : d < 10) : (UInt8.ofNat (48 + d)).toNat = 48 + d := by
 rw [UInt8.toNat_ofNat']
 omega
theorem natGo_dec (u : Nat) : u ≤ 18446744073709551615 → natGo (decDigits u) 0 = some u := by
 induction u using Nat.strongRecOn with
 | ind u ih =>
  intro hu
  by_cases h : u < 10
  ·rw [dec_small h]
   simp only [natGo, ofNat_dig h]
   rw [if_pos (by omega), if_neg (by omega)]
   congr 1
   omega
  ·rw [dec_big h, natGo_append, ih (u / 10) (by omega) (by omega)]
   have hd : u % 10 < 10 := Nat.mod_lt _ (by decide)
   simp only [Option.bind_some, natGo, ofNat_dig hd]
   rw [if_pos (by omega), if_neg (by omega)]
   congr 1
   omega
theorem dec_head (u : Nat) : 0 < u → ∃ c r, decDigits u = c :: r ∧ c ≠ 48 ∧ c ≠ 45 := by
 induction u using Nat.strongRecOn with
 | ind u ih =>
  intro hu
  by_cases h : u < 10
  ·refine ⟨_, [], dec_small h, ?_, ?_⟩
   ·intro e
    have := congrArg UInt8.toNat e
    rw [ofNat_dig h] at this
    simp at this
    omega
   ·intro e
    have := congrArg UInt8.toNat e
    rw [ofNat_dig h] at this
    simp at this
    omega
  ·obtain ⟨c, r, e, h1, h2⟩ := ih (u / 10) (by omega) (by omega)
   exact ⟨c, r ++ [UInt8.ofNat (48 + u % 10)], by rw [dec_big h, e]; rfl, h1, h2⟩
theorem dec_zero : decDigits 0 = [48] := by rw [dec_small (by decide)]; rfl
theorem natF_dec {u : Nat} (hu : u ≤ 18446744073709551615) : natF (decDigits u) = some u := by
 unfold natF
 rw [if_neg, natGo_dec u hu]
 rcases Nat.eq_zero_or_pos u with rfl | h
 ·rw [dec_zero]; simp
 ·obtain ⟨c, r, e, h1, _⟩ := dec_head u h
  rw [e]
  simp [h1]
theorem dig_back {c : UInt8} (h : 48 ≤ c.toNat ∧ c.toNat ≤ 57) : UInt8.ofNat (48 + (c.toNat - 48)) = c := by
 rw [show 48 + (c.toNat - 48) = c.toNat by omega]
 simp
theorem dec_natGo : ∀ (l : List UInt8) (n m : Nat), 0 < n → natGo l n = some m → decDigits m = decDigits n ++ l
 | [], n, m, _, h => by cases h; simp
 | c :: r, n, m, hn, h => by
  simp only [natGo] at h
  split at h
  ·rename_i hc
   split at h
   ·cases h
   ·have ih := dec_natGo r _ m (by omega) h
    rw [ih, dec_big (by omega)]
    have e1 : (10 * n + (c.toNat - 48)) / 10 = n := by omega
    have e2 : (10 * n + (c.toNat - 48)) % 10 = c.toNat - 48 := by omega
    rw [e1, e2, dig_back hc]
    simp
  ·cases h
theorem dec_natF {l : List UInt8} {m : Nat} (h : natF l = some m) : decDigits m = l := by
 unfold natF at h
 split at h
 ·cases h
 ·rename_i hl
  cases l with
  | nil => simp at hl
  | cons c r =>
   simp only [natGo] at h
   split at h
   ·rename_i hc
    split at h
    ·cases h
    ·simp only [Nat.mul_zero, Nat.zero_add] at h
     by_cases hz : c.toNat - 48 = 0
     ·have hc48 : c = 48 := by
       have h1 := dig_back hc
       rw [hz] at h1
       exact h1.symm
      subst hc48
      have hr : r = [] := by
       cases r with
       | nil => rfl
       | cons x y => simp at hl
      subst hr
      rw [hz] at h
      cases h
      exact dec_zero
     ·rw [dec_natGo r _ m (by omega) h, dec_small (by omega), dig_back hc]
      rfl
   ·cases h
theorem natGo_le : ∀ (l : List UInt8) (n m : Nat), n ≤ 18446744073709551615 → natGo l n = some m → m ≤ 18446744073709551615
 | [], n, m, hn, h => by cases h; exact hn
 | c :: r, n, m, hn, h => by
  simp only [natGo] at h
  split at h
  ·split at h
   ·cases h
   ·exact natGo_le r _ m (by omega) h
  ·cases h
theorem parse_natGo : ∀ (l : List UInt8) (n m : Nat), natGo l n = some m → parseUintM (2 ^ 64 - 1) n l = .ok m
 | [], n, m, h => by cases h; rfl
 | c :: r, n, m, h => by
  simp only [natGo] at h
  split at h
  ·rename_i hc
   split at h
   ·cases h
   ·rename_i hlt
    simp only [parseUintM]
    rw [if_pos hc, if_neg (by omega), if_neg (by omega), Nat.mul_comm n 10]
    exact parse_natGo r _ m h
  ·cases h
theorem parse_natF {l : List UInt8} {m : Nat} (h : natF l = some m) : parseUintB 64 l = .ok m ∧ m ≤ 18446744073709551615 := by
 unfold natF at h
 split at h
 ·cases h
 ·rename_i hl
  have h0 : l ≠ [] := fun e => hl (.inl e)
  exact ⟨by unfold parseUintB; rw [if_neg h0]; exact parse_natGo l 0 m h, natGo_le l 0 m (by decide) h⟩
theorem numI_parse {l : List UInt8} {v : Int} (h : numI l = some v) : parseIntB 64 l = .ok v ∧ itoa v = l := by
 unfold numI at h
 split at h
 ·rename_i hh
  cases l with
  | nil => simp at hh
  | cons c r =>
   simp only [List.head?_cons, Option.some.injEq] at hh
   subst hh
   simp only [List.tail_cons] at h
   cases hn : natF r with
   | none => rw [hn] at h; cases h
   | some n =>
    rw [hn] at h
    simp only [Option.bind_some] at h
    split at h
    ·cases h
    ·rename_i hb
     cases h
     obtain ⟨h1, h2⟩ := parse_natF hn
     have e := dec_natF hn
     constructor
     ·rw [Go.Lib.parseIntB_minus, h1]
      simp only [Go.Lib.signedC]
      first
       | (rw [if_neg (by omega)]; done)
       | (rw [if_neg (by omega)])
       | (simp; omega)
     ·unfold itoa
      rw [if_pos (by omega)]
      have : (-(n : Int)).natAbs = n := by omega
      rw [this, e]
 ·rename_i hh
  cases hn : natF l with
  | none => rw [hn] at h; cases h
  | some n =>
   rw [hn] at h
   simp only [Option.bind_some] at h
   split at h
   ·cases h
   ·rename_i hb
    cases h
    obtain ⟨h1, h2⟩ := parse_natF hn
    have e := dec_natF hn
    have e43 : ∀ c r, l = c :: r → 48 ≤ c.toNat ∧ c.toNat ≤ 57 := by
     rintro c r rfl
     unfold natF at hn
     split at hn
     ·cases hn
     ·simp only [natGo] at hn
      split at hn
      ·rename_i hc; exact hc
      ·cases hn
    constructor
    ·cases l with
     | nil => unfold natF at hn; simp at hn
     | cons c r =>
      have hc := e43 c r rfl
      rw [Go.Lib.parseIntB_plain 64 c r (by omega) (by omega), h1]
      simp only [Go.Lib.signlessC]
      first
       | (rw [if_neg (by omega)]; done)
       | (rw [if_neg (by omega)])
       | (simp; omega)
    ·unfold itoa
     rw [if_neg (by omega)]
     have : ((n : Int)).toNat = n := by omega
     rw [this, e]
theorem parse_numI {l : List UInt8} {v : Int} (h1 : parseIntB 64 l = .ok v) (h2 : itoa v = l) : numI l = some v := by
 have hb := Go.Lib.parseIntB_bounds h1
 have e3 : ((2 ^ (64 - 1) : Nat) : Int) = 9223372036854775808 := by decide
 rw [e3] at hb
 unfold itoa at h2
 unfold numI
 split at h2
 ·rename_i hv
  subst h2
  rw [if_pos (by simp), List.tail_cons, natF_dec (by omega)]
  simp only [Option.bind_some]
  rw [if_neg (by omega)]
  congr 1
  omega
 ·rename_i hv
  have hh : ¬ l.head? = some 45 := by
   rw [← h2]
   rcases Nat.eq_zero_or_pos v.toNat with h | h
   ·rw [h, dec_zero]; decide
   ·obtain ⟨c, r, e, _, h4⟩ := dec_head _ h
    rw [e]
    simpa using h4
  rw [if_neg hh, ← h2, natF_dec (by omega)]
  simp only [Option.bind_some]
  rw [if_neg (by omega)]
  congr 1
  omega
theorem intP_numI (s : ByteArray) : intP s = numI s.data.toList := by
 unfold intP
 have hs : ∀ v, itoaB v = s ↔ itoa v = s.data.toList := by
  intro v
  constructor
  ·intro h; rw [← h]; simp [itoaB, bsOf]
  ·intro h; unfold itoaB bsOf; rw [h]
 cases hn : numI s.data.toList with
 | some v =>
  obtain ⟨h1, h2⟩ := numI_parse hn
  rw [h1]
  simp only [(hs v).2 h2, if_true]
 | none =>
  rcases hp : parseIntB 64 s.data.toList with v | _ | _
  ·
   simp only
   split
   ·rename_i h
    rw [parse_numI hp ((hs v).1 h)] at hn
    cases hn
   ·rfl
  ·rfl
  ·rfl
end Go.V
