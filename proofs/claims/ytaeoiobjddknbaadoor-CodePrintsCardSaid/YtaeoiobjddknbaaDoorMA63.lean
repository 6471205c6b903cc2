/- A part of the proof layer, or functions of the given program in it: contracts and their proofs. -/
import Derived.Test.YtaeoiobjddknbaaDoorMN1
namespace Go.V
open Go.Proofs
set_option maxRecDepth 100000
set_option maxHeartbeats 8000000
set_option linter.unusedSimpArgs false
set_option linter.unnecessarySimpa false
set_option linter.unusedVariables false
/-! ### programs -/
abbrev WdT : Ty := .pair .str (.int .i64)
@[go_sem] theorem flat_wd : Ty.flat (.pair .str (.int .i64)) = true := rfl
@[go_sem] theorem drpF {l : List SV} {n : Nat} : drpB false l n = none := rfl
def opT : List (ByteArray × Int) := [(⟨#[104, 97, 108, 116]⟩, 0), (⟨#[112, 117, 115, 104]⟩, 1), (⟨#[108, 111, 97, 100]⟩, 2), (⟨#[115, 116, 111, 114, 101]⟩, 2), (⟨#[97, 114, 103]⟩, 3), (⟨#[107, 105, 110, 100]⟩, 0), (⟨#[97, 100, 100]⟩, 0), (⟨#[115, 117, 98]⟩, 0), (⟨#[109, 117, 108]⟩, 0), (⟨#[108, 101, 115, 115]⟩, 0), (⟨#[101, 113, 117, 97, 108]⟩, 0), (⟨#[110, 111, 116]⟩, 0), (⟨#[100, 117, 112]⟩, 0), (⟨#[100, 114, 111, 112]⟩, 0), (⟨#[115, 119, 97, 112]⟩, 0), (⟨#[106, 117, 109, 112]⟩, 4), (⟨#[106, 117, 109, 112, 122]⟩, 4), (⟨#[115, 101, 110, 100]⟩, 5), (⟨#[114, 101, 112, 108, 121]⟩, 0), (⟨#[114, 101, 109, 105, 110, 100]⟩, 5), (⟨#[99, 97, 110, 99, 101, 108]⟩, 5), (⟨#[102, 97, 105, 108]⟩, 0), (⟨#[110, 111, 119]⟩, 0), (⟨#[115, 101, 114, 105, 97, 108]⟩, 0)]
def opK (op : Int) : Int := (elt WdT opT op.toNat).2
def C32 : Contract := fun args hp K => match args, hp with
 | [.int .i64 op], [] => (¬ (0 ≤ op ∧ op < 24) → K (.tup [.str ByteArray.empty, .int .i64 0, .bool false]) []) ∧ ((0 ≤ op ∧ op < 24) → K (.tup [.str (elt WdT opT op.toNat).1, .int .i64 (opK op), .bool true]) [])
 | _, _ => False
theorem s32 : Sound Tryd.prog 32 C32 := by
 refine sound_of_okF ok32 .nil ?_
 intro args hp K h
 unfold C32 at h
 split at h
 ·rename_i op
  refine ⟨by simp, [], ?_⟩
  simp (maxSteps:=9^9) only [a32, r32, cond_true, go_sem, Int.reduceLT, Int.reduceLE, Int.reduceEq, Int.reduceNe, Int.reduceAdd, Int.reduceSub, Int.reduceMul, Int.reduceToNat, Int.reduceNeg, Nat.reduceEqDiff, Nat.reduceLeDiff, Nat.reduceSub, Nat.reduceMul, Nat.reduceLT, Nat.reduceBEq, Nat.reduceAdd]
  rintro c rfl
  refine sw_intro (fun c1 => ?_) (fun c1 => ?_) <;> simp only [decide_eq_true_eq, decide_eq_false_iff_not] at c1
  ·exact h.1 (by omega)
  rintro c rfl
  refine sw_intro (fun c2 => ?_) (fun c2 => ?_) <;> simp only [decide_eq_true_eq, decide_eq_false_iff_not] at c2
  ·exact h.1 (by omega)
  have h2 := h.2 ⟨by omega, by omega⟩
  exact nd_intro ⟨by omega, by omega⟩ (nd_intro (by omega) (nd_intro ⟨by omega, by omega⟩ (nd_intro (by omega) h2)))
 ·exact h.elim
def belowI (kind : Int) (n c : Nat) : Int := if kind = 2 then 8 else if kind = 3 then 4 else if kind = 4 then c + 1 else if kind = 5 then n else 1
def C38 : Contract := fun args hp K => match args, hp with
 | [.agg [x, y], .int .i64 k], [] => onL .str 16 x fun names => onL EvT 16 y fun code => (names : List ByteArray).length ≤ 1000 ∧ (code : List EvT.den).length ≤ 1000 ∧ K (.int .i64 (belowI k names.length code.length)) []
 | _, _ => False
theorem s38 : Sound Tryd.prog 38 C38 := by
 refine sound_of_okF ok38 .nil ?_
 intro args hp K h
 unfold C38 at h
 split at h
 ·rename_i x y k
  have hmx := maxLen_val
  rcases h with ⟨rfl, ⟨rfl, hn, hc, h⟩ | ⟨q, code, rfl, hn, hc, h⟩⟩ | ⟨p, names, rfl, ⟨rfl, hn, hc, h⟩ | ⟨q, code, rfl, hn, hc, h⟩⟩
  ·refine ⟨by simp, [], ?_⟩
   simp (maxSteps:=9^9) only [a38, r38, go_sem, Int.reduceLT, Int.reduceLE, Int.reduceEq, Int.reduceNe, Int.reduceAdd, Int.reduceSub, Int.reduceMul, Int.reduceToNat, Int.reduceNeg, Nat.reduceEqDiff, Nat.reduceLeDiff, Nat.reduceSub, Nat.reduceMul, Nat.reduceLT, Nat.reduceBEq, Nat.reduceAdd]
   unfold belowI at h
   rintro c rfl
   refine sw_intro (fun c1 => ?_) (fun c1 => ?_) <;> simp only [decide_eq_true_eq, decide_eq_false_iff_not] at c1
   ·rw [if_pos c1] at h; exact h
   rw [if_neg c1] at h
   rintro c rfl
   refine sw_intro (fun c1 => ?_) (fun c1 => ?_) <;> simp only [decide_eq_true_eq, decide_eq_false_iff_not] at c1
   ·rw [if_pos c1] at h; exact h
   rw [if_neg c1] at h
   rintro c rfl
   refine sw_intro (fun c1 => ?_) (fun c1 => ?_) <;> simp only [decide_eq_true_eq, decide_eq_false_iff_not] at c1
   ·rw [if_pos c1] at h
    rintro _ _ m hm
    rw [w64 (by omega)] at hm
    subst hm
    exact h
   rw [if_neg c1] at h
   rintro c rfl
   refine sw_intro (fun c1 => ?_) (fun c1 => ?_) <;> simp only [decide_eq_true_eq, decide_eq_false_iff_not] at c1
   ·rw [if_pos c1] at h
    skip
    exact h
   rw [if_neg c1] at h
   exact h
  ·refine ⟨by simp, [], ?_⟩
   simp (maxSteps:=9^9) only [a38, r38, go_sem, Int.reduceLT, Int.reduceLE, Int.reduceEq, Int.reduceNe, Int.reduceAdd, Int.reduceSub, Int.reduceMul, Int.reduceToNat, Int.reduceNeg, Nat.reduceEqDiff, Nat.reduceLeDiff, Nat.reduceSub, Nat.reduceMul, Nat.reduceLT, Nat.reduceBEq, Nat.reduceAdd]
   unfold belowI at h
   rintro c rfl
   refine sw_intro (fun c1 => ?_) (fun c1 => ?_) <;> simp only [decide_eq_true_eq, decide_eq_false_iff_not] at c1
   ·rw [if_pos c1] at h; exact h
   rw [if_neg c1] at h
   rintro c rfl
   refine sw_intro (fun c1 => ?_) (fun c1 => ?_) <;> simp only [decide_eq_true_eq, decide_eq_false_iff_not] at c1
   ·rw [if_pos c1] at h; exact h
   rw [if_neg c1] at h
   rintro c rfl
   refine sw_intro (fun c1 => ?_) (fun c1 => ?_) <;> simp only [decide_eq_true_eq, decide_eq_false_iff_not] at c1
   ·rw [if_pos c1] at h
    rintro _ _ m rfl _ _ m1 hm1
    rw [w64 (by omega)] at hm1
    subst hm1
    exact h
   rw [if_neg c1] at h
   rintro c rfl
   refine sw_intro (fun c1 => ?_) (fun c1 => ?_) <;> simp only [decide_eq_true_eq, decide_eq_false_iff_not] at c1
   ·rw [if_pos c1] at h
    skip
    exact h
   rw [if_neg c1] at h
   exact h
  ·refine ⟨by simp, [], ?_⟩
   simp (maxSteps:=9^9) only [a38, r38, go_sem, Int.reduceLT, Int.reduceLE, Int.reduceEq, Int.reduceNe, Int.reduceAdd, Int.reduceSub, Int.reduceMul, Int.reduceToNat, Int.reduceNeg, Nat.reduceEqDiff, Nat.reduceLeDiff, Nat.reduceSub, Nat.reduceMul, Nat.reduceLT, Nat.reduceBEq, Nat.reduceAdd]
   unfold belowI at h
   rintro c rfl
   refine sw_intro (fun c1 => ?_) (fun c1 => ?_) <;> simp only [decide_eq_true_eq, decide_eq_false_iff_not] at c1
   ·rw [if_pos c1] at h; exact h
   rw [if_neg c1] at h
   rintro c rfl
   refine sw_intro (fun c1 => ?_) (fun c1 => ?_) <;> simp only [decide_eq_true_eq, decide_eq_false_iff_not] at c1
   ·rw [if_pos c1] at h; exact h
   rw [if_neg c1] at h
   rintro c rfl
   refine sw_intro (fun c1 => ?_) (fun c1 => ?_) <;> simp only [decide_eq_true_eq, decide_eq_false_iff_not] at c1
   ·rw [if_pos c1] at h
    rintro _ _ m hm
    rw [w64 (by omega)] at hm
    subst hm
    exact h
   rw [if_neg c1] at h
   rintro c rfl
   refine sw_intro (fun c1 => ?_) (fun c1 => ?_) <;> simp only [decide_eq_true_eq, decide_eq_false_iff_not] at c1
   ·rw [if_pos c1] at h
    rintro _ _ m rfl
    exact h
   rw [if_neg c1] at h
   exact h
  ·refine ⟨by simp, [], ?_⟩
   simp (maxSteps:=9^9) only [a38, r38, go_sem, Int.reduceLT, Int.reduceLE, Int.reduceEq, Int.reduceNe, Int.reduceAdd, Int.reduceSub, Int.reduceMul, Int.reduceToNat, Int.reduceNeg, Nat.reduceEqDiff, Nat.reduceLeDiff, Nat.reduceSub, Nat.reduceMul, Nat.reduceLT, Nat.reduceBEq, Nat.reduceAdd]
   unfold belowI at h
   rintro c rfl
   refine sw_intro (fun c1 => ?_) (fun c1 => ?_) <;> simp only [decide_eq_true_eq, decide_eq_false_iff_not] at c1
   ·rw [if_pos c1] at h; exact h
   rw [if_neg c1] at h
   rintro c rfl
   refine sw_intro (fun c1 => ?_) (fun c1 => ?_) <;> simp only [decide_eq_true_eq, decide_eq_false_iff_not] at c1
   ·rw [if_pos c1] at h; exact h
   rw [if_neg c1] at h
   rintro c rfl
   refine sw_intro (fun c1 => ?_) (fun c1 => ?_) <;> simp only [decide_eq_true_eq, decide_eq_false_iff_not] at c1
   ·rw [if_pos c1] at h
    rintro _ _ m rfl _ _ m1 hm1
    rw [w64 (by omega)] at hm1
    subst hm1
    exact h
   rw [if_neg c1] at h
   rintro c rfl
   refine sw_intro (fun c1 => ?_) (fun c1 => ?_) <;> simp only [decide_eq_true_eq, decide_eq_false_iff_not] at c1
   ·rw [if_pos c1] at h
    rintro _ _ m rfl
    exact h
   rw [if_neg c1] at h
   exact h
 ·exact h.elim
end Go.V
namespace Go.V
open Go.Proofs
set_option maxRecDepth 100000
set_option maxHeartbeats 8000000
set_option linter.unusedSimpArgs false
set_option linter.unnecessarySimpa false
set_option linter.unusedVariables false
def insOk (n c : Nat) (x : EvT.den) : Bool := (decide (0 ≤ x.1) && decide (x.1 < 24)) && (decide (opK x.1 = 1) || (decide (0 ≤ x.2) && decide (x.2 < belowI (opK x.1) n c)))
def formP (names : List ByteArray) (code : List EvT.den) : Bool := (decide (names.length ≤ 8) && decide (code.length ≤ 200)) && (names.all keyOk && code.all (insOk names.length code.length))
theorem formP_iff {names : List ByteArray} {code : List EvT.den} : formP names code = true ↔ (names.length ≤ 8 ∧ code.length ≤ 200) ∧ names.all keyOk = true ∧ code.all (insOk names.length code.length) = true := by
 simp [formP]
def C17 : Contract := fun args hp K => match args, hp with
 | [.agg [x, y]], [] => onL .str 16 x fun names => onL EvT 16 y fun code => K (.bool (formP names code)) []
 | _, _ => False
def L17 (x y : SV) (names : List ByteArray) (z : SV) : LoopAnn := { G := Nat, I := fun i => ⟨[(1, .ptr 0 0), (21, z), (22, .int .i64 names.length), (23, .int .i64 i)], [.struct [x, y]]⟩, R := fun _ i => i ≤ names.length ∧ (names.take i).all keyOk = true, μ := fun i => names.length - i }
theorem L17_I {x y names z} (i : Nat) : (L17 x y names z).I i = ⟨[(1, .ptr 0 0), (21, z), (22, .int .i64 names.length), (23, .int .i64 i)], [.struct [x, y]]⟩ := rfl
def M17 (x y : SV) (n : Nat) (code : List EvT.den) (z : SV) : LoopAnn := { G := Nat, I := fun i => ⟨[(1, .ptr 0 0), (32, z), (33, .int .i64 code.length), (34, .int .i64 i)], [.struct [x, y]]⟩, R := fun _ i => i ≤ code.length ∧ (code.take i).all (insOk n code.length) = true, μ := fun i => code.length - i }
theorem M17_I {x y n code z} (i : Nat) : (M17 x y n code z).I i = ⟨[(1, .ptr 0 0), (32, z), (33, .int .i64 code.length), (34, .int .i64 i)], [.struct [x, y]]⟩ := rfl
theorem s17 : Sound Tryd.prog 17 C17 := by
 refine sound_of_okF ok17 (.cons s37 (callable_of_okF ok37) (.cons s32 (callable_of_okF ok32) (.cons s38 (callable_of_okF ok38) .nil))) ?_
 intro args hp K h
 unfold C17 at h
 split at h
 ·rename_i x y
  have hmx := maxLen_val
  rcases h with ⟨rfl, ⟨rfl, h⟩ | ⟨q, code, rfl, h⟩⟩ | ⟨p, names, rfl, ⟨rfl, h⟩ | ⟨q, code, rfl, h⟩⟩
  ·refine ⟨by simp, [(1, L17 .nils .nils [] .nils), (2, M17 .nils .nils 0 [] .nils)], ?_⟩
   simp (maxSteps:=9^9) only [a17, r17, go_sem, Int.reduceLT, Int.reduceLE, Int.reduceEq, Int.reduceNe, Int.reduceAdd, Int.reduceSub, Int.reduceMul, Int.reduceToNat, Int.reduceNeg, Nat.reduceEqDiff, Nat.reduceLeDiff, Nat.reduceSub, Nat.reduceMul, Nat.reduceLT, Nat.reduceBEq, Nat.reduceAdd]
   have hf : ¬ ((([] : List ByteArray).length ≤ 8 ∧ ([] : List EvT.den).length ≤ 200) ∧ ([] : List ByteArray).all keyOk = true ∧ ([] : List EvT.den).all (insOk ([] : List ByteArray).length ([] : List EvT.den).length) = true) → K (.bool false) [] := fun hh => by rw [← formP_iff, Bool.not_eq_true] at hh; rw [hh] at h; exact h
   have c1 : ¬ (8 : Int) < (0 : Nat) := by omega
   have c2 : ¬ (200 : Int) < (0 : Nat) := by omega
   refine loop_intro (A := L17 .nils .nils [] .nils) (0 : Nat) ?_ ⟨Nat.zero_le _, rfl⟩ ?_
   ·simp (maxSteps:=9^9) only [L17_I, go_sem, Int.reduceLT, Int.reduceLE, Int.reduceEq, Int.reduceNe, Int.reduceAdd, Int.reduceSub, Int.reduceMul, Int.reduceToNat, Int.reduceNeg, Nat.reduceEqDiff, Nat.reduceLeDiff, Nat.reduceSub, Nat.reduceMul, Nat.reduceLT, Nat.reduceBEq, Nat.reduceAdd]
    rfl
   ·intro (i : Nat) (hi : i ≤ ([] : List ByteArray).length ∧ (([] : List ByteArray).take i).all keyOk = true)
    simp (maxSteps:=9^9) only [L17_I, C37, go_sem, Int.reduceLT, Int.reduceLE, Int.reduceEq, Int.reduceNe, Int.reduceAdd, Int.reduceSub, Int.reduceMul, Int.reduceToNat, Int.reduceNeg, Nat.reduceEqDiff, Nat.reduceLeDiff, Nat.reduceSub, Nat.reduceMul, Nat.reduceLT, Nat.reduceBEq, Nat.reduceAdd]
    rintro c rfl
    refine sw_intro (fun hc => ?_) (fun hc => ?_) <;> simp only [decide_eq_true_eq, decide_eq_false_iff_not] at hc
    ·exact absurd hc (by omega)
    ·have e : i = ([] : List ByteArray).length := by have := hi.1; simp only [List.length_nil] at this ⊢; omega
     have hk := hi.2
     clear e
     refine loop_intro (A := M17 .nils .nils 0 [] .nils) (0 : Nat) ?_ ⟨Nat.zero_le _, rfl⟩ ?_
     ·simp (maxSteps:=9^9) only [M17_I, go_sem, Int.reduceLT, Int.reduceLE, Int.reduceEq, Int.reduceNe, Int.reduceAdd, Int.reduceSub, Int.reduceMul, Int.reduceToNat, Int.reduceNeg, Nat.reduceEqDiff, Nat.reduceLeDiff, Nat.reduceSub, Nat.reduceMul, Nat.reduceLT, Nat.reduceBEq, Nat.reduceAdd]
      rfl
     ·intro (j : Nat) (hj : j ≤ ([] : List EvT.den).length ∧ (([] : List EvT.den).take j).all (insOk 0 ([] : List EvT.den).length) = true)
      simp (maxSteps:=9^9) only [M17_I, C32, C38, go_sem, Int.reduceLT, Int.reduceLE, Int.reduceEq, Int.reduceNe, Int.reduceAdd, Int.reduceSub, Int.reduceMul, Int.reduceToNat, Int.reduceNeg, Nat.reduceEqDiff, Nat.reduceLeDiff, Nat.reduceSub, Nat.reduceMul, Nat.reduceLT, Nat.reduceBEq, Nat.reduceAdd]
      rintro c rfl
      refine sw_intro (fun hd => ?_) (fun hd => ?_) <;> simp only [decide_eq_true_eq, decide_eq_false_iff_not] at hd
      ·exact absurd hd (by omega)
      ·have e2 : ([] : List EvT.den).length ≤ j := by simp only [List.length_nil]; omega
       rw [List.take_of_length_le e2] at hj
       rw [show formP [] [] = true from formP_iff.2 ⟨⟨by simp only [List.length_nil]; omega, by simp only [List.length_nil]; omega⟩, by simpa using hk, hj.2⟩] at h
       exact h
  ·refine ⟨by simp, [(1, L17 .nils (.sl q 16 EvT code) [] .nils), (2, M17 .nils (.sl q 16 EvT code) 0 code (.sl q 16 EvT code))], ?_⟩
   simp (maxSteps:=9^9) only [a17, r17, go_sem, Int.reduceLT, Int.reduceLE, Int.reduceEq, Int.reduceNe, Int.reduceAdd, Int.reduceSub, Int.reduceMul, Int.reduceToNat, Int.reduceNeg, Nat.reduceEqDiff, Nat.reduceLeDiff, Nat.reduceSub, Nat.reduceMul, Nat.reduceLT, Nat.reduceBEq, Nat.reduceAdd]
   have hf : ¬ ((([] : List ByteArray).length ≤ 8 ∧ (code : List EvT.den).length ≤ 200) ∧ ([] : List ByteArray).all keyOk = true ∧ (code : List EvT.den).all (insOk ([] : List ByteArray).length (code : List EvT.den).length) = true) → K (.bool false) [] := fun hh => by rw [← formP_iff, Bool.not_eq_true] at hh; rw [hh] at h; exact h
   have c1 : ¬ (8 : Int) < (0 : Nat) := by omega
   rintro hc1 hc2 m rfl c rfl
   refine sw_intro (fun c2 => ?_) (fun c2 => ?_) <;> simp only [decide_eq_true_eq, decide_eq_false_iff_not] at c2
   ·exact hf (fun hh => by have := hh.1.2; omega)
   refine loop_intro (A := L17 .nils (.sl q 16 EvT code) [] .nils) (0 : Nat) ?_ ⟨Nat.zero_le _, rfl⟩ ?_
   ·simp (maxSteps:=9^9) only [L17_I, go_sem, Int.reduceLT, Int.reduceLE, Int.reduceEq, Int.reduceNe, Int.reduceAdd, Int.reduceSub, Int.reduceMul, Int.reduceToNat, Int.reduceNeg, Nat.reduceEqDiff, Nat.reduceLeDiff, Nat.reduceSub, Nat.reduceMul, Nat.reduceLT, Nat.reduceBEq, Nat.reduceAdd]
    rfl
   ·intro (i : Nat) (hi : i ≤ ([] : List ByteArray).length ∧ (([] : List ByteArray).take i).all keyOk = true)
    simp (maxSteps:=9^9) only [L17_I, C37, go_sem, Int.reduceLT, Int.reduceLE, Int.reduceEq, Int.reduceNe, Int.reduceAdd, Int.reduceSub, Int.reduceMul, Int.reduceToNat, Int.reduceNeg, Nat.reduceEqDiff, Nat.reduceLeDiff, Nat.reduceSub, Nat.reduceMul, Nat.reduceLT, Nat.reduceBEq, Nat.reduceAdd]
    rintro c rfl
    refine sw_intro (fun hc => ?_) (fun hc => ?_) <;> simp only [decide_eq_true_eq, decide_eq_false_iff_not] at hc
    ·exact absurd hc (by omega)
    ·have e : i = ([] : List ByteArray).length := by have := hi.1; simp only [List.length_nil] at this ⊢; omega
     have hk := hi.2
     clear e
     rintro _ _ m rfl
     refine loop_intro (A := M17 .nils (.sl q 16 EvT code) 0 code (.sl q 16 EvT code)) (0 : Nat) ?_ ⟨Nat.zero_le _, rfl⟩ ?_
     ·simp (maxSteps:=9^9) only [M17_I, go_sem, Int.reduceLT, Int.reduceLE, Int.reduceEq, Int.reduceNe, Int.reduceAdd, Int.reduceSub, Int.reduceMul, Int.reduceToNat, Int.reduceNeg, Nat.reduceEqDiff, Nat.reduceLeDiff, Nat.reduceSub, Nat.reduceMul, Nat.reduceLT, Nat.reduceBEq, Nat.reduceAdd]
      rfl
     ·intro (j : Nat) (hj : j ≤ (code : List EvT.den).length ∧ ((code : List EvT.den).take j).all (insOk 0 (code : List EvT.den).length) = true)
      simp (maxSteps:=9^9) only [M17_I, C32, C38, go_sem, Int.reduceLT, Int.reduceLE, Int.reduceEq, Int.reduceNe, Int.reduceAdd, Int.reduceSub, Int.reduceMul, Int.reduceToNat, Int.reduceNeg, Nat.reduceEqDiff, Nat.reduceLeDiff, Nat.reduceSub, Nat.reduceMul, Nat.reduceLT, Nat.reduceBEq, Nat.reduceAdd]
      rintro c rfl
      refine sw_intro (fun hd => ?_) (fun hd => ?_) <;> simp only [decide_eq_true_eq, decide_eq_false_iff_not] at hd
      ·refine nd_intro hd ?_
       have hb : ¬ insOk 0 code.length (elt EvT code j) = true → K (.bool false) [] := fun hn => hf (fun hh => hn (List.all_eq_true.1 hh.2.2 _ (List.mem_of_getElem? (elt_get hd))))
       have hnx : insOk 0 code.length (elt EvT code j) = true → ∀ m, m = IntKind.i64.wrap ((j : Int) + 1) → lpE (M17 .nils (.sl q 16 EvT code) 0 code (.sl q 16 EvT code)) 0 [1, 32, 33, 34] (0 : Nat) j { fr := [(1, .ptr 0 0), (32, (.sl q 16 EvT code)), (33, .int .i64 code.length), (34, .int .i64 m)], hp := [.struct [.nils, (.sl q 16 EvT code)], .struct [.int .i64 (elt EvT code j).fst, .int .i64 (elt EvT code j).snd]] } := fun hk2 m hm => by
        rw [w64 (by omega)] at hm
        subst hm
        refine lpE_intro (A := M17 .nils (.sl q 16 EvT code) 0 code (.sl q 16 EvT code)) (j + 1) (by simp (maxSteps:=9^9) only [M17_I, go_sem, Int.reduceLT, Int.reduceLE, Int.reduceEq, Int.reduceNe, Int.reduceAdd, Int.reduceSub, Int.reduceMul, Int.reduceToNat, Int.reduceNeg, Nat.reduceEqDiff, Nat.reduceLeDiff, Nat.reduceSub, Nat.reduceMul, Nat.reduceLT, Nat.reduceBEq, Nat.reduceAdd]; rfl) ⟨by omega, ?_⟩ (by show code.length - (j + 1) < code.length - j; omega)
        have e3 := take_elt (t := EvT) hd
        show List.all (List.take (j + 1) (code : List EvT.den)) _ = true
        rw [← e3, List.all_append, hj.2]
        simpa using hk2
       simp only [insOk, Bool.and_eq_true, Bool.or_eq_true, decide_eq_true_eq] at hb hnx
       refine ⟨fun ho => hb (fun hh => ho hh.1), fun ho => ?_⟩
       rintro c rfl
       refine sw_intro (fun he => ?_) (fun he => ?_) <;> simp only [Bool.not_eq_true', Bool.not_eq_false', decide_eq_true_eq, decide_eq_false_iff_not] at he
       ·rintro c rfl
        refine sw_intro (fun hl => ?_) (fun hl => ?_) <;> simp only [decide_eq_true_eq, decide_eq_false_iff_not] at hl
        ·exact hb (fun hh => hh.2.elim he (fun h2 => absurd h2.1 (Int.not_le.2 hl)))
        refine ⟨by omega, ?_⟩
        rintro c rfl
        refine sw_intro (fun hg => ?_) (fun hg => ?_) <;> simp only [decide_eq_true_eq, decide_eq_false_iff_not] at hg
        ·exact hb (fun hh => hh.2.elim he (fun h2 => absurd h2.2 (Int.not_lt.2 hg)))
        intro _ _ m hm
        exact hnx ⟨ho, .inr ⟨Int.not_lt.1 hl, Int.not_le.1 hg⟩⟩ m hm
       ·intro _ _ m hm
        exact hnx ⟨ho, .inl he⟩ m hm
      ·have e2 : (code : List EvT.den).length ≤ j := by  omega
       rw [List.take_of_length_le e2] at hj
       rw [show formP [] code = true from formP_iff.2 ⟨⟨by simp only [List.length_nil]; omega, by  omega⟩, by simpa using hk, hj.2⟩] at h
       exact h
  ·refine ⟨by simp, [(1, L17 (.sl p 16 .str names) .nils names (.sl p 16 .str names)), (2, M17 (.sl p 16 .str names) .nils names.length [] .nils)], ?_⟩
   simp (maxSteps:=9^9) only [a17, r17, go_sem, Int.reduceLT, Int.reduceLE, Int.reduceEq, Int.reduceNe, Int.reduceAdd, Int.reduceSub, Int.reduceMul, Int.reduceToNat, Int.reduceNeg, Nat.reduceEqDiff, Nat.reduceLeDiff, Nat.reduceSub, Nat.reduceMul, Nat.reduceLT, Nat.reduceBEq, Nat.reduceAdd]
   have hf : ¬ (((names : List ByteArray).length ≤ 8 ∧ ([] : List EvT.den).length ≤ 200) ∧ (names : List ByteArray).all keyOk = true ∧ ([] : List EvT.den).all (insOk (names : List ByteArray).length ([] : List EvT.den).length) = true) → K (.bool false) [] := fun hh => by rw [← formP_iff, Bool.not_eq_true] at hh; rw [hh] at h; exact h
   rintro hn1 hn2 m rfl c rfl
   refine sw_intro (fun c1 => ?_) (fun c1 => ?_) <;> simp only [decide_eq_true_eq, decide_eq_false_iff_not] at c1
   ·exact hf (fun hh => by have := hh.1.1; omega)
   have c2 : ¬ (200 : Int) < (0 : Nat) := by omega
   rintro _ _ m rfl
   refine loop_intro (A := L17 (.sl p 16 .str names) .nils names (.sl p 16 .str names)) (0 : Nat) ?_ ⟨Nat.zero_le _, rfl⟩ ?_
   ·simp (maxSteps:=9^9) only [L17_I, go_sem, Int.reduceLT, Int.reduceLE, Int.reduceEq, Int.reduceNe, Int.reduceAdd, Int.reduceSub, Int.reduceMul, Int.reduceToNat, Int.reduceNeg, Nat.reduceEqDiff, Nat.reduceLeDiff, Nat.reduceSub, Nat.reduceMul, Nat.reduceLT, Nat.reduceBEq, Nat.reduceAdd]
    rfl
   ·intro (i : Nat) (hi : i ≤ (names : List ByteArray).length ∧ ((names : List ByteArray).take i).all keyOk = true)
    simp (maxSteps:=9^9) only [L17_I, C37, go_sem, Int.reduceLT, Int.reduceLE, Int.reduceEq, Int.reduceNe, Int.reduceAdd, Int.reduceSub, Int.reduceMul, Int.reduceToNat, Int.reduceNeg, Nat.reduceEqDiff, Nat.reduceLeDiff, Nat.reduceSub, Nat.reduceMul, Nat.reduceLT, Nat.reduceBEq, Nat.reduceAdd]
    rintro c rfl
    refine sw_intro (fun hc => ?_) (fun hc => ?_) <;> simp only [decide_eq_true_eq, decide_eq_false_iff_not] at hc
    ·refine nd_intro hc (sw_intro (fun hk => ?_) (fun hk => ?_))
     case refine_2 =>
      refine hf (fun hh => ?_)
      have hm := List.all_eq_true.1 hh.2.1 (elt .str names i) (List.mem_of_getElem? (elt_get hc))
      rw [hm] at hk
      simp at hk
     rintro _ _ m hm
     rw [w64 (by omega)] at hm
     subst hm
     refine lpE_intro (A := L17 (.sl p 16 .str names) .nils names (.sl p 16 .str names)) (i + 1) (by simp (maxSteps:=9^9) only [L17_I, go_sem, Int.reduceLT, Int.reduceLE, Int.reduceEq, Int.reduceNe, Int.reduceAdd, Int.reduceSub, Int.reduceMul, Int.reduceToNat, Int.reduceNeg, Nat.reduceEqDiff, Nat.reduceLeDiff, Nat.reduceSub, Nat.reduceMul, Nat.reduceLT, Nat.reduceBEq, Nat.reduceAdd]; rfl) ⟨by omega, ?_⟩ (by show (names : List ByteArray).length - (i + 1) < (names : List ByteArray).length - i; omega)
     have e3 := take_elt (t := .str) hc
     show List.all (List.take (i + 1) (names : List ByteArray)) _ = true
     rw [← e3, List.all_append, hi.2]
     simpa using hk
    ·have e : i = (names : List ByteArray).length := by have := hi.1;  omega
     have hk := hi.2
     subst e; simp only [List.take_length] at hk
     refine loop_intro (A := M17 (.sl p 16 .str names) .nils names.length [] .nils) (0 : Nat) ?_ ⟨Nat.zero_le _, rfl⟩ ?_
     ·simp (maxSteps:=9^9) only [M17_I, go_sem, Int.reduceLT, Int.reduceLE, Int.reduceEq, Int.reduceNe, Int.reduceAdd, Int.reduceSub, Int.reduceMul, Int.reduceToNat, Int.reduceNeg, Nat.reduceEqDiff, Nat.reduceLeDiff, Nat.reduceSub, Nat.reduceMul, Nat.reduceLT, Nat.reduceBEq, Nat.reduceAdd]
      rfl
     ·intro (j : Nat) (hj : j ≤ ([] : List EvT.den).length ∧ (([] : List EvT.den).take j).all (insOk names.length ([] : List EvT.den).length) = true)
      simp (maxSteps:=9^9) only [M17_I, C32, C38, go_sem, Int.reduceLT, Int.reduceLE, Int.reduceEq, Int.reduceNe, Int.reduceAdd, Int.reduceSub, Int.reduceMul, Int.reduceToNat, Int.reduceNeg, Nat.reduceEqDiff, Nat.reduceLeDiff, Nat.reduceSub, Nat.reduceMul, Nat.reduceLT, Nat.reduceBEq, Nat.reduceAdd]
      rintro c rfl
      refine sw_intro (fun hd => ?_) (fun hd => ?_) <;> simp only [decide_eq_true_eq, decide_eq_false_iff_not] at hd
      ·exact absurd hd (by omega)
      ·have e2 : ([] : List EvT.den).length ≤ j := by simp only [List.length_nil]; omega
       rw [List.take_of_length_le e2] at hj
       rw [show formP names [] = true from formP_iff.2 ⟨⟨by  omega, by simp only [List.length_nil]; omega⟩, by simpa using hk, hj.2⟩] at h
       exact h
  ·refine ⟨by simp, [(1, L17 (.sl p 16 .str names) (.sl q 16 EvT code) names (.sl p 16 .str names)), (2, M17 (.sl p 16 .str names) (.sl q 16 EvT code) names.length code (.sl q 16 EvT code))], ?_⟩
   simp (maxSteps:=9^9) only [a17, r17, go_sem, Int.reduceLT, Int.reduceLE, Int.reduceEq, Int.reduceNe, Int.reduceAdd, Int.reduceSub, Int.reduceMul, Int.reduceToNat, Int.reduceNeg, Nat.reduceEqDiff, Nat.reduceLeDiff, Nat.reduceSub, Nat.reduceMul, Nat.reduceLT, Nat.reduceBEq, Nat.reduceAdd]
   have hf : ¬ (((names : List ByteArray).length ≤ 8 ∧ (code : List EvT.den).length ≤ 200) ∧ (names : List ByteArray).all keyOk = true ∧ (code : List EvT.den).all (insOk (names : List ByteArray).length (code : List EvT.den).length) = true) → K (.bool false) [] := fun hh => by rw [← formP_iff, Bool.not_eq_true] at hh; rw [hh] at h; exact h
   rintro hn1 hn2 m rfl c rfl
   refine sw_intro (fun c1 => ?_) (fun c1 => ?_) <;> simp only [decide_eq_true_eq, decide_eq_false_iff_not] at c1
   ·exact hf (fun hh => by have := hh.1.1; omega)
   rintro hc1 hc2 m rfl c rfl
   refine sw_intro (fun c2 => ?_) (fun c2 => ?_) <;> simp only [decide_eq_true_eq, decide_eq_false_iff_not] at c2
   ·exact hf (fun hh => by have := hh.1.2; omega)
   rintro _ _ m rfl
   refine loop_intro (A := L17 (.sl p 16 .str names) (.sl q 16 EvT code) names (.sl p 16 .str names)) (0 : Nat) ?_ ⟨Nat.zero_le _, rfl⟩ ?_
   ·simp (maxSteps:=9^9) only [L17_I, go_sem, Int.reduceLT, Int.reduceLE, Int.reduceEq, Int.reduceNe, Int.reduceAdd, Int.reduceSub, Int.reduceMul, Int.reduceToNat, Int.reduceNeg, Nat.reduceEqDiff, Nat.reduceLeDiff, Nat.reduceSub, Nat.reduceMul, Nat.reduceLT, Nat.reduceBEq, Nat.reduceAdd]
    rfl
   ·intro (i : Nat) (hi : i ≤ (names : List ByteArray).length ∧ ((names : List ByteArray).take i).all keyOk = true)
    simp (maxSteps:=9^9) only [L17_I, C37, go_sem, Int.reduceLT, Int.reduceLE, Int.reduceEq, Int.reduceNe, Int.reduceAdd, Int.reduceSub, Int.reduceMul, Int.reduceToNat, Int.reduceNeg, Nat.reduceEqDiff, Nat.reduceLeDiff, Nat.reduceSub, Nat.reduceMul, Nat.reduceLT, Nat.reduceBEq, Nat.reduceAdd]
    rintro c rfl
    refine sw_intro (fun hc => ?_) (fun hc => ?_) <;> simp only [decide_eq_true_eq, decide_eq_false_iff_not] at hc
    ·refine nd_intro hc (sw_intro (fun hk => ?_) (fun hk => ?_))
     case refine_2 =>
      refine hf (fun hh => ?_)
      have hm := List.all_eq_true.1 hh.2.1 (elt .str names i) (List.mem_of_getElem? (elt_get hc))
      rw [hm] at hk
      simp at hk
     rintro _ _ m hm
     rw [w64 (by omega)] at hm
     subst hm
     refine lpE_intro (A := L17 (.sl p 16 .str names) (.sl q 16 EvT code) names (.sl p 16 .str names)) (i + 1) (by simp (maxSteps:=9^9) only [L17_I, go_sem, Int.reduceLT, Int.reduceLE, Int.reduceEq, Int.reduceNe, Int.reduceAdd, Int.reduceSub, Int.reduceMul, Int.reduceToNat, Int.reduceNeg, Nat.reduceEqDiff, Nat.reduceLeDiff, Nat.reduceSub, Nat.reduceMul, Nat.reduceLT, Nat.reduceBEq, Nat.reduceAdd]; rfl) ⟨by omega, ?_⟩ (by show (names : List ByteArray).length - (i + 1) < (names : List ByteArray).length - i; omega)
     have e3 := take_elt (t := .str) hc
     show List.all (List.take (i + 1) (names : List ByteArray)) _ = true
     rw [← e3, List.all_append, hi.2]
     simpa using hk
    ·have e : i = (names : List ByteArray).length := by have := hi.1;  omega
     have hk := hi.2
     subst e; simp only [List.take_length] at hk
     rintro _ _ m rfl
     refine loop_intro (A := M17 (.sl p 16 .str names) (.sl q 16 EvT code) names.length code (.sl q 16 EvT code)) (0 : Nat) ?_ ⟨Nat.zero_le _, rfl⟩ ?_
     ·simp (maxSteps:=9^9) only [M17_I, go_sem, Int.reduceLT, Int.reduceLE, Int.reduceEq, Int.reduceNe, Int.reduceAdd, Int.reduceSub, Int.reduceMul, Int.reduceToNat, Int.reduceNeg, Nat.reduceEqDiff, Nat.reduceLeDiff, Nat.reduceSub, Nat.reduceMul, Nat.reduceLT, Nat.reduceBEq, Nat.reduceAdd]
      rfl
     ·intro (j : Nat) (hj : j ≤ (code : List EvT.den).length ∧ ((code : List EvT.den).take j).all (insOk names.length (code : List EvT.den).length) = true)
      simp (maxSteps:=9^9) only [M17_I, C32, C38, go_sem, Int.reduceLT, Int.reduceLE, Int.reduceEq, Int.reduceNe, Int.reduceAdd, Int.reduceSub, Int.reduceMul, Int.reduceToNat, Int.reduceNeg, Nat.reduceEqDiff, Nat.reduceLeDiff, Nat.reduceSub, Nat.reduceMul, Nat.reduceLT, Nat.reduceBEq, Nat.reduceAdd]
      rintro c rfl
      refine sw_intro (fun hd => ?_) (fun hd => ?_) <;> simp only [decide_eq_true_eq, decide_eq_false_iff_not] at hd
      ·refine nd_intro hd ?_
       have hb : ¬ insOk names.length code.length (elt EvT code j) = true → K (.bool false) [] := fun hn => hf (fun hh => hn (List.all_eq_true.1 hh.2.2 _ (List.mem_of_getElem? (elt_get hd))))
       have hnx : insOk names.length code.length (elt EvT code j) = true → ∀ m, m = IntKind.i64.wrap ((j : Int) + 1) → lpE (M17 (.sl p 16 .str names) (.sl q 16 EvT code) names.length code (.sl q 16 EvT code)) 0 [1, 32, 33, 34] (0 : Nat) j { fr := [(1, .ptr 0 0), (32, (.sl q 16 EvT code)), (33, .int .i64 code.length), (34, .int .i64 m)], hp := [.struct [(.sl p 16 .str names), (.sl q 16 EvT code)], .struct [.int .i64 (elt EvT code j).fst, .int .i64 (elt EvT code j).snd]] } := fun hk2 m hm => by
        rw [w64 (by omega)] at hm
        subst hm
        refine lpE_intro (A := M17 (.sl p 16 .str names) (.sl q 16 EvT code) names.length code (.sl q 16 EvT code)) (j + 1) (by simp (maxSteps:=9^9) only [M17_I, go_sem, Int.reduceLT, Int.reduceLE, Int.reduceEq, Int.reduceNe, Int.reduceAdd, Int.reduceSub, Int.reduceMul, Int.reduceToNat, Int.reduceNeg, Nat.reduceEqDiff, Nat.reduceLeDiff, Nat.reduceSub, Nat.reduceMul, Nat.reduceLT, Nat.reduceBEq, Nat.reduceAdd]; rfl) ⟨by omega, ?_⟩ (by show code.length - (j + 1) < code.length - j; omega)
        have e3 := take_elt (t := EvT) hd
        show List.all (List.take (j + 1) (code : List EvT.den)) _ = true
        rw [← e3, List.all_append, hj.2]
        simpa using hk2
       simp only [insOk, Bool.and_eq_true, Bool.or_eq_true, decide_eq_true_eq] at hb hnx
       refine ⟨fun ho => hb (fun hh => ho hh.1), fun ho => ?_⟩
       rintro c rfl
       refine sw_intro (fun he => ?_) (fun he => ?_) <;> simp only [Bool.not_eq_true', Bool.not_eq_false', decide_eq_true_eq, decide_eq_false_iff_not] at he
       ·rintro c rfl
        refine sw_intro (fun hl => ?_) (fun hl => ?_) <;> simp only [decide_eq_true_eq, decide_eq_false_iff_not] at hl
        ·exact hb (fun hh => hh.2.elim he (fun h2 => absurd h2.1 (Int.not_le.2 hl)))
        refine ⟨by omega, by omega, ?_⟩
        rintro c rfl
        refine sw_intro (fun hg => ?_) (fun hg => ?_) <;> simp only [decide_eq_true_eq, decide_eq_false_iff_not] at hg
        ·exact hb (fun hh => hh.2.elim he (fun h2 => absurd h2.2 (Int.not_lt.2 hg)))
        intro _ _ m hm
        exact hnx ⟨ho, .inr ⟨Int.not_lt.1 hl, Int.not_le.1 hg⟩⟩ m hm
       ·intro _ _ m hm
        exact hnx ⟨ho, .inl he⟩ m hm
      ·have e2 : (code : List EvT.den).length ≤ j := by  omega
       rw [List.take_of_length_le e2] at hj
       rw [show formP names code = true from formP_iff.2 ⟨⟨by  omega, by  omega⟩, by simpa using hk, hj.2⟩] at h
       exact h
 ·exact h.elim
end Go.V
