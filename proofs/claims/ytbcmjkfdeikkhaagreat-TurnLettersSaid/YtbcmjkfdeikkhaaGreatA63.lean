/- A part of the proof layer, or functions of the given program in it: contracts and their proofs. -/
import Derived.Test.YtbcmjkfdeikkhaaGreatA62
namespace Go.V
open Go.Proofs
set_option maxRecDepth 100000
set_option maxHeartbeats 8000000
set_option linter.unusedSimpArgs false
set_option linter.unnecessarySimpa false
set_option linter.unusedVariables false
/-! ### programs -/
abbrev WdT : Ty := .pair .str (.int .i64)
@[go_sem] theorem flat_wd : Ty.flat (.pair .str (.int .i64)) = true := rfl
@[go_sem] theorem drpF {l : List SV} {n : Nat} : drpB false l n = none := rfl
def opT : List (ByteArray × Int) := [(⟨#[104, 97, 108, 116]⟩, 0), (⟨#[112, 117, 115, 104]⟩, 1), (⟨#[108, 111, 97, 100]⟩, 2), (⟨#[115, 116, 111, 114, 101]⟩, 2), (⟨#[97, 114, 103]⟩, 3), (⟨#[107, 105, 110, 100]⟩, 0), (⟨#[97, 100, 100]⟩, 0), (⟨#[115, 117, 98]⟩, 0), (⟨#[109, 117, 108]⟩, 0), (⟨#[108, 101, 115, 115]⟩, 0), (⟨#[101, 113, 117, 97, 108]⟩, 0), (⟨#[110, 111, 116]⟩, 0), (⟨#[100, 117, 112]⟩, 0), (⟨#[100, 114, 111, 112]⟩, 0), (⟨#[115, 119, 97, 112]⟩, 0), (⟨#[106, 117, 109, 112]⟩, 4), (⟨#[106, 117, 109, 112, 122]⟩, 4), (⟨#[115, 101, 110, 100]⟩, 5), (⟨#[114, 101, 112, 108, 121]⟩, 0), (⟨#[114, 101, 109, 105, 110, 100]⟩, 5), (⟨#[99, 97, 110, 99, 101, 108]⟩, 5), (⟨#[102, 97, 105, 108]⟩, 0), (⟨#[110, 111, 119]⟩, 0), (⟨#[115, 101, 114, 105, 97, 108]⟩, 0)]
def opK (op : Int) : Int := (elt WdT opT op.toNat).2
/-- operation -/
def C89 : Contract := fun args hp K => match args, hp with
  | [.int .i64 op], [] => (¬ (0 ≤ op ∧ op < 24) → K (.tup [.str ByteArray.empty, .int .i64 0, .bool false]) []) ∧ ((0 ≤ op ∧ op < 24) → K (.tup [.str (elt WdT opT op.toNat).1, .int .i64 (opK op), .bool true]) [])
  | _, _ => False
theorem s89 : Sound Tryz.prog 89 C89 := by
  refine sound_of_okF ok89 (Γ := []) .nil ?_
  intro args hp K h
  unfold C89 at h
  split at h
  · rename_i op
    refine ⟨by simp, [], ?_⟩
    simp (maxSteps := 2000000) only [a89, r89, cond_true, go_sem, eq_self, and_self, Int.natCast_pos, Int.le_refl, Nat.le_refl, Int.natCast_nonneg, Int.ofNat_lt, Int.ofNat_le, Int.reduceLT, Int.reduceLE, Int.reduceEq, Int.reduceNe, Int.reduceAdd, Int.reduceSub, Int.reduceMul, Int.reduceToNat, Int.reduceNeg, Nat.reduceEqDiff, Nat.reduceLeDiff, Nat.reduceSub, Nat.reduceMul, Nat.reduceLT, Nat.reduceBEq, Nat.reduceAdd]
    rintro c rfl
    refine sw_intro (fun c1 => ?_) (fun c1 => ?_) <;> simp only [decide_eq_true_eq, decide_eq_false_iff_not] at c1
    · exact h.1 (by omega)
    rintro c rfl
    refine sw_intro (fun c2 => ?_) (fun c2 => ?_) <;> simp only [decide_eq_true_eq, decide_eq_false_iff_not] at c2
    · exact h.1 (by omega)
    have h2 := h.2 ⟨by omega, by omega⟩
    exact nd_intro ⟨by omega, by omega⟩ (nd_intro (by omega) (nd_intro ⟨by omega, by omega⟩ (nd_intro (by omega) h2)))
  · exact h.elim
/-- below -/
def belowI (kind : Int) (n c : Nat) : Int := if kind = 2 then 8 else if kind = 3 then 4 else if kind = 4 then c + 1 else if kind = 5 then n else 1
def C90 : Contract := fun args hp K => match args, hp with
  | [.agg [x, y], .int .i64 k], [] => onL .str 16 x fun names => onL EvT 16 y fun code => (names : List ByteArray).length ≤ 1000 ∧ (code : List EvT.den).length ≤ 1000 ∧ K (.int .i64 (belowI k names.length code.length)) []
  | _, _ => False
theorem s90 : Sound Tryz.prog 90 C90 := by
  refine sound_of_okF ok90 (Γ := []) .nil ?_
  intro args hp K h
  unfold C90 at h
  split at h
  · rename_i x y k
    have hmx := maxLen_val
    rcases h with ⟨rfl, ⟨rfl, hn, hc, h⟩ | ⟨q, code, rfl, hn, hc, h⟩⟩ | ⟨p, names, rfl, ⟨rfl, hn, hc, h⟩ | ⟨q, code, rfl, hn, hc, h⟩⟩
    · refine ⟨by simp, [], ?_⟩
      simp (maxSteps := 2000000) only [a90, r90, go_sem, eq_self, and_self, Int.natCast_pos, Int.le_refl, Nat.le_refl, Int.natCast_nonneg, Int.ofNat_lt, Int.ofNat_le, Int.reduceLT, Int.reduceLE, Int.reduceEq, Int.reduceNe, Int.reduceAdd, Int.reduceSub, Int.reduceMul, Int.reduceToNat, Int.reduceNeg, Nat.reduceEqDiff, Nat.reduceLeDiff, Nat.reduceSub, Nat.reduceMul, Nat.reduceLT, Nat.reduceBEq, Nat.reduceAdd]
      unfold belowI at h
      rintro c rfl
      refine sw_intro (fun c1 => ?_) (fun c1 => ?_) <;> simp only [decide_eq_true_eq, decide_eq_false_iff_not] at c1
      · rw [if_pos c1] at h; exact h
      rw [if_neg c1] at h
      rintro c rfl
      refine sw_intro (fun c1 => ?_) (fun c1 => ?_) <;> simp only [decide_eq_true_eq, decide_eq_false_iff_not] at c1
      · rw [if_pos c1] at h; exact h
      rw [if_neg c1] at h
      rintro c rfl
      refine sw_intro (fun c1 => ?_) (fun c1 => ?_) <;> simp only [decide_eq_true_eq, decide_eq_false_iff_not] at c1
      · rw [if_pos c1] at h
        rintro _ _ m hm
        rw [w64 (by omega)] at hm
        subst hm
        exact h
      rw [if_neg c1] at h
      rintro c rfl
      refine sw_intro (fun c1 => ?_) (fun c1 => ?_) <;> simp only [decide_eq_true_eq, decide_eq_false_iff_not] at c1
      · rw [if_pos c1] at h
        skip
        exact h
      rw [if_neg c1] at h
      exact h
    · refine ⟨by simp, [], ?_⟩
      simp (maxSteps := 2000000) only [a90, r90, go_sem, eq_self, and_self, Int.natCast_pos, Int.le_refl, Nat.le_refl, Int.natCast_nonneg, Int.ofNat_lt, Int.ofNat_le, Int.reduceLT, Int.reduceLE, Int.reduceEq, Int.reduceNe, Int.reduceAdd, Int.reduceSub, Int.reduceMul, Int.reduceToNat, Int.reduceNeg, Nat.reduceEqDiff, Nat.reduceLeDiff, Nat.reduceSub, Nat.reduceMul, Nat.reduceLT, Nat.reduceBEq, Nat.reduceAdd]
      unfold belowI at h
      rintro c rfl
      refine sw_intro (fun c1 => ?_) (fun c1 => ?_) <;> simp only [decide_eq_true_eq, decide_eq_false_iff_not] at c1
      · rw [if_pos c1] at h; exact h
      rw [if_neg c1] at h
      rintro c rfl
      refine sw_intro (fun c1 => ?_) (fun c1 => ?_) <;> simp only [decide_eq_true_eq, decide_eq_false_iff_not] at c1
      · rw [if_pos c1] at h; exact h
      rw [if_neg c1] at h
      rintro c rfl
      refine sw_intro (fun c1 => ?_) (fun c1 => ?_) <;> simp only [decide_eq_true_eq, decide_eq_false_iff_not] at c1
      · rw [if_pos c1] at h
        rintro _ _ m rfl _ _ m1 hm1
        rw [w64 (by omega)] at hm1
        subst hm1
        exact h
      rw [if_neg c1] at h
      rintro c rfl
      refine sw_intro (fun c1 => ?_) (fun c1 => ?_) <;> simp only [decide_eq_true_eq, decide_eq_false_iff_not] at c1
      · rw [if_pos c1] at h
        skip
        exact h
      rw [if_neg c1] at h
      exact h
    · refine ⟨by simp, [], ?_⟩
      simp (maxSteps := 2000000) only [a90, r90, go_sem, eq_self, and_self, Int.natCast_pos, Int.le_refl, Nat.le_refl, Int.natCast_nonneg, Int.ofNat_lt, Int.ofNat_le, Int.reduceLT, Int.reduceLE, Int.reduceEq, Int.reduceNe, Int.reduceAdd, Int.reduceSub, Int.reduceMul, Int.reduceToNat, Int.reduceNeg, Nat.reduceEqDiff, Nat.reduceLeDiff, Nat.reduceSub, Nat.reduceMul, Nat.reduceLT, Nat.reduceBEq, Nat.reduceAdd]
      unfold belowI at h
      rintro c rfl
      refine sw_intro (fun c1 => ?_) (fun c1 => ?_) <;> simp only [decide_eq_true_eq, decide_eq_false_iff_not] at c1
      · rw [if_pos c1] at h; exact h
      rw [if_neg c1] at h
      rintro c rfl
      refine sw_intro (fun c1 => ?_) (fun c1 => ?_) <;> simp only [decide_eq_true_eq, decide_eq_false_iff_not] at c1
      · rw [if_pos c1] at h; exact h
      rw [if_neg c1] at h
      rintro c rfl
      refine sw_intro (fun c1 => ?_) (fun c1 => ?_) <;> simp only [decide_eq_true_eq, decide_eq_false_iff_not] at c1
      · rw [if_pos c1] at h
        rintro _ _ m hm
        rw [w64 (by omega)] at hm
        subst hm
        exact h
      rw [if_neg c1] at h
      rintro c rfl
      refine sw_intro (fun c1 => ?_) (fun c1 => ?_) <;> simp only [decide_eq_true_eq, decide_eq_false_iff_not] at c1
      · rw [if_pos c1] at h
        rintro _ _ m rfl
        exact h
      rw [if_neg c1] at h
      exact h
    · refine ⟨by simp, [], ?_⟩
      simp (maxSteps := 2000000) only [a90, r90, go_sem, eq_self, and_self, Int.natCast_pos, Int.le_refl, Nat.le_refl, Int.natCast_nonneg, Int.ofNat_lt, Int.ofNat_le, Int.reduceLT, Int.reduceLE, Int.reduceEq, Int.reduceNe, Int.reduceAdd, Int.reduceSub, Int.reduceMul, Int.reduceToNat, Int.reduceNeg, Nat.reduceEqDiff, Nat.reduceLeDiff, Nat.reduceSub, Nat.reduceMul, Nat.reduceLT, Nat.reduceBEq, Nat.reduceAdd]
      unfold belowI at h
      rintro c rfl
      refine sw_intro (fun c1 => ?_) (fun c1 => ?_) <;> simp only [decide_eq_true_eq, decide_eq_false_iff_not] at c1
      · rw [if_pos c1] at h; exact h
      rw [if_neg c1] at h
      rintro c rfl
      refine sw_intro (fun c1 => ?_) (fun c1 => ?_) <;> simp only [decide_eq_true_eq, decide_eq_false_iff_not] at c1
      · rw [if_pos c1] at h; exact h
      rw [if_neg c1] at h
      rintro c rfl
      refine sw_intro (fun c1 => ?_) (fun c1 => ?_) <;> simp only [decide_eq_true_eq, decide_eq_false_iff_not] at c1
      · rw [if_pos c1] at h
        rintro _ _ m rfl _ _ m1 hm1
        rw [w64 (by omega)] at hm1
        subst hm1
        exact h
      rw [if_neg c1] at h
      rintro c rfl
      refine sw_intro (fun c1 => ?_) (fun c1 => ?_) <;> simp only [decide_eq_true_eq, decide_eq_false_iff_not] at c1
      · rw [if_pos c1] at h
        rintro _ _ m rfl
        exact h
      rw [if_neg c1] at h
      exact h
  · exact h.elim
end Go.V
