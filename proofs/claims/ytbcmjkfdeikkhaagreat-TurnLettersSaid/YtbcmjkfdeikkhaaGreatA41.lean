/- A part of the proof layer, or functions of the given program in it: contracts and their proofs. -/
import Derived.Test.YtbcmjkfdeikkhaaGreatA40
namespace Go.V
open Go.Proofs
set_option maxRecDepth 100000
set_option linter.unusedSimpArgs false
set_option linter.unnecessarySimpa false
set_option linter.unusedVariables false
theorem lt8_le {x : Int} (h : x < 8) : x ≤ 8 := by omega
def evsB (ev : List EvT.den) : List UInt8 := ev.flatMap fun e => numB e.1 ++ numB (zig e.2)
def jB (b : List Int) (ev : List EvT.den) (v : Int) : List UInt8 := numB v ++ intsB b ++ numB ev.length ++ evsB ev
theorem evsB_snoc (ev : List EvT.den) (e : EvT.den) : evsB (ev ++ [e]) = evsB ev ++ numB e.1 ++ numB (zig e.2) := by simp [evsB]
theorem evsB_length (ev : List EvT.den) : (evsB ev).length ≤ 18 * ev.length := by
  induction ev with
  | nil => simp [evsB]
  | cons x r ih =>
    have h1 := (numB_length x.1).2
    have h2 := (numB_length (zig x.2)).2
    simp only [evsB, List.flatMap_cons, List.length_append, List.length_cons] at ih ⊢
    omega
theorem jB_length (b : List Int) (ev : List EvT.den) (v : Int) : (jB b ev v).length ≤ 18 + 9 * b.length + 18 * ev.length := by
  have h1 := (numB_length v).2
  have h2 := intsB_length b
  have h3 := (numB_length (ev.length : Int)).2
  have h4 := evsB_length ev
  simp only [jB, List.length_append]; omega
def rngJ (b : List Int) (ev : List EvT.den) : Prop := inI b ∧ ∀ e ∈ ev, in64 e.2
/-- Encode -/
def C60 : Contract := fun args hp K => match args with
  | [.ptr 0 0] => onJ hp fun b ev v => b.length = 8 ∧ ev.all okEv = true ∧ ev.length ≤ 16 ∧ (rngJ b ev → K (.own 2) (jH false b ev v ++ [.row true 1 .byte (jB b ev v)]))
  | _ => False
def L60 (b : List Int) (ev : List EvT.den) (v : Int) : LoopAnn := { G := Nat, I := fun i => ⟨[(0, .ptr 0 0), (3, .ptr 2 0), (20, .agg [.arr 8 (.int .i64) b]), (21, .int .i64 i)], jH false b ev v ++ [.struct [.own 3], .row true 1 .byte (numB v ++ intsB (b.take i))]⟩, R := fun _ i => i ≤ 8 ∧ inI (b.take i), μ := fun i => 8 - i }
theorem L60_I {b ev v} (i : Nat) : (L60 b ev v).I i = ⟨[(0, .ptr 0 0), (3, .ptr 2 0), (20, .agg [.arr 8 (.int .i64) b]), (21, .int .i64 i)], jH false b ev v ++ [.struct [.own 3], .row true 1 .byte (numB v ++ intsB (b.take i))]⟩ := rfl
def M60 (b : List Int) (ev : List EvT.den) (v : Int) : LoopAnn := { G := Nat, I := fun i => ⟨[(3, .ptr 2 0), (39, .own 1), (40, .int .i64 ev.length), (41, .int .i64 i)], jH false b ev v ++ [.struct [.own 3], .row true 1 .byte (numB v ++ intsB b ++ numB ev.length ++ evsB (ev.take i))]⟩, R := fun _ i => i ≤ ev.length ∧ ∀ e ∈ ev.take i, in64 e.2, μ := fun i => ev.length - i }
theorem M60_I {b ev v} (i : Nat) : (M60 b ev v).I i = ⟨[(3, .ptr 2 0), (39, .own 1), (40, .int .i64 ev.length), (41, .int .i64 i)], jH false b ev v ++ [.struct [.own 3], .row true 1 .byte (numB v ++ intsB b ++ numB ev.length ++ evsB (ev.take i))]⟩ := rfl
theorem s60 : Sound Tryz.prog 60 C60 := by
  refine sound_of_okF ok60 (Γ := [(58, C58), (59, C59), (108, C108), (63, C63)]) (.cons s58 (callable_of_okF ok58) (.cons s59 (callable_of_okF ok59) (.cons s108 (callable_of_okF ok108) (.cons s63 (callable_of_okF ok63) .nil)))) ?_
  intro args hp K h
  unfold C60 at h
  split at h
  · obtain ⟨b, ev, v, rfl, hb, hok, hl, h⟩ := h
    refine ⟨by simp, [(1, L60 b ev v), (2, M60 b ev v)], ?_⟩
    unfold jH at h ⊢
    simp (maxSteps := 2000000) only [a60, r60, C58, C59, wrH, go_sem, eq_self, and_self, Int.natCast_pos, Int.le_refl, Nat.le_refl, Int.natCast_nonneg, Int.ofNat_lt, Int.ofNat_le, Int.reduceLT, Int.reduceLE, Int.reduceEq, Int.reduceNe, Int.reduceAdd, Int.reduceSub, Int.reduceMul, Int.reduceToNat, Int.reduceNeg, Nat.reduceEqDiff, Nat.reduceLeDiff, Nat.reduceSub, Nat.reduceMul, Nat.reduceLT, Nat.reduceBEq, Nat.reduceAdd]
    have b1 := (numB_length v).2
    have b2 : ∀ i, (intsB (b.take i)).length ≤ 72 := fun i => by
      have h1 := intsB_length (b.take i)
      have h2 : (b.take i).length ≤ 8 := by rw [List.length_take]; omega
      omega
    have b3 := (numB_length (ev.length : Int)).2
    have b4 : ∀ i, (evsB (ev.take i)).length ≤ 288 := fun i => by
      have h1 := evsB_length (ev.take i)
      have h2 : (ev.take i).length ≤ 16 := by rw [List.length_take]; omega
      omega
    have hmx := maxLen_val
    refine loop_intro (A := L60 b ev v) (0 : Nat) ?_ ⟨Nat.zero_le _, fun x hx => by simp at hx⟩ ?_
    · simp (maxSteps := 2000000) only [L60_I, jH, go_sem, eq_self, and_self, Int.natCast_pos, Int.le_refl, Nat.le_refl, Int.natCast_nonneg, Int.ofNat_lt, Int.ofNat_le, Int.reduceLT, Int.reduceLE, Int.reduceEq, Int.reduceNe, Int.reduceAdd, Int.reduceSub, Int.reduceMul, Int.reduceToNat, Int.reduceNeg, Nat.reduceEqDiff, Nat.reduceLeDiff, Nat.reduceSub, Nat.reduceMul, Nat.reduceLT, Nat.reduceBEq, Nat.reduceAdd]
      simp [intsB]
    · intro (i : Nat) (hi : i ≤ 8 ∧ inI (b.take i))
      obtain ⟨hi, hin⟩ := hi
      simp (maxSteps := 2000000) only [L60_I, jH, C108, C59, C63, wrH, go_sem, eq_self, and_self, Int.natCast_pos, Int.le_refl, Nat.le_refl, Int.natCast_nonneg, Int.ofNat_lt, Int.ofNat_le, Int.reduceLT, Int.reduceLE, Int.reduceEq, Int.reduceNe, Int.reduceAdd, Int.reduceSub, Int.reduceMul, Int.reduceToNat, Int.reduceNeg, Nat.reduceEqDiff, Nat.reduceLeDiff, Nat.reduceSub, Nat.reduceMul, Nat.reduceLT, Nat.reduceBEq, Nat.reduceAdd]
      have hb2 := b2 i
      rintro c rfl
      refine sw_intro (fun hc => ?_) (fun hc => ?_) <;> simp only [decide_eq_true_eq, decide_eq_false_iff_not] at hc
      · have hc' : i < 8 := by omega
        refine nd_intro hc' ⟨by simp only [List.length_append]; omega, ?_⟩
        rintro hx64 _ _ m hm
        rw [w64 (by omega)] at hm
        subst hm
        have hlt : i < b.length := by omega
        refine lpE_intro (A := L60 b ev v) (i + 1 : Nat) ?_ ⟨hc', fun x hx => ?_⟩ (by show 8 - (i + 1) < 8 - i; omega)
        rotate_left
        · rw [← take_elt (t := .int .i64) hlt] at hx
          rcases List.mem_append.1 hx with hx | hx
          · exact hin x hx
          · simp only [List.mem_singleton] at hx
            subst hx
            exact hx64
        simp (maxSteps := 2000000) only [L60_I, jH, go_sem, eq_self, and_self, Int.natCast_pos, Int.le_refl, Nat.le_refl, Int.natCast_nonneg, Int.ofNat_lt, Int.ofNat_le, Int.reduceLT, Int.reduceLE, Int.reduceEq, Int.reduceNe, Int.reduceAdd, Int.reduceSub, Int.reduceMul, Int.reduceToNat, Int.reduceNeg, Nat.reduceEqDiff, Nat.reduceLeDiff, Nat.reduceSub, Nat.reduceMul, Nat.reduceLT, Nat.reduceBEq, Nat.reduceAdd]
        rw [← take_elt (t := .int .i64) hlt, intsB_snoc]
        simp only [List.append_assoc]
        rfl
      · obtain rfl : i = 8 := by omega
        have e8 : b.take 8 = b := List.take_of_length_le (by omega)
        rw [e8] at hin hb2 ⊢
        rintro _ _ m rfl _ m1 hm1
        rw [wu64 (by omega)] at hm1
        subst hm1
        refine ⟨by simp only [List.length_append]; omega, ?_⟩
        rintro _ _ m rfl
        refine loop_intro (A := M60 b ev v) (0 : Nat) ?_ ⟨Nat.zero_le _, fun x hx => by simp at hx⟩ ?_
        · simp (maxSteps := 2000000) only [M60_I, jH, go_sem, eq_self, and_self, Int.natCast_pos, Int.le_refl, Nat.le_refl, Int.natCast_nonneg, Int.ofNat_lt, Int.ofNat_le, Int.reduceLT, Int.reduceLE, Int.reduceEq, Int.reduceNe, Int.reduceAdd, Int.reduceSub, Int.reduceMul, Int.reduceToNat, Int.reduceNeg, Nat.reduceEqDiff, Nat.reduceLeDiff, Nat.reduceSub, Nat.reduceMul, Nat.reduceLT, Nat.reduceBEq, Nat.reduceAdd]
          simp [evsB]
        · intro (i : Nat) (hi : i ≤ ev.length ∧ ∀ e ∈ ev.take i, in64 e.2)
          obtain ⟨hi, hin2⟩ := hi
          simp (maxSteps := 2000000) only [M60_I, jH, C108, C59, C63, wrH, go_sem, eq_self, and_self, Int.natCast_pos, Int.le_refl, Nat.le_refl, Int.natCast_nonneg, Int.ofNat_lt, Int.ofNat_le, Int.reduceLT, Int.reduceLE, Int.reduceEq, Int.reduceNe, Int.reduceAdd, Int.reduceSub, Int.reduceMul, Int.reduceToNat, Int.reduceNeg, Nat.reduceEqDiff, Nat.reduceLeDiff, Nat.reduceSub, Nat.reduceMul, Nat.reduceLT, Nat.reduceBEq, Nat.reduceAdd]
          have hb4 := b4 i
          rintro c rfl
          refine sw_intro (fun hc => ?_) (fun hc => ?_) <;> simp only [decide_eq_true_eq, decide_eq_false_iff_not] at hc
          · have hx : okEv (elt EvT ev i) = true := List.all_eq_true.1 hok _ (List.mem_of_getElem? (elt_get (t := EvT) hc))
            unfold okEv at hx
            simp only [Bool.and_eq_true, decide_eq_true_eq] at hx
            refine nd_intro hc ?_
            have b5 := (numB_length (elt EvT ev i).1).2
            rintro _ m hm
            rw [wu64 (by have := hx.1; have := lt8_le hx.2; exact ⟨hx.1, Int.le_trans this (by decide)⟩)] at hm
            subst hm
            refine ⟨by simp only [List.length_append]; omega, by simp only [List.length_append]; omega, ?_⟩
            rintro hx64 _ _ m hm
            rw [w64 (by omega)] at hm
            subst hm
            refine lpE_intro (A := M60 b ev v) (i + 1 : Nat) ?_ ⟨hc, fun x hx => ?_⟩ (by show ev.length - (i + 1) < ev.length - i; omega)
            rotate_left
            · rw [← take_elt (t := EvT) hc] at hx
              rcases List.mem_append.1 hx with hx | hx
              · exact hin2 x hx
              · simp only [List.mem_singleton] at hx
                subst hx
                exact hx64
            simp (maxSteps := 2000000) only [M60_I, jH, go_sem, eq_self, and_self, Int.natCast_pos, Int.le_refl, Nat.le_refl, Int.natCast_nonneg, Int.ofNat_lt, Int.ofNat_le, Int.reduceLT, Int.reduceLE, Int.reduceEq, Int.reduceNe, Int.reduceAdd, Int.reduceSub, Int.reduceMul, Int.reduceToNat, Int.reduceNeg, Nat.reduceEqDiff, Nat.reduceLeDiff, Nat.reduceSub, Nat.reduceMul, Nat.reduceLT, Nat.reduceBEq, Nat.reduceAdd]
            rw [← take_elt (t := EvT) hc, evsB_snoc]
            simp only [List.append_assoc]
            rfl
          · obtain rfl : i = ev.length := by omega
            rw [List.take_length] at hin2 ⊢
            exact h ⟨hin, hin2⟩
  · exact h.elim
end Go.V
