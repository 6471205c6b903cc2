/- A part of the proof layer, or functions of the given program in it: contracts and their proofs. -/
import Derived.Test.YtkjecjgfkogkoaaP21
namespace Go.V
open Go.Proofs
set_option maxRecDepth 100000
set_option linter.unusedSimpArgs false
set_option linter.unnecessarySimpa false
set_option linter.unusedVariables false

/-- A list of bytes that is laid behind: nil, or a row. -/
def onBy (x : SV) (hp : List SB) (k : List UInt8 → Prop) : Prop := (x = .nils ∧ hp = [] ∧ k []) ∨ ∃ bs, x = .own 0 ∧ hp = [.row false 1 .byte bs] ∧ k bs
@[go_sem] theorem onBy_nil {k} : onBy .nils [] k = k [] := by
  apply propext; constructor
  · rintro (⟨_, _, h⟩ | ⟨_, h, _⟩)
    · exact h
    · cases h
  · exact fun h => .inl ⟨rfl, rfl, h⟩
@[go_sem] theorem onBy_own {bs : List UInt8} {k} : onBy (.own 0) [.row false 1 .byte (no_index bs)] k = k bs := by
  apply propext; constructor
  · rintro (⟨h, _⟩ | ⟨bs', _, h, hk⟩)
    · cases h
    · cases h; exact hk
  · exact fun h => .inr ⟨bs, rfl, rfl, h⟩

def C44 : Contract := fun args hp K => match args with
  | [x, .int .u64 n] => onBy x hp fun bs => bs.length ≤ 70368744177664 ∧ K (.own 0) [.row true 1 .byte (bs ++ numB n)]
  | _ => False
def L44 (x : SV) (hp : List SB) (n : Int) : LoopAnn := { G := Nat, I := fun i => ⟨[(0, x), (1, .int .u64 n), (5, .int .i64 i)], hp⟩, R := fun _ i => 1 ≤ i ∧ i ≤ klen n.toNat, μ := fun i => klen n.toNat - i }
theorem L44_I {x hp n} (i : Nat) : (L44 x hp n).I i = ⟨[(0, x), (1, .int .u64 n), (5, .int .i64 i)], hp⟩ := rfl
def M44 (bs : List UInt8) (n : Int) : LoopAnn := cntA (fun i => ⟨[(0, .own 0), (1, .int .u64 n), (6, .int .i64 (klen n.toNat - 1 - i))], [.row true 1 .byte (bs ++ UInt8.ofNat (247 + klen n.toNat) :: (beB (klen n.toNat) n.toNat).take i)]⟩) (klen n.toNat)
theorem fdiv256 {n : Int} (h : 0 ≤ n) {j : Nat} : n.fdiv (2 ^ (8 * j)) = n / 256 ^ j := by
  have e : (2 : Int) ^ (8 * j) = 256 ^ j := by rw [Int.pow_mul]; rfl
  rw [e, Int.fdiv_eq_ediv_of_nonneg _ (Int.le_of_lt (Int.pow_pos (by decide)))]
theorem s44 : Sound Try.prog 44 C44 := by
  refine sound_of_okF ok44 (Γ := []) .nil ?_
  intro args hp K h
  unfold C44 at h
  split at h
  · rename_i n
    rcases h with ⟨rfl, rfl, hb, h⟩ | ⟨bs, rfl, rfl, hb, h⟩
    · refine ⟨by simp, [(1, L44 .nils [] n), (2, M44 [] n)], ?_⟩
      simp (maxSteps := 2000000) only [a44, r44, go_sem, eq_self, and_self, Int.natCast_pos, Int.le_refl, Nat.le_refl, Int.natCast_nonneg, Int.ofNat_lt, Int.ofNat_le, Int.reduceLT, Int.reduceLE, Int.reduceEq, Int.reduceNe, Int.reduceAdd, Int.reduceSub, Int.reduceMul, Int.reduceToNat, Int.reduceNeg, Nat.reduceEqDiff, Nat.reduceLeDiff, Nat.reduceSub, Nat.reduceMul, Nat.reduceLT, Nat.reduceBEq, Nat.reduceAdd]
      rintro c rfl
      refine sw_intro (fun h1 => ?_) (fun h1 => ?_) <;> simp only [decide_eq_true_eq, decide_eq_false_iff_not] at h1
      · rintro hi m hm
        rw [inR_u64] at hi
        rw [wu8 (by omega)] at hm
        subst hm
        have e : numB m = [UInt8.ofNat m.toNat] := by unfold numB; rw [if_pos h1]
        rw [e] at h
        exact h
      · have hk := klen_pos n.toNat
        have hn0 : 0 ≤ n := by omega
        refine loop_intro (A := L44 .nils [] n) (1 : Nat) ?_ ⟨Nat.le_refl _, hk.1⟩ ?_
        · simp (maxSteps := 2000000) only [L44_I, go_sem, eq_self, and_self, Int.natCast_pos, Int.le_refl, Nat.le_refl, Int.natCast_nonneg, Int.ofNat_lt, Int.ofNat_le, Int.reduceLT, Int.reduceLE, Int.reduceEq, Int.reduceNe, Int.reduceAdd, Int.reduceSub, Int.reduceMul, Int.reduceToNat, Int.reduceNeg, Nat.reduceEqDiff, Nat.reduceLeDiff, Nat.reduceSub, Nat.reduceMul, Nat.reduceLT, Nat.reduceBEq, Nat.reduceAdd]
          rfl
        · intro (i : Nat) (hi : 1 ≤ i ∧ i ≤ klen n.toNat)
          simp (maxSteps := 2000000) only [L44_I, go_sem, eq_self, and_self, Int.natCast_pos, Int.le_refl, Nat.le_refl, Int.natCast_nonneg, Int.ofNat_lt, Int.ofNat_le, Int.reduceLT, Int.reduceLE, Int.reduceEq, Int.reduceNe, Int.reduceAdd, Int.reduceSub, Int.reduceMul, Int.reduceToNat, Int.reduceNeg, Nat.reduceEqDiff, Nat.reduceLeDiff, Nat.reduceSub, Nat.reduceMul, Nat.reduceLT, Nat.reduceBEq, Nat.reduceAdd]
          rintro c rfl
          refine sw_intro (fun hc => ?_) (fun hc => ?_) <;> simp only [decide_eq_true_eq, decide_eq_false_iff_not] at hc
          · rintro _ _ m hm
            rw [w64 (by omega)] at hm
            subst hm
            rintro _ m0 hm0
            rw [wu64 (by omega)] at hm0
            subst hm0
            refine ⟨by omega, fun _ hnn _ m1 hm1 => ?_⟩
            have hn1 : n ≤ 18446744073709551615 := (inR_u64.1 hnn).2
            rw [show (8 * (i : Int)).toNat = 8 * i by omega, Nat.min_eq_left (by omega), fdiv256 hn0] at hm1
            rintro c rfl
            refine sw_intro (fun hc2 => ?_) (fun hc2 => ?_) <;> simp only [decide_eq_true_eq, decide_eq_false_iff_not] at hc2
            · rintro _ _ m2 hm2
              rw [w64 (by omega)] at hm2
              subst hm2
              have hik : i ≠ klen n.toNat := fun e => by
                have := klen_hi hn1
                rw [← e] at this
                rw [hm1, Int.ediv_eq_zero_of_lt hn0 this] at hc2
                omega
              refine lpE_intro (A := L44 .nils [] n) (i + 1 : Nat) ?_ ⟨by omega, by omega⟩ (by show klen n.toNat - (i + 1) < klen n.toNat - i; omega)
              simp (maxSteps := 2000000) only [L44_I, go_sem, eq_self, and_self, Int.natCast_pos, Int.le_refl, Nat.le_refl, Int.natCast_nonneg, Int.ofNat_lt, Int.ofNat_le, Int.reduceLT, Int.reduceLE, Int.reduceEq, Int.reduceNe, Int.reduceAdd, Int.reduceSub, Int.reduceMul, Int.reduceToNat, Int.reduceNeg, Nat.reduceEqDiff, Nat.reduceLeDiff, Nat.reduceSub, Nat.reduceMul, Nat.reduceLT, Nat.reduceBEq, Nat.reduceAdd]
              rfl
            · have hik : i = klen n.toNat := by
                rcases Nat.lt_or_ge i (klen n.toNat) with h | h
                · exfalso
                  have h256 : 256 ≤ n := by
                    rcases (by omega : n < 256 ∨ 256 ≤ n) with h | h
                    · have := klen_of (n := n) (k := 1) (.inl ⟨rfl, h⟩); omega
                    · exact h
                  have := klen_lo (n := n) h256 (i - 1) (by omega)
                  rw [show i - 1 + 1 = i by omega] at this
                  have h0 : (0 : Int) < 256 ^ i := Int.pow_pos (by decide)
                  have h1 : 1 ≤ n / 256 ^ i := Int.le_ediv_of_mul_le h0 (by omega)
                  rw [← hm1] at h1
                  omega
                · omega
              subst hik
              rintro _ _ m hm
              rw [w64 (by omega)] at hm
              subst hm
              rintro _ m1 hm1
              rw [wu8 (by omega)] at hm1
              subst hm1
              rintro _ _ m2 hm2
              rw [w64 (by omega)] at hm2
              subst hm2
              have e2 : ((247 : Int) + (klen n.toNat : Int)).toNat = 247 + klen n.toNat := by omega
              rw [e2]
              have e : numB n = UInt8.ofNat (247 + klen n.toNat) :: beB (klen n.toNat) n.toNat := by unfold numB; rw [if_neg h1]
              rw [e] at h
              refine loop_intro (A := M44 [] n) (0 : Nat) ?_ (Nat.zero_le _) ?_
              · simp (maxSteps := 2000000) only [M44, cntA_I, go_sem, eq_self, and_self, Int.natCast_pos, Int.le_refl, Nat.le_refl, Int.natCast_nonneg, Int.ofNat_lt, Int.ofNat_le, Int.reduceLT, Int.reduceLE, Int.reduceEq, Int.reduceNe, Int.reduceAdd, Int.reduceSub, Int.reduceMul, Int.reduceToNat, Int.reduceNeg, Nat.reduceEqDiff, Nat.reduceLeDiff, Nat.reduceSub, Nat.reduceMul, Nat.reduceLT, Nat.reduceBEq, Nat.reduceAdd]
                rw [show ((klen n.toNat : Int) - 1 - ((0 : Nat) : Int)) = (klen n.toNat : Int) - 1 by omega]
                rfl
              · intro (i : Nat) (hi : i ≤ klen n.toNat)
                simp (maxSteps := 2000000) only [M44, cntA_I, go_sem, eq_self, and_self, Int.natCast_pos, Int.le_refl, Nat.le_refl, Int.natCast_nonneg, Int.ofNat_lt, Int.ofNat_le, Int.reduceLT, Int.reduceLE, Int.reduceEq, Int.reduceNe, Int.reduceAdd, Int.reduceSub, Int.reduceMul, Int.reduceToNat, Int.reduceNeg, Nat.reduceEqDiff, Nat.reduceLeDiff, Nat.reduceSub, Nat.reduceMul, Nat.reduceLT, Nat.reduceBEq, Nat.reduceAdd]
                rintro c rfl
                refine sw_intro (fun hc => ?_) (fun hc => ?_) <;> simp only [decide_eq_true_eq, decide_eq_false_iff_not] at hc
                · have hlt : i < klen n.toNat := by omega
                  rintro _ _ m hm
                  rw [w64 (by omega)] at hm
                  subst hm
                  rintro _ m0 hm0
                  rw [wu64 (by omega)] at hm0
                  subst hm0
                  refine ⟨by omega, fun _ _ _ m1 hm1 => ?_⟩
                  have hx : (8 * ((klen n.toNat : Int) - 1 - i)).toNat = 8 * (klen n.toNat - 1 - i) := by omega
                  rw [hx, Nat.min_eq_left (by omega)] at hm1
                  rintro _ m2 hm2
                  have hb2 : UInt8.ofNat m2.toNat = UInt8.ofNat (n.toNat / 256 ^ (klen n.toNat - 1 - i)) := by
                    rw [hm2, hm1, byte_at hn0]
                  have hlen : (([] : List UInt8) ++ UInt8.ofNat (247 + klen n.toNat) :: List.take i (beB (klen n.toNat) n.toNat)).length = ([] : List UInt8).length + (1 + i) := by
                    simp [beB_length]; omega
                  have hlen0 : (UInt8.ofNat (247 + klen n.toNat) :: List.take i (beB (klen n.toNat) n.toNat)).length = 1 + i := by
                    simp [beB_length]; omega
                  refine ⟨fun _ => by first | (rw [hlen]; omega) | (simp [beB_length]; omega), fun _ _ _ m3 hm3 => ?_⟩
                  rw [w64 (by omega)] at hm3
                  subst hm3
                  refine cntA_next hlt ?_
                  simp (maxSteps := 2000000) only [go_sem, eq_self, and_self, Int.natCast_pos, Int.le_refl, Nat.le_refl, Int.natCast_nonneg, Int.ofNat_lt, Int.ofNat_le, Int.reduceLT, Int.reduceLE, Int.reduceEq, Int.reduceNe, Int.reduceAdd, Int.reduceSub, Int.reduceMul, Int.reduceToNat, Int.reduceNeg, Nat.reduceEqDiff, Nat.reduceLeDiff, Nat.reduceSub, Nat.reduceMul, Nat.reduceLT, Nat.reduceBEq, Nat.reduceAdd]
                  rw [hb2]
                  first | rw [List.append_assoc, List.cons_append, take_snoc (beB_get hlt)] | rw [take_snoc (beB_get hlt)]
                  rw [show ((klen n.toNat : Int) - 1 - ((i + 1 : Nat) : Int)) = (klen n.toNat : Int) - 1 - i - 1 by omega]
                  try rfl
                · have : i = klen n.toNat := by omega
                  subst this
                  rw [List.take_of_length_le (by rw [beB_length]; exact Nat.le_refl _)]
                  exact h
          · have hik : i = klen n.toNat := by omega
            subst hik
            rintro _ _ m hm
            rw [w64 (by omega)] at hm
            subst hm
            rintro _ m1 hm1
            rw [wu8 (by omega)] at hm1
            subst hm1
            rintro _ _ m2 hm2
            rw [w64 (by omega)] at hm2
            subst hm2
            have e2 : ((247 : Int) + (klen n.toNat : Int)).toNat = 247 + klen n.toNat := by omega
            rw [e2]
            have e : numB n = UInt8.ofNat (247 + klen n.toNat) :: beB (klen n.toNat) n.toNat := by unfold numB; rw [if_neg h1]
            rw [e] at h
            refine loop_intro (A := M44 [] n) (0 : Nat) ?_ (Nat.zero_le _) ?_
            · simp (maxSteps := 2000000) only [M44, cntA_I, go_sem, eq_self, and_self, Int.natCast_pos, Int.le_refl, Nat.le_refl, Int.natCast_nonneg, Int.ofNat_lt, Int.ofNat_le, Int.reduceLT, Int.reduceLE, Int.reduceEq, Int.reduceNe, Int.reduceAdd, Int.reduceSub, Int.reduceMul, Int.reduceToNat, Int.reduceNeg, Nat.reduceEqDiff, Nat.reduceLeDiff, Nat.reduceSub, Nat.reduceMul, Nat.reduceLT, Nat.reduceBEq, Nat.reduceAdd]
              rw [show ((klen n.toNat : Int) - 1 - ((0 : Nat) : Int)) = (klen n.toNat : Int) - 1 by omega]
              rfl
            · intro (i : Nat) (hi : i ≤ klen n.toNat)
              simp (maxSteps := 2000000) only [M44, cntA_I, go_sem, eq_self, and_self, Int.natCast_pos, Int.le_refl, Nat.le_refl, Int.natCast_nonneg, Int.ofNat_lt, Int.ofNat_le, Int.reduceLT, Int.reduceLE, Int.reduceEq, Int.reduceNe, Int.reduceAdd, Int.reduceSub, Int.reduceMul, Int.reduceToNat, Int.reduceNeg, Nat.reduceEqDiff, Nat.reduceLeDiff, Nat.reduceSub, Nat.reduceMul, Nat.reduceLT, Nat.reduceBEq, Nat.reduceAdd]
              rintro c rfl
              refine sw_intro (fun hc => ?_) (fun hc => ?_) <;> simp only [decide_eq_true_eq, decide_eq_false_iff_not] at hc
              · have hlt : i < klen n.toNat := by omega
                rintro _ _ m hm
                rw [w64 (by omega)] at hm
                subst hm
                rintro _ m0 hm0
                rw [wu64 (by omega)] at hm0
                subst hm0
                refine ⟨by omega, fun _ _ _ m1 hm1 => ?_⟩
                have hx : (8 * ((klen n.toNat : Int) - 1 - i)).toNat = 8 * (klen n.toNat - 1 - i) := by omega
                rw [hx, Nat.min_eq_left (by omega)] at hm1
                rintro _ m2 hm2
                have hb2 : UInt8.ofNat m2.toNat = UInt8.ofNat (n.toNat / 256 ^ (klen n.toNat - 1 - i)) := by
                  rw [hm2, hm1, byte_at hn0]
                have hlen : (([] : List UInt8) ++ UInt8.ofNat (247 + klen n.toNat) :: List.take i (beB (klen n.toNat) n.toNat)).length = ([] : List UInt8).length + (1 + i) := by
                  simp [beB_length]; omega
                have hlen0 : (UInt8.ofNat (247 + klen n.toNat) :: List.take i (beB (klen n.toNat) n.toNat)).length = 1 + i := by
                  simp [beB_length]; omega
                refine ⟨fun _ => by first | (rw [hlen]; omega) | (simp [beB_length]; omega), fun _ _ _ m3 hm3 => ?_⟩
                rw [w64 (by omega)] at hm3
                subst hm3
                refine cntA_next hlt ?_
                simp (maxSteps := 2000000) only [go_sem, eq_self, and_self, Int.natCast_pos, Int.le_refl, Nat.le_refl, Int.natCast_nonneg, Int.ofNat_lt, Int.ofNat_le, Int.reduceLT, Int.reduceLE, Int.reduceEq, Int.reduceNe, Int.reduceAdd, Int.reduceSub, Int.reduceMul, Int.reduceToNat, Int.reduceNeg, Nat.reduceEqDiff, Nat.reduceLeDiff, Nat.reduceSub, Nat.reduceMul, Nat.reduceLT, Nat.reduceBEq, Nat.reduceAdd]
                rw [hb2]
                first | rw [List.append_assoc, List.cons_append, take_snoc (beB_get hlt)] | rw [take_snoc (beB_get hlt)]
                rw [show ((klen n.toNat : Int) - 1 - ((i + 1 : Nat) : Int)) = (klen n.toNat : Int) - 1 - i - 1 by omega]
                try rfl
              · have : i = klen n.toNat := by omega
                subst this
                rw [List.take_of_length_le (by rw [beB_length]; exact Nat.le_refl _)]
                exact h
    · refine ⟨by simp, [(1, L44 (.own 0) [.row false 1 .byte bs] n), (2, M44 bs n)], ?_⟩
      simp (maxSteps := 2000000) only [a44, r44, go_sem, eq_self, and_self, Int.natCast_pos, Int.le_refl, Nat.le_refl, Int.natCast_nonneg, Int.ofNat_lt, Int.ofNat_le, Int.reduceLT, Int.reduceLE, Int.reduceEq, Int.reduceNe, Int.reduceAdd, Int.reduceSub, Int.reduceMul, Int.reduceToNat, Int.reduceNeg, Nat.reduceEqDiff, Nat.reduceLeDiff, Nat.reduceSub, Nat.reduceMul, Nat.reduceLT, Nat.reduceBEq, Nat.reduceAdd]
      rintro c rfl
      refine sw_intro (fun h1 => ?_) (fun h1 => ?_) <;> simp only [decide_eq_true_eq, decide_eq_false_iff_not] at h1
      · rintro hi m hm
        rw [inR_u64] at hi
        rw [wu8 (by omega)] at hm
        subst hm
        have e : numB m = [UInt8.ofNat m.toNat] := by unfold numB; rw [if_pos h1]
        rw [e] at h
        exact ⟨fun _ => by omega, fun _ => h⟩
      · have hk := klen_pos n.toNat
        have hn0 : 0 ≤ n := by omega
        refine loop_intro (A := L44 (.own 0) [.row false 1 .byte bs] n) (1 : Nat) ?_ ⟨Nat.le_refl _, hk.1⟩ ?_
        · simp (maxSteps := 2000000) only [L44_I, go_sem, eq_self, and_self, Int.natCast_pos, Int.le_refl, Nat.le_refl, Int.natCast_nonneg, Int.ofNat_lt, Int.ofNat_le, Int.reduceLT, Int.reduceLE, Int.reduceEq, Int.reduceNe, Int.reduceAdd, Int.reduceSub, Int.reduceMul, Int.reduceToNat, Int.reduceNeg, Nat.reduceEqDiff, Nat.reduceLeDiff, Nat.reduceSub, Nat.reduceMul, Nat.reduceLT, Nat.reduceBEq, Nat.reduceAdd]
          rfl
        · intro (i : Nat) (hi : 1 ≤ i ∧ i ≤ klen n.toNat)
          simp (maxSteps := 2000000) only [L44_I, go_sem, eq_self, and_self, Int.natCast_pos, Int.le_refl, Nat.le_refl, Int.natCast_nonneg, Int.ofNat_lt, Int.ofNat_le, Int.reduceLT, Int.reduceLE, Int.reduceEq, Int.reduceNe, Int.reduceAdd, Int.reduceSub, Int.reduceMul, Int.reduceToNat, Int.reduceNeg, Nat.reduceEqDiff, Nat.reduceLeDiff, Nat.reduceSub, Nat.reduceMul, Nat.reduceLT, Nat.reduceBEq, Nat.reduceAdd]
          rintro c rfl
          refine sw_intro (fun hc => ?_) (fun hc => ?_) <;> simp only [decide_eq_true_eq, decide_eq_false_iff_not] at hc
          · rintro _ _ m hm
            rw [w64 (by omega)] at hm
            subst hm
            rintro _ m0 hm0
            rw [wu64 (by omega)] at hm0
            subst hm0
            refine ⟨by omega, fun _ hnn _ m1 hm1 => ?_⟩
            have hn1 : n ≤ 18446744073709551615 := (inR_u64.1 hnn).2
            rw [show (8 * (i : Int)).toNat = 8 * i by omega, Nat.min_eq_left (by omega), fdiv256 hn0] at hm1
            rintro c rfl
            refine sw_intro (fun hc2 => ?_) (fun hc2 => ?_) <;> simp only [decide_eq_true_eq, decide_eq_false_iff_not] at hc2
            · rintro _ _ m2 hm2
              rw [w64 (by omega)] at hm2
              subst hm2
              have hik : i ≠ klen n.toNat := fun e => by
                have := klen_hi hn1
                rw [← e] at this
                rw [hm1, Int.ediv_eq_zero_of_lt hn0 this] at hc2
                omega
              refine lpE_intro (A := L44 (.own 0) [.row false 1 .byte bs] n) (i + 1 : Nat) ?_ ⟨by omega, by omega⟩ (by show klen n.toNat - (i + 1) < klen n.toNat - i; omega)
              simp (maxSteps := 2000000) only [L44_I, go_sem, eq_self, and_self, Int.natCast_pos, Int.le_refl, Nat.le_refl, Int.natCast_nonneg, Int.ofNat_lt, Int.ofNat_le, Int.reduceLT, Int.reduceLE, Int.reduceEq, Int.reduceNe, Int.reduceAdd, Int.reduceSub, Int.reduceMul, Int.reduceToNat, Int.reduceNeg, Nat.reduceEqDiff, Nat.reduceLeDiff, Nat.reduceSub, Nat.reduceMul, Nat.reduceLT, Nat.reduceBEq, Nat.reduceAdd]
              rfl
            · have hik : i = klen n.toNat := by
                rcases Nat.lt_or_ge i (klen n.toNat) with h | h
                · exfalso
                  have h256 : 256 ≤ n := by
                    rcases (by omega : n < 256 ∨ 256 ≤ n) with h | h
                    · have := klen_of (n := n) (k := 1) (.inl ⟨rfl, h⟩); omega
                    · exact h
                  have := klen_lo (n := n) h256 (i - 1) (by omega)
                  rw [show i - 1 + 1 = i by omega] at this
                  have h0 : (0 : Int) < 256 ^ i := Int.pow_pos (by decide)
                  have h1 : 1 ≤ n / 256 ^ i := Int.le_ediv_of_mul_le h0 (by omega)
                  rw [← hm1] at h1
                  omega
                · omega
              subst hik
              rintro _ _ m hm
              rw [w64 (by omega)] at hm
              subst hm
              rintro _ m1 hm1
              rw [wu8 (by omega)] at hm1
              subst hm1
              refine ⟨fun _ => by omega, fun _ => ?_⟩
              rintro _ _ m2 hm2
              rw [w64 (by omega)] at hm2
              subst hm2
              have e2 : ((247 : Int) + (klen n.toNat : Int)).toNat = 247 + klen n.toNat := by omega
              rw [e2]
              have e : numB n = UInt8.ofNat (247 + klen n.toNat) :: beB (klen n.toNat) n.toNat := by unfold numB; rw [if_neg h1]
              rw [e] at h
              refine loop_intro (A := M44 bs n) (0 : Nat) ?_ (Nat.zero_le _) ?_
              · simp (maxSteps := 2000000) only [M44, cntA_I, go_sem, eq_self, and_self, Int.natCast_pos, Int.le_refl, Nat.le_refl, Int.natCast_nonneg, Int.ofNat_lt, Int.ofNat_le, Int.reduceLT, Int.reduceLE, Int.reduceEq, Int.reduceNe, Int.reduceAdd, Int.reduceSub, Int.reduceMul, Int.reduceToNat, Int.reduceNeg, Nat.reduceEqDiff, Nat.reduceLeDiff, Nat.reduceSub, Nat.reduceMul, Nat.reduceLT, Nat.reduceBEq, Nat.reduceAdd]
                rw [show ((klen n.toNat : Int) - 1 - ((0 : Nat) : Int)) = (klen n.toNat : Int) - 1 by omega]
                rfl
              · intro (i : Nat) (hi : i ≤ klen n.toNat)
                simp (maxSteps := 2000000) only [M44, cntA_I, go_sem, eq_self, and_self, Int.natCast_pos, Int.le_refl, Nat.le_refl, Int.natCast_nonneg, Int.ofNat_lt, Int.ofNat_le, Int.reduceLT, Int.reduceLE, Int.reduceEq, Int.reduceNe, Int.reduceAdd, Int.reduceSub, Int.reduceMul, Int.reduceToNat, Int.reduceNeg, Nat.reduceEqDiff, Nat.reduceLeDiff, Nat.reduceSub, Nat.reduceMul, Nat.reduceLT, Nat.reduceBEq, Nat.reduceAdd]
                rintro c rfl
                refine sw_intro (fun hc => ?_) (fun hc => ?_) <;> simp only [decide_eq_true_eq, decide_eq_false_iff_not] at hc
                · have hlt : i < klen n.toNat := by omega
                  rintro _ _ m hm
                  rw [w64 (by omega)] at hm
                  subst hm
                  rintro _ m0 hm0
                  rw [wu64 (by omega)] at hm0
                  subst hm0
                  refine ⟨by omega, fun _ _ _ m1 hm1 => ?_⟩
                  have hx : (8 * ((klen n.toNat : Int) - 1 - i)).toNat = 8 * (klen n.toNat - 1 - i) := by omega
                  rw [hx, Nat.min_eq_left (by omega)] at hm1
                  rintro _ m2 hm2
                  have hb2 : UInt8.ofNat m2.toNat = UInt8.ofNat (n.toNat / 256 ^ (klen n.toNat - 1 - i)) := by
                    rw [hm2, hm1, byte_at hn0]
                  have hlen : (bs ++ UInt8.ofNat (247 + klen n.toNat) :: List.take i (beB (klen n.toNat) n.toNat)).length = bs.length + (1 + i) := by
                    simp [beB_length]; omega
                  have hlen0 : (UInt8.ofNat (247 + klen n.toNat) :: List.take i (beB (klen n.toNat) n.toNat)).length = 1 + i := by
                    simp [beB_length]; omega
                  refine ⟨fun _ => by first | (rw [hlen]; omega) | (simp [beB_length]; omega), fun _ _ _ m3 hm3 => ?_⟩
                  rw [w64 (by omega)] at hm3
                  subst hm3
                  refine cntA_next hlt ?_
                  simp (maxSteps := 2000000) only [go_sem, eq_self, and_self, Int.natCast_pos, Int.le_refl, Nat.le_refl, Int.natCast_nonneg, Int.ofNat_lt, Int.ofNat_le, Int.reduceLT, Int.reduceLE, Int.reduceEq, Int.reduceNe, Int.reduceAdd, Int.reduceSub, Int.reduceMul, Int.reduceToNat, Int.reduceNeg, Nat.reduceEqDiff, Nat.reduceLeDiff, Nat.reduceSub, Nat.reduceMul, Nat.reduceLT, Nat.reduceBEq, Nat.reduceAdd]
                  rw [hb2]
                  first | rw [List.append_assoc, List.cons_append, take_snoc (beB_get hlt)] | rw [take_snoc (beB_get hlt)]
                  rw [show ((klen n.toNat : Int) - 1 - ((i + 1 : Nat) : Int)) = (klen n.toNat : Int) - 1 - i - 1 by omega]
                  try rfl
                · have : i = klen n.toNat := by omega
                  subst this
                  rw [List.take_of_length_le (by rw [beB_length]; exact Nat.le_refl _)]
                  exact h
          · have hik : i = klen n.toNat := by omega
            subst hik
            rintro _ _ m hm
            rw [w64 (by omega)] at hm
            subst hm
            rintro _ m1 hm1
            rw [wu8 (by omega)] at hm1
            subst hm1
            refine ⟨fun _ => by omega, fun _ => ?_⟩
            rintro _ _ m2 hm2
            rw [w64 (by omega)] at hm2
            subst hm2
            have e2 : ((247 : Int) + (klen n.toNat : Int)).toNat = 247 + klen n.toNat := by omega
            rw [e2]
            have e : numB n = UInt8.ofNat (247 + klen n.toNat) :: beB (klen n.toNat) n.toNat := by unfold numB; rw [if_neg h1]
            rw [e] at h
            refine loop_intro (A := M44 bs n) (0 : Nat) ?_ (Nat.zero_le _) ?_
            · simp (maxSteps := 2000000) only [M44, cntA_I, go_sem, eq_self, and_self, Int.natCast_pos, Int.le_refl, Nat.le_refl, Int.natCast_nonneg, Int.ofNat_lt, Int.ofNat_le, Int.reduceLT, Int.reduceLE, Int.reduceEq, Int.reduceNe, Int.reduceAdd, Int.reduceSub, Int.reduceMul, Int.reduceToNat, Int.reduceNeg, Nat.reduceEqDiff, Nat.reduceLeDiff, Nat.reduceSub, Nat.reduceMul, Nat.reduceLT, Nat.reduceBEq, Nat.reduceAdd]
              rw [show ((klen n.toNat : Int) - 1 - ((0 : Nat) : Int)) = (klen n.toNat : Int) - 1 by omega]
              rfl
            · intro (i : Nat) (hi : i ≤ klen n.toNat)
              simp (maxSteps := 2000000) only [M44, cntA_I, go_sem, eq_self, and_self, Int.natCast_pos, Int.le_refl, Nat.le_refl, Int.natCast_nonneg, Int.ofNat_lt, Int.ofNat_le, Int.reduceLT, Int.reduceLE, Int.reduceEq, Int.reduceNe, Int.reduceAdd, Int.reduceSub, Int.reduceMul, Int.reduceToNat, Int.reduceNeg, Nat.reduceEqDiff, Nat.reduceLeDiff, Nat.reduceSub, Nat.reduceMul, Nat.reduceLT, Nat.reduceBEq, Nat.reduceAdd]
              rintro c rfl
              refine sw_intro (fun hc => ?_) (fun hc => ?_) <;> simp only [decide_eq_true_eq, decide_eq_false_iff_not] at hc
              · have hlt : i < klen n.toNat := by omega
                rintro _ _ m hm
                rw [w64 (by omega)] at hm
                subst hm
                rintro _ m0 hm0
                rw [wu64 (by omega)] at hm0
                subst hm0
                refine ⟨by omega, fun _ _ _ m1 hm1 => ?_⟩
                have hx : (8 * ((klen n.toNat : Int) - 1 - i)).toNat = 8 * (klen n.toNat - 1 - i) := by omega
                rw [hx, Nat.min_eq_left (by omega)] at hm1
                rintro _ m2 hm2
                have hb2 : UInt8.ofNat m2.toNat = UInt8.ofNat (n.toNat / 256 ^ (klen n.toNat - 1 - i)) := by
                  rw [hm2, hm1, byte_at hn0]
                have hlen : (bs ++ UInt8.ofNat (247 + klen n.toNat) :: List.take i (beB (klen n.toNat) n.toNat)).length = bs.length + (1 + i) := by
                  simp [beB_length]; omega
                have hlen0 : (UInt8.ofNat (247 + klen n.toNat) :: List.take i (beB (klen n.toNat) n.toNat)).length = 1 + i := by
                  simp [beB_length]; omega
                refine ⟨fun _ => by first | (rw [hlen]; omega) | (simp [beB_length]; omega), fun _ _ _ m3 hm3 => ?_⟩
                rw [w64 (by omega)] at hm3
                subst hm3
                refine cntA_next hlt ?_
                simp (maxSteps := 2000000) only [go_sem, eq_self, and_self, Int.natCast_pos, Int.le_refl, Nat.le_refl, Int.natCast_nonneg, Int.ofNat_lt, Int.ofNat_le, Int.reduceLT, Int.reduceLE, Int.reduceEq, Int.reduceNe, Int.reduceAdd, Int.reduceSub, Int.reduceMul, Int.reduceToNat, Int.reduceNeg, Nat.reduceEqDiff, Nat.reduceLeDiff, Nat.reduceSub, Nat.reduceMul, Nat.reduceLT, Nat.reduceBEq, Nat.reduceAdd]
                rw [hb2]
                first | rw [List.append_assoc, List.cons_append, take_snoc (beB_get hlt)] | rw [take_snoc (beB_get hlt)]
                rw [show ((klen n.toNat : Int) - 1 - ((i + 1 : Nat) : Int)) = (klen n.toNat : Int) - 1 - i - 1 by omega]
                try rfl
              · have : i = klen n.toNat := by omega
                subst this
                rw [List.take_of_length_le (by rw [beB_length]; exact Nat.le_refl _)]
                exact h
  · exact h.elim
def C43 : Contract := fun args hp K => match args with
  | [x, .str s] => onBy x hp fun bs => bs.length + s.size ≤ 70368744177664 ∧ K (.own 0) [.row true 1 .byte (bs ++ textB s)]
  | _ => False
theorem s43 : Sound Try.prog 43 C43 := by
  refine sound_of_okF ok43 (Γ := [(44, C44)]) (.cons s44 (callable_of_okF ok44) .nil) ?_
  intro args hp K h
  unfold C43 at h
  split at h
  · rename_i s
    have hl := (numB_length s.size).2
    have hs : s.data.toList.length = s.size := by rw [Array.length_toList]; rfl
    rcases h with ⟨rfl, rfl, hb, h⟩ | ⟨bs, rfl, rfl, hb, h⟩
    · refine ⟨by simp, [], ?_⟩
      simp (maxSteps := 2000000) only [a43, r43, C44, go_sem, eq_self, and_self, Int.natCast_pos, Int.le_refl, Nat.le_refl, Int.natCast_nonneg, Int.ofNat_lt, Int.ofNat_le, Int.reduceLT, Int.reduceLE, Int.reduceEq, Int.reduceNe, Int.reduceAdd, Int.reduceSub, Int.reduceMul, Int.reduceToNat, Int.reduceNeg, Nat.reduceEqDiff, Nat.reduceLeDiff, Nat.reduceSub, Nat.reduceMul, Nat.reduceLT, Nat.reduceBEq, Nat.reduceAdd]
      simp only [List.length_nil] at hb
      rintro _ m rfl _ m1 hm1
      rw [wu64 (by omega)] at hm1
      subst hm1
      refine ⟨fun _ _ => by rw [hs]; omega, fun _ => h⟩
    · refine ⟨by simp, [], ?_⟩
      simp (maxSteps := 2000000) only [a43, r43, C44, go_sem, eq_self, and_self, Int.natCast_pos, Int.le_refl, Nat.le_refl, Int.natCast_nonneg, Int.ofNat_lt, Int.ofNat_le, Int.reduceLT, Int.reduceLE, Int.reduceEq, Int.reduceNe, Int.reduceAdd, Int.reduceSub, Int.reduceMul, Int.reduceToNat, Int.reduceNeg, Nat.reduceEqDiff, Nat.reduceLeDiff, Nat.reduceSub, Nat.reduceMul, Nat.reduceLT, Nat.reduceBEq, Nat.reduceAdd]
      rintro _ m rfl _ m1 hm1
      rw [wu64 (by omega)] at hm1
      subst hm1
      refine ⟨by omega, fun _ _ => by rw [hs, List.length_append]; omega, fun _ => ?_⟩
      rw [List.append_assoc]
      exact h
  · exact h.elim
theorem or_one {a : Int} (h : 0 ≤ a ∧ a ≤ 9223372036854775807) : bitsI .or .u64 (a * 2) 1 = a * 2 + 1 := by
  obtain ⟨x, rfl⟩ := Int.eq_ofNat_of_zero_le h.1
  have h : x <<< 1 + 1 = x <<< 1 ||| 1 := Nat.shiftLeft_add_eq_or_of_lt (by decide) x
  rw [Nat.shiftLeft_eq] at h
  have e1 : ((x : Int) * 2) = ((x * 2 : Nat) : Int) := by omega
  show IntKind.u64.wrap ((BitVec.ofInt 64 ((x : Int) * 2) ||| BitVec.ofInt 64 1).toNat : Int) = _
  have e2 : BitVec.ofInt 64 1 = BitVec.ofNat 64 1 := rfl
  have e3 : (BitVec.ofNat 64 1).toNat = 1 := rfl
  rw [e1, e2, BitVec.ofInt_natCast, BitVec.toNat_or, BitVec.toNat_ofNat, e3, Nat.mod_eq_of_lt (by omega), u64wrap]
  have h' : x * 2 ^ 1 + 1 = x * 2 ||| 1 := h
  rw [← h']
  omega
def C70 : Contract := fun args hp K => match args with
  | [x, .int .i64 n] => onBy x hp fun bs => bs.length ≤ 70368744177664 ∧ K (.own 0) [.row true 1 .byte (bs ++ numB (zig n))]
  | _ => False
theorem s70 : Sound Try.prog 70 C70 := by
  refine sound_of_okF ok70 (Γ := [(44, C44)]) (.cons s44 (callable_of_okF ok44) .nil) ?_
  intro args hp K h
  unfold C70 at h
  split at h
  · rename_i n
    rcases h with ⟨rfl, rfl, hb, h⟩ | ⟨bs, rfl, rfl, hb, h⟩
    · refine ⟨by simp, [], ?_⟩
      simp (maxSteps := 2000000) only [a70, r70, C44, go_sem, eq_self, and_self, Int.natCast_pos, Int.le_refl, Nat.le_refl, Int.natCast_nonneg, Int.ofNat_lt, Int.ofNat_le, Int.reduceLT, Int.reduceLE, Int.reduceEq, Int.reduceNe, Int.reduceAdd, Int.reduceSub, Int.reduceMul, Int.reduceToNat, Int.reduceNeg, Nat.reduceEqDiff, Nat.reduceLeDiff, Nat.reduceSub, Nat.reduceMul, Nat.reduceLT, Nat.reduceBEq, Nat.reduceAdd]
      rintro c rfl
      refine sw_intro (fun h1 => ?_) (fun h1 => ?_) <;> simp only [decide_eq_true_eq, decide_eq_false_iff_not] at h1
      · rintro hn m hm
        rw [inR_i64] at hn
        rw [wu64 (by omega)] at hm
        subst hm
        rintro _ _ m1 hm1
        have e : m1 = zig m := by
          rw [hm1, show (2 : Int) ^ min 1 64 = 2 from rfl, u64wrap]; unfold zig; rw [if_pos h1]; omega
        subst e
        exact h
      · rintro hn _ m hm
        rw [inR_i64] at hn
        rw [w64 (by omega)] at hm
        subst hm
        rintro _ m1 hm1
        rw [w64 (by omega)] at hm1
        subst hm1
        rintro _ m2 hm2
        rw [wu64 (by omega)] at hm2
        subst hm2
        rintro _ _ m3 hm3
        rw [show (2 : Int) ^ min 1 64 = 2 from rfl, wu64 (by omega)] at hm3
        subst hm3
        rintro _ _ m4 hm4
        rw [or_one (by omega)] at hm4
        have e : m4 = zig n := by rw [hm4]; unfold zig; rw [if_neg h1]; omega
        subst e
        exact h
    · refine ⟨by simp, [], ?_⟩
      simp (maxSteps := 2000000) only [a70, r70, C44, go_sem, eq_self, and_self, Int.natCast_pos, Int.le_refl, Nat.le_refl, Int.natCast_nonneg, Int.ofNat_lt, Int.ofNat_le, Int.reduceLT, Int.reduceLE, Int.reduceEq, Int.reduceNe, Int.reduceAdd, Int.reduceSub, Int.reduceMul, Int.reduceToNat, Int.reduceNeg, Nat.reduceEqDiff, Nat.reduceLeDiff, Nat.reduceSub, Nat.reduceMul, Nat.reduceLT, Nat.reduceBEq, Nat.reduceAdd]
      rintro c rfl
      refine sw_intro (fun h1 => ?_) (fun h1 => ?_) <;> simp only [decide_eq_true_eq, decide_eq_false_iff_not] at h1
      · rintro hn m hm
        rw [inR_i64] at hn
        rw [wu64 (by omega)] at hm
        subst hm
        rintro _ _ m1 hm1
        have e : m1 = zig m := by
          rw [hm1, show (2 : Int) ^ min 1 64 = 2 from rfl, u64wrap]; unfold zig; rw [if_pos h1]; omega
        subst e
        exact ⟨hb, h⟩
      · rintro hn _ m hm
        rw [inR_i64] at hn
        rw [w64 (by omega)] at hm
        subst hm
        rintro _ m1 hm1
        rw [w64 (by omega)] at hm1
        subst hm1
        rintro _ m2 hm2
        rw [wu64 (by omega)] at hm2
        subst hm2
        rintro _ _ m3 hm3
        rw [show (2 : Int) ^ min 1 64 = 2 from rfl, wu64 (by omega)] at hm3
        subst hm3
        rintro _ _ m4 hm4
        rw [or_one (by omega)] at hm4
        have e : m4 = zig n := by rw [hm4]; unfold zig; rw [if_neg h1]; omega
        subst e
        exact ⟨hb, h⟩
  · exact h.elim

def C52 : Contract := fun args hp K => match args, hp with
  | [.sl true 1 .byte xs], [] => K (.ptr 0 0) [rdH (some xs)]
  | _, _ => False
theorem s52 : Sound Try.prog 52 C52 := by
  refine sound_of_okF ok52 (Γ := []) .nil ?_
  intro args hp K h
  unfold C52 at h
  split at h
  · refine ⟨by simp, [], ?_⟩
    simp (maxSteps := 2000000) only [a52, r52, go_sem, eq_self, and_self, Int.natCast_pos, Int.le_refl, Nat.le_refl, Int.natCast_nonneg, Int.ofNat_lt, Int.ofNat_le, Int.reduceLT, Int.reduceLE, Int.reduceEq, Int.reduceNe, Int.reduceAdd, Int.reduceSub, Int.reduceMul, Int.reduceToNat, Int.reduceNeg, Nat.reduceEqDiff, Nat.reduceLeDiff, Nat.reduceSub, Nat.reduceMul, Nat.reduceLT, Nat.reduceBEq, Nat.reduceAdd]
    exact h
  · exact h.elim
def C57 : Contract := fun args hp K => match args with
  | [.ptr 0 0] => onRd hp fun st => K (.bool (decide (st = some []))) [rdH st]
  | _ => False
theorem s57 : Sound Try.prog 57 C57 := by
  refine sound_of_okF ok57 (Γ := []) .nil ?_
  intro args hp K h
  unfold C57 at h
  split at h
  · obtain ⟨st, rfl, h⟩ := h
    refine ⟨by simp, [], ?_⟩
    unfold rdH at h ⊢
    simp (maxSteps := 2000000) only [a57, r57, go_sem, eq_self, and_self, Int.natCast_pos, Int.le_refl, Nat.le_refl, Int.natCast_nonneg, Int.ofNat_lt, Int.ofNat_le, Int.reduceLT, Int.reduceLE, Int.reduceEq, Int.reduceNe, Int.reduceAdd, Int.reduceSub, Int.reduceMul, Int.reduceToNat, Int.reduceNeg, Nat.reduceEqDiff, Nat.reduceLeDiff, Nat.reduceSub, Nat.reduceMul, Nat.reduceLT, Nat.reduceBEq, Nat.reduceAdd]
    refine sw_intro (fun h1 => ?_) (fun h1 => ?_)
    · cases st with
      | none => exact h
      | some bs => cases h1
    · cases st with
      | none => cases h1
      | some bs =>
        rintro _ _ m rfl c hc
        have e : c = decide (some bs = some ([] : List UInt8)) := by
          rw [hc]; cases bs <;> simp
          omega
        rw [e]; exact h
  · exact h.elim
def C73 : Contract := fun args hp K => match args, hp with
  | [.ptr 0 0], [.struct [.sl p 1 .byte bs, .bool b]] => K (.tup []) [.struct [.nils, .bool true]]
  | _, _ => False
theorem s73 : Sound Try.prog 73 C73 := by
  refine sound_of_okF ok73 (Γ := []) .nil ?_
  intro args hp K h
  unfold C73 at h
  split at h
  · refine ⟨by simp, [], ?_⟩
    simp (maxSteps := 2000000) only [a73, r73, go_sem, eq_self, and_self, Int.natCast_pos, Int.le_refl, Nat.le_refl, Int.natCast_nonneg, Int.ofNat_lt, Int.ofNat_le, Int.reduceLT, Int.reduceLE, Int.reduceEq, Int.reduceNe, Int.reduceAdd, Int.reduceSub, Int.reduceMul, Int.reduceToNat, Int.reduceNeg, Nat.reduceEqDiff, Nat.reduceLeDiff, Nat.reduceSub, Nat.reduceMul, Nat.reduceLT, Nat.reduceBEq, Nat.reduceAdd]
    exact h
  · exact h.elim
def C54 : Contract := fun args hp K => match args with
  | [.ptr 0 0] => onRd hp fun st => K (.int .u64 (rdNum st).1) [rdH (rdNum st).2]
  | _ => False
def L54 (bs r : List UInt8) (k : Nat) : LoopAnn := { G := Nat, I := fun i => ⟨[(0, .ptr 0 0), (4, .int .i64 k), (5, .int .u64 (beN (r.take (i - 1)))), (6, .int .i64 i)], [.struct [.sl true 1 .byte bs, .bool false]]⟩, R := fun _ i => 1 ≤ i ∧ i ≤ k + 1, μ := fun i => k + 1 - i }
theorem L54_I {bs r k} (i : Nat) : (L54 bs r k).I i = ⟨[(0, .ptr 0 0), (4, .int .i64 k), (5, .int .u64 (beN (r.take (i - 1)))), (6, .int .i64 i)], [.struct [.sl true 1 .byte bs, .bool false]]⟩ := rfl
theorem s54 : Sound Try.prog 54 C54 := by
  refine sound_of_okF ok54 (Γ := [(73, C73)]) (.cons s73 (callable_of_okF ok73) .nil) ?_
  intro args hp K h
  unfold C54 at h
  split at h
  · obtain ⟨st, rfl, h⟩ := h
    cases st with
    | none =>
      refine ⟨by simp, [], ?_⟩
      unfold rdH at h ⊢
      simp only [Option.getD_none, Option.isNone_none]
      simp (maxSteps := 2000000) only [a54, r54, C73, go_sem, eq_self, and_self, Int.natCast_pos, Int.le_refl, Nat.le_refl, Int.natCast_nonneg, Int.ofNat_lt, Int.ofNat_le, Int.reduceLT, Int.reduceLE, Int.reduceEq, Int.reduceNe, Int.reduceAdd, Int.reduceSub, Int.reduceMul, Int.reduceToNat, Int.reduceNeg, Nat.reduceEqDiff, Nat.reduceLeDiff, Nat.reduceSub, Nat.reduceMul, Nat.reduceLT, Nat.reduceBEq, Nat.reduceAdd]
      rintro _ m rfl c hc
      have : c = true := by rw [hc]; rfl
      subst this
      exact h
    | some bs =>
      cases bs with
      | nil =>
        refine ⟨by simp, [], ?_⟩
        unfold rdH at h ⊢
        simp only [Option.getD_some, Option.isNone_some]
        simp (maxSteps := 2000000) only [a54, r54, C73, go_sem, eq_self, and_self, Int.natCast_pos, Int.le_refl, Nat.le_refl, Int.natCast_nonneg, Int.ofNat_lt, Int.ofNat_le, Int.reduceLT, Int.reduceLE, Int.reduceEq, Int.reduceNe, Int.reduceAdd, Int.reduceSub, Int.reduceMul, Int.reduceToNat, Int.reduceNeg, Nat.reduceEqDiff, Nat.reduceLeDiff, Nat.reduceSub, Nat.reduceMul, Nat.reduceLT, Nat.reduceBEq, Nat.reduceAdd]
        rintro _ m rfl c hc
        have : c = true := by rw [hc]; rfl
        subst this
        exact h
      | cons x r =>
        refine ⟨by simp, [(1, L54 (x :: r) r (x.toNat - 247))], ?_⟩
        unfold rdH at h ⊢
        simp only [Option.getD_some, Option.isNone_some]
        simp (maxSteps := 2000000) only [a54, r54, C73, go_sem, eq_self, and_self, Int.natCast_pos, Int.le_refl, Nat.le_refl, Int.natCast_nonneg, Int.ofNat_lt, Int.ofNat_le, Int.reduceLT, Int.reduceLE, Int.reduceEq, Int.reduceNe, Int.reduceAdd, Int.reduceSub, Int.reduceMul, Int.reduceToNat, Int.reduceNeg, Nat.reduceEqDiff, Nat.reduceLeDiff, Nat.reduceSub, Nat.reduceMul, Nat.reduceLT, Nat.reduceBEq, Nat.reduceAdd]
        rintro hb0 hb m rfl c hc
        have : c = false := by rw [hc]; simp; omega
        subst this
        refine sw_intro (fun h => by cases h) (fun _ => nd_intro (by omega) ?_)
        have e0 : elt Ty.byte (x :: r) 0 = x := rfl
        have hx : x.toNat < 256 := x.toNat_lt
        simp only [e0]
        rintro c rfl
        refine sw_intro (fun h2 => ?_) (fun h2 => ?_) <;> simp only [decide_eq_true_eq, decide_eq_false_iff_not] at h2
        · refine nd_intro (by omega) ?_
          rintro _ m hm
          rw [wu64 (by omega)] at hm
          subst hm
          refine nd_intro (by omega) ?_
          rintro ys rfl
          have e1 : rdNum (some (x :: r)) = ((x.toNat : Int), some r) := by
            simp only [rdNum, Option.bind_some, numR]
            rw [if_pos (by omega)]
          rw [e1] at h
          have e2 : List.take (r.length + 1 - 1) r = r := by simp
          rw [e2]
          exact h
        · refine nd_intro (by omega) ?_
          rintro _ m hm
          rw [w64 (by omega)] at hm
          subst hm
          rintro _ _ m1 hm1
          rw [w64 (by omega)] at hm1
          have hmx := maxLen_val
          have hk : m1 = ((x.toNat - 247 : Nat) : Int) := by omega
          subst hk
          generalize hkk : x.toNat - 247 = k at *
          have hk1 : 1 ≤ k ∧ k ≤ 8 := by omega
          rintro _ _ m2 rfl _ _ m3 hm3
          rw [w64 (by omega)] at hm3
          rintro c rfl
          have e7 : rdNum (some (x :: r)) = match (if r.length < k then none else if beN (r.take k) < 248 ∨ r.headD 0 = 0 then none else some ((beN (r.take k) : Int), r.drop k)) with | some x => (x.1, some x.2) | none => (0, none) := by
            simp only [rdNum, Option.bind_some, numR]
            rw [if_neg (by omega), hkk]
            rfl
          have e8 : elt Ty.byte (x :: r) 1 = r.headD 0 := by cases r <;> rfl
          refine sw_intro (fun h3 => ?_) (fun h3 => ?_) <;> simp only [decide_eq_true_eq, decide_eq_false_iff_not] at h3
          · rw [if_pos (by omega)] at e7
            rw [e7] at h
            exact h
          · rw [if_neg (by omega)] at e7
            refine nd_intro (by omega) (nd_intro (by omega) ?_)
            rintro c rfl
            refine sw_intro (fun hc3 => ?_) (fun hc3 => ?_) <;> simp only [decide_eq_true_eq, decide_eq_false_iff_not, e8] at hc3
            · rw [if_pos (.inr (UInt8.toNat_inj.1 (by show (r.headD 0).toNat = 0; omega)))] at e7
              rw [e7] at h
              exact h
            · have hne : r.headD 0 ≠ 0 := fun h => hc3 (by rw [h]; rfl)
              refine loop_intro (A := L54 (x :: r) r k) (1 : Nat) ?_ ⟨Nat.le_refl _, by omega⟩ ?_
              · simp (maxSteps := 2000000) only [L54_I, go_sem, eq_self, and_self, Int.natCast_pos, Int.le_refl, Nat.le_refl, Int.natCast_nonneg, Int.ofNat_lt, Int.ofNat_le, Int.reduceLT, Int.reduceLE, Int.reduceEq, Int.reduceNe, Int.reduceAdd, Int.reduceSub, Int.reduceMul, Int.reduceToNat, Int.reduceNeg, Nat.reduceEqDiff, Nat.reduceLeDiff, Nat.reduceSub, Nat.reduceMul, Nat.reduceLT, Nat.reduceBEq, Nat.reduceAdd]
                rfl
              · intro (i : Nat) (hi : 1 ≤ i ∧ i ≤ k + 1)
                simp (maxSteps := 2000000) only [L54_I, C73, go_sem, eq_self, and_self, Int.natCast_pos, Int.le_refl, Nat.le_refl, Int.natCast_nonneg, Int.ofNat_lt, Int.ofNat_le, Int.reduceLT, Int.reduceLE, Int.reduceEq, Int.reduceNe, Int.reduceAdd, Int.reduceSub, Int.reduceMul, Int.reduceToNat, Int.reduceNeg, Nat.reduceEqDiff, Nat.reduceLeDiff, Nat.reduceSub, Nat.reduceMul, Nat.reduceLT, Nat.reduceBEq, Nat.reduceAdd]
                rintro c rfl
                refine sw_intro (fun hc => ?_) (fun hc => ?_) <;> simp only [decide_eq_true_eq, decide_eq_false_iff_not] at hc
                · have he : elt Ty.byte (x :: r) i = elt Ty.byte r (i - 1) := by
                    obtain ⟨j, rfl⟩ : ∃ j, i = j + 1 := ⟨i - 1, by omega⟩
                    rfl
                  rw [he]
                  have hc8 : UInt8.toNat (elt Ty.byte r (i - 1)) < 256 := UInt8.toNat_lt _
                  rintro _ _ m6 hm6
                  refine nd_intro (by omega) ?_
                  rintro _ m7 hm7
                  rw [wu64 (by omega)] at hm7
                  rintro _ _ m8 hm8
                  rw [hm6, hm7, beN_step' (by omega) (by omega)] at hm8
                  subst hm8
                  rintro _ _ m9 hm9
                  rw [w64 (by omega)] at hm9
                  subst hm9
                  refine lpE_intro (A := L54 (x :: r) r k) (i + 1 : Nat) ?_ ⟨by omega, by omega⟩ (by show k + 1 - (i + 1) < k + 1 - i; omega)
                  simp (maxSteps := 2000000) only [L54_I, go_sem, eq_self, and_self, Int.natCast_pos, Int.le_refl, Nat.le_refl, Int.natCast_nonneg, Int.ofNat_lt, Int.ofNat_le, Int.reduceLT, Int.reduceLE, Int.reduceEq, Int.reduceNe, Int.reduceAdd, Int.reduceSub, Int.reduceMul, Int.reduceToNat, Int.reduceNeg, Nat.reduceEqDiff, Nat.reduceLeDiff, Nat.reduceSub, Nat.reduceMul, Nat.reduceLT, Nat.reduceBEq, Nat.reduceAdd]
                  rw [show i - 1 + 1 = i + 1 - 1 by omega]
                  rfl
                · obtain rfl : i = k + 1 := by omega
                  rw [show k + 1 - 1 = k by omega]
                  rintro c rfl
                  refine sw_intro (fun hc2 => ?_) (fun hc2 => ?_) <;> simp only [decide_eq_true_eq, decide_eq_false_iff_not] at hc2
                  · rw [if_pos (.inl (by omega))] at e7
                    rw [e7] at h
                    exact h
                  · rintro _ _ m6 hm6
                    rw [w64 (by omega)] at hm6
                    subst hm6
                    refine nd_intro ⟨by omega, by omega⟩ ?_
                    rintro ys rfl
                    have e9 : List.take (r.length + 1 - ((1 : Int) + (k : Int)).toNat) (List.drop ((1 : Int) + (k : Int)).toNat (x :: r)) = r.drop k := by
                      have : ((1 : Int) + (k : Int)).toNat = k + 1 := by omega
                      rw [this, List.drop_succ_cons, List.take_of_length_le (by rw [List.length_drop]; omega)]
                    rw [e9]
                    rw [if_neg (fun hh => hh.elim (fun h => by omega) hne)] at e7
                    rw [e7] at h
                    exact h
  · exact h.elim
theorem rdNum_none {st : Option (List UInt8)} {n : Int} (h : rdNum st = (n, none)) : n = 0 := by
  unfold rdNum at h
  split at h <;> simp at h
  exact h.symm
def C53 : Contract := fun args hp K => match args with
  | [.ptr 0 0] => onRd hp fun st => ((rdText st).1.size ≤ 140737488355328 → K (.str (rdText st).1) [rdH (rdText st).2])
  | _ => False
theorem s53 : Sound Try.prog 53 C53 := by
  refine sound_of_okF ok53 (Γ := [(73, C73), (54, C54)]) (.cons s73 (callable_of_okF ok73) (.cons s54 (callable_of_okF ok54) .nil)) ?_
  intro args hp K h
  unfold C53 at h
  split at h
  · obtain ⟨st, rfl, h⟩ := h
    refine ⟨by simp, [], ?_⟩
    unfold rdH at h ⊢
    simp (maxSteps := 2000000) only [a53, r53, C73, C54, rdH, go_sem, eq_self, and_self, Int.natCast_pos, Int.le_refl, Nat.le_refl, Int.natCast_nonneg, Int.ofNat_lt, Int.ofNat_le, Int.reduceLT, Int.reduceLE, Int.reduceEq, Int.reduceNe, Int.reduceAdd, Int.reduceSub, Int.reduceMul, Int.reduceToNat, Int.reduceNeg, Nat.reduceEqDiff, Nat.reduceLeDiff, Nat.reduceSub, Nat.reduceMul, Nat.reduceLT, Nat.reduceBEq, Nat.reduceAdd]
    generalize hn : rdNum st = x at *
    obtain ⟨n, st'⟩ := x
    have hr := rdNum_in st
    rw [hn] at hr
    have := maxLen_val
    cases st' with
    | none =>
      have e : rdText st = (ByteArray.empty, none) := by unfold rdText; rw [hn]
      rw [e] at h
      have hn0 : n = 0 := rdNum_none hn
      subst hn0
      simp only [Option.getD_none, Option.isNone_none]
      rintro _ _ m rfl _ m1 hm1
      have : m1 = 0 := hm1
      subst this
      rintro c rfl
      refine sw_intro (fun hc => absurd hc (by decide)) (fun hc => ?_)
      refine nd_intro (by decide) ?_
      rintro ys rfl u rfl
      refine nd_intro (by decide) ?_
      rintro ys rfl
      exact h (by decide)
    | some bs =>
      simp only [Option.getD_some, Option.isNone_some]
      rintro hb hb2 m rfl _ m1 hm1
      rw [wu64 (by omega)] at hm1
      subst hm1
      rintro c rfl
      refine sw_intro (fun hc => ?_) (fun hc => ?_) <;> simp only [decide_eq_true_eq, decide_eq_false_iff_not] at hc
      · have e : rdText st = (ByteArray.empty, none) := by unfold rdText; rw [hn]; exact if_pos hc
        rw [e] at h
        exact h (by decide)
      · have e : rdText st = (⟨(bs.take n.toNat).toArray⟩, some (bs.drop n.toNat)) := by unfold rdText; rw [hn]; exact if_neg hc
        rw [e] at h
        refine nd_intro ⟨by omega, by omega⟩ ?_
        rintro ys rfl u rfl
        refine nd_intro ⟨by omega, by omega⟩ ?_
        rintro ys rfl
        rw [show n.toNat - 0 = n.toNat by omega, List.take_of_length_le (i := bs.length - n.toNat) (by rw [List.length_drop]; exact Nat.le_refl _)]
        exact h (by show ((bs.take n.toNat).toArray).size ≤ _; rw [List.size_toArray, List.length_take]; omega)
  · exact h.elim
def C80 : Contract := fun args hp K => match args with
  | [.ptr 0 0] => onRd hp fun st => K (.int .i64 (rdInt st).1) [rdH (rdInt st).2]
  | _ => False
theorem s80 : Sound Try.prog 80 C80 := by
  refine sound_of_okF ok80 (Γ := [(54, C54)]) (.cons s54 (callable_of_okF ok54) .nil) ?_
  intro args hp K h
  unfold C80 at h
  split at h
  · obtain ⟨st, rfl, h⟩ := h
    refine ⟨by simp, [], ?_⟩
    unfold rdH at h ⊢
    simp (maxSteps := 2000000) only [a80, r80, C54, rdH, go_sem, eq_self, and_self, Int.natCast_pos, Int.le_refl, Nat.le_refl, Int.natCast_nonneg, Int.ofNat_lt, Int.ofNat_le, Int.reduceLT, Int.reduceLE, Int.reduceEq, Int.reduceNe, Int.reduceAdd, Int.reduceSub, Int.reduceMul, Int.reduceToNat, Int.reduceNeg, Nat.reduceEqDiff, Nat.reduceLeDiff, Nat.reduceSub, Nat.reduceMul, Nat.reduceLT, Nat.reduceBEq, Nat.reduceAdd]
    generalize hn : rdNum st = x at *
    obtain ⟨n, st'⟩ := x
    have hr := rdNum_in st
    rw [hn] at hr
    simp only at hr
    have e : rdInt st = (unz n, st') := by unfold rdInt; rw [hn]
    rw [e] at h
    have e1 : (2 : Int) ^ min 1 64 = 2 := rfl
    rintro _ _ m hm c rfl
    rw [Int.tmod_eq_emod_of_nonneg hr.1] at hm
    simp only [e1]
    refine sw_intro (fun h1 => ?_) (fun h1 => ?_) <;> simp only [decide_eq_true_eq, decide_eq_false_iff_not] at h1
    · rintro _ _ m1 hm1
      rw [Int.fdiv_eq_ediv_of_nonneg _ (by decide)] at hm1
      rintro _ m2 hm2
      rw [w64 (by omega)] at hm2
      subst hm2
      rintro _ m3 hm3
      rw [w64 (by omega)] at hm3
      subst hm3
      rintro _ _ m4 hm4
      rw [w64 (by omega)] at hm4
      have e2 : m4 = unz n := by unfold unz; rw [if_neg (by omega)]; omega
      subst e2
      exact h
    · rintro _ _ m1 hm1
      rw [Int.fdiv_eq_ediv_of_nonneg _ (by decide)] at hm1
      rintro _ m2 hm2
      rw [w64 (by omega)] at hm2
      have e2 : m2 = unz n := by unfold unz; rw [if_pos (by omega)]; omega
      subst e2
      exact h
  · exact h.elim
end Go.V
