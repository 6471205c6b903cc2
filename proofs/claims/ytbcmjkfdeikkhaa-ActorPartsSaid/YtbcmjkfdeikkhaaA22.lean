/- A part of the proof layer, or functions of the given program in it: contracts and their proofs. -/
import Derived.Test.YtbcmjkfdeikkhaaA21
namespace Go.V
open Go.Proofs
set_option maxRecDepth 100000
set_option linter.unusedSimpArgs false
set_option linter.unnecessarySimpa false
set_option linter.unusedVariables false

/-- A list of bytes that is laid behind: nil, or a row. -/
def onBy (x : SV) (hp : List SB) (k : List UInt8 → Prop) : Prop := (x = .nils ∧ hp = [] ∧ k []) ∨ ∃ bs, x = .own 0 ∧ hp = [.row false 1 .byte bs] ∧ k bs
@[go_sem] theorem onBy_nil {k} : onBy .nils [] k = k [] := by
  apply propext; constructor
  · rintro (⟨_, _, h⟩ | ⟨_, h, _⟩)
    · exact h
    · cases h
  · exact fun h => .inl ⟨rfl, rfl, h⟩
@[go_sem] theorem onBy_own {bs : List UInt8} {k} : onBy (.own 0) [.row false 1 .byte (no_index bs)] k = k bs := by
  apply propext; constructor
  · rintro (⟨h, _⟩ | ⟨bs', _, h, hk⟩)
    · cases h
    · cases h; exact hk
  · exact fun h => .inr ⟨bs, rfl, rfl, h⟩

def C49 : Contract := fun args hp K => match args with
  | [x, .int .u64 n] => onBy x hp fun bs => bs.length ≤ 70368744177664 ∧ K (.own 0) [.row true 1 .byte (bs ++ numB n)]
  | _ => False
def L49 (x : SV) (hp : List SB) (n : Int) : LoopAnn := { G := Nat, I := fun i => ⟨[(0, x), (1, .int .u64 n), (5, .int .i64 i)], hp⟩, R := fun _ i => 1 ≤ i ∧ i ≤ klen n.toNat, μ := fun i => klen n.toNat - i }
theorem L49_I {x hp n} (i : Nat) : (L49 x hp n).I i = ⟨[(0, x), (1, .int .u64 n), (5, .int .i64 i)], hp⟩ := rfl
def M49 (bs : List UInt8) (n : Int) : LoopAnn := cntA (fun i => ⟨[(0, .own 0), (1, .int .u64 n), (6, .int .i64 (klen n.toNat - 1 - i))], [.row true 1 .byte (bs ++ UInt8.ofNat (247 + klen n.toNat) :: (beB (klen n.toNat) n.toNat).take i)]⟩) (klen n.toNat)
theorem fdiv256 {n : Int} (h : 0 ≤ n) {j : Nat} : n.fdiv (2 ^ (8 * j)) = n / 256 ^ j := by
  have e : (2 : Int) ^ (8 * j) = 256 ^ j := by rw [Int.pow_mul]; rfl
  rw [e, Int.fdiv_eq_ediv_of_nonneg _ (Int.le_of_lt (Int.pow_pos (by decide)))]
theorem s49 : Sound Try.prog 49 C49 := by
  refine sound_of_okF ok49 (Γ := []) .nil ?_
  intro args hp K h
  unfold C49 at h
  split at h
  · rename_i n
    rcases h with ⟨rfl, rfl, hb, h⟩ | ⟨bs, rfl, rfl, hb, h⟩
    · refine ⟨by simp, [(1, L49 .nils [] n), (2, M49 [] n)], ?_⟩
      simp (maxSteps := 2000000) only [a49, r49, go_sem, eq_self, and_self, Int.natCast_pos, Int.le_refl, Nat.le_refl, Int.natCast_nonneg, Int.ofNat_lt, Int.ofNat_le, Int.reduceLT, Int.reduceLE, Int.reduceEq, Int.reduceNe, Int.reduceAdd, Int.reduceSub, Int.reduceMul, Int.reduceToNat, Int.reduceNeg, Nat.reduceEqDiff, Nat.reduceLeDiff, Nat.reduceSub, Nat.reduceMul, Nat.reduceLT, Nat.reduceBEq, Nat.reduceAdd]
      rintro c rfl
      refine sw_intro (fun h1 => ?_) (fun h1 => ?_) <;> simp only [decide_eq_true_eq, decide_eq_false_iff_not] at h1
      · rintro hi m hm
        rw [inR_u64] at hi
        rw [wu8 (by omega)] at hm
        subst hm
        have e : numB m = [UInt8.ofNat m.toNat] := by unfold numB; rw [if_pos h1]
        rw [e] at h
        exact h
      · have hk := klen_pos n.toNat
        have hn0 : 0 ≤ n := by omega
        refine loop_intro (A := L49 .nils [] n) (1 : Nat) ?_ ⟨Nat.le_refl _, hk.1⟩ ?_
        · simp (maxSteps := 2000000) only [L49_I, go_sem, eq_self, and_self, Int.natCast_pos, Int.le_refl, Nat.le_refl, Int.natCast_nonneg, Int.ofNat_lt, Int.ofNat_le, Int.reduceLT, Int.reduceLE, Int.reduceEq, Int.reduceNe, Int.reduceAdd, Int.reduceSub, Int.reduceMul, Int.reduceToNat, Int.reduceNeg, Nat.reduceEqDiff, Nat.reduceLeDiff, Nat.reduceSub, Nat.reduceMul, Nat.reduceLT, Nat.reduceBEq, Nat.reduceAdd]
          rfl
        · intro (i : Nat) (hi : 1 ≤ i ∧ i ≤ klen n.toNat)
          simp (maxSteps := 2000000) only [L49_I, go_sem, eq_self, and_self, Int.natCast_pos, Int.le_refl, Nat.le_refl, Int.natCast_nonneg, Int.ofNat_lt, Int.ofNat_le, Int.reduceLT, Int.reduceLE, Int.reduceEq, Int.reduceNe, Int.reduceAdd, Int.reduceSub, Int.reduceMul, Int.reduceToNat, Int.reduceNeg, Nat.reduceEqDiff, Nat.reduceLeDiff, Nat.reduceSub, Nat.reduceMul, Nat.reduceLT, Nat.reduceBEq, Nat.reduceAdd]
          rintro c rfl
          refine sw_intro (fun hc => ?_) (fun hc => ?_) <;> simp only [decide_eq_true_eq, decide_eq_false_iff_not] at hc
          · rintro _ _ m hm
            rw [w64 (by omega)] at hm
            subst hm
            rintro _ m0 hm0
            rw [wu64 (by omega)] at hm0
            subst hm0
            refine ⟨by omega, fun _ hnn _ m1 hm1 => ?_⟩
            have hn1 : n ≤ 18446744073709551615 := (inR_u64.1 hnn).2
            rw [show (8 * (i : Int)).toNat = 8 * i by omega, Nat.min_eq_left (by omega), fdiv256 hn0] at hm1
            rintro c rfl
            refine sw_intro (fun hc2 => ?_) (fun hc2 => ?_) <;> simp only [decide_eq_true_eq, decide_eq_false_iff_not] at hc2
            · rintro _ _ m2 hm2
              rw [w64 (by omega)] at hm2
              subst hm2
              have hik : i ≠ klen n.toNat := fun e => by
                have := klen_hi hn1
                rw [← e] at this
                rw [hm1, Int.ediv_eq_zero_of_lt hn0 this] at hc2
                omega
              refine lpE_intro (A := L49 .nils [] n) (i + 1 : Nat) ?_ ⟨by omega, by omega⟩ (by show klen n.toNat - (i + 1) < klen n.toNat - i; omega)
              simp (maxSteps := 2000000) only [L49_I, go_sem, eq_self, and_self, Int.natCast_pos, Int.le_refl, Nat.le_refl, Int.natCast_nonneg, Int.ofNat_lt, Int.ofNat_le, Int.reduceLT, Int.reduceLE, Int.reduceEq, Int.reduceNe, Int.reduceAdd, Int.reduceSub, Int.reduceMul, Int.reduceToNat, Int.reduceNeg, Nat.reduceEqDiff, Nat.reduceLeDiff, Nat.reduceSub, Nat.reduceMul, Nat.reduceLT, Nat.reduceBEq, Nat.reduceAdd]
              rfl
            · have hik : i = klen n.toNat := by
                rcases Nat.lt_or_ge i (klen n.toNat) with h | h
                · exfalso
                  have h256 : 256 ≤ n := by
                    rcases (by omega : n < 256 ∨ 256 ≤ n) with h | h
                    · have := klen_of (n := n) (k := 1) (.inl ⟨rfl, h⟩); omega
                    · exact h
                  have := klen_lo (n := n) h256 (i - 1) (by omega)
                  rw [show i - 1 + 1 = i by omega] at this
                  have h0 : (0 : Int) < 256 ^ i := Int.pow_pos (by decide)
                  have h1 : 1 ≤ n / 256 ^ i := Int.le_ediv_of_mul_le h0 (by omega)
                  rw [← hm1] at h1
                  omega
                · omega
              subst hik
              rintro _ _ m hm
              rw [w64 (by omega)] at hm
              subst hm
              rintro _ m1 hm1
              rw [wu8 (by omega)] at hm1
              subst hm1
              rintro _ _ m2 hm2
              rw [w64 (by omega)] at hm2
              subst hm2
              have e2 : ((247 : Int) + (klen n.toNat : Int)).toNat = 247 + klen n.toNat := by omega
              rw [e2]
              have e : numB n = UInt8.ofNat (247 + klen n.toNat) :: beB (klen n.toNat) n.toNat := by unfold numB; rw [if_neg h1]
              rw [e] at h
              refine loop_intro (A := M49 [] n) (0 : Nat) ?_ (Nat.zero_le _) ?_
              · simp (maxSteps := 2000000) only [M49, cntA_I, go_sem, eq_self, and_self, Int.natCast_pos, Int.le_refl, Nat.le_refl, Int.natCast_nonneg, Int.ofNat_lt, Int.ofNat_le, Int.reduceLT, Int.reduceLE, Int.reduceEq, Int.reduceNe, Int.reduceAdd, Int.reduceSub, Int.reduceMul, Int.reduceToNat, Int.reduceNeg, Nat.reduceEqDiff, Nat.reduceLeDiff, Nat.reduceSub, Nat.reduceMul, Nat.reduceLT, Nat.reduceBEq, Nat.reduceAdd]
                rw [show ((klen n.toNat : Int) - 1 - ((0 : Nat) : Int)) = (klen n.toNat : Int) - 1 by omega]
                rfl
              · intro (i : Nat) (hi : i ≤ klen n.toNat)
                simp (maxSteps := 2000000) only [M49, cntA_I, go_sem, eq_self, and_self, Int.natCast_pos, Int.le_refl, Nat.le_refl, Int.natCast_nonneg, Int.ofNat_lt, Int.ofNat_le, Int.reduceLT, Int.reduceLE, Int.reduceEq, Int.reduceNe, Int.reduceAdd, Int.reduceSub, Int.reduceMul, Int.reduceToNat, Int.reduceNeg, Nat.reduceEqDiff, Nat.reduceLeDiff, Nat.reduceSub, Nat.reduceMul, Nat.reduceLT, Nat.reduceBEq, Nat.reduceAdd]
                rintro c rfl
                refine sw_intro (fun hc => ?_) (fun hc => ?_) <;> simp only [decide_eq_true_eq, decide_eq_false_iff_not] at hc
                · have hlt : i < klen n.toNat := by omega
                  rintro _ _ m hm
                  rw [w64 (by omega)] at hm
                  subst hm
                  rintro _ m0 hm0
                  rw [wu64 (by omega)] at hm0
                  subst hm0
                  refine ⟨by omega, fun _ _ _ m1 hm1 => ?_⟩
                  have hx : (8 * ((klen n.toNat : Int) - 1 - i)).toNat = 8 * (klen n.toNat - 1 - i) := by omega
                  rw [hx, Nat.min_eq_left (by omega)] at hm1
                  rintro _ m2 hm2
                  have hb2 : UInt8.ofNat m2.toNat = UInt8.ofNat (n.toNat / 256 ^ (klen n.toNat - 1 - i)) := by
                    rw [hm2, hm1, byte_at hn0]
                  have hlen : (([] : List UInt8) ++ UInt8.ofNat (247 + klen n.toNat) :: List.take i (beB (klen n.toNat) n.toNat)).length = ([] : List UInt8).length + (1 + i) := by
                    simp [beB_length]; omega
                  have hlen0 : (UInt8.ofNat (247 + klen n.toNat) :: List.take i (beB (klen n.toNat) n.toNat)).length = 1 + i := by
                    simp [beB_length]; omega
                  refine ⟨fun _ => by first | (rw [hlen]; omega) | (simp [beB_length]; omega), fun _ _ _ m3 hm3 => ?_⟩
                  rw [w64 (by omega)] at hm3
                  subst hm3
                  refine cntA_next hlt ?_
                  simp (maxSteps := 2000000) only [go_sem, eq_self, and_self, Int.natCast_pos, Int.le_refl, Nat.le_refl, Int.natCast_nonneg, Int.ofNat_lt, Int.ofNat_le, Int.reduceLT, Int.reduceLE, Int.reduceEq, Int.reduceNe, Int.reduceAdd, Int.reduceSub, Int.reduceMul, Int.reduceToNat, Int.reduceNeg, Nat.reduceEqDiff, Nat.reduceLeDiff, Nat.reduceSub, Nat.reduceMul, Nat.reduceLT, Nat.reduceBEq, Nat.reduceAdd]
                  rw [hb2]
                  first | rw [List.append_assoc, List.cons_append, take_snoc (beB_get hlt)] | rw [take_snoc (beB_get hlt)]
                  rw [show ((klen n.toNat : Int) - 1 - ((i + 1 : Nat) : Int)) = (klen n.toNat : Int) - 1 - i - 1 by omega]
                  try rfl
                · have : i = klen n.toNat := by omega
                  subst this
                  rw [List.take_of_length_le (by rw [beB_length]; exact Nat.le_refl _)]
                  exact h
          · have hik : i = klen n.toNat := by omega
            subst hik
            rintro _ _ m hm
            rw [w64 (by omega)] at hm
            subst hm
            rintro _ m1 hm1
            rw [wu8 (by omega)] at hm1
            subst hm1
            rintro _ _ m2 hm2
            rw [w64 (by omega)] at hm2
            subst hm2
            have e2 : ((247 : Int) + (klen n.toNat : Int)).toNat = 247 + klen n.toNat := by omega
            rw [e2]
            have e : numB n = UInt8.ofNat (247 + klen n.toNat) :: beB (klen n.toNat) n.toNat := by unfold numB; rw [if_neg h1]
            rw [e] at h
            refine loop_intro (A := M49 [] n) (0 : Nat) ?_ (Nat.zero_le _) ?_
            · simp (maxSteps := 2000000) only [M49, cntA_I, go_sem, eq_self, and_self, Int.natCast_pos, Int.le_refl, Nat.le_refl, Int.natCast_nonneg, Int.ofNat_lt, Int.ofNat_le, Int.reduceLT, Int.reduceLE, Int.reduceEq, Int.reduceNe, Int.reduceAdd, Int.reduceSub, Int.reduceMul, Int.reduceToNat, Int.reduceNeg, Nat.reduceEqDiff, Nat.reduceLeDiff, Nat.reduceSub, Nat.reduceMul, Nat.reduceLT, Nat.reduceBEq, Nat.reduceAdd]
              rw [show ((klen n.toNat : Int) - 1 - ((0 : Nat) : Int)) = (klen n.toNat : Int) - 1 by omega]
              rfl
            · intro (i : Nat) (hi : i ≤ klen n.toNat)
              simp (maxSteps := 2000000) only [M49, cntA_I, go_sem, eq_self, and_self, Int.natCast_pos, Int.le_refl, Nat.le_refl, Int.natCast_nonneg, Int.ofNat_lt, Int.ofNat_le, Int.reduceLT, Int.reduceLE, Int.reduceEq, Int.reduceNe, Int.reduceAdd, Int.reduceSub, Int.reduceMul, Int.reduceToNat, Int.reduceNeg, Nat.reduceEqDiff, Nat.reduceLeDiff, Nat.reduceSub, Nat.reduceMul, Nat.reduceLT, Nat.reduceBEq, Nat.reduceAdd]
              rintro c rfl
              refine sw_intro (fun hc => ?_) (fun hc => ?_) <;> simp only [decide_eq_true_eq, decide_eq_false_iff_not] at hc
              · have hlt : i < klen n.toNat := by omega
                rintro _ _ m hm
                rw [w64 (by omega)] at hm
                subst hm
                rintro _ m0 hm0
                rw [wu64 (by omega)] at hm0
                subst hm0
                refine ⟨by omega, fun _ _ _ m1 hm1 => ?_⟩
                have hx : (8 * ((klen n.toNat : Int) - 1 - i)).toNat = 8 * (klen n.toNat - 1 - i) := by omega
                rw [hx, Nat.min_eq_left (by omega)] at hm1
                rintro _ m2 hm2
                have hb2 : UInt8.ofNat m2.toNat = UInt8.ofNat (n.toNat / 256 ^ (klen n.toNat - 1 - i)) := by
                  rw [hm2, hm1, byte_at hn0]
                have hlen : (([] : List UInt8) ++ UInt8.ofNat (247 + klen n.toNat) :: List.take i (beB (klen n.toNat) n.toNat)).length = ([] : List UInt8).length + (1 + i) := by
                  simp [beB_length]; omega
                have hlen0 : (UInt8.ofNat (247 + klen n.toNat) :: List.take i (beB (klen n.toNat) n.toNat)).length = 1 + i := by
                  simp [beB_length]; omega
                refine ⟨fun _ => by first | (rw [hlen]; omega) | (simp [beB_length]; omega), fun _ _ _ m3 hm3 => ?_⟩
                rw [w64 (by omega)] at hm3
                subst hm3
                refine cntA_next hlt ?_
                simp (maxSteps := 2000000) only [go_sem, eq_self, and_self, Int.natCast_pos, Int.le_refl, Nat.le_refl, Int.natCast_nonneg, Int.ofNat_lt, Int.ofNat_le, Int.reduceLT, Int.reduceLE, Int.reduceEq, Int.reduceNe, Int.reduceAdd, Int.reduceSub, Int.reduceMul, Int.reduceToNat, Int.reduceNeg, Nat.reduceEqDiff, Nat.reduceLeDiff, Nat.reduceSub, Nat.reduceMul, Nat.reduceLT, Nat.reduceBEq, Nat.reduceAdd]
                rw [hb2]
                first | rw [List.append_assoc, List.cons_append, take_snoc (beB_get hlt)] | rw [take_snoc (beB_get hlt)]
                rw [show ((klen n.toNat : Int) - 1 - ((i + 1 : Nat) : Int)) = (klen n.toNat : Int) - 1 - i - 1 by omega]
                try rfl
              · have : i = klen n.toNat := by omega
                subst this
                rw [List.take_of_length_le (by rw [beB_length]; exact Nat.le_refl _)]
                exact h
    · refine ⟨by simp, [(1, L49 (.own 0) [.row false 1 .byte bs] n), (2, M49 bs n)], ?_⟩
      simp (maxSteps := 2000000) only [a49, r49, go_sem, eq_self, and_self, Int.natCast_pos, Int.le_refl, Nat.le_refl, Int.natCast_nonneg, Int.ofNat_lt, Int.ofNat_le, Int.reduceLT, Int.reduceLE, Int.reduceEq, Int.reduceNe, Int.reduceAdd, Int.reduceSub, Int.reduceMul, Int.reduceToNat, Int.reduceNeg, Nat.reduceEqDiff, Nat.reduceLeDiff, Nat.reduceSub, Nat.reduceMul, Nat.reduceLT, Nat.reduceBEq, Nat.reduceAdd]
      rintro c rfl
      refine sw_intro (fun h1 => ?_) (fun h1 => ?_) <;> simp only [decide_eq_true_eq, decide_eq_false_iff_not] at h1
      · rintro hi m hm
        rw [inR_u64] at hi
        rw [wu8 (by omega)] at hm
        subst hm
        have e : numB m = [UInt8.ofNat m.toNat] := by unfold numB; rw [if_pos h1]
        rw [e] at h
        exact ⟨fun _ => by omega, fun _ => h⟩
      · have hk := klen_pos n.toNat
        have hn0 : 0 ≤ n := by omega
        refine loop_intro (A := L49 (.own 0) [.row false 1 .byte bs] n) (1 : Nat) ?_ ⟨Nat.le_refl _, hk.1⟩ ?_
        · simp (maxSteps := 2000000) only [L49_I, go_sem, eq_self, and_self, Int.natCast_pos, Int.le_refl, Nat.le_refl, Int.natCast_nonneg, Int.ofNat_lt, Int.ofNat_le, Int.reduceLT, Int.reduceLE, Int.reduceEq, Int.reduceNe, Int.reduceAdd, Int.reduceSub, Int.reduceMul, Int.reduceToNat, Int.reduceNeg, Nat.reduceEqDiff, Nat.reduceLeDiff, Nat.reduceSub, Nat.reduceMul, Nat.reduceLT, Nat.reduceBEq, Nat.reduceAdd]
          rfl
        · intro (i : Nat) (hi : 1 ≤ i ∧ i ≤ klen n.toNat)
          simp (maxSteps := 2000000) only [L49_I, go_sem, eq_self, and_self, Int.natCast_pos, Int.le_refl, Nat.le_refl, Int.natCast_nonneg, Int.ofNat_lt, Int.ofNat_le, Int.reduceLT, Int.reduceLE, Int.reduceEq, Int.reduceNe, Int.reduceAdd, Int.reduceSub, Int.reduceMul, Int.reduceToNat, Int.reduceNeg, Nat.reduceEqDiff, Nat.reduceLeDiff, Nat.reduceSub, Nat.reduceMul, Nat.reduceLT, Nat.reduceBEq, Nat.reduceAdd]
          rintro c rfl
          refine sw_intro (fun hc => ?_) (fun hc => ?_) <;> simp only [decide_eq_true_eq, decide_eq_false_iff_not] at hc
          · rintro _ _ m hm
            rw [w64 (by omega)] at hm
            subst hm
            rintro _ m0 hm0
            rw [wu64 (by omega)] at hm0
            subst hm0
            refine ⟨by omega, fun _ hnn _ m1 hm1 => ?_⟩
            have hn1 : n ≤ 18446744073709551615 := (inR_u64.1 hnn).2
            rw [show (8 * (i : Int)).toNat = 8 * i by omega, Nat.min_eq_left (by omega), fdiv256 hn0] at hm1
            rintro c rfl
            refine sw_intro (fun hc2 => ?_) (fun hc2 => ?_) <;> simp only [decide_eq_true_eq, decide_eq_false_iff_not] at hc2
            · rintro _ _ m2 hm2
              rw [w64 (by omega)] at hm2
              subst hm2
              have hik : i ≠ klen n.toNat := fun e => by
                have := klen_hi hn1
                rw [← e] at this
                rw [hm1, Int.ediv_eq_zero_of_lt hn0 this] at hc2
                omega
              refine lpE_intro (A := L49 (.own 0) [.row false 1 .byte bs] n) (i + 1 : Nat) ?_ ⟨by omega, by omega⟩ (by show klen n.toNat - (i + 1) < klen n.toNat - i; omega)
              simp (maxSteps := 2000000) only [L49_I, go_sem, eq_self, and_self, Int.natCast_pos, Int.le_refl, Nat.le_refl, Int.natCast_nonneg, Int.ofNat_lt, Int.ofNat_le, Int.reduceLT, Int.reduceLE, Int.reduceEq, Int.reduceNe, Int.reduceAdd, Int.reduceSub, Int.reduceMul, Int.reduceToNat, Int.reduceNeg, Nat.reduceEqDiff, Nat.reduceLeDiff, Nat.reduceSub, Nat.reduceMul, Nat.reduceLT, Nat.reduceBEq, Nat.reduceAdd]
              rfl
            · have hik : i = klen n.toNat := by
                rcases Nat.lt_or_ge i (klen n.toNat) with h | h
                · exfalso
                  have h256 : 256 ≤ n := by
                    rcases (by omega : n < 256 ∨ 256 ≤ n) with h | h
                    · have := klen_of (n := n) (k := 1) (.inl ⟨rfl, h⟩); omega
                    · exact h
                  have := klen_lo (n := n) h256 (i - 1) (by omega)
                  rw [show i - 1 + 1 = i by omega] at this
                  have h0 : (0 : Int) < 256 ^ i := Int.pow_pos (by decide)
                  have h1 : 1 ≤ n / 256 ^ i := Int.le_ediv_of_mul_le h0 (by omega)
                  rw [← hm1] at h1
                  omega
                · omega
              subst hik
              rintro _ _ m hm
              rw [w64 (by omega)] at hm
              subst hm
              rintro _ m1 hm1
              rw [wu8 (by omega)] at hm1
              subst hm1
              refine ⟨fun _ => by omega, fun _ => ?_⟩
              rintro _ _ m2 hm2
              rw [w64 (by omega)] at hm2
              subst hm2
              have e2 : ((247 : Int) + (klen n.toNat : Int)).toNat = 247 + klen n.toNat := by omega
              rw [e2]
              have e : numB n = UInt8.ofNat (247 + klen n.toNat) :: beB (klen n.toNat) n.toNat := by unfold numB; rw [if_neg h1]
              rw [e] at h
              refine loop_intro (A := M49 bs n) (0 : Nat) ?_ (Nat.zero_le _) ?_
              · simp (maxSteps := 2000000) only [M49, cntA_I, go_sem, eq_self, and_self, Int.natCast_pos, Int.le_refl, Nat.le_refl, Int.natCast_nonneg, Int.ofNat_lt, Int.ofNat_le, Int.reduceLT, Int.reduceLE, Int.reduceEq, Int.reduceNe, Int.reduceAdd, Int.reduceSub, Int.reduceMul, Int.reduceToNat, Int.reduceNeg, Nat.reduceEqDiff, Nat.reduceLeDiff, Nat.reduceSub, Nat.reduceMul, Nat.reduceLT, Nat.reduceBEq, Nat.reduceAdd]
                rw [show ((klen n.toNat : Int) - 1 - ((0 : Nat) : Int)) = (klen n.toNat : Int) - 1 by omega]
                rfl
              · intro (i : Nat) (hi : i ≤ klen n.toNat)
                simp (maxSteps := 2000000) only [M49, cntA_I, go_sem, eq_self, and_self, Int.natCast_pos, Int.le_refl, Nat.le_refl, Int.natCast_nonneg, Int.ofNat_lt, Int.ofNat_le, Int.reduceLT, Int.reduceLE, Int.reduceEq, Int.reduceNe, Int.reduceAdd, Int.reduceSub, Int.reduceMul, Int.reduceToNat, Int.reduceNeg, Nat.reduceEqDiff, Nat.reduceLeDiff, Nat.reduceSub, Nat.reduceMul, Nat.reduceLT, Nat.reduceBEq, Nat.reduceAdd]
                rintro c rfl
                refine sw_intro (fun hc => ?_) (fun hc => ?_) <;> simp only [decide_eq_true_eq, decide_eq_false_iff_not] at hc
                · have hlt : i < klen n.toNat := by omega
                  rintro _ _ m hm
                  rw [w64 (by omega)] at hm
                  subst hm
                  rintro _ m0 hm0
                  rw [wu64 (by omega)] at hm0
                  subst hm0
                  refine ⟨by omega, fun _ _ _ m1 hm1 => ?_⟩
                  have hx : (8 * ((klen n.toNat : Int) - 1 - i)).toNat = 8 * (klen n.toNat - 1 - i) := by omega
                  rw [hx, Nat.min_eq_left (by omega)] at hm1
                  rintro _ m2 hm2
                  have hb2 : UInt8.ofNat m2.toNat = UInt8.ofNat (n.toNat / 256 ^ (klen n.toNat - 1 - i)) := by
                    rw [hm2, hm1, byte_at hn0]
                  have hlen : (bs ++ UInt8.ofNat (247 + klen n.toNat) :: List.take i (beB (klen n.toNat) n.toNat)).length = bs.length + (1 + i) := by
                    simp [beB_length]; omega
                  have hlen0 : (UInt8.ofNat (247 + klen n.toNat) :: List.take i (beB (klen n.toNat) n.toNat)).length = 1 + i := by
                    simp [beB_length]; omega
                  refine ⟨fun _ => by first | (rw [hlen]; omega) | (simp [beB_length]; omega), fun _ _ _ m3 hm3 => ?_⟩
                  rw [w64 (by omega)] at hm3
                  subst hm3
                  refine cntA_next hlt ?_
                  simp (maxSteps := 2000000) only [go_sem, eq_self, and_self, Int.natCast_pos, Int.le_refl, Nat.le_refl, Int.natCast_nonneg, Int.ofNat_lt, Int.ofNat_le, Int.reduceLT, Int.reduceLE, Int.reduceEq, Int.reduceNe, Int.reduceAdd, Int.reduceSub, Int.reduceMul, Int.reduceToNat, Int.reduceNeg, Nat.reduceEqDiff, Nat.reduceLeDiff, Nat.reduceSub, Nat.reduceMul, Nat.reduceLT, Nat.reduceBEq, Nat.reduceAdd]
                  rw [hb2]
                  first | rw [List.append_assoc, List.cons_append, take_snoc (beB_get hlt)] | rw [take_snoc (beB_get hlt)]
                  rw [show ((klen n.toNat : Int) - 1 - ((i + 1 : Nat) : Int)) = (klen n.toNat : Int) - 1 - i - 1 by omega]
                  try rfl
                · have : i = klen n.toNat := by omega
                  subst this
                  rw [List.take_of_length_le (by rw [beB_length]; exact Nat.le_refl _)]
                  exact h
          · have hik : i = klen n.toNat := by omega
            subst hik
            rintro _ _ m hm
            rw [w64 (by omega)] at hm
            subst hm
            rintro _ m1 hm1
            rw [wu8 (by omega)] at hm1
            subst hm1
            refine ⟨fun _ => by omega, fun _ => ?_⟩
            rintro _ _ m2 hm2
            rw [w64 (by omega)] at hm2
            subst hm2
            have e2 : ((247 : Int) + (klen n.toNat : Int)).toNat = 247 + klen n.toNat := by omega
            rw [e2]
            have e : numB n = UInt8.ofNat (247 + klen n.toNat) :: beB (klen n.toNat) n.toNat := by unfold numB; rw [if_neg h1]
            rw [e] at h
            refine loop_intro (A := M49 bs n) (0 : Nat) ?_ (Nat.zero_le _) ?_
            · simp (maxSteps := 2000000) only [M49, cntA_I, go_sem, eq_self, and_self, Int.natCast_pos, Int.le_refl, Nat.le_refl, Int.natCast_nonneg, Int.ofNat_lt, Int.ofNat_le, Int.reduceLT, Int.reduceLE, Int.reduceEq, Int.reduceNe, Int.reduceAdd, Int.reduceSub, Int.reduceMul, Int.reduceToNat, Int.reduceNeg, Nat.reduceEqDiff, Nat.reduceLeDiff, Nat.reduceSub, Nat.reduceMul, Nat.reduceLT, Nat.reduceBEq, Nat.reduceAdd]
              rw [show ((klen n.toNat : Int) - 1 - ((0 : Nat) : Int)) = (klen n.toNat : Int) - 1 by omega]
              rfl
            · intro (i : Nat) (hi : i ≤ klen n.toNat)
              simp (maxSteps := 2000000) only [M49, cntA_I, go_sem, eq_self, and_self, Int.natCast_pos, Int.le_refl, Nat.le_refl, Int.natCast_nonneg, Int.ofNat_lt, Int.ofNat_le, Int.reduceLT, Int.reduceLE, Int.reduceEq, Int.reduceNe, Int.reduceAdd, Int.reduceSub, Int.reduceMul, Int.reduceToNat, Int.reduceNeg, Nat.reduceEqDiff, Nat.reduceLeDiff, Nat.reduceSub, Nat.reduceMul, Nat.reduceLT, Nat.reduceBEq, Nat.reduceAdd]
              rintro c rfl
              refine sw_intro (fun hc => ?_) (fun hc => ?_) <;> simp only [decide_eq_true_eq, decide_eq_false_iff_not] at hc
              · have hlt : i < klen n.toNat := by omega
                rintro _ _ m hm
                rw [w64 (by omega)] at hm
                subst hm
                rintro _ m0 hm0
                rw [wu64 (by omega)] at hm0
                subst hm0
                refine ⟨by omega, fun _ _ _ m1 hm1 => ?_⟩
                have hx : (8 * ((klen n.toNat : Int) - 1 - i)).toNat = 8 * (klen n.toNat - 1 - i) := by omega
                rw [hx, Nat.min_eq_left (by omega)] at hm1
                rintro _ m2 hm2
                have hb2 : UInt8.ofNat m2.toNat = UInt8.ofNat (n.toNat / 256 ^ (klen n.toNat - 1 - i)) := by
                  rw [hm2, hm1, byte_at hn0]
                have hlen : (bs ++ UInt8.ofNat (247 + klen n.toNat) :: List.take i (beB (klen n.toNat) n.toNat)).length = bs.length + (1 + i) := by
                  simp [beB_length]; omega
                have hlen0 : (UInt8.ofNat (247 + klen n.toNat) :: List.take i (beB (klen n.toNat) n.toNat)).length = 1 + i := by
                  simp [beB_length]; omega
                refine ⟨fun _ => by first | (rw [hlen]; omega) | (simp [beB_length]; omega), fun _ _ _ m3 hm3 => ?_⟩
                rw [w64 (by omega)] at hm3
                subst hm3
                refine cntA_next hlt ?_
                simp (maxSteps := 2000000) only [go_sem, eq_self, and_self, Int.natCast_pos, Int.le_refl, Nat.le_refl, Int.natCast_nonneg, Int.ofNat_lt, Int.ofNat_le, Int.reduceLT, Int.reduceLE, Int.reduceEq, Int.reduceNe, Int.reduceAdd, Int.reduceSub, Int.reduceMul, Int.reduceToNat, Int.reduceNeg, Nat.reduceEqDiff, Nat.reduceLeDiff, Nat.reduceSub, Nat.reduceMul, Nat.reduceLT, Nat.reduceBEq, Nat.reduceAdd]
                rw [hb2]
                first | rw [List.append_assoc, List.cons_append, take_snoc (beB_get hlt)] | rw [take_snoc (beB_get hlt)]
                rw [show ((klen n.toNat : Int) - 1 - ((i + 1 : Nat) : Int)) = (klen n.toNat : Int) - 1 - i - 1 by omega]
                try rfl
              · have : i = klen n.toNat := by omega
                subst this
                rw [List.take_of_length_le (by rw [beB_length]; exact Nat.le_refl _)]
                exact h
  · exact h.elim
def C50 : Contract := fun args hp K => match args with
  | [x, .str s] => onBy x hp fun bs => bs.length + s.size ≤ 70368744177664 ∧ K (.own 0) [.row true 1 .byte (bs ++ textB s)]
  | _ => False
theorem s50 : Sound Try.prog 50 C50 := by
  refine sound_of_okF ok50 (Γ := [(49, C49)]) (.cons s49 (callable_of_okF ok49) .nil) ?_
  intro args hp K h
  unfold C50 at h
  split at h
  · rename_i s
    have hl := (numB_length s.size).2
    have hs : s.data.toList.length = s.size := by rw [Array.length_toList]; rfl
    rcases h with ⟨rfl, rfl, hb, h⟩ | ⟨bs, rfl, rfl, hb, h⟩
    · refine ⟨by simp, [], ?_⟩
      simp (maxSteps := 2000000) only [a50, r50, C49, go_sem, eq_self, and_self, Int.natCast_pos, Int.le_refl, Nat.le_refl, Int.natCast_nonneg, Int.ofNat_lt, Int.ofNat_le, Int.reduceLT, Int.reduceLE, Int.reduceEq, Int.reduceNe, Int.reduceAdd, Int.reduceSub, Int.reduceMul, Int.reduceToNat, Int.reduceNeg, Nat.reduceEqDiff, Nat.reduceLeDiff, Nat.reduceSub, Nat.reduceMul, Nat.reduceLT, Nat.reduceBEq, Nat.reduceAdd]
      simp only [List.length_nil] at hb
      rintro _ m rfl _ m1 hm1
      rw [wu64 (by omega)] at hm1
      subst hm1
      refine ⟨fun _ _ => by rw [hs]; omega, fun _ => h⟩
    · refine ⟨by simp, [], ?_⟩
      simp (maxSteps := 2000000) only [a50, r50, C49, go_sem, eq_self, and_self, Int.natCast_pos, Int.le_refl, Nat.le_refl, Int.natCast_nonneg, Int.ofNat_lt, Int.ofNat_le, Int.reduceLT, Int.reduceLE, Int.reduceEq, Int.reduceNe, Int.reduceAdd, Int.reduceSub, Int.reduceMul, Int.reduceToNat, Int.reduceNeg, Nat.reduceEqDiff, Nat.reduceLeDiff, Nat.reduceSub, Nat.reduceMul, Nat.reduceLT, Nat.reduceBEq, Nat.reduceAdd]
      rintro _ m rfl _ m1 hm1
      rw [wu64 (by omega)] at hm1
      subst hm1
      refine ⟨by omega, fun _ _ => by rw [hs, List.length_append]; omega, fun _ => ?_⟩
      rw [List.append_assoc]
      exact h
  · exact h.elim
theorem or_one {a : Int} (h : 0 ≤ a ∧ a ≤ 9223372036854775807) : bitsI .or .u64 (a * 2) 1 = a * 2 + 1 := by
  obtain ⟨x, rfl⟩ := Int.eq_ofNat_of_zero_le h.1
  have h : x <<< 1 + 1 = x <<< 1 ||| 1 := Nat.shiftLeft_add_eq_or_of_lt (by decide) x
  rw [Nat.shiftLeft_eq] at h
  have e1 : ((x : Int) * 2) = ((x * 2 : Nat) : Int) := by omega
  show IntKind.u64.wrap ((BitVec.ofInt 64 ((x : Int) * 2) ||| BitVec.ofInt 64 1).toNat : Int) = _
  have e2 : BitVec.ofInt 64 1 = BitVec.ofNat 64 1 := rfl
  have e3 : (BitVec.ofNat 64 1).toNat = 1 := rfl
  rw [e1, e2, BitVec.ofInt_natCast, BitVec.toNat_or, BitVec.toNat_ofNat, e3, Nat.mod_eq_of_lt (by omega), u64wrap]
  have h' : x * 2 ^ 1 + 1 = x * 2 ||| 1 := h
  rw [← h']
  omega
def C86 : Contract := fun args hp K => match args with
  | [x, .int .i64 n] => onBy x hp fun bs => bs.length ≤ 70368744177664 ∧ K (.own 0) [.row true 1 .byte (bs ++ numB (zig n))]
  | _ => False
theorem s86 : Sound Try.prog 86 C86 := by
  refine sound_of_okF ok86 (Γ := [(49, C49)]) (.cons s49 (callable_of_okF ok49) .nil) ?_
  intro args hp K h
  unfold C86 at h
  split at h
  · rename_i n
    rcases h with ⟨rfl, rfl, hb, h⟩ | ⟨bs, rfl, rfl, hb, h⟩
    · refine ⟨by simp, [], ?_⟩
      simp (maxSteps := 2000000) only [a86, r86, C49, go_sem, eq_self, and_self, Int.natCast_pos, Int.le_refl, Nat.le_refl, Int.natCast_nonneg, Int.ofNat_lt, Int.ofNat_le, Int.reduceLT, Int.reduceLE, Int.reduceEq, Int.reduceNe, Int.reduceAdd, Int.reduceSub, Int.reduceMul, Int.reduceToNat, Int.reduceNeg, Nat.reduceEqDiff, Nat.reduceLeDiff, Nat.reduceSub, Nat.reduceMul, Nat.reduceLT, Nat.reduceBEq, Nat.reduceAdd]
      rintro c rfl
      refine sw_intro (fun h1 => ?_) (fun h1 => ?_) <;> simp only [decide_eq_true_eq, decide_eq_false_iff_not] at h1
      · rintro hn m hm
        rw [inR_i64] at hn
        rw [wu64 (by omega)] at hm
        subst hm
        rintro _ _ m1 hm1
        have e : m1 = zig m := by
          rw [hm1, show (2 : Int) ^ min 1 64 = 2 from rfl, u64wrap]; unfold zig; rw [if_pos h1]; omega
        subst e
        exact h
      · rintro hn _ m hm
        rw [inR_i64] at hn
        rw [w64 (by omega)] at hm
        subst hm
        rintro _ m1 hm1
        rw [w64 (by omega)] at hm1
        subst hm1
        rintro _ m2 hm2
        rw [wu64 (by omega)] at hm2
        subst hm2
        rintro _ _ m3 hm3
        rw [show (2 : Int) ^ min 1 64 = 2 from rfl, wu64 (by omega)] at hm3
        subst hm3
        rintro _ _ m4 hm4
        rw [or_one (by omega)] at hm4
        have e : m4 = zig n := by rw [hm4]; unfold zig; rw [if_neg h1]; omega
        subst e
        exact h
    · refine ⟨by simp, [], ?_⟩
      simp (maxSteps := 2000000) only [a86, r86, C49, go_sem, eq_self, and_self, Int.natCast_pos, Int.le_refl, Nat.le_refl, Int.natCast_nonneg, Int.ofNat_lt, Int.ofNat_le, Int.reduceLT, Int.reduceLE, Int.reduceEq, Int.reduceNe, Int.reduceAdd, Int.reduceSub, Int.reduceMul, Int.reduceToNat, Int.reduceNeg, Nat.reduceEqDiff, Nat.reduceLeDiff, Nat.reduceSub, Nat.reduceMul, Nat.reduceLT, Nat.reduceBEq, Nat.reduceAdd]
      rintro c rfl
      refine sw_intro (fun h1 => ?_) (fun h1 => ?_) <;> simp only [decide_eq_true_eq, decide_eq_false_iff_not] at h1
      · rintro hn m hm
        rw [inR_i64] at hn
        rw [wu64 (by omega)] at hm
        subst hm
        rintro _ _ m1 hm1
        have e : m1 = zig m := by
          rw [hm1, show (2 : Int) ^ min 1 64 = 2 from rfl, u64wrap]; unfold zig; rw [if_pos h1]; omega
        subst e
        exact ⟨hb, h⟩
      · rintro hn _ m hm
        rw [inR_i64] at hn
        rw [w64 (by omega)] at hm
        subst hm
        rintro _ m1 hm1
        rw [w64 (by omega)] at hm1
        subst hm1
        rintro _ m2 hm2
        rw [wu64 (by omega)] at hm2
        subst hm2
        rintro _ _ m3 hm3
        rw [show (2 : Int) ^ min 1 64 = 2 from rfl, wu64 (by omega)] at hm3
        subst hm3
        rintro _ _ m4 hm4
        rw [or_one (by omega)] at hm4
        have e : m4 = zig n := by rw [hm4]; unfold zig; rw [if_neg h1]; omega
        subst e
        exact ⟨hb, h⟩
  · exact h.elim

theorem rdNum_none {st : Option (List UInt8)} {n : Int} (h : rdNum st = (n, none)) : n = 0 := by
  unfold rdNum at h
  split at h <;> simp at h
  exact h.symm
end Go.V
