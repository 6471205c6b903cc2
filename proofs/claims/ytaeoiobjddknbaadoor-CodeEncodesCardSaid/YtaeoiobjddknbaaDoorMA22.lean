/- A part of the proof layer, or functions of the given program in it: contracts and their proofs. -/
import Derived.Test.YtaeoiobjddknbaaDoorMA20
import Derived.Test.YtaeoiobjddknbaaDoorMB10
namespace Go.V
open Go.Proofs
set_option maxRecDepth 100000
set_option linter.unusedSimpArgs false
set_option linter.unnecessarySimpa false
set_option linter.unusedVariables false
def onBy (x : SV) (hp : List SB) (k : List UInt8 → Prop) : Prop := (x = .nils ∧ hp = [] ∧ k []) ∨ ∃ bs, x = .own 0 ∧ hp = [.row false 1 .byte bs] ∧ k bs
@[go_sem] theorem onBy_nil {k} : onBy .nils [] k = k [] := by
 apply propext; constructor
 ·rintro (⟨_, _, h⟩ | ⟨_, h, _⟩)
  ·exact h
  ·cases h
 ·exact fun h => .inl ⟨rfl, rfl, h⟩
@[go_sem] theorem onBy_own {bs : List UInt8} {k} : onBy (.own 0) [.row false 1 .byte (no_index bs)] k = k bs := by
 apply propext; constructor
 ·rintro (⟨h, _⟩ | ⟨bs', _, h, hk⟩)
  ·cases h
  ·cases h; exact hk
 ·exact fun h => .inr ⟨bs, rfl, rfl, h⟩
def C47 : Contract := fun args hp K => match args with
 | [x, .int .u64 n] => onBy x hp fun bs => bs.length ≤ 70368744177664 ∧ K (.own 0) [.row true 1 .byte (bs ++ numB n)]
 | _ => False
def L47 (x : SV) (hp : List SB) (n : Int) : LoopAnn := { G := Nat, I := fun i => ⟨[(0, x), (1, .int .u64 n), (5, .int .i64 i)], hp⟩, R := fun _ i => 1 ≤ i ∧ i ≤ klen n.toNat, μ := fun i => klen n.toNat - i }
theorem L47_I {x hp n} (i : Nat) : (L47 x hp n).I i = ⟨[(0, x), (1, .int .u64 n), (5, .int .i64 i)], hp⟩ := rfl
def M47 (bs : List UInt8) (n : Int) : LoopAnn := cntA (fun i => ⟨[(0, .own 0), (1, .int .u64 n), (6, .int .i64 (klen n.toNat - 1 - i))], [.row true 1 .byte (bs ++ UInt8.ofNat (247 + klen n.toNat) :: (beB (klen n.toNat) n.toNat).take i)]⟩) (klen n.toNat)
theorem fdiv256 {n : Int} (h : 0 ≤ n) {j : Nat} : n.fdiv (2 ^ (8 * j)) = n / 256 ^ j := by
 have e : (2 : Int) ^ (8 * j) = 256 ^ j := by rw [Int.pow_mul]; rfl
 rw [e, Int.fdiv_eq_ediv_of_nonneg _ (Int.le_of_lt (Int.pow_pos (by decide)))]
theorem s47 : Sound Tryd.prog 47 C47 := by
 refine sound_of_okF ok47 .nil ?_
 intro args hp K h
 unfold C47 at h
 split at h
 ·rename_i n
  rcases h with ⟨rfl, rfl, hb, h⟩ | ⟨bs, rfl, rfl, hb, h⟩
  ·refine ⟨by simp, [(1, L47 .nils [] n), (2, M47 [] n)], ?_⟩
   simp (maxSteps:=9^9) only [a47, r47, go_sem, Int.reduceLT, Int.reduceLE, Int.reduceEq, Int.reduceNe, Int.reduceAdd, Int.reduceSub, Int.reduceMul, Int.reduceToNat, Int.reduceNeg, Nat.reduceEqDiff, Nat.reduceLeDiff, Nat.reduceSub, Nat.reduceMul, Nat.reduceLT, Nat.reduceBEq, Nat.reduceAdd]
   rintro c rfl
   refine sw_intro (fun h1 => ?_) (fun h1 => ?_) <;> simp only [decide_eq_true_eq, decide_eq_false_iff_not] at h1
   ·rintro hi m hm
    rw [inR_u64] at hi
    rw [wu8 (by omega)] at hm
    subst hm
    have e : numB m = [UInt8.ofNat m.toNat] := by unfold numB; rw [if_pos h1]
    rw [e] at h
    exact h
   ·have hk := klen_pos n.toNat
    have hn0 : 0 ≤ n := by omega
    refine loop_intro (A := L47 .nils [] n) (1 : Nat) ?_ ⟨Nat.le_refl _, hk.1⟩ ?_
    ·simp (maxSteps:=9^9) only [L47_I, go_sem, Int.reduceLT, Int.reduceLE, Int.reduceEq, Int.reduceNe, Int.reduceAdd, Int.reduceSub, Int.reduceMul, Int.reduceToNat, Int.reduceNeg, Nat.reduceEqDiff, Nat.reduceLeDiff, Nat.reduceSub, Nat.reduceMul, Nat.reduceLT, Nat.reduceBEq, Nat.reduceAdd]
     rfl
    ·intro (i : Nat) (hi : 1 ≤ i ∧ i ≤ klen n.toNat)
     simp (maxSteps:=9^9) only [L47_I, go_sem, Int.reduceLT, Int.reduceLE, Int.reduceEq, Int.reduceNe, Int.reduceAdd, Int.reduceSub, Int.reduceMul, Int.reduceToNat, Int.reduceNeg, Nat.reduceEqDiff, Nat.reduceLeDiff, Nat.reduceSub, Nat.reduceMul, Nat.reduceLT, Nat.reduceBEq, Nat.reduceAdd]
     rintro c rfl
     refine sw_intro (fun hc => ?_) (fun hc => ?_) <;> simp only [decide_eq_true_eq, decide_eq_false_iff_not] at hc
     ·rintro _ _ m hm
      rw [w64 (by omega)] at hm
      subst hm
      rintro _ m0 hm0
      rw [wu64 (by omega)] at hm0
      subst hm0
      refine ⟨by omega, fun _ hnn _ m1 hm1 => ?_⟩
      have hn1 : n ≤ 18446744073709551615 := (inR_u64.1 hnn).2
      rw [show (8 * (i : Int)).toNat = 8 * i by omega, Nat.min_eq_left (by omega), fdiv256 hn0] at hm1
      rintro c rfl
      refine sw_intro (fun hc2 => ?_) (fun hc2 => ?_) <;> simp only [decide_eq_true_eq, decide_eq_false_iff_not] at hc2
      ·rintro _ _ m2 hm2
       rw [w64 (by omega)] at hm2
       subst hm2
       have hik : i ≠ klen n.toNat := fun e => by
        have := klen_hi hn1
        rw [← e] at this
        rw [hm1, Int.ediv_eq_zero_of_lt hn0 this] at hc2
        omega
       refine lpE_intro (A := L47 .nils [] n) (i + 1 : Nat) ?_ ⟨by omega, by omega⟩ (by show klen n.toNat - (i + 1) < klen n.toNat - i; omega)
       simp (maxSteps:=9^9) only [L47_I, go_sem, Int.reduceLT, Int.reduceLE, Int.reduceEq, Int.reduceNe, Int.reduceAdd, Int.reduceSub, Int.reduceMul, Int.reduceToNat, Int.reduceNeg, Nat.reduceEqDiff, Nat.reduceLeDiff, Nat.reduceSub, Nat.reduceMul, Nat.reduceLT, Nat.reduceBEq, Nat.reduceAdd]
       rfl
      ·have hik : i = klen n.toNat := by
        rcases Nat.lt_or_ge i (klen n.toNat) with h | h
        ·exfalso
         have h256 : 256 ≤ n := by
          rcases (by omega : n < 256 ∨ 256 ≤ n) with h | h
          ·have := klen_of (n := n) (k := 1) (.inl ⟨rfl, h⟩); omega
          ·exact h
         have := klen_lo (n := n) h256 (i - 1) (by omega)
         rw [show i - 1 + 1 = i by omega] at this
         have h0 : (0 : Int) < 256 ^ i := Int.pow_pos (by decide)
         have h1 : 1 ≤ n / 256 ^ i := Int.le_ediv_of_mul_le h0 (by omega)
         rw [← hm1] at h1
         omega
        ·omega
       subst hik
       rintro _ _ m hm
       rw [w64 (by omega)] at hm
       subst hm
       rintro _ m1 hm1
       rw [wu8 (by omega)] at hm1
       subst hm1
       rintro _ _ m2 hm2
       rw [w64 (by omega)] at hm2
       subst hm2
       have e2 : ((247 : Int) + (klen n.toNat : Int)).toNat = 247 + klen n.toNat := by omega
       rw [e2]
       have e : numB n = UInt8.ofNat (247 + klen n.toNat) :: beB (klen n.toNat) n.toNat := by unfold numB; rw [if_neg h1]
       rw [e] at h
       refine loop_intro (A := M47 [] n) (0 : Nat) ?_ (Nat.zero_le _) ?_
       ·simp (maxSteps:=9^9) only [M47, cntA_I, go_sem, Int.reduceLT, Int.reduceLE, Int.reduceEq, Int.reduceNe, Int.reduceAdd, Int.reduceSub, Int.reduceMul, Int.reduceToNat, Int.reduceNeg, Nat.reduceEqDiff, Nat.reduceLeDiff, Nat.reduceSub, Nat.reduceMul, Nat.reduceLT, Nat.reduceBEq, Nat.reduceAdd]
        rw [show ((klen n.toNat : Int) - 1 - ((0 : Nat) : Int)) = (klen n.toNat : Int) - 1 by omega]
        rfl
       ·intro (i : Nat) (hi : i ≤ klen n.toNat)
        simp (maxSteps:=9^9) only [M47, cntA_I, go_sem, Int.reduceLT, Int.reduceLE, Int.reduceEq, Int.reduceNe, Int.reduceAdd, Int.reduceSub, Int.reduceMul, Int.reduceToNat, Int.reduceNeg, Nat.reduceEqDiff, Nat.reduceLeDiff, Nat.reduceSub, Nat.reduceMul, Nat.reduceLT, Nat.reduceBEq, Nat.reduceAdd]
        rintro c rfl
        refine sw_intro (fun hc => ?_) (fun hc => ?_) <;> simp only [decide_eq_true_eq, decide_eq_false_iff_not] at hc
        ·have hlt : i < klen n.toNat := by omega
         rintro _ _ m hm
         rw [w64 (by omega)] at hm
         subst hm
         rintro _ m0 hm0
         rw [wu64 (by omega)] at hm0
         subst hm0
         refine ⟨by omega, fun _ _ _ m1 hm1 => ?_⟩
         have hx : (8 * ((klen n.toNat : Int) - 1 - i)).toNat = 8 * (klen n.toNat - 1 - i) := by omega
         rw [hx, Nat.min_eq_left (by omega)] at hm1
         rintro _ m2 hm2
         have hb2 : UInt8.ofNat m2.toNat = UInt8.ofNat (n.toNat / 256 ^ (klen n.toNat - 1 - i)) := by
          rw [hm2, hm1, byte_at hn0]
         have hlen : (([] : List UInt8) ++ UInt8.ofNat (247 + klen n.toNat) :: List.take i (beB (klen n.toNat) n.toNat)).length = ([] : List UInt8).length + (1 + i) := by
          simp [beB_length]; omega
         have hlen0 : (UInt8.ofNat (247 + klen n.toNat) :: List.take i (beB (klen n.toNat) n.toNat)).length = 1 + i := by
          simp [beB_length]; omega
         refine ⟨fun _ => by first | (rw [hlen]; omega) | (simp [beB_length]; omega), fun _ _ _ m3 hm3 => ?_⟩
         rw [w64 (by omega)] at hm3
         subst hm3
         refine cntA_next hlt ?_
         simp (maxSteps:=9^9) only [go_sem, Int.reduceLT, Int.reduceLE, Int.reduceEq, Int.reduceNe, Int.reduceAdd, Int.reduceSub, Int.reduceMul, Int.reduceToNat, Int.reduceNeg, Nat.reduceEqDiff, Nat.reduceLeDiff, Nat.reduceSub, Nat.reduceMul, Nat.reduceLT, Nat.reduceBEq, Nat.reduceAdd]
         rw [hb2]
         first | rw [List.append_assoc, List.cons_append, take_snoc (beB_get hlt)] | rw [take_snoc (beB_get hlt)]
         rw [show ((klen n.toNat : Int) - 1 - ((i + 1 : Nat) : Int)) = (klen n.toNat : Int) - 1 - i - 1 by omega]
         try rfl
        ·have : i = klen n.toNat := by omega
         subst this
         rw [List.take_of_length_le (by rw [beB_length]; exact Nat.le_refl _)]
         exact h
     ·have hik : i = klen n.toNat := by omega
      subst hik
      rintro _ _ m hm
      rw [w64 (by omega)] at hm
      subst hm
      rintro _ m1 hm1
      rw [wu8 (by omega)] at hm1
      subst hm1
      rintro _ _ m2 hm2
      rw [w64 (by omega)] at hm2
      subst hm2
      have e2 : ((247 : Int) + (klen n.toNat : Int)).toNat = 247 + klen n.toNat := by omega
      rw [e2]
      have e : numB n = UInt8.ofNat (247 + klen n.toNat) :: beB (klen n.toNat) n.toNat := by unfold numB; rw [if_neg h1]
      rw [e] at h
      refine loop_intro (A := M47 [] n) (0 : Nat) ?_ (Nat.zero_le _) ?_
      ·simp (maxSteps:=9^9) only [M47, cntA_I, go_sem, Int.reduceLT, Int.reduceLE, Int.reduceEq, Int.reduceNe, Int.reduceAdd, Int.reduceSub, Int.reduceMul, Int.reduceToNat, Int.reduceNeg, Nat.reduceEqDiff, Nat.reduceLeDiff, Nat.reduceSub, Nat.reduceMul, Nat.reduceLT, Nat.reduceBEq, Nat.reduceAdd]
       rw [show ((klen n.toNat : Int) - 1 - ((0 : Nat) : Int)) = (klen n.toNat : Int) - 1 by omega]
       rfl
      ·intro (i : Nat) (hi : i ≤ klen n.toNat)
       simp (maxSteps:=9^9) only [M47, cntA_I, go_sem, Int.reduceLT, Int.reduceLE, Int.reduceEq, Int.reduceNe, Int.reduceAdd, Int.reduceSub, Int.reduceMul, Int.reduceToNat, Int.reduceNeg, Nat.reduceEqDiff, Nat.reduceLeDiff, Nat.reduceSub, Nat.reduceMul, Nat.reduceLT, Nat.reduceBEq, Nat.reduceAdd]
       rintro c rfl
       refine sw_intro (fun hc => ?_) (fun hc => ?_) <;> simp only [decide_eq_true_eq, decide_eq_false_iff_not] at hc
       ·have hlt : i < klen n.toNat := by omega
        rintro _ _ m hm
        rw [w64 (by omega)] at hm
        subst hm
        rintro _ m0 hm0
        rw [wu64 (by omega)] at hm0
        subst hm0
        refine ⟨by omega, fun _ _ _ m1 hm1 => ?_⟩
        have hx : (8 * ((klen n.toNat : Int) - 1 - i)).toNat = 8 * (klen n.toNat - 1 - i) := by omega
        rw [hx, Nat.min_eq_left (by omega)] at hm1
        rintro _ m2 hm2
        have hb2 : UInt8.ofNat m2.toNat = UInt8.ofNat (n.toNat / 256 ^ (klen n.toNat - 1 - i)) := by
         rw [hm2, hm1, byte_at hn0]
        have hlen : (([] : List UInt8) ++ UInt8.ofNat (247 + klen n.toNat) :: List.take i (beB (klen n.toNat) n.toNat)).length = ([] : List UInt8).length + (1 + i) := by
         simp [beB_length]; omega
        have hlen0 : (UInt8.ofNat (247 + klen n.toNat) :: List.take i (beB (klen n.toNat) n.toNat)).length = 1 + i := by
         simp [beB_length]; omega
        refine ⟨fun _ => by first | (rw [hlen]; omega) | (simp [beB_length]; omega), fun _ _ _ m3 hm3 => ?_⟩
        rw [w64 (by omega)] at hm3
        subst hm3
        refine cntA_next hlt ?_
        simp (maxSteps:=9^9) only [go_sem, Int.reduceLT, Int.reduceLE, Int.reduceEq, Int.reduceNe, Int.reduceAdd, Int.reduceSub, Int.reduceMul, Int.reduceToNat, Int.reduceNeg, Nat.reduceEqDiff, Nat.reduceLeDiff, Nat.reduceSub, Nat.reduceMul, Nat.reduceLT, Nat.reduceBEq, Nat.reduceAdd]
        rw [hb2]
        first | rw [List.append_assoc, List.cons_append, take_snoc (beB_get hlt)] | rw [take_snoc (beB_get hlt)]
        rw [show ((klen n.toNat : Int) - 1 - ((i + 1 : Nat) : Int)) = (klen n.toNat : Int) - 1 - i - 1 by omega]
        try rfl
       ·have : i = klen n.toNat := by omega
        subst this
        rw [List.take_of_length_le (by rw [beB_length]; exact Nat.le_refl _)]
        exact h
  ·refine ⟨by simp, [(1, L47 (.own 0) [.row false 1 .byte bs] n), (2, M47 bs n)], ?_⟩
   simp (maxSteps:=9^9) only [a47, r47, go_sem, Int.reduceLT, Int.reduceLE, Int.reduceEq, Int.reduceNe, Int.reduceAdd, Int.reduceSub, Int.reduceMul, Int.reduceToNat, Int.reduceNeg, Nat.reduceEqDiff, Nat.reduceLeDiff, Nat.reduceSub, Nat.reduceMul, Nat.reduceLT, Nat.reduceBEq, Nat.reduceAdd]
   rintro c rfl
   refine sw_intro (fun h1 => ?_) (fun h1 => ?_) <;> simp only [decide_eq_true_eq, decide_eq_false_iff_not] at h1
   ·rintro hi m hm
    rw [inR_u64] at hi
    rw [wu8 (by omega)] at hm
    subst hm
    have e : numB m = [UInt8.ofNat m.toNat] := by unfold numB; rw [if_pos h1]
    rw [e] at h
    exact ⟨fun _ => by omega, fun _ => h⟩
   ·have hk := klen_pos n.toNat
    have hn0 : 0 ≤ n := by omega
    refine loop_intro (A := L47 (.own 0) [.row false 1 .byte bs] n) (1 : Nat) ?_ ⟨Nat.le_refl _, hk.1⟩ ?_
    ·simp (maxSteps:=9^9) only [L47_I, go_sem, Int.reduceLT, Int.reduceLE, Int.reduceEq, Int.reduceNe, Int.reduceAdd, Int.reduceSub, Int.reduceMul, Int.reduceToNat, Int.reduceNeg, Nat.reduceEqDiff, Nat.reduceLeDiff, Nat.reduceSub, Nat.reduceMul, Nat.reduceLT, Nat.reduceBEq, Nat.reduceAdd]
     rfl
    ·intro (i : Nat) (hi : 1 ≤ i ∧ i ≤ klen n.toNat)
     simp (maxSteps:=9^9) only [L47_I, go_sem, Int.reduceLT, Int.reduceLE, Int.reduceEq, Int.reduceNe, Int.reduceAdd, Int.reduceSub, Int.reduceMul, Int.reduceToNat, Int.reduceNeg, Nat.reduceEqDiff, Nat.reduceLeDiff, Nat.reduceSub, Nat.reduceMul, Nat.reduceLT, Nat.reduceBEq, Nat.reduceAdd]
     rintro c rfl
     refine sw_intro (fun hc => ?_) (fun hc => ?_) <;> simp only [decide_eq_true_eq, decide_eq_false_iff_not] at hc
     ·rintro _ _ m hm
      rw [w64 (by omega)] at hm
      subst hm
      rintro _ m0 hm0
      rw [wu64 (by omega)] at hm0
      subst hm0
      refine ⟨by omega, fun _ hnn _ m1 hm1 => ?_⟩
      have hn1 : n ≤ 18446744073709551615 := (inR_u64.1 hnn).2
      rw [show (8 * (i : Int)).toNat = 8 * i by omega, Nat.min_eq_left (by omega), fdiv256 hn0] at hm1
      rintro c rfl
      refine sw_intro (fun hc2 => ?_) (fun hc2 => ?_) <;> simp only [decide_eq_true_eq, decide_eq_false_iff_not] at hc2
      ·rintro _ _ m2 hm2
       rw [w64 (by omega)] at hm2
       subst hm2
       have hik : i ≠ klen n.toNat := fun e => by
        have := klen_hi hn1
        rw [← e] at this
        rw [hm1, Int.ediv_eq_zero_of_lt hn0 this] at hc2
        omega
       refine lpE_intro (A := L47 (.own 0) [.row false 1 .byte bs] n) (i + 1 : Nat) ?_ ⟨by omega, by omega⟩ (by show klen n.toNat - (i + 1) < klen n.toNat - i; omega)
       simp (maxSteps:=9^9) only [L47_I, go_sem, Int.reduceLT, Int.reduceLE, Int.reduceEq, Int.reduceNe, Int.reduceAdd, Int.reduceSub, Int.reduceMul, Int.reduceToNat, Int.reduceNeg, Nat.reduceEqDiff, Nat.reduceLeDiff, Nat.reduceSub, Nat.reduceMul, Nat.reduceLT, Nat.reduceBEq, Nat.reduceAdd]
       rfl
      ·have hik : i = klen n.toNat := by
        rcases Nat.lt_or_ge i (klen n.toNat) with h | h
        ·exfalso
         have h256 : 256 ≤ n := by
          rcases (by omega : n < 256 ∨ 256 ≤ n) with h | h
          ·have := klen_of (n := n) (k := 1) (.inl ⟨rfl, h⟩); omega
          ·exact h
         have := klen_lo (n := n) h256 (i - 1) (by omega)
         rw [show i - 1 + 1 = i by omega] at this
         have h0 : (0 : Int) < 256 ^ i := Int.pow_pos (by decide)
         have h1 : 1 ≤ n / 256 ^ i := Int.le_ediv_of_mul_le h0 (by omega)
         rw [← hm1] at h1
         omega
        ·omega
       subst hik
       rintro _ _ m hm
       rw [w64 (by omega)] at hm
       subst hm
       rintro _ m1 hm1
       rw [wu8 (by omega)] at hm1
       subst hm1
       refine ⟨fun _ => by omega, fun _ => ?_⟩
       rintro _ _ m2 hm2
       rw [w64 (by omega)] at hm2
       subst hm2
       have e2 : ((247 : Int) + (klen n.toNat : Int)).toNat = 247 + klen n.toNat := by omega
       rw [e2]
       have e : numB n = UInt8.ofNat (247 + klen n.toNat) :: beB (klen n.toNat) n.toNat := by unfold numB; rw [if_neg h1]
       rw [e] at h
       refine loop_intro (A := M47 bs n) (0 : Nat) ?_ (Nat.zero_le _) ?_
       ·simp (maxSteps:=9^9) only [M47, cntA_I, go_sem, Int.reduceLT, Int.reduceLE, Int.reduceEq, Int.reduceNe, Int.reduceAdd, Int.reduceSub, Int.reduceMul, Int.reduceToNat, Int.reduceNeg, Nat.reduceEqDiff, Nat.reduceLeDiff, Nat.reduceSub, Nat.reduceMul, Nat.reduceLT, Nat.reduceBEq, Nat.reduceAdd]
        rw [show ((klen n.toNat : Int) - 1 - ((0 : Nat) : Int)) = (klen n.toNat : Int) - 1 by omega]
        rfl
       ·intro (i : Nat) (hi : i ≤ klen n.toNat)
        simp (maxSteps:=9^9) only [M47, cntA_I, go_sem, Int.reduceLT, Int.reduceLE, Int.reduceEq, Int.reduceNe, Int.reduceAdd, Int.reduceSub, Int.reduceMul, Int.reduceToNat, Int.reduceNeg, Nat.reduceEqDiff, Nat.reduceLeDiff, Nat.reduceSub, Nat.reduceMul, Nat.reduceLT, Nat.reduceBEq, Nat.reduceAdd]
        rintro c rfl
        refine sw_intro (fun hc => ?_) (fun hc => ?_) <;> simp only [decide_eq_true_eq, decide_eq_false_iff_not] at hc
        ·have hlt : i < klen n.toNat := by omega
         rintro _ _ m hm
         rw [w64 (by omega)] at hm
         subst hm
         rintro _ m0 hm0
         rw [wu64 (by omega)] at hm0
         subst hm0
         refine ⟨by omega, fun _ _ _ m1 hm1 => ?_⟩
         have hx : (8 * ((klen n.toNat : Int) - 1 - i)).toNat = 8 * (klen n.toNat - 1 - i) := by omega
         rw [hx, Nat.min_eq_left (by omega)] at hm1
         rintro _ m2 hm2
         have hb2 : UInt8.ofNat m2.toNat = UInt8.ofNat (n.toNat / 256 ^ (klen n.toNat - 1 - i)) := by
          rw [hm2, hm1, byte_at hn0]
         have hlen : (bs ++ UInt8.ofNat (247 + klen n.toNat) :: List.take i (beB (klen n.toNat) n.toNat)).length = bs.length + (1 + i) := by
          simp [beB_length]; omega
         have hlen0 : (UInt8.ofNat (247 + klen n.toNat) :: List.take i (beB (klen n.toNat) n.toNat)).length = 1 + i := by
          simp [beB_length]; omega
         refine ⟨fun _ => by first | (rw [hlen]; omega) | (simp [beB_length]; omega), fun _ _ _ m3 hm3 => ?_⟩
         rw [w64 (by omega)] at hm3
         subst hm3
         refine cntA_next hlt ?_
         simp (maxSteps:=9^9) only [go_sem, Int.reduceLT, Int.reduceLE, Int.reduceEq, Int.reduceNe, Int.reduceAdd, Int.reduceSub, Int.reduceMul, Int.reduceToNat, Int.reduceNeg, Nat.reduceEqDiff, Nat.reduceLeDiff, Nat.reduceSub, Nat.reduceMul, Nat.reduceLT, Nat.reduceBEq, Nat.reduceAdd]
         rw [hb2]
         first | rw [List.append_assoc, List.cons_append, take_snoc (beB_get hlt)] | rw [take_snoc (beB_get hlt)]
         rw [show ((klen n.toNat : Int) - 1 - ((i + 1 : Nat) : Int)) = (klen n.toNat : Int) - 1 - i - 1 by omega]
         try rfl
        ·have : i = klen n.toNat := by omega
         subst this
         rw [List.take_of_length_le (by rw [beB_length]; exact Nat.le_refl _)]
         exact h
     ·have hik : i = klen n.toNat := by omega
      subst hik
      rintro _ _ m hm
      rw [w64 (by omega)] at hm
      subst hm
      rintro _ m1 hm1
      rw [wu8 (by omega)] at hm1
      subst hm1
      refine ⟨fun _ => by omega, fun _ => ?_⟩
      rintro _ _ m2 hm2
      rw [w64 (by omega)] at hm2
      subst hm2
      have e2 : ((247 : Int) + (klen n.toNat : Int)).toNat = 247 + klen n.toNat := by omega
      rw [e2]
      have e : numB n = UInt8.ofNat (247 + klen n.toNat) :: beB (klen n.toNat) n.toNat := by unfold numB; rw [if_neg h1]
      rw [e] at h
      refine loop_intro (A := M47 bs n) (0 : Nat) ?_ (Nat.zero_le _) ?_
      ·simp (maxSteps:=9^9) only [M47, cntA_I, go_sem, Int.reduceLT, Int.reduceLE, Int.reduceEq, Int.reduceNe, Int.reduceAdd, Int.reduceSub, Int.reduceMul, Int.reduceToNat, Int.reduceNeg, Nat.reduceEqDiff, Nat.reduceLeDiff, Nat.reduceSub, Nat.reduceMul, Nat.reduceLT, Nat.reduceBEq, Nat.reduceAdd]
       rw [show ((klen n.toNat : Int) - 1 - ((0 : Nat) : Int)) = (klen n.toNat : Int) - 1 by omega]
       rfl
      ·intro (i : Nat) (hi : i ≤ klen n.toNat)
       simp (maxSteps:=9^9) only [M47, cntA_I, go_sem, Int.reduceLT, Int.reduceLE, Int.reduceEq, Int.reduceNe, Int.reduceAdd, Int.reduceSub, Int.reduceMul, Int.reduceToNat, Int.reduceNeg, Nat.reduceEqDiff, Nat.reduceLeDiff, Nat.reduceSub, Nat.reduceMul, Nat.reduceLT, Nat.reduceBEq, Nat.reduceAdd]
       rintro c rfl
       refine sw_intro (fun hc => ?_) (fun hc => ?_) <;> simp only [decide_eq_true_eq, decide_eq_false_iff_not] at hc
       ·have hlt : i < klen n.toNat := by omega
        rintro _ _ m hm
        rw [w64 (by omega)] at hm
        subst hm
        rintro _ m0 hm0
        rw [wu64 (by omega)] at hm0
        subst hm0
        refine ⟨by omega, fun _ _ _ m1 hm1 => ?_⟩
        have hx : (8 * ((klen n.toNat : Int) - 1 - i)).toNat = 8 * (klen n.toNat - 1 - i) := by omega
        rw [hx, Nat.min_eq_left (by omega)] at hm1
        rintro _ m2 hm2
        have hb2 : UInt8.ofNat m2.toNat = UInt8.ofNat (n.toNat / 256 ^ (klen n.toNat - 1 - i)) := by
         rw [hm2, hm1, byte_at hn0]
        have hlen : (bs ++ UInt8.ofNat (247 + klen n.toNat) :: List.take i (beB (klen n.toNat) n.toNat)).length = bs.length + (1 + i) := by
         simp [beB_length]; omega
        have hlen0 : (UInt8.ofNat (247 + klen n.toNat) :: List.take i (beB (klen n.toNat) n.toNat)).length = 1 + i := by
         simp [beB_length]; omega
        refine ⟨fun _ => by first | (rw [hlen]; omega) | (simp [beB_length]; omega), fun _ _ _ m3 hm3 => ?_⟩
        rw [w64 (by omega)] at hm3
        subst hm3
        refine cntA_next hlt ?_
        simp (maxSteps:=9^9) only [go_sem, Int.reduceLT, Int.reduceLE, Int.reduceEq, Int.reduceNe, Int.reduceAdd, Int.reduceSub, Int.reduceMul, Int.reduceToNat, Int.reduceNeg, Nat.reduceEqDiff, Nat.reduceLeDiff, Nat.reduceSub, Nat.reduceMul, Nat.reduceLT, Nat.reduceBEq, Nat.reduceAdd]
        rw [hb2]
        first | rw [List.append_assoc, List.cons_append, take_snoc (beB_get hlt)] | rw [take_snoc (beB_get hlt)]
        rw [show ((klen n.toNat : Int) - 1 - ((i + 1 : Nat) : Int)) = (klen n.toNat : Int) - 1 - i - 1 by omega]
        try rfl
       ·have : i = klen n.toNat := by omega
        subst this
        rw [List.take_of_length_le (by rw [beB_length]; exact Nat.le_refl _)]
        exact h
 ·exact h.elim
def C48 : Contract := fun args hp K => match args with
 | [x, .str s] => onBy x hp fun bs => bs.length + s.size ≤ 70368744177664 ∧ K (.own 0) [.row true 1 .byte (bs ++ textB s)]
 | _ => False
theorem s48 : Sound Tryd.prog 48 C48 := by
 refine sound_of_okF ok48 (.cons s47 (callable_of_okF ok47) .nil) ?_
 intro args hp K h
 unfold C48 at h
 split at h
 ·rename_i s
  have hl := (numB_length s.size).2
  have hs : s.data.toList.length = s.size := by rw [Array.length_toList]; rfl
  rcases h with ⟨rfl, rfl, hb, h⟩ | ⟨bs, rfl, rfl, hb, h⟩
  ·refine ⟨by simp, [], ?_⟩
   simp (maxSteps:=9^9) only [a48, r48, C47, go_sem, Int.reduceLT, Int.reduceLE, Int.reduceEq, Int.reduceNe, Int.reduceAdd, Int.reduceSub, Int.reduceMul, Int.reduceToNat, Int.reduceNeg, Nat.reduceEqDiff, Nat.reduceLeDiff, Nat.reduceSub, Nat.reduceMul, Nat.reduceLT, Nat.reduceBEq, Nat.reduceAdd]
   simp only [List.length_nil] at hb
   rintro _ m rfl _ m1 hm1
   rw [wu64 (by omega)] at hm1
   subst hm1
   refine ⟨fun _ _ => by rw [hs]; omega, fun _ => h⟩
  ·refine ⟨by simp, [], ?_⟩
   simp (maxSteps:=9^9) only [a48, r48, C47, go_sem, Int.reduceLT, Int.reduceLE, Int.reduceEq, Int.reduceNe, Int.reduceAdd, Int.reduceSub, Int.reduceMul, Int.reduceToNat, Int.reduceNeg, Nat.reduceEqDiff, Nat.reduceLeDiff, Nat.reduceSub, Nat.reduceMul, Nat.reduceLT, Nat.reduceBEq, Nat.reduceAdd]
   rintro _ m rfl _ m1 hm1
   rw [wu64 (by omega)] at hm1
   subst hm1
   refine ⟨by omega, fun _ _ => by rw [hs, List.length_append]; omega, fun _ => ?_⟩
   rw [List.append_assoc]
   exact h
 ·exact h.elim
theorem or_one {a : Int} (h : 0 ≤ a ∧ a ≤ 9223372036854775807) : bitsI .or .u64 (a * 2) 1 = a * 2 + 1 := by
 obtain ⟨x, rfl⟩ := Int.eq_ofNat_of_zero_le h.1
 have h : x <<< 1 + 1 = x <<< 1 ||| 1 := Nat.shiftLeft_add_eq_or_of_lt (by decide) x
 rw [Nat.shiftLeft_eq] at h
 have e1 : ((x : Int) * 2) = ((x * 2 : Nat) : Int) := by omega
 show IntKind.u64.wrap ((BitVec.ofInt 64 ((x : Int) * 2) ||| BitVec.ofInt 64 1).toNat : Int) = _
 have e2 : BitVec.ofInt 64 1 = BitVec.ofNat 64 1 := rfl
 have e3 : (BitVec.ofNat 64 1).toNat = 1 := rfl
 rw [e1, e2, BitVec.ofInt_natCast, BitVec.toNat_or, BitVec.toNat_ofNat, e3, Nat.mod_eq_of_lt (by omega), u64wrap]
 have h' : x * 2 ^ 1 + 1 = x * 2 ||| 1 := h
 rw [← h']
 omega
def C49 : Contract := fun args hp K => match args with
 | [x, .int .i64 n] => onBy x hp fun bs => bs.length ≤ 70368744177664 ∧ K (.own 0) [.row true 1 .byte (bs ++ numB (zig n))]
 | _ => False
theorem s49 : Sound Tryd.prog 49 C49 := by
 refine sound_of_okF ok49 (.cons s47 (callable_of_okF ok47) .nil) ?_
 intro args hp K h
 unfold C49 at h
 split at h
 ·rename_i n
  rcases h with ⟨rfl, rfl, hb, h⟩ | ⟨bs, rfl, rfl, hb, h⟩
  ·refine ⟨by simp, [], ?_⟩
   simp (maxSteps:=9^9) only [a49, r49, C47, go_sem, Int.reduceLT, Int.reduceLE, Int.reduceEq, Int.reduceNe, Int.reduceAdd, Int.reduceSub, Int.reduceMul, Int.reduceToNat, Int.reduceNeg, Nat.reduceEqDiff, Nat.reduceLeDiff, Nat.reduceSub, Nat.reduceMul, Nat.reduceLT, Nat.reduceBEq, Nat.reduceAdd]
   rintro c rfl
   refine sw_intro (fun h1 => ?_) (fun h1 => ?_) <;> simp only [decide_eq_true_eq, decide_eq_false_iff_not] at h1
   ·rintro hn m hm
    rw [inR_i64] at hn
    rw [wu64 (by omega)] at hm
    subst hm
    rintro _ _ m1 hm1
    have e : m1 = zig m := by
     rw [hm1, show (2 : Int) ^ min 1 64 = 2 from rfl, u64wrap]; unfold zig; rw [if_pos h1]; omega
    subst e
    exact h
   ·rintro hn _ m hm
    rw [inR_i64] at hn
    rw [w64 (by omega)] at hm
    subst hm
    rintro _ m1 hm1
    rw [w64 (by omega)] at hm1
    subst hm1
    rintro _ m2 hm2
    rw [wu64 (by omega)] at hm2
    subst hm2
    rintro _ _ m3 hm3
    rw [show (2 : Int) ^ min 1 64 = 2 from rfl, wu64 (by omega)] at hm3
    subst hm3
    rintro _ _ m4 hm4
    rw [or_one (by omega)] at hm4
    have e : m4 = zig n := by rw [hm4]; unfold zig; rw [if_neg h1]; omega
    subst e
    exact h
  ·refine ⟨by simp, [], ?_⟩
   simp (maxSteps:=9^9) only [a49, r49, C47, go_sem, Int.reduceLT, Int.reduceLE, Int.reduceEq, Int.reduceNe, Int.reduceAdd, Int.reduceSub, Int.reduceMul, Int.reduceToNat, Int.reduceNeg, Nat.reduceEqDiff, Nat.reduceLeDiff, Nat.reduceSub, Nat.reduceMul, Nat.reduceLT, Nat.reduceBEq, Nat.reduceAdd]
   rintro c rfl
   refine sw_intro (fun h1 => ?_) (fun h1 => ?_) <;> simp only [decide_eq_true_eq, decide_eq_false_iff_not] at h1
   ·rintro hn m hm
    rw [inR_i64] at hn
    rw [wu64 (by omega)] at hm
    subst hm
    rintro _ _ m1 hm1
    have e : m1 = zig m := by
     rw [hm1, show (2 : Int) ^ min 1 64 = 2 from rfl, u64wrap]; unfold zig; rw [if_pos h1]; omega
    subst e
    exact ⟨hb, h⟩
   ·rintro hn _ m hm
    rw [inR_i64] at hn
    rw [w64 (by omega)] at hm
    subst hm
    rintro _ m1 hm1
    rw [w64 (by omega)] at hm1
    subst hm1
    rintro _ m2 hm2
    rw [wu64 (by omega)] at hm2
    subst hm2
    rintro _ _ m3 hm3
    rw [show (2 : Int) ^ min 1 64 = 2 from rfl, wu64 (by omega)] at hm3
    subst hm3
    rintro _ _ m4 hm4
    rw [or_one (by omega)] at hm4
    have e : m4 = zig n := by rw [hm4]; unfold zig; rw [if_neg h1]; omega
    subst e
    exact ⟨hb, h⟩
 ·exact h.elim
def C55 : Contract := fun args hp K => match args, hp with
 | [.sl true 1 .byte xs], [] => K (.ptr 0 0) [rdH (some xs)]
 | _, _ => False
theorem s55 : Sound Tryd.prog 55 C55 := by
 refine sound_of_okF ok55 .nil ?_
 intro args hp K h
 unfold C55 at h
 split at h
 ·refine ⟨by simp, [], ?_⟩
  simp (maxSteps:=9^9) only [a55, r55, go_sem, Int.reduceLT, Int.reduceLE, Int.reduceEq, Int.reduceNe, Int.reduceAdd, Int.reduceSub, Int.reduceMul, Int.reduceToNat, Int.reduceNeg, Nat.reduceEqDiff, Nat.reduceLeDiff, Nat.reduceSub, Nat.reduceMul, Nat.reduceLT, Nat.reduceBEq, Nat.reduceAdd]
  exact h
 ·exact h.elim
def C59 : Contract := fun args hp K => match args with
 | [.ptr 0 0] => onRd hp fun st => K (.bool (decide (st = some []))) [rdH st]
 | _ => False
theorem s59 : Sound Tryd.prog 59 C59 := by
 refine sound_of_okF ok59 .nil ?_
 intro args hp K h
 unfold C59 at h
 split at h
 ·obtain ⟨st, rfl, h⟩ := h
  refine ⟨by simp, [], ?_⟩
  unfold rdH at h ⊢
  simp (maxSteps:=9^9) only [a59, r59, go_sem, Int.reduceLT, Int.reduceLE, Int.reduceEq, Int.reduceNe, Int.reduceAdd, Int.reduceSub, Int.reduceMul, Int.reduceToNat, Int.reduceNeg, Nat.reduceEqDiff, Nat.reduceLeDiff, Nat.reduceSub, Nat.reduceMul, Nat.reduceLT, Nat.reduceBEq, Nat.reduceAdd]
  refine sw_intro (fun h1 => ?_) (fun h1 => ?_)
  ·cases st with
   | none => exact h
   | some bs => cases h1
  ·cases st with
   | none => cases h1
   | some bs =>
    rintro _ _ m rfl c hc
    have e : c = decide (some bs = some ([] : List UInt8)) := by
     rw [hc]; cases bs <;> simp
     omega
    rw [e]; exact h
 ·exact h.elim
def C71 : Contract := fun args hp K => match args, hp with
 | [.ptr 0 0], [.struct [.sl p 1 .byte bs, .bool b]] => K (.tup []) [.struct [.nils, .bool true]]
 | _, _ => False
theorem s71 : Sound Tryd.prog 71 C71 := by
 refine sound_of_okF ok71 .nil ?_
 intro args hp K h
 unfold C71 at h
 split at h
 ·refine ⟨by simp, [], ?_⟩
  simp (maxSteps:=9^9) only [a71, r71, go_sem, Int.reduceLT, Int.reduceLE, Int.reduceEq, Int.reduceNe, Int.reduceAdd, Int.reduceSub, Int.reduceMul, Int.reduceToNat, Int.reduceNeg, Nat.reduceEqDiff, Nat.reduceLeDiff, Nat.reduceSub, Nat.reduceMul, Nat.reduceLT, Nat.reduceBEq, Nat.reduceAdd]
  exact h
 ·exact h.elim
def C56 : Contract := fun args hp K => match args with
 | [.ptr 0 0] => onRd hp fun st => K (.int .u64 (rdNum st).1) [rdH (rdNum st).2]
 | _ => False
def L56 (bs r : List UInt8) (k : Nat) : LoopAnn := { G := Nat, I := fun i => ⟨[(0, .ptr 0 0), (4, .int .i64 k), (5, .int .u64 (beN (r.take (i - 1)))), (6, .int .i64 i)], [.struct [.sl true 1 .byte bs, .bool false]]⟩, R := fun _ i => 1 ≤ i ∧ i ≤ k + 1, μ := fun i => k + 1 - i }
theorem L56_I {bs r k} (i : Nat) : (L56 bs r k).I i = ⟨[(0, .ptr 0 0), (4, .int .i64 k), (5, .int .u64 (beN (r.take (i - 1)))), (6, .int .i64 i)], [.struct [.sl true 1 .byte bs, .bool false]]⟩ := rfl
theorem s56 : Sound Tryd.prog 56 C56 := by
 refine sound_of_okF ok56 (.cons s71 (callable_of_okF ok71) .nil) ?_
 intro args hp K h
 unfold C56 at h
 split at h
 ·obtain ⟨st, rfl, h⟩ := h
  cases st with
  | none =>
   refine ⟨by simp, [], ?_⟩
   unfold rdH at h ⊢
   simp only [Option.getD_none, Option.isNone_none]
   simp (maxSteps:=9^9) only [a56, r56, C71, go_sem, Int.reduceLT, Int.reduceLE, Int.reduceEq, Int.reduceNe, Int.reduceAdd, Int.reduceSub, Int.reduceMul, Int.reduceToNat, Int.reduceNeg, Nat.reduceEqDiff, Nat.reduceLeDiff, Nat.reduceSub, Nat.reduceMul, Nat.reduceLT, Nat.reduceBEq, Nat.reduceAdd]
   rintro _ m rfl c hc
   have : c = true := by rw [hc]; rfl
   subst this
   exact h
  | some bs =>
   cases bs with
   | nil =>
    refine ⟨by simp, [], ?_⟩
    unfold rdH at h ⊢
    simp only [Option.getD_some, Option.isNone_some]
    simp (maxSteps:=9^9) only [a56, r56, C71, go_sem, Int.reduceLT, Int.reduceLE, Int.reduceEq, Int.reduceNe, Int.reduceAdd, Int.reduceSub, Int.reduceMul, Int.reduceToNat, Int.reduceNeg, Nat.reduceEqDiff, Nat.reduceLeDiff, Nat.reduceSub, Nat.reduceMul, Nat.reduceLT, Nat.reduceBEq, Nat.reduceAdd]
    rintro _ m rfl c hc
    have : c = true := by rw [hc]; rfl
    subst this
    exact h
   | cons x r =>
    refine ⟨by simp, [(1, L56 (x :: r) r (x.toNat - 247))], ?_⟩
    unfold rdH at h ⊢
    simp only [Option.getD_some, Option.isNone_some]
    simp (maxSteps:=9^9) only [a56, r56, C71, go_sem, Int.reduceLT, Int.reduceLE, Int.reduceEq, Int.reduceNe, Int.reduceAdd, Int.reduceSub, Int.reduceMul, Int.reduceToNat, Int.reduceNeg, Nat.reduceEqDiff, Nat.reduceLeDiff, Nat.reduceSub, Nat.reduceMul, Nat.reduceLT, Nat.reduceBEq, Nat.reduceAdd]
    rintro hb0 hb m rfl c hc
    have : c = false := by rw [hc]; simp; omega
    subst this
    refine sw_intro (fun h => by cases h) (fun _ => nd_intro (by omega) ?_)
    have e0 : elt Ty.byte (x :: r) 0 = x := rfl
    have hx : x.toNat < 256 := x.toNat_lt
    simp only [e0]
    rintro c rfl
    refine sw_intro (fun h2 => ?_) (fun h2 => ?_) <;> simp only [decide_eq_true_eq, decide_eq_false_iff_not] at h2
    ·refine nd_intro (by omega) ?_
     rintro _ m hm
     rw [wu64 (by omega)] at hm
     subst hm
     refine nd_intro (by omega) ?_
     rintro ys rfl
     have e1 : rdNum (some (x :: r)) = ((x.toNat : Int), some r) := by
      simp only [rdNum, Option.bind_some, numR]
      rw [if_pos (by omega)]
     rw [e1] at h
     have e2 : List.take (r.length + 1 - 1) r = r := by simp
     rw [e2]
     exact h
    ·refine nd_intro (by omega) ?_
     rintro _ m hm
     rw [w64 (by omega)] at hm
     subst hm
     rintro _ _ m1 hm1
     rw [w64 (by omega)] at hm1
     have hmx := maxLen_val
     have hk : m1 = ((x.toNat - 247 : Nat) : Int) := by omega
     subst hk
     generalize hkk : x.toNat - 247 = k at *
     have hk1 : 1 ≤ k ∧ k ≤ 8 := by omega
     rintro _ _ m2 rfl _ _ m3 hm3
     rw [w64 (by omega)] at hm3
     rintro c rfl
     have e7 : rdNum (some (x :: r)) = match (if r.length < k then none else if beN (r.take k) < 248 ∨ r.headD 0 = 0 then none else some ((beN (r.take k) : Int), r.drop k)) with | some x => (x.1, some x.2) | none => (0, none) := by
      simp only [rdNum, Option.bind_some, numR]
      rw [if_neg (by omega), hkk]
      rfl
     have e8 : elt Ty.byte (x :: r) 1 = r.headD 0 := by cases r <;> rfl
     refine sw_intro (fun h3 => ?_) (fun h3 => ?_) <;> simp only [decide_eq_true_eq, decide_eq_false_iff_not] at h3
     ·rw [if_pos (by omega)] at e7
      rw [e7] at h
      exact h
     ·rw [if_neg (by omega)] at e7
      refine nd_intro (by omega) (nd_intro (by omega) ?_)
      rintro c rfl
      refine sw_intro (fun hc3 => ?_) (fun hc3 => ?_) <;> simp only [decide_eq_true_eq, decide_eq_false_iff_not, e8] at hc3
      ·rw [if_pos (.inr (UInt8.toNat_inj.1 (by show (r.headD 0).toNat = 0; omega)))] at e7
       rw [e7] at h
       exact h
      ·have hne : r.headD 0 ≠ 0 := fun h => hc3 (by rw [h]; rfl)
       refine loop_intro (A := L56 (x :: r) r k) (1 : Nat) ?_ ⟨Nat.le_refl _, by omega⟩ ?_
       ·simp (maxSteps:=9^9) only [L56_I, go_sem, Int.reduceLT, Int.reduceLE, Int.reduceEq, Int.reduceNe, Int.reduceAdd, Int.reduceSub, Int.reduceMul, Int.reduceToNat, Int.reduceNeg, Nat.reduceEqDiff, Nat.reduceLeDiff, Nat.reduceSub, Nat.reduceMul, Nat.reduceLT, Nat.reduceBEq, Nat.reduceAdd]
        rfl
       ·intro (i : Nat) (hi : 1 ≤ i ∧ i ≤ k + 1)
        simp (maxSteps:=9^9) only [L56_I, C71, go_sem, Int.reduceLT, Int.reduceLE, Int.reduceEq, Int.reduceNe, Int.reduceAdd, Int.reduceSub, Int.reduceMul, Int.reduceToNat, Int.reduceNeg, Nat.reduceEqDiff, Nat.reduceLeDiff, Nat.reduceSub, Nat.reduceMul, Nat.reduceLT, Nat.reduceBEq, Nat.reduceAdd]
        rintro c rfl
        refine sw_intro (fun hc => ?_) (fun hc => ?_) <;> simp only [decide_eq_true_eq, decide_eq_false_iff_not] at hc
        ·have he : elt Ty.byte (x :: r) i = elt Ty.byte r (i - 1) := by
          obtain ⟨j, rfl⟩ : ∃ j, i = j + 1 := ⟨i - 1, by omega⟩
          rfl
         rw [he]
         have hc8 : UInt8.toNat (elt Ty.byte r (i - 1)) < 256 := UInt8.toNat_lt _
         rintro _ _ m6 hm6
         refine nd_intro (by omega) ?_
         rintro _ m7 hm7
         rw [wu64 (by omega)] at hm7
         rintro _ _ m8 hm8
         rw [hm6, hm7, beN_step' (by omega) (by omega)] at hm8
         subst hm8
         rintro _ _ m9 hm9
         rw [w64 (by omega)] at hm9
         subst hm9
         refine lpE_intro (A := L56 (x :: r) r k) (i + 1 : Nat) ?_ ⟨by omega, by omega⟩ (by show k + 1 - (i + 1) < k + 1 - i; omega)
         simp (maxSteps:=9^9) only [L56_I, go_sem, Int.reduceLT, Int.reduceLE, Int.reduceEq, Int.reduceNe, Int.reduceAdd, Int.reduceSub, Int.reduceMul, Int.reduceToNat, Int.reduceNeg, Nat.reduceEqDiff, Nat.reduceLeDiff, Nat.reduceSub, Nat.reduceMul, Nat.reduceLT, Nat.reduceBEq, Nat.reduceAdd]
         rw [show i - 1 + 1 = i + 1 - 1 by omega]
         rfl
        ·obtain rfl : i = k + 1 := by omega
         rw [show k + 1 - 1 = k by omega]
         rintro c rfl
         refine sw_intro (fun hc2 => ?_) (fun hc2 => ?_) <;> simp only [decide_eq_true_eq, decide_eq_false_iff_not] at hc2
         ·rw [if_pos (.inl (by omega))] at e7
          rw [e7] at h
          exact h
         ·rintro _ _ m6 hm6
          rw [w64 (by omega)] at hm6
          subst hm6
          refine nd_intro ⟨by omega, by omega⟩ ?_
          rintro ys rfl
          have e9 : List.take (r.length + 1 - ((1 : Int) + (k : Int)).toNat) (List.drop ((1 : Int) + (k : Int)).toNat (x :: r)) = r.drop k := by
           have : ((1 : Int) + (k : Int)).toNat = k + 1 := by omega
           rw [this, List.drop_succ_cons, List.take_of_length_le (by rw [List.length_drop]; omega)]
          rw [e9]
          rw [if_neg (fun hh => hh.elim (fun h => by omega) hne)] at e7
          rw [e7] at h
          exact h
 ·exact h.elim
theorem rdNum_none {st : Option (List UInt8)} {n : Int} (h : rdNum st = (n, none)) : n = 0 := by
 unfold rdNum at h
 split at h <;> simp at h
 exact h.symm
def C57 : Contract := fun args hp K => match args with
 | [.ptr 0 0] => onRd hp fun st => ((rdText st).1.size ≤ 140737488355328 → K (.str (rdText st).1) [rdH (rdText st).2])
 | _ => False
theorem s57 : Sound Tryd.prog 57 C57 := by
 refine sound_of_okF ok57 (.cons s71 (callable_of_okF ok71) (.cons s56 (callable_of_okF ok56) .nil)) ?_
 intro args hp K h
 unfold C57 at h
 split at h
 ·obtain ⟨st, rfl, h⟩ := h
  refine ⟨by simp, [], ?_⟩
  unfold rdH at h ⊢
  simp (maxSteps:=9^9) only [a57, r57, C71, C56, rdH, go_sem, Int.reduceLT, Int.reduceLE, Int.reduceEq, Int.reduceNe, Int.reduceAdd, Int.reduceSub, Int.reduceMul, Int.reduceToNat, Int.reduceNeg, Nat.reduceEqDiff, Nat.reduceLeDiff, Nat.reduceSub, Nat.reduceMul, Nat.reduceLT, Nat.reduceBEq, Nat.reduceAdd]
  generalize hn : rdNum st = x at *
  obtain ⟨n, st'⟩ := x
  have hr := rdNum_in st
  rw [hn] at hr
  have := maxLen_val
  cases st' with
  | none =>
   have e : rdText st = (ByteArray.empty, none) := by unfold rdText; rw [hn]
   rw [e] at h
   have hn0 : n = 0 := rdNum_none hn
   subst hn0
   simp only [Option.getD_none, Option.isNone_none]
   rintro _ _ m rfl _ m1 hm1
   have : m1 = 0 := hm1
   subst this
   rintro c rfl
   refine sw_intro (fun hc => absurd hc (by decide)) (fun hc => ?_)
   refine nd_intro (by decide) ?_
   rintro ys rfl u rfl
   refine nd_intro (by decide) ?_
   rintro ys rfl
   exact h (by decide)
  | some bs =>
   simp only [Option.getD_some, Option.isNone_some]
   rintro hb hb2 m rfl _ m1 hm1
   rw [wu64 (by omega)] at hm1
   subst hm1
   rintro c rfl
   refine sw_intro (fun hc => ?_) (fun hc => ?_) <;> simp only [decide_eq_true_eq, decide_eq_false_iff_not] at hc
   ·have e : rdText st = (ByteArray.empty, none) := by unfold rdText; rw [hn]; exact if_pos hc
    rw [e] at h
    exact h (by decide)
   ·have e : rdText st = (⟨(bs.take n.toNat).toArray⟩, some (bs.drop n.toNat)) := by unfold rdText; rw [hn]; exact if_neg hc
    rw [e] at h
    refine nd_intro ⟨by omega, by omega⟩ ?_
    rintro ys rfl u rfl
    refine nd_intro ⟨by omega, by omega⟩ ?_
    rintro ys rfl
    rw [show n.toNat - 0 = n.toNat by omega, List.take_of_length_le (i := bs.length - n.toNat) (by rw [List.length_drop]; exact Nat.le_refl _)]
    exact h (by show ((bs.take n.toNat).toArray).size ≤ _; rw [List.size_toArray, List.length_take]; omega)
 ·exact h.elim
def C58 : Contract := fun args hp K => match args with
 | [.ptr 0 0] => onRd hp fun st => K (.int .i64 (rdInt st).1) [rdH (rdInt st).2]
 | _ => False
theorem s58 : Sound Tryd.prog 58 C58 := by
 refine sound_of_okF ok58 (.cons s56 (callable_of_okF ok56) .nil) ?_
 intro args hp K h
 unfold C58 at h
 split at h
 ·obtain ⟨st, rfl, h⟩ := h
  refine ⟨by simp, [], ?_⟩
  unfold rdH at h ⊢
  simp (maxSteps:=9^9) only [a58, r58, C56, rdH, go_sem, Int.reduceLT, Int.reduceLE, Int.reduceEq, Int.reduceNe, Int.reduceAdd, Int.reduceSub, Int.reduceMul, Int.reduceToNat, Int.reduceNeg, Nat.reduceEqDiff, Nat.reduceLeDiff, Nat.reduceSub, Nat.reduceMul, Nat.reduceLT, Nat.reduceBEq, Nat.reduceAdd]
  generalize hn : rdNum st = x at *
  obtain ⟨n, st'⟩ := x
  have hr := rdNum_in st
  rw [hn] at hr
  simp only at hr
  have e : rdInt st = (unz n, st') := by unfold rdInt; rw [hn]
  rw [e] at h
  have e1 : (2 : Int) ^ min 1 64 = 2 := rfl
  rintro _ _ m hm c rfl
  rw [Int.tmod_eq_emod_of_nonneg hr.1] at hm
  simp only [e1]
  refine sw_intro (fun h1 => ?_) (fun h1 => ?_) <;> simp only [decide_eq_true_eq, decide_eq_false_iff_not] at h1
  ·rintro _ _ m1 hm1
   rw [Int.fdiv_eq_ediv_of_nonneg _ (by decide)] at hm1
   rintro _ m2 hm2
   rw [w64 (by omega)] at hm2
   subst hm2
   rintro _ m3 hm3
   rw [w64 (by omega)] at hm3
   subst hm3
   rintro _ _ m4 hm4
   rw [w64 (by omega)] at hm4
   have e2 : m4 = unz n := by unfold unz; rw [if_neg (by omega)]; omega
   subst e2
   exact h
  ·rintro _ _ m1 hm1
   rw [Int.fdiv_eq_ediv_of_nonneg _ (by decide)] at hm1
   rintro _ m2 hm2
   rw [w64 (by omega)] at hm2
   have e2 : m2 = unz n := by unfold unz; rw [if_pos (by omega)]; omega
   subst e2
   exact h
 ·exact h.elim
end Go.V
namespace Go.V
open Go.Proofs
set_option maxRecDepth 100000
set_option maxHeartbeats 8000000
set_option linter.unusedSimpArgs false
set_option linter.unnecessarySimpa false
set_option linter.unusedVariables false
def enN (ns : List ByteArray) : List UInt8 := ns.flatMap textB
def enI (x : EvT.den) : List UInt8 := numB x.1 ++ numB (zig x.2)
def enC (cs : List EvT.den) : List UInt8 := cs.flatMap enI
def enH (ns : List ByteArray) : List UInt8 := numB ns.length ++ enN ns
def encL (ns : List ByteArray) (cs : List EvT.den) : List UInt8 := (enH ns ++ numB cs.length) ++ enC cs
theorem enN_next {ns : List ByteArray} {i : Nat} (h : i < ns.length) : enN (ns.take (i + 1)) = enN (ns.take i) ++ textB (elt .str ns i) := by
 unfold enN
 rw [← take_elt (t := .str) h, List.flatMap_append, List.flatMap_cons, List.flatMap_nil, List.append_nil]
theorem enC_next {cs : List EvT.den} {i : Nat} (h : i < cs.length) : enC (cs.take (i + 1)) = enC (cs.take i) ++ enI (elt EvT cs i) := by
 unfold enC
 rw [← take_elt (t := EvT) h, List.flatMap_append, List.flatMap_cons, List.flatMap_nil, List.append_nil]
theorem enN_len {ns : List ByteArray} (h : ns.all keyOk = true) : (enN ns).length ≤ 49 * ns.length := flat_len fun x hx => by
 have h1 := key_size (List.all_eq_true.1 h x hx)
 have h2 := textB_length x
 omega
theorem enC_len {cs : List EvT.den} : (enC cs).length ≤ 18 * cs.length := flat_len fun x _ => by
 have h1 := numB_length x.1
 have h2 := numB_length (zig x.2)
 unfold enI
 rw [List.length_append]
 omega
def enOut (K : SV → List SB → Prop) (ns : List ByteArray) (cs : List EvT.den) : Prop := (formP ns cs = false → K (.tup [.own 0, .int .i64 1]) [.row true 1 .byte []]) ∧ (formP ns cs = true → K (.tup [.own 0, .int .i64 0]) [.row true 1 .byte (encL ns cs)])
def C20 : Contract := fun args hp K => match args, hp with
 | [.agg [.sl true 16 .str ns, .sl true 16 (.pair (.int .i64) (.int .i64)) cs]], [] => enOut K ns cs
 | _, _ => False
def L20 (ns : List ByteArray) (cs : List EvT.den) : LoopAnn := cntA (fun i => ⟨[(1, .ptr 0 0), (4, .ptr 1 0), (20, .sl true 16 .str ns), (21, .int .i64 ns.length), (22, .int .i64 i)], [.struct [.sl true 16 .str ns, .sl true 16 EvT cs], .struct [.own 2], .row true 1 .byte (numB ns.length ++ enN (ns.take i))]⟩) ns.length
def M20 (ns : List ByteArray) (cs : List EvT.den) : LoopAnn := cntA (fun i => ⟨[(4, .ptr 0 0), (37, .sl true 16 EvT cs), (38, .int .i64 cs.length), (39, .int .i64 i)], [.struct [.own 1], .row true 1 .byte ((enH ns ++ numB cs.length) ++ enC (cs.take i))]⟩) cs.length
attribute [local irreducible] rc
theorem s20 : Sound Tryd.prog 20 C20 := by
 refine sound_of_okF ok20 (.cons s17 (callable_of_okF ok17) (.cons s42 (callable_of_okF ok42) (.cons s43 (callable_of_okF ok43) (.cons s44 (callable_of_okF ok44) (.cons s45 (callable_of_okF ok45) (.cons s46 (callable_of_okF ok46) .nil)))))) ?_
 intro args hp K h
 unfold C20 at h
 split at h
 ·rename_i ns cs
  obtain ⟨hF, hT⟩ := h
  have hmx := maxLen_val
  refine ⟨by simp, [(1, L20 ns cs), (2, M20 ns cs)], ?_⟩
  simp (maxSteps:=9^9) only [a20, r20, go_sem, Int.reduceLT, Int.reduceLE, Int.reduceEq, Int.reduceNe, Int.reduceAdd, Int.reduceSub, Int.reduceMul, Int.reduceToNat, Int.reduceNeg, Nat.reduceEqDiff, Nat.reduceLeDiff, Nat.reduceSub, Nat.reduceMul, Nat.reduceLT, Nat.reduceBEq, Nat.reduceAdd]
  refine use17 ?_
  cases hf : formP ns cs with
  | false =>
   simp (maxSteps:=9^9) only [go_sem, Int.reduceLT, Int.reduceLE, Int.reduceEq, Int.reduceNe, Int.reduceAdd, Int.reduceSub, Int.reduceMul, Int.reduceToNat, Int.reduceNeg, Nat.reduceEqDiff, Nat.reduceLeDiff, Nat.reduceSub, Nat.reduceMul, Nat.reduceLT, Nat.reduceBEq, Nat.reduceAdd]
   exact hF hf
  | true =>
   have hT := hT hf
   obtain ⟨⟨hn1, hn2⟩, hk, hi2⟩ := formP_iff.1 hf
   have hnz := numB_length ns.length
   have hnc := numB_length cs.length
   simp (maxSteps:=9^9) only [wrH, C42, C43, C44, C45, C46, go_sem, Int.reduceLT, Int.reduceLE, Int.reduceEq, Int.reduceNe, Int.reduceAdd, Int.reduceSub, Int.reduceMul, Int.reduceToNat, Int.reduceNeg, Nat.reduceEqDiff, Nat.reduceLeDiff, Nat.reduceSub, Nat.reduceMul, Nat.reduceLT, Nat.reduceBEq, Nat.reduceAdd]
   rintro _ _ m hm _ m1 hm1
   rw [wu64 (by omega), hm] at hm1
   rw [hm1]
   rintro _ _ _ rfl
   refine loop_intro (A := L20 ns cs) (0 : Nat) ?_ (Nat.zero_le _) ?_
   ·simp (maxSteps:=9^9) only [go_sem, Int.reduceLT, Int.reduceLE, Int.reduceEq, Int.reduceNe, Int.reduceAdd, Int.reduceSub, Int.reduceMul, Int.reduceToNat, Int.reduceNeg, Nat.reduceEqDiff, Nat.reduceLeDiff, Nat.reduceSub, Nat.reduceMul, Nat.reduceLT, Nat.reduceBEq, Nat.reduceAdd]
    show _ = SS.mk _ [_, _, .row true 1 .byte (numB ns.length ++ enN (ns.take 0))]
    rw [List.take_zero]
    show _ = SS.mk _ [_, _, .row true 1 .byte (numB ns.length ++ [])]
    rw [List.append_nil]
    rfl
   ·intro (i : Nat) (hi : i ≤ ns.length)
    have hlc : (enN (ns.take i)).length ≤ 9000 := by
     have h1 := enN_len (ns := ns.take i) (List.all_eq_true.2 fun x hx => List.all_eq_true.1 hk x (List.mem_of_mem_take hx))
     rw [List.length_take] at h1
     omega
    unfold L20
    simp (maxSteps:=9^9) only [cntA_I, wrH, C43, C44, C45, C46, go_sem, Int.reduceLT, Int.reduceLE, Int.reduceEq, Int.reduceNe, Int.reduceAdd, Int.reduceSub, Int.reduceMul, Int.reduceToNat, Int.reduceNeg, Nat.reduceEqDiff, Nat.reduceLeDiff, Nat.reduceSub, Nat.reduceMul, Nat.reduceLT, Nat.reduceBEq, Nat.reduceAdd]
    intro c hc
    refine swd hc (fun h0 => ?_) (fun h0 => ?_)
    ·have h0 : i < ns.length := by omega
     have hkz := key_size (List.all_eq_true.1 hk (elt .str ns i) (elt_mem (t := .str) h0))
     refine nd_intro (by omega) ?_
     refine ⟨by simp only [List.length_append]; omega, ?_⟩
     rintro _ _ m1 hm1
     rw [w64 (by omega)] at hm1
     refine cntA_next h0 ?_
     rw [hm1, enN_next h0, ← List.append_assoc]
     rfl
    ·have hlast : ns.take i = ns := List.take_of_length_le (by omega)
     rintro _ _ m hm _ m1 hm1
     rw [wu64 (by omega), hm] at hm1
     rw [hm1]
     refine ⟨by simp only [List.length_append]; omega, ?_⟩
     rintro _ _ _ rfl
     refine loop_intro (A := M20 ns cs) (0 : Nat) ?_ (Nat.zero_le _) ?_
     ·simp (maxSteps:=9^9) only [go_sem, Int.reduceLT, Int.reduceLE, Int.reduceEq, Int.reduceNe, Int.reduceAdd, Int.reduceSub, Int.reduceMul, Int.reduceToNat, Int.reduceNeg, Nat.reduceEqDiff, Nat.reduceLeDiff, Nat.reduceSub, Nat.reduceMul, Nat.reduceLT, Nat.reduceBEq, Nat.reduceAdd]
      show _ = SS.mk _ [_, .row true 1 .byte ((enH ns ++ numB cs.length) ++ enC (cs.take 0))]
      rw [List.take_zero]
      show _ = SS.mk _ [_, .row true 1 .byte ((enH ns ++ numB cs.length) ++ [])]
      rw [List.append_nil, hlast]
      rfl
     ·intro (j : Nat) (hj : j ≤ cs.length)
      have hlc2 : (enH ns ++ numB cs.length ++ enC (cs.take j)).length ≤ 9000 := by
       have h1 := enN_len hk
       have h2 := enC_len (cs := cs.take j)
       rw [List.length_take] at h2
       simp only [enH, List.length_append]
       omega
      unfold M20
      simp (maxSteps:=9^9) only [cntA_I, wrH, C43, C44, C45, C46, go_sem, Int.reduceLT, Int.reduceLE, Int.reduceEq, Int.reduceNe, Int.reduceAdd, Int.reduceSub, Int.reduceMul, Int.reduceToNat, Int.reduceNeg, Nat.reduceEqDiff, Nat.reduceLeDiff, Nat.reduceSub, Nat.reduceMul, Nat.reduceLT, Nat.reduceBEq, Nat.reduceAdd]
      intro c hc
      refine swd hc (fun h0 => ?_) (fun h0 => ?_)
      ·have h0 : j < cs.length := by omega
       obtain ⟨hop, hop2⟩ := ins_in (x := elt EvT cs j) (List.all_eq_true.1 hi2 _ (elt_mem (t := EvT) h0))
       refine nd_intro (by omega) ?_
       rintro _ m1 hm1
       rw [wu64 (by omega)] at hm1
       rw [hm1]
       have hz := numB_length (elt EvT cs j).1
       refine ⟨by omega, by rw [List.length_append]; omega, ?_⟩
       rintro _ _ _ m2 hm2
       rw [w64 (by omega)] at hm2
       refine cntA_next h0 ?_
       rw [hm2]
       have e5 : enH ns ++ numB cs.length ++ enC (cs.take (j + 1)) = enH ns ++ numB cs.length ++ enC (cs.take j) ++ numB (elt EvT cs j).1 ++ numB (zig (elt EvT cs j).2) := by
        rw [enC_next h0]
        unfold enI
        simp only [List.append_assoc]
       rw [e5]
       rfl
      ·rw [List.take_of_length_le (by omega)]
       exact hT
 ·exact h.elim
def C21 : Contract := fun args hp K => match args, hp with
 | [.agg [.sl true 16 .str ns, .sl true 16 (.pair (.int .i64) (.int .i64)) cs]], [] => enOut K ns cs
 | _, _ => False
def L21 (ns : List ByteArray) (cs : List EvT.den) : LoopAnn := cntA (fun i => ⟨[(1, .ptr 0 0), (4, .own 1), (17, .int .i64 ns.length), (18, .int .i64 i)], [.struct [.sl true 16 .str ns, .sl true 16 EvT cs], .row true 1 .byte (numB ns.length ++ enN (ns.take i))]⟩) ns.length
def M21 (ns : List ByteArray) (cs : List EvT.den) : LoopAnn := cntA (fun i => ⟨[(1, .ptr 0 0), (4, .own 1), (37, .int .i64 cs.length), (38, .int .i64 i)], [.struct [.sl true 16 .str ns, .sl true 16 EvT cs], .row true 1 .byte ((enH ns ++ numB cs.length) ++ enC (cs.take i))]⟩) cs.length
theorem s21 : Sound Tryd.prog 21 C21 := by
 refine sound_of_okF ok21 (.cons s18 (callable_of_okF ok18) (.cons s47 (callable_of_okF ok47) (.cons s48 (callable_of_okF ok48) (.cons s49 (callable_of_okF ok49) .nil)))) ?_
 intro args hp K h
 unfold C21 at h
 split at h
 ·rename_i ns cs
  obtain ⟨hF, hT⟩ := h
  have hmx := maxLen_val
  refine ⟨by simp, [(1, L21 ns cs), (2, M21 ns cs)], ?_⟩
  simp (maxSteps:=9^9) only [a21, r21, go_sem, Int.reduceLT, Int.reduceLE, Int.reduceEq, Int.reduceNe, Int.reduceAdd, Int.reduceSub, Int.reduceMul, Int.reduceToNat, Int.reduceNeg, Nat.reduceEqDiff, Nat.reduceLeDiff, Nat.reduceSub, Nat.reduceMul, Nat.reduceLT, Nat.reduceBEq, Nat.reduceAdd]
  refine use18 ?_
  cases hf : formP ns cs with
  | false =>
   simp (maxSteps:=9^9) only [go_sem, Int.reduceLT, Int.reduceLE, Int.reduceEq, Int.reduceNe, Int.reduceAdd, Int.reduceSub, Int.reduceMul, Int.reduceToNat, Int.reduceNeg, Nat.reduceEqDiff, Nat.reduceLeDiff, Nat.reduceSub, Nat.reduceMul, Nat.reduceLT, Nat.reduceBEq, Nat.reduceAdd]
   exact hF hf
  | true =>
   have hT := hT hf
   obtain ⟨⟨hn1, hn2⟩, hk, hi2⟩ := formP_iff.1 hf
   have hnz := numB_length ns.length
   have hnc := numB_length cs.length
   simp (maxSteps:=9^9) only [C47, C48, C49, go_sem, Int.reduceLT, Int.reduceLE, Int.reduceEq, Int.reduceNe, Int.reduceAdd, Int.reduceSub, Int.reduceMul, Int.reduceToNat, Int.reduceNeg, Nat.reduceEqDiff, Nat.reduceLeDiff, Nat.reduceSub, Nat.reduceMul, Nat.reduceLT, Nat.reduceBEq, Nat.reduceAdd]
   rintro _ _ m hm _ m1 hm1
   rw [wu64 (by omega), hm] at hm1
   rw [hm1]
   rintro _ _ _ rfl
   refine loop_intro (A := L21 ns cs) (0 : Nat) ?_ (Nat.zero_le _) ?_
   ·simp (maxSteps:=9^9) only [go_sem, Int.reduceLT, Int.reduceLE, Int.reduceEq, Int.reduceNe, Int.reduceAdd, Int.reduceSub, Int.reduceMul, Int.reduceToNat, Int.reduceNeg, Nat.reduceEqDiff, Nat.reduceLeDiff, Nat.reduceSub, Nat.reduceMul, Nat.reduceLT, Nat.reduceBEq, Nat.reduceAdd]
    show _ = SS.mk _ [_, .row true 1 .byte (numB ns.length ++ enN (ns.take 0))]
    rw [List.take_zero]
    show _ = SS.mk _ [_, .row true 1 .byte (numB ns.length ++ [])]
    rw [List.append_nil]
    rfl
   ·intro (i : Nat) (hi : i ≤ ns.length)
    have hlc : (enN (ns.take i)).length ≤ 9000 := by
     have h1 := enN_len (ns := ns.take i) (List.all_eq_true.2 fun x hx => List.all_eq_true.1 hk x (List.mem_of_mem_take hx))
     rw [List.length_take] at h1
     omega
    unfold L21
    simp (maxSteps:=9^9) only [cntA_I, C47, C48, C49, go_sem, Int.reduceLT, Int.reduceLE, Int.reduceEq, Int.reduceNe, Int.reduceAdd, Int.reduceSub, Int.reduceMul, Int.reduceToNat, Int.reduceNeg, Nat.reduceEqDiff, Nat.reduceLeDiff, Nat.reduceSub, Nat.reduceMul, Nat.reduceLT, Nat.reduceBEq, Nat.reduceAdd]
    intro c hc
    refine swd hc (fun h0 => ?_) (fun h0 => ?_)
    ·have h0 : i < ns.length := by omega
     have hkz := key_size (List.all_eq_true.1 hk (elt .str ns i) (elt_mem (t := .str) h0))
     refine nd_intro (by omega) ?_
     refine ⟨by simp only [List.length_append]; omega, ?_⟩
     rintro _ _ m1 hm1
     rw [w64 (by omega)] at hm1
     refine cntA_next h0 ?_
     rw [hm1, enN_next h0, ← List.append_assoc]
     rfl
    ·have hlast : ns.take i = ns := List.take_of_length_le (by omega)
     rintro _ _ m hm _ m1 hm1
     rw [wu64 (by omega), hm] at hm1
     rw [hm1]
     refine ⟨by simp only [List.length_append]; omega, ?_⟩
     rintro _ _ _ rfl
     refine loop_intro (A := M21 ns cs) (0 : Nat) ?_ (Nat.zero_le _) ?_
     ·simp (maxSteps:=9^9) only [go_sem, Int.reduceLT, Int.reduceLE, Int.reduceEq, Int.reduceNe, Int.reduceAdd, Int.reduceSub, Int.reduceMul, Int.reduceToNat, Int.reduceNeg, Nat.reduceEqDiff, Nat.reduceLeDiff, Nat.reduceSub, Nat.reduceMul, Nat.reduceLT, Nat.reduceBEq, Nat.reduceAdd]
      show _ = SS.mk _ [_, .row true 1 .byte ((enH ns ++ numB cs.length) ++ enC (cs.take 0))]
      rw [List.take_zero]
      show _ = SS.mk _ [_, .row true 1 .byte ((enH ns ++ numB cs.length) ++ [])]
      rw [List.append_nil, hlast]
      rfl
     ·intro (j : Nat) (hj : j ≤ cs.length)
      have hlc2 : (enH ns ++ numB cs.length ++ enC (cs.take j)).length ≤ 9000 := by
       have h1 := enN_len hk
       have h2 := enC_len (cs := cs.take j)
       rw [List.length_take] at h2
       simp only [enH, List.length_append]
       omega
      unfold M21
      simp (maxSteps:=9^9) only [cntA_I, C47, C48, C49, go_sem, Int.reduceLT, Int.reduceLE, Int.reduceEq, Int.reduceNe, Int.reduceAdd, Int.reduceSub, Int.reduceMul, Int.reduceToNat, Int.reduceNeg, Nat.reduceEqDiff, Nat.reduceLeDiff, Nat.reduceSub, Nat.reduceMul, Nat.reduceLT, Nat.reduceBEq, Nat.reduceAdd]
      intro c hc
      refine swd hc (fun h0 => ?_) (fun h0 => ?_)
      ·have h0 : j < cs.length := by omega
       obtain ⟨hop, hop2⟩ := ins_in (x := elt EvT cs j) (List.all_eq_true.1 hi2 _ (elt_mem (t := EvT) h0))
       refine nd_intro (by omega) ?_
       rintro _ m1 hm1
       rw [wu64 (by omega)] at hm1
       rw [hm1]
       have hz := numB_length (elt EvT cs j).1
       refine nd_intro h0 ⟨by omega, h0, by rw [List.length_append]; omega, ?_⟩
       rintro _ _ m2 hm2
       rw [w64 (by omega)] at hm2
       refine cntA_next h0 ?_
       rw [hm2]
       have e5 : enH ns ++ numB cs.length ++ enC (cs.take (j + 1)) = enH ns ++ numB cs.length ++ enC (cs.take j) ++ numB (elt EvT cs j).1 ++ numB (zig (elt EvT cs j).2) := by
        rw [enC_next h0]
        unfold enI
        simp only [List.append_assoc]
       rw [e5]
       rfl
      ·rw [List.take_of_length_le (by omega)]
       exact hT
 ·exact h.elim
end Go.V
