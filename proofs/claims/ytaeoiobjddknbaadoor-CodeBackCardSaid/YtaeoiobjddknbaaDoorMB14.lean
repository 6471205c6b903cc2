/- Decode, the package's and the document's. -/
import Derived.Test.YtaeoiobjddknbaaDoorMA22
namespace Go.V
open Go.Proofs
set_option maxRecDepth 100000
set_option maxHeartbeats 8000000
set_option linter.unusedSimpArgs false
set_option linter.unnecessarySimpa false
set_option linter.unusedVariables false
def nmAt (st : Option (List UInt8)) : Nat → List ByteArray × Option (List UInt8)
 | 0 => ([], st)
 | i + 1 => ((nmAt st i).1 ++ [(rdText (nmAt st i).2).1], (rdText (nmAt st i).2).2)
def inAt (st : Option (List UInt8)) : Nat → List EvT.den × Option (List UInt8)
 | 0 => ([], st)
 | i + 1 => ((inAt st i).1 ++ [(min (rdNum (inAt st i).2).1 200, (rdInt (rdNum (inAt st i).2).2).1)], (rdInt (rdNum (inAt st i).2).2).2)
theorem nmAt_s (st : Option (List UInt8)) (i : Nat) : nmAt st (i + 1) = ((nmAt st i).1 ++ [(rdText (nmAt st i).2).1], (rdText (nmAt st i).2).2) := rfl
theorem inAt_s (st : Option (List UInt8)) (i : Nat) : inAt st (i + 1) = ((inAt st i).1 ++ [(min (rdNum (inAt st i).2).1 200, (rdInt (rdNum (inAt st i).2).2).1)], (rdInt (rdNum (inAt st i).2).2).2) := rfl
theorem nmAt_len (st : Option (List UInt8)) (i : Nat) : (nmAt st i).1.length = i := by
 induction i with
 | zero => rfl
 | succ i ih => rw [nmAt_s]; simp [ih]
theorem inAt_len (st : Option (List UInt8)) (i : Nat) : (inAt st i).1.length = i := by
 induction i with
 | zero => rfl
 | succ i ih => rw [inAt_s]; simp [ih]
def decC (ns : List ByteArray) (st : Option (List UInt8)) : Option (List ByteArray × List EvT.den) :=
 if 200 < (rdNum st).1 then none else if (inAt (rdNum st).2 (rdNum st).1.toNat).2 = some [] ∧ formP ns (inAt (rdNum st).2 (rdNum st).1.toNat).1 = true then some (ns, (inAt (rdNum st).2 (rdNum st).1.toNat).1) else none
def decP (b : List UInt8) : Option (List ByteArray × List EvT.den) :=
 if 8 < (rdNum (some b)).1 then none else decC (nmAt (rdNum (some b)).2 (rdNum (some b)).1.toNat).1 (nmAt (rdNum (some b)).2 (rdNum (some b)).1.toNat).2
def dOut (K : SV → List SB → Prop) : Option (List ByteArray × List EvT.den) → Prop
 | none => K (.tup [.agg [.nils, .nils], .int .i64 2]) []
 | some p => K (.tup [.agg [.sl true 16 .str p.1, .sl true 16 EvT p.2], .int .i64 0]) []
def C22 : Contract := fun args hp K => match args, hp with
 | [.sl true 1 .byte xs], [] => dOut K (decP xs)
 | _, _ => False
def L22 (st : Option (List UInt8)) (n : Nat) : LoopAnn := cntA (fun i => ⟨[(2, .ptr 0 0), (4, .ptr 1 0), (5, .ptr 2 0), (15, .int .u64 n), (16, .int .u64 i)], [.struct [.nils, .nils], rdH (nmAt st i).2, .struct [.own 3, .own 4], .row true 16 .str (nmAt st i).1, .row true 16 EvT []]⟩) n
def M22 (ns : List ByteArray) (st : Option (List UInt8)) (n : Nat) : LoopAnn := cntA (fun i => ⟨[(2, .ptr 0 0), (4, .ptr 1 0), (5, .ptr 2 0), (31, .int .u64 n), (32, .int .u64 i)], [.struct [.nils, .nils], rdH (inAt st i).2, .struct [.own 3, .own 4], .row true 16 .str ns, .row true 16 EvT (inAt st i).1]⟩) n
attribute [local irreducible] rc
theorem s22 : Sound Tryd.prog 22 C22 := by
 refine sound_of_okF ok22 (.cons s50 (callable_of_okF ok50) (.cons s51 (callable_of_okF ok51) (.cons s52 (callable_of_okF ok52) (.cons s53 (callable_of_okF ok53) (.cons s54 (callable_of_okF ok54) (.cons s17 (callable_of_okF ok17) .nil)))))) ?_
 intro args hp K h
 unfold C22 at h
 split at h
 ·rename_i xs
  have hmx := maxLen_val
  have hr0 := rdNum_in (some xs)
  refine ⟨by simp, [(1, L22 (rdNum (some xs)).2 (rdNum (some xs)).1.toNat), (2, M22 (nmAt (rdNum (some xs)).2 (rdNum (some xs)).1.toNat).1 (rdNum (nmAt (rdNum (some xs)).2 (rdNum (some xs)).1.toNat).2).2 (rdNum (nmAt (rdNum (some xs)).2 (rdNum (some xs)).1.toNat).2).1.toNat)], ?_⟩
  simp (maxSteps:=9^9) only [a22, r22, C50, rdH, C51, go_sem, Int.reduceLT, Int.reduceLE, Int.reduceEq, Int.reduceNe, Int.reduceAdd, Int.reduceSub, Int.reduceMul, Int.reduceToNat, Int.reduceNeg, Nat.reduceEqDiff, Nat.reduceLeDiff, Nat.reduceSub, Nat.reduceMul, Nat.reduceLT, Nat.reduceBEq, Nat.reduceAdd]
  unfold decP at h
  generalize rdNum (some xs) = a at h hr0 ⊢
  obtain ⟨n0, st1⟩ := a
  simp only at h hr0 ⊢
  obtain ⟨n, rfl⟩ : ∃ n : Nat, n0 = n := ⟨n0.toNat, by omega⟩
  rw [Int.toNat_natCast] at h ⊢
  intro c hc
  refine swd hc (fun h8 => ?_) (fun h8 => ?_)
  ·rw [if_pos h8] at h
   exact h
  ·rw [if_neg h8] at h
   refine loop_intro (A := L22 st1 n) (0 : Nat) ?_ (Nat.zero_le _) ?_
   ·simp (maxSteps:=9^9) only [go_sem, Int.reduceLT, Int.reduceLE, Int.reduceEq, Int.reduceNe, Int.reduceAdd, Int.reduceSub, Int.reduceMul, Int.reduceToNat, Int.reduceNeg, Nat.reduceEqDiff, Nat.reduceLeDiff, Nat.reduceSub, Nat.reduceMul, Nat.reduceLT, Nat.reduceBEq, Nat.reduceAdd]
    rfl
   ·intro (i : Nat) (hi : i ≤ n)
    have hl := nmAt_len st1 i
    unfold L22
    simp (maxSteps:=9^9) only [cntA_I, rdH, C52, go_sem, Int.reduceLT, Int.reduceLE, Int.reduceEq, Int.reduceNe, Int.reduceAdd, Int.reduceSub, Int.reduceMul, Int.reduceToNat, Int.reduceNeg, Nat.reduceEqDiff, Nat.reduceLeDiff, Nat.reduceSub, Nat.reduceMul, Nat.reduceLT, Nat.reduceBEq, Nat.reduceAdd]
    intro c hc
    refine swd hc (fun h0 => ?_) (fun h0 => ?_)
    ·have h0 : i < n := by omega
     intro hsz
     refine ⟨fun _ => by omega, ?_⟩
     rintro _ _ _ m1 hm1
     rw [wu64 (by omega)] at hm1
     refine cntA_next h0 ?_
     rw [hm1]
     rfl
    ·have hin : i = n := by omega
     subst hin
     unfold decC at h
     simp (maxSteps:=9^9) only [C51, rdH, go_sem, Int.reduceLT, Int.reduceLE, Int.reduceEq, Int.reduceNe, Int.reduceAdd, Int.reduceSub, Int.reduceMul, Int.reduceToNat, Int.reduceNeg, Nat.reduceEqDiff, Nat.reduceLeDiff, Nat.reduceSub, Nat.reduceMul, Nat.reduceLT, Nat.reduceBEq, Nat.reduceAdd]
     have hr1 := rdNum_in (nmAt st1 i).2
     generalize nmAt st1 i = a at h hr1 hl ⊢
     obtain ⟨ns, st2⟩ := a
     simp only at h hr1 hl ⊢
     generalize rdNum st2 = a at h hr1 ⊢
     obtain ⟨k0, st3⟩ := a
     simp only at h hr1 ⊢
     obtain ⟨k, rfl⟩ : ∃ k : Nat, k0 = k := ⟨k0.toNat, by omega⟩
     rw [Int.toNat_natCast] at h ⊢
     intro c hc
     refine swd hc (fun h2 => ?_) (fun h2 => ?_)
     ·rw [if_pos h2] at h
      exact h
     ·rw [if_neg h2] at h
      refine loop_intro (A := M22 ns st3 k) (0 : Nat) ?_ (Nat.zero_le _) ?_
      ·simp (maxSteps:=9^9) only [go_sem, Int.reduceLT, Int.reduceLE, Int.reduceEq, Int.reduceNe, Int.reduceAdd, Int.reduceSub, Int.reduceMul, Int.reduceToNat, Int.reduceNeg, Nat.reduceEqDiff, Nat.reduceLeDiff, Nat.reduceSub, Nat.reduceMul, Nat.reduceLT, Nat.reduceBEq, Nat.reduceAdd]
       rfl
      ·intro (j : Nat) (hj : j ≤ k)
       have hl2 := inAt_len st3 j
       unfold M22
       simp (maxSteps:=9^9) only [cntA_I, rdH, C51, C53, go_sem, Int.reduceLT, Int.reduceLE, Int.reduceEq, Int.reduceNe, Int.reduceAdd, Int.reduceSub, Int.reduceMul, Int.reduceToNat, Int.reduceNeg, Nat.reduceEqDiff, Nat.reduceLeDiff, Nat.reduceSub, Nat.reduceMul, Nat.reduceLT, Nat.reduceBEq, Nat.reduceAdd]
       intro c hc
       refine swd hc (fun h0 => ?_) (fun h0 => ?_)
       ·have h0 : j < k := by omega
        have hr2 := rdNum_in (inAt st3 j).2
        rintro m hm _ m1 hm1
        have e1 : m = min (rdNum (inAt st3 j).2).1 200 := by rw [hm]; split <;> omega
        rw [w64 (by omega)] at hm1
        refine ⟨⟨fun m2 h2 => by rw [hm, h2], fun _ m2 h2 => by rw [h2, w64 (by omega), hm1]⟩, fun _ => by omega, ?_⟩
        rintro _ _ _ m3 hm3
        rw [wu64 (by omega)] at hm3
        refine cntA_next h0 ?_
        rw [hm3, hm1, e1]
        rfl
       ·have hin : j = k := by omega
        subst hin
        simp (maxSteps:=9^9) only [C54, rdH, go_sem, Int.reduceLT, Int.reduceLE, Int.reduceEq, Int.reduceNe, Int.reduceAdd, Int.reduceSub, Int.reduceMul, Int.reduceToNat, Int.reduceNeg, Nat.reduceEqDiff, Nat.reduceLeDiff, Nat.reduceSub, Nat.reduceMul, Nat.reduceLT, Nat.reduceBEq, Nat.reduceAdd]
        refine swd rfl (fun he => ?_) (fun he => ?_)
        ·refine use17 ?_
         cases fp : formP ns (inAt st3 j).1 with
         | false =>
          simp (maxSteps:=9^9) only [go_sem, Int.reduceLT, Int.reduceLE, Int.reduceEq, Int.reduceNe, Int.reduceAdd, Int.reduceSub, Int.reduceMul, Int.reduceToNat, Int.reduceNeg, Nat.reduceEqDiff, Nat.reduceLeDiff, Nat.reduceSub, Nat.reduceMul, Nat.reduceLT, Nat.reduceBEq, Nat.reduceAdd]
          rw [if_neg (by rw [fp]; simp)] at h
          exact h
         | true =>
          simp (maxSteps:=9^9) only [go_sem, Int.reduceLT, Int.reduceLE, Int.reduceEq, Int.reduceNe, Int.reduceAdd, Int.reduceSub, Int.reduceMul, Int.reduceToNat, Int.reduceNeg, Nat.reduceEqDiff, Nat.reduceLeDiff, Nat.reduceSub, Nat.reduceMul, Nat.reduceLT, Nat.reduceBEq, Nat.reduceAdd]
          rw [if_pos ⟨he, fp⟩] at h
          exact h
        ·rw [if_neg (fun hh => he hh.1)] at h
         exact h
 ·exact h.elim
theorem inAt_mem (st : Option (List UInt8)) {j : Nat} : ∀ k, j < k → ((min (rdNum (inAt st j).2).1 200, (rdInt (rdNum (inAt st j).2).2).1) : Int × Int) ∈ (inAt st k).1
 | 0, h => absurd h (by omega)
 | k + 1, h => by
  rw [inAt_s]
  rcases Nat.lt_or_ge j k with h' | h'
  ·exact List.mem_append_left _ (inAt_mem st k h')
  ·obtain rfl : j = k := by omega
   exact List.mem_append_right _ (List.mem_singleton.2 rfl)
theorem form_no {ns : List ByteArray} {cs : List EvT.den} {a b : Int} (h : ((a, b) : Int × Int) ∈ cs) (ha : 24 ≤ a) : formP ns cs = false := by
 cases hf : formP ns cs with
 | false => rfl
 | true =>
  obtain ⟨_, _, hi⟩ := formP_iff.1 hf
  have := (ins_in (x := (a, b)) (List.all_eq_true.1 hi _ h)).1
  exact absurd this.2 (by show ¬ a < 24; omega)
def C23 : Contract := fun args hp K => match args, hp with
 | [.sl true 1 .byte xs], [] => dOut K (decP xs)
 | _, _ => False
def L23 (st : Option (List UInt8)) (n : Nat) : LoopAnn := cntA (fun i => ⟨[(2, .ptr 0 0), (4, .ptr 1 0), (5, .ptr 2 0), (15, .int .u64 n), (16, .int .u64 i)], [.struct [.nils, .nils], rdH (nmAt st i).2, .struct [.own 3, .own 4], .row true 16 .str (nmAt st i).1, .row true 16 EvT []]⟩) n
def M23 (ns : List ByteArray) (st : Option (List UInt8)) (n : Nat) : LoopAnn := cntA (fun i => ⟨[(2, .ptr 0 0), (4, .ptr 1 0), (5, .ptr 2 0), (37, .int .u64 n), (38, .int .u64 i)], [.struct [.nils, .nils], rdH (inAt st i).2, .struct [.own 3, .own 4], .row true 16 .str ns, .row true 16 EvT (inAt st i).1]⟩) n
theorem s23 : Sound Tryd.prog 23 C23 := by
 refine sound_of_okF ok23 (.cons s55 (callable_of_okF ok55) (.cons s56 (callable_of_okF ok56) (.cons s57 (callable_of_okF ok57) (.cons s58 (callable_of_okF ok58) (.cons s59 (callable_of_okF ok59) (.cons s18 (callable_of_okF ok18) .nil)))))) ?_
 intro args hp K h
 unfold C23 at h
 split at h
 ·rename_i xs
  have hmx := maxLen_val
  have hr0 := rdNum_in (some xs)
  refine ⟨by simp, [(1, L23 (rdNum (some xs)).2 (rdNum (some xs)).1.toNat), (2, M23 (nmAt (rdNum (some xs)).2 (rdNum (some xs)).1.toNat).1 (rdNum (nmAt (rdNum (some xs)).2 (rdNum (some xs)).1.toNat).2).2 (rdNum (nmAt (rdNum (some xs)).2 (rdNum (some xs)).1.toNat).2).1.toNat)], ?_⟩
  simp (maxSteps:=9^9) only [a23, r23, C55, rdH, C56, go_sem, Int.reduceLT, Int.reduceLE, Int.reduceEq, Int.reduceNe, Int.reduceAdd, Int.reduceSub, Int.reduceMul, Int.reduceToNat, Int.reduceNeg, Nat.reduceEqDiff, Nat.reduceLeDiff, Nat.reduceSub, Nat.reduceMul, Nat.reduceLT, Nat.reduceBEq, Nat.reduceAdd]
  unfold decP at h
  generalize rdNum (some xs) = a at h hr0 ⊢
  obtain ⟨n0, st1⟩ := a
  simp only at h hr0 ⊢
  obtain ⟨n, rfl⟩ : ∃ n : Nat, n0 = n := ⟨n0.toNat, by omega⟩
  rw [Int.toNat_natCast] at h ⊢
  intro c hc
  refine swd hc (fun h8 => ?_) (fun h8 => ?_)
  ·rw [if_pos h8] at h
   exact h
  ·rw [if_neg h8] at h
   refine loop_intro (A := L23 st1 n) (0 : Nat) ?_ (Nat.zero_le _) ?_
   ·simp (maxSteps:=9^9) only [go_sem, Int.reduceLT, Int.reduceLE, Int.reduceEq, Int.reduceNe, Int.reduceAdd, Int.reduceSub, Int.reduceMul, Int.reduceToNat, Int.reduceNeg, Nat.reduceEqDiff, Nat.reduceLeDiff, Nat.reduceSub, Nat.reduceMul, Nat.reduceLT, Nat.reduceBEq, Nat.reduceAdd]
    rfl
   ·intro (i : Nat) (hi : i ≤ n)
    have hl := nmAt_len st1 i
    unfold L23
    simp (maxSteps:=9^9) only [cntA_I, rdH, C57, go_sem, Int.reduceLT, Int.reduceLE, Int.reduceEq, Int.reduceNe, Int.reduceAdd, Int.reduceSub, Int.reduceMul, Int.reduceToNat, Int.reduceNeg, Nat.reduceEqDiff, Nat.reduceLeDiff, Nat.reduceSub, Nat.reduceMul, Nat.reduceLT, Nat.reduceBEq, Nat.reduceAdd]
    intro c hc
    refine swd hc (fun h0 => ?_) (fun h0 => ?_)
    ·have h0 : i < n := by omega
     intro hsz
     refine ⟨fun _ => by omega, ?_⟩
     rintro _ _ _ m1 hm1
     rw [wu64 (by omega)] at hm1
     refine cntA_next h0 ?_
     rw [hm1]
     rfl
    ·have hin : i = n := by omega
     subst hin
     unfold decC at h
     simp (maxSteps:=9^9) only [C56, rdH, go_sem, Int.reduceLT, Int.reduceLE, Int.reduceEq, Int.reduceNe, Int.reduceAdd, Int.reduceSub, Int.reduceMul, Int.reduceToNat, Int.reduceNeg, Nat.reduceEqDiff, Nat.reduceLeDiff, Nat.reduceSub, Nat.reduceMul, Nat.reduceLT, Nat.reduceBEq, Nat.reduceAdd]
     have hr1 := rdNum_in (nmAt st1 i).2
     generalize nmAt st1 i = a at h hr1 hl ⊢
     obtain ⟨ns, st2⟩ := a
     simp only at h hr1 hl ⊢
     cases hb : rdNum st2 with
     | mk k0 st3 =>
     rw [hb] at h hr1
     simp only at h hr1 ⊢
     cases st3 with
     | none =>
      have e0 := rdNum_none hb
      subst e0
      rw [if_neg (by omega), if_neg (by rintro ⟨h1, _⟩; cases h1)] at h
      simp (maxSteps:=9^9) only [Option.isNone, go_sem, Int.reduceLT, Int.reduceLE, Int.reduceEq, Int.reduceNe, Int.reduceAdd, Int.reduceSub, Int.reduceMul, Int.reduceToNat, Int.reduceNeg, Nat.reduceEqDiff, Nat.reduceLeDiff, Nat.reduceSub, Nat.reduceMul, Nat.reduceLT, Nat.reduceBEq, Nat.reduceAdd]
      exact h
     | some r3 =>
     obtain ⟨k, rfl⟩ : ∃ k : Nat, k0 = k := ⟨k0.toNat, by omega⟩
     rw [Int.toNat_natCast] at h ⊢
     simp (maxSteps:=9^9) only [Option.isNone, go_sem, Int.reduceLT, Int.reduceLE, Int.reduceEq, Int.reduceNe, Int.reduceAdd, Int.reduceSub, Int.reduceMul, Int.reduceToNat, Int.reduceNeg, Nat.reduceEqDiff, Nat.reduceLeDiff, Nat.reduceSub, Nat.reduceMul, Nat.reduceLT, Nat.reduceBEq, Nat.reduceAdd]
     intro c hc
     refine swd hc (fun h2 => ?_) (fun h2 => ?_)
     ·rw [if_pos h2] at h
      exact h
     ·rw [if_neg h2] at h
      refine loop_intro (A := M23 ns (some r3) k) (0 : Nat) ?_ (Nat.zero_le _) ?_
      ·simp (maxSteps:=9^9) only [go_sem, Int.reduceLT, Int.reduceLE, Int.reduceEq, Int.reduceNe, Int.reduceAdd, Int.reduceSub, Int.reduceMul, Int.reduceToNat, Int.reduceNeg, Nat.reduceEqDiff, Nat.reduceLeDiff, Nat.reduceSub, Nat.reduceMul, Nat.reduceLT, Nat.reduceBEq, Nat.reduceAdd]
       rfl
      ·intro (j : Nat) (hj : j ≤ k)
       have hl2 := inAt_len (some r3) j
       unfold M23
       simp (maxSteps:=9^9) only [cntA_I, rdH, C56, C58, go_sem, Int.reduceLT, Int.reduceLE, Int.reduceEq, Int.reduceNe, Int.reduceAdd, Int.reduceSub, Int.reduceMul, Int.reduceToNat, Int.reduceNeg, Nat.reduceEqDiff, Nat.reduceLeDiff, Nat.reduceSub, Nat.reduceMul, Nat.reduceLT, Nat.reduceBEq, Nat.reduceAdd]
       intro c hc
       refine swd hc (fun h0 => ?_) (fun h0 => ?_)
       ·have h0 : j < k := by omega
        have hr2 := rdNum_in (inAt (some r3) j).2
        intro c2 hc2
        refine swd hc2 (fun h3 => ?_) (fun h3 => ?_)
        ·rw [if_neg (by rw [form_no (inAt_mem (some r3) k h0) (by omega)]; simp)] at h
         exact h
        ·rintro _ m1 hm1
         have e1 : (rdNum (inAt (some r3) j).2).1 = min (rdNum (inAt (some r3) j).2).1 200 := by omega
         rw [w64 (by omega)] at hm1
         refine ⟨fun _ m2 h2 => by rw [h2, w64 (by omega), hm1], fun _ => by omega, ?_⟩
         rintro _ _ _ m3 hm3
         rw [wu64 (by omega)] at hm3
         refine cntA_next h0 ?_
         rw [hm3, hm1, e1]
         rfl
       ·have hin : j = k := by omega
        subst hin
        simp (maxSteps:=9^9) only [C59, rdH, go_sem, Int.reduceLT, Int.reduceLE, Int.reduceEq, Int.reduceNe, Int.reduceAdd, Int.reduceSub, Int.reduceMul, Int.reduceToNat, Int.reduceNeg, Nat.reduceEqDiff, Nat.reduceLeDiff, Nat.reduceSub, Nat.reduceMul, Nat.reduceLT, Nat.reduceBEq, Nat.reduceAdd]
        refine swd rfl (fun he => ?_) (fun he => ?_)
        ·refine use18 ?_
         cases fp : formP ns (inAt (some r3) j).1 with
         | false =>
          simp (maxSteps:=9^9) only [go_sem, Int.reduceLT, Int.reduceLE, Int.reduceEq, Int.reduceNe, Int.reduceAdd, Int.reduceSub, Int.reduceMul, Int.reduceToNat, Int.reduceNeg, Nat.reduceEqDiff, Nat.reduceLeDiff, Nat.reduceSub, Nat.reduceMul, Nat.reduceLT, Nat.reduceBEq, Nat.reduceAdd]
          rw [if_neg (by rw [fp]; simp)] at h
          exact h
         | true =>
          simp (maxSteps:=9^9) only [go_sem, Int.reduceLT, Int.reduceLE, Int.reduceEq, Int.reduceNe, Int.reduceAdd, Int.reduceSub, Int.reduceMul, Int.reduceToNat, Int.reduceNeg, Nat.reduceEqDiff, Nat.reduceLeDiff, Nat.reduceSub, Nat.reduceMul, Nat.reduceLT, Nat.reduceBEq, Nat.reduceAdd]
          rw [if_pos ⟨he, fp⟩] at h
          exact h
        ·rw [if_neg (fun hh => he hh.1)] at h
         exact h
 ·exact h.elim
end Go.V
namespace Go.V
open Go.Proofs
set_option maxRecDepth 100000
set_option maxHeartbeats 8000000
set_option linter.unusedSimpArgs false
set_option linter.unnecessarySimpa false
set_option linter.unusedVariables false
theorem use20 {ns : List ByteArray} {cs : List EvT.den} {K : SV → List SB → Prop} (h1 : formP ns cs = false → K (.tup [.own 0, .int .i64 1]) [.row true 1 .byte []]) (h2 : formP ns cs = true → K (.tup [.own 0, .int .i64 0]) [.row true 1 .byte (encL ns cs)]) : C20 [.agg [.sl true 16 .str ns, .sl true 16 EvT cs]] [] K := ⟨h1, h2⟩
theorem use21 {ns : List ByteArray} {cs : List EvT.den} {K : SV → List SB → Prop} (h1 : formP ns cs = false → K (.tup [.own 0, .int .i64 1]) [.row true 1 .byte []]) (h2 : formP ns cs = true → K (.tup [.own 0, .int .i64 0]) [.row true 1 .byte (encL ns cs)]) : C21 [.agg [.sl true 16 .str ns, .sl true 16 EvT cs]] [] K := ⟨h1, h2⟩
theorem use22 {xs : List UInt8} {K : SV → List SB → Prop} (h : dOut K (decP xs)) : C22 [.sl true 1 .byte xs] [] K := h
theorem use23 {xs : List UInt8} {K : SV → List SB → Prop} (h : dOut K (decP xs)) : C23 [.sl true 1 .byte xs] [] K := h
theorem dOut_n {K : SV → List SB → Prop} : dOut K none = K (.tup [.agg [.nils, .nils], .int .i64 2]) [] := rfl
theorem dOut_s {K : SV → List SB → Prop} {p} : dOut K (some p) = K (.tup [.agg [.sl true 16 .str p.1, .sl true 16 EvT p.2], .int .i64 0]) [] := rfl
theorem decP_form {b : List UInt8} {p} (h : decP b = some p) : formP p.1 p.2 = true := by
 unfold decP decC at h
 split at h
 ·cases h
 ·split at h
  ·cases h
  ·split at h
   ·rename_i h3
    cases h
    exact h3.2
   ·cases h
def C6 : Contract := fun args hp K => match args, hp with
 | [.agg [.sl true 16 .str n1, .sl true 16 (.pair (.int .i64) (.int .i64)) c1], .sl true 1 .byte b], [] => K (.bool true) []
 | _, _ => False
attribute [local irreducible] rc
theorem s6 : Sound Tryd.prog 6 C6 := by
 refine sound_of_okF ok6 (.cons s8 (callable_of_okF ok8) (.cons s13 (callable_of_okF ok13) (.cons s15 (callable_of_okF ok15) (.cons s20 (callable_of_okF ok20) (.cons s21 (callable_of_okF ok21) (.cons s22 (callable_of_okF ok22) (.cons s23 (callable_of_okF ok23) (.cons s12 (callable_of_okF ok12) (.cons s11 (callable_of_okF ok11) .nil))))))))) ?_
 intro args hp K h
 unfold C6 at h
 split at h
 ·rename_i n1 c1 b
  refine ⟨by simp, [], ?_⟩
  simp (maxSteps:=9^9) only [a6, r6, C8, go_sem, Int.reduceLT, Int.reduceLE, Int.reduceEq, Int.reduceNe, Int.reduceAdd, Int.reduceSub, Int.reduceMul, Int.reduceToNat, Int.reduceNeg, Nat.reduceEqDiff, Nat.reduceLeDiff, Nat.reduceSub, Nat.reduceMul, Nat.reduceLT, Nat.reduceBEq, Nat.reduceAdd]
  refine use13 ?_
  cases f1 : fewP n1 c1 with
  | false =>
   simp (maxSteps:=9^9) only [C8, go_sem, Int.reduceLT, Int.reduceLE, Int.reduceEq, Int.reduceNe, Int.reduceAdd, Int.reduceSub, Int.reduceMul, Int.reduceToNat, Int.reduceNeg, Nat.reduceEqDiff, Nat.reduceLeDiff, Nat.reduceSub, Nat.reduceMul, Nat.reduceLT, Nat.reduceBEq, Nat.reduceAdd]
   exact h
  | true =>
   simp (maxSteps:=9^9) only [go_sem, Int.reduceLT, Int.reduceLE, Int.reduceEq, Int.reduceNe, Int.reduceAdd, Int.reduceSub, Int.reduceMul, Int.reduceToNat, Int.reduceNeg, Nat.reduceEqDiff, Nat.reduceLeDiff, Nat.reduceSub, Nat.reduceMul, Nat.reduceLT, Nat.reduceBEq, Nat.reduceAdd]
   obtain ⟨⟨l1, z1⟩, l2⟩ := fewP_iff.1 f1
   refine use15 (by omega) (by omega) ?_
   simp (maxSteps:=9^9) only [go_sem, Int.reduceLT, Int.reduceLE, Int.reduceEq, Int.reduceNe, Int.reduceAdd, Int.reduceSub, Int.reduceMul, Int.reduceToNat, Int.reduceNeg, Nat.reduceEqDiff, Nat.reduceLeDiff, Nat.reduceSub, Nat.reduceMul, Nat.reduceLT, Nat.reduceBEq, Nat.reduceAdd]
   cases fp : formP n1 c1 with
   | false =>
    refine use20 (fun _ => ?_) (fun h' => absurd h' (by rw [fp]; simp))
    simp (maxSteps:=9^9) only [go_sem, Int.reduceLT, Int.reduceLE, Int.reduceEq, Int.reduceNe, Int.reduceAdd, Int.reduceSub, Int.reduceMul, Int.reduceToNat, Int.reduceNeg, Nat.reduceEqDiff, Nat.reduceLeDiff, Nat.reduceSub, Nat.reduceMul, Nat.reduceLT, Nat.reduceBEq, Nat.reduceAdd]
    refine use21 (fun _ => ?_) (fun h' => absurd h' (by rw [fp]; simp))
    simp (maxSteps:=9^9) only [go_sem, Int.reduceLT, Int.reduceLE, Int.reduceEq, Int.reduceNe, Int.reduceAdd, Int.reduceSub, Int.reduceMul, Int.reduceToNat, Int.reduceNeg, Nat.reduceEqDiff, Nat.reduceLeDiff, Nat.reduceSub, Nat.reduceMul, Nat.reduceLT, Nat.reduceBEq, Nat.reduceAdd]
    refine use22 ?_
    cases hd : decP b with
    | none =>
     rw [dOut_n]
     simp (maxSteps:=9^9) only [go_sem, Int.reduceLT, Int.reduceLE, Int.reduceEq, Int.reduceNe, Int.reduceAdd, Int.reduceSub, Int.reduceMul, Int.reduceToNat, Int.reduceNeg, Nat.reduceEqDiff, Nat.reduceLeDiff, Nat.reduceSub, Nat.reduceMul, Nat.reduceLT, Nat.reduceBEq, Nat.reduceAdd]
     refine use23 ?_
     rw [hd, dOut_n]
     simp (maxSteps:=9^9) only [go_sem, Int.reduceLT, Int.reduceLE, Int.reduceEq, Int.reduceNe, Int.reduceAdd, Int.reduceSub, Int.reduceMul, Int.reduceToNat, Int.reduceNeg, Nat.reduceEqDiff, Nat.reduceLeDiff, Nat.reduceSub, Nat.reduceMul, Nat.reduceLT, Nat.reduceBEq, Nat.reduceAdd]
     rintro u rfl u2 rfl c hc
     refine swd hc (fun _ => ?_) (fun h0 => absurd rfl h0)
     refine use12n ?_
     simp (maxSteps:=9^9) only [go_sem, Int.reduceLT, Int.reduceLE, Int.reduceEq, Int.reduceNe, Int.reduceAdd, Int.reduceSub, Int.reduceMul, Int.reduceToNat, Int.reduceNeg, Nat.reduceEqDiff, Nat.reduceLeDiff, Nat.reduceSub, Nat.reduceMul, Nat.reduceLT, Nat.reduceBEq, Nat.reduceAdd]
     refine use11n ?_
     simp (maxSteps:=9^9) only [go_sem, Int.reduceLT, Int.reduceLE, Int.reduceEq, Int.reduceNe, Int.reduceAdd, Int.reduceSub, Int.reduceMul, Int.reduceToNat, Int.reduceNeg, Nat.reduceEqDiff, Nat.reduceLeDiff, Nat.reduceSub, Nat.reduceMul, Nat.reduceLT, Nat.reduceBEq, Nat.reduceAdd]
     exact h
    | some p =>
     have hf2 := (formP_iff.1 (decP_form hd)).1
     rw [dOut_s]
     simp (maxSteps:=9^9) only [go_sem, Int.reduceLT, Int.reduceLE, Int.reduceEq, Int.reduceNe, Int.reduceAdd, Int.reduceSub, Int.reduceMul, Int.reduceToNat, Int.reduceNeg, Nat.reduceEqDiff, Nat.reduceLeDiff, Nat.reduceSub, Nat.reduceMul, Nat.reduceLT, Nat.reduceBEq, Nat.reduceAdd]
     refine use23 ?_
     rw [hd, dOut_s]
     simp (maxSteps:=9^9) only [go_sem, Int.reduceLT, Int.reduceLE, Int.reduceEq, Int.reduceNe, Int.reduceAdd, Int.reduceSub, Int.reduceMul, Int.reduceToNat, Int.reduceNeg, Nat.reduceEqDiff, Nat.reduceLeDiff, Nat.reduceSub, Nat.reduceMul, Nat.reduceLT, Nat.reduceBEq, Nat.reduceAdd]
     rintro u rfl u2 rfl c hc
     refine swd hc (fun _ => ?_) (fun h0 => absurd rfl h0)
     refine use12 (by omega) (by omega) ?_
     simp (maxSteps:=9^9) only [go_sem, Int.reduceLT, Int.reduceLE, Int.reduceEq, Int.reduceNe, Int.reduceAdd, Int.reduceSub, Int.reduceMul, Int.reduceToNat, Int.reduceNeg, Nat.reduceEqDiff, Nat.reduceLeDiff, Nat.reduceSub, Nat.reduceMul, Nat.reduceLT, Nat.reduceBEq, Nat.reduceAdd]
     refine use11 ?_
     simp (maxSteps:=9^9) only [go_sem, Int.reduceLT, Int.reduceLE, Int.reduceEq, Int.reduceNe, Int.reduceAdd, Int.reduceSub, Int.reduceMul, Int.reduceToNat, Int.reduceNeg, Nat.reduceEqDiff, Nat.reduceLeDiff, Nat.reduceSub, Nat.reduceMul, Nat.reduceLT, Nat.reduceBEq, Nat.reduceAdd]
     exact h
   | true =>
    refine use20 (fun h' => absurd h' (by rw [fp]; simp)) (fun _ => ?_)
    simp (maxSteps:=9^9) only [go_sem, Int.reduceLT, Int.reduceLE, Int.reduceEq, Int.reduceNe, Int.reduceAdd, Int.reduceSub, Int.reduceMul, Int.reduceToNat, Int.reduceNeg, Nat.reduceEqDiff, Nat.reduceLeDiff, Nat.reduceSub, Nat.reduceMul, Nat.reduceLT, Nat.reduceBEq, Nat.reduceAdd]
    refine use21 (fun h' => absurd h' (by rw [fp]; simp)) (fun _ => ?_)
    simp (maxSteps:=9^9) only [go_sem, Int.reduceLT, Int.reduceLE, Int.reduceEq, Int.reduceNe, Int.reduceAdd, Int.reduceSub, Int.reduceMul, Int.reduceToNat, Int.reduceNeg, Nat.reduceEqDiff, Nat.reduceLeDiff, Nat.reduceSub, Nat.reduceMul, Nat.reduceLT, Nat.reduceBEq, Nat.reduceAdd]
    refine use22 ?_
    cases hd : decP b with
    | none =>
     rw [dOut_n]
     simp (maxSteps:=9^9) only [go_sem, Int.reduceLT, Int.reduceLE, Int.reduceEq, Int.reduceNe, Int.reduceAdd, Int.reduceSub, Int.reduceMul, Int.reduceToNat, Int.reduceNeg, Nat.reduceEqDiff, Nat.reduceLeDiff, Nat.reduceSub, Nat.reduceMul, Nat.reduceLT, Nat.reduceBEq, Nat.reduceAdd]
     refine use23 ?_
     rw [hd, dOut_n]
     simp (maxSteps:=9^9) only [go_sem, Int.reduceLT, Int.reduceLE, Int.reduceEq, Int.reduceNe, Int.reduceAdd, Int.reduceSub, Int.reduceMul, Int.reduceToNat, Int.reduceNeg, Nat.reduceEqDiff, Nat.reduceLeDiff, Nat.reduceSub, Nat.reduceMul, Nat.reduceLT, Nat.reduceBEq, Nat.reduceAdd]
     rintro u rfl u2 rfl c hc
     refine swd hc (fun _ => ?_) (fun h0 => absurd rfl h0)
     refine use12n ?_
     simp (maxSteps:=9^9) only [go_sem, Int.reduceLT, Int.reduceLE, Int.reduceEq, Int.reduceNe, Int.reduceAdd, Int.reduceSub, Int.reduceMul, Int.reduceToNat, Int.reduceNeg, Nat.reduceEqDiff, Nat.reduceLeDiff, Nat.reduceSub, Nat.reduceMul, Nat.reduceLT, Nat.reduceBEq, Nat.reduceAdd]
     refine use11n ?_
     simp (maxSteps:=9^9) only [go_sem, Int.reduceLT, Int.reduceLE, Int.reduceEq, Int.reduceNe, Int.reduceAdd, Int.reduceSub, Int.reduceMul, Int.reduceToNat, Int.reduceNeg, Nat.reduceEqDiff, Nat.reduceLeDiff, Nat.reduceSub, Nat.reduceMul, Nat.reduceLT, Nat.reduceBEq, Nat.reduceAdd]
     exact h
    | some p =>
     have hf2 := (formP_iff.1 (decP_form hd)).1
     rw [dOut_s]
     simp (maxSteps:=9^9) only [go_sem, Int.reduceLT, Int.reduceLE, Int.reduceEq, Int.reduceNe, Int.reduceAdd, Int.reduceSub, Int.reduceMul, Int.reduceToNat, Int.reduceNeg, Nat.reduceEqDiff, Nat.reduceLeDiff, Nat.reduceSub, Nat.reduceMul, Nat.reduceLT, Nat.reduceBEq, Nat.reduceAdd]
     refine use23 ?_
     rw [hd, dOut_s]
     simp (maxSteps:=9^9) only [go_sem, Int.reduceLT, Int.reduceLE, Int.reduceEq, Int.reduceNe, Int.reduceAdd, Int.reduceSub, Int.reduceMul, Int.reduceToNat, Int.reduceNeg, Nat.reduceEqDiff, Nat.reduceLeDiff, Nat.reduceSub, Nat.reduceMul, Nat.reduceLT, Nat.reduceBEq, Nat.reduceAdd]
     rintro u rfl u2 rfl c hc
     refine swd hc (fun _ => ?_) (fun h0 => absurd rfl h0)
     refine use12 (by omega) (by omega) ?_
     simp (maxSteps:=9^9) only [go_sem, Int.reduceLT, Int.reduceLE, Int.reduceEq, Int.reduceNe, Int.reduceAdd, Int.reduceSub, Int.reduceMul, Int.reduceToNat, Int.reduceNeg, Nat.reduceEqDiff, Nat.reduceLeDiff, Nat.reduceSub, Nat.reduceMul, Nat.reduceLT, Nat.reduceBEq, Nat.reduceAdd]
     refine use11 ?_
     simp (maxSteps:=9^9) only [go_sem, Int.reduceLT, Int.reduceLE, Int.reduceEq, Int.reduceNe, Int.reduceAdd, Int.reduceSub, Int.reduceMul, Int.reduceToNat, Int.reduceNeg, Nat.reduceEqDiff, Nat.reduceLeDiff, Nat.reduceSub, Nat.reduceMul, Nat.reduceLT, Nat.reduceBEq, Nat.reduceAdd]
     exact h
 ·exact h.elim
end Go.V
