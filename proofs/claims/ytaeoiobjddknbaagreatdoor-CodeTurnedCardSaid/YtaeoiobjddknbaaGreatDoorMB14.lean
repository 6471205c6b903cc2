/- Decode, the package's and the document's. -/
import Derived.Test.YtaeoiobjddknbaaGreatDoorMA22
import Derived.Test.YtaeoiobjddknbaaGreatDoorMS2
import Derived.Test.YtaeoiobjddknbaaGreatDoorProg
namespace Go.V
open Go.Proofs
set_option maxRecDepth 100000
set_option maxHeartbeats 8000000
set_option linter.unusedSimpArgs false
set_option linter.unnecessarySimpa false
set_option linter.unusedVariables false
def nmAt (st : Option (List UInt8)) : Nat → List ByteArray × Option (List UInt8)
 | 0 => ([], st)
 | i + 1 => ((nmAt st i).1 ++ [(rdText (nmAt st i).2).1], (rdText (nmAt st i).2).2)
def inAt (st : Option (List UInt8)) : Nat → List EvT.den × Option (List UInt8)
 | 0 => ([], st)
 | i + 1 => ((inAt st i).1 ++ [(min (rdNum (inAt st i).2).1 200, (rdInt (rdNum (inAt st i).2).2).1)], (rdInt (rdNum (inAt st i).2).2).2)
theorem nmAt_s (st : Option (List UInt8)) (i : Nat) : nmAt st (i + 1) = ((nmAt st i).1 ++ [(rdText (nmAt st i).2).1], (rdText (nmAt st i).2).2) := rfl
theorem inAt_s (st : Option (List UInt8)) (i : Nat) : inAt st (i + 1) = ((inAt st i).1 ++ [(min (rdNum (inAt st i).2).1 200, (rdInt (rdNum (inAt st i).2).2).1)], (rdInt (rdNum (inAt st i).2).2).2) := rfl
theorem nmAt_len (st : Option (List UInt8)) (i : Nat) : (nmAt st i).1.length = i := by
 induction i with
 | zero => rfl
 | succ i ih => rw [nmAt_s]; simp [ih]
theorem inAt_len (st : Option (List UInt8)) (i : Nat) : (inAt st i).1.length = i := by
 induction i with
 | zero => rfl
 | succ i ih => rw [inAt_s]; simp [ih]
def decC (ns : List ByteArray) (st : Option (List UInt8)) : Option (List ByteArray × List EvT.den) :=
 if 200 < (rdNum st).1 then none else if (inAt (rdNum st).2 (rdNum st).1.toNat).2 = some [] ∧ formP ns (inAt (rdNum st).2 (rdNum st).1.toNat).1 = true then some (ns, (inAt (rdNum st).2 (rdNum st).1.toNat).1) else none
def decP (b : List UInt8) : Option (List ByteArray × List EvT.den) :=
 if 8 < (rdNum (some b)).1 then none else decC (nmAt (rdNum (some b)).2 (rdNum (some b)).1.toNat).1 (nmAt (rdNum (some b)).2 (rdNum (some b)).1.toNat).2
def dOut (K : SV → List SB → Prop) : Option (List ByteArray × List EvT.den) → Prop
 | none => K (.tup [.agg [.nils, .nils], .int .i64 2]) []
 | some p => K (.tup [.agg [.sl true 16 .str p.1, .sl true 16 EvT p.2], .int .i64 0]) []
def C27 : Contract := fun args hp K => match args, hp with
 | [.sl true 1 .byte xs], [] => dOut K (decP xs)
 | _, _ => False
def L27 (st : Option (List UInt8)) (n : Nat) : LoopAnn := cntA (fun i => ⟨[(2, .ptr 0 0), (4, .ptr 1 0), (5, .ptr 2 0), (15, .int .u64 n), (16, .int .u64 i)], [.struct [.nils, .nils], rdH (nmAt st i).2, .struct [.own 3, .own 4], .row true 16 .str (nmAt st i).1, .row true 16 EvT []]⟩) n
def M27 (ns : List ByteArray) (st : Option (List UInt8)) (n : Nat) : LoopAnn := cntA (fun i => ⟨[(2, .ptr 0 0), (4, .ptr 1 0), (5, .ptr 2 0), (31, .int .u64 n), (32, .int .u64 i)], [.struct [.nils, .nils], rdH (inAt st i).2, .struct [.own 3, .own 4], .row true 16 .str ns, .row true 16 EvT (inAt st i).1]⟩) n
attribute [local irreducible] rc
theorem s27 : Sound Tryz.prog 27 C27 := by
 refine sound_of_okF ok27 (.cons s45 (callable_of_okF ok45) (.cons s46 (callable_of_okF ok46) (.cons s47 (callable_of_okF ok47) (.cons s48 (callable_of_okF ok48) (.cons s49 (callable_of_okF ok49) (.cons s12 (callable_of_okF ok12) .nil)))))) ?_
 intro args hp K h
 unfold C27 at h
 split at h
 ·rename_i xs
  have hmx := maxLen_val
  have hr0 := rdNum_in (some xs)
  refine ⟨by simp, [(1, L27 (rdNum (some xs)).2 (rdNum (some xs)).1.toNat), (2, M27 (nmAt (rdNum (some xs)).2 (rdNum (some xs)).1.toNat).1 (rdNum (nmAt (rdNum (some xs)).2 (rdNum (some xs)).1.toNat).2).2 (rdNum (nmAt (rdNum (some xs)).2 (rdNum (some xs)).1.toNat).2).1.toNat)], ?_⟩
  simp (maxSteps:=9^9) only [a27, r27, C45, rdH, C46, go_sem, Int.reduceLT, Int.reduceLE, Int.reduceEq, Int.reduceNe, Int.reduceAdd, Int.reduceSub, Int.reduceMul, Int.reduceToNat, Int.reduceNeg, Nat.reduceEqDiff, Nat.reduceLeDiff, Nat.reduceSub, Nat.reduceMul, Nat.reduceLT, Nat.reduceBEq, Nat.reduceAdd]
  unfold decP at h
  generalize rdNum (some xs) = a at h hr0 ⊢
  obtain ⟨n0, st1⟩ := a
  simp only at h hr0 ⊢
  obtain ⟨n, rfl⟩ : ∃ n : Nat, n0 = n := ⟨n0.toNat, by omega⟩
  rw [Int.toNat_natCast] at h ⊢
  intro c hc
  refine swd hc (fun h8 => ?_) (fun h8 => ?_)
  ·rw [if_pos h8] at h
   exact h
  ·rw [if_neg h8] at h
   refine loop_intro (A := L27 st1 n) (0 : Nat) ?_ (Nat.zero_le _) ?_
   ·simp (maxSteps:=9^9) only [go_sem, Int.reduceLT, Int.reduceLE, Int.reduceEq, Int.reduceNe, Int.reduceAdd, Int.reduceSub, Int.reduceMul, Int.reduceToNat, Int.reduceNeg, Nat.reduceEqDiff, Nat.reduceLeDiff, Nat.reduceSub, Nat.reduceMul, Nat.reduceLT, Nat.reduceBEq, Nat.reduceAdd]
    rfl
   ·intro (i : Nat) (hi : i ≤ n)
    have hl := nmAt_len st1 i
    unfold L27
    simp (maxSteps:=9^9) only [cntA_I, rdH, C47, go_sem, Int.reduceLT, Int.reduceLE, Int.reduceEq, Int.reduceNe, Int.reduceAdd, Int.reduceSub, Int.reduceMul, Int.reduceToNat, Int.reduceNeg, Nat.reduceEqDiff, Nat.reduceLeDiff, Nat.reduceSub, Nat.reduceMul, Nat.reduceLT, Nat.reduceBEq, Nat.reduceAdd]
    intro c hc
    refine swd hc (fun h0 => ?_) (fun h0 => ?_)
    ·have h0 : i < n := by omega
     intro hsz
     refine ⟨fun _ => by omega, ?_⟩
     rintro _ _ _ m1 hm1
     rw [wu64 (by omega)] at hm1
     refine cntA_next h0 ?_
     rw [hm1]
     rfl
    ·have hin : i = n := by omega
     subst hin
     unfold decC at h
     simp (maxSteps:=9^9) only [C46, rdH, go_sem, Int.reduceLT, Int.reduceLE, Int.reduceEq, Int.reduceNe, Int.reduceAdd, Int.reduceSub, Int.reduceMul, Int.reduceToNat, Int.reduceNeg, Nat.reduceEqDiff, Nat.reduceLeDiff, Nat.reduceSub, Nat.reduceMul, Nat.reduceLT, Nat.reduceBEq, Nat.reduceAdd]
     have hr1 := rdNum_in (nmAt st1 i).2
     generalize nmAt st1 i = a at h hr1 hl ⊢
     obtain ⟨ns, st2⟩ := a
     simp only at h hr1 hl ⊢
     generalize rdNum st2 = a at h hr1 ⊢
     obtain ⟨k0, st3⟩ := a
     simp only at h hr1 ⊢
     obtain ⟨k, rfl⟩ : ∃ k : Nat, k0 = k := ⟨k0.toNat, by omega⟩
     rw [Int.toNat_natCast] at h ⊢
     intro c hc
     refine swd hc (fun h2 => ?_) (fun h2 => ?_)
     ·rw [if_pos h2] at h
      exact h
     ·rw [if_neg h2] at h
      refine loop_intro (A := M27 ns st3 k) (0 : Nat) ?_ (Nat.zero_le _) ?_
      ·simp (maxSteps:=9^9) only [go_sem, Int.reduceLT, Int.reduceLE, Int.reduceEq, Int.reduceNe, Int.reduceAdd, Int.reduceSub, Int.reduceMul, Int.reduceToNat, Int.reduceNeg, Nat.reduceEqDiff, Nat.reduceLeDiff, Nat.reduceSub, Nat.reduceMul, Nat.reduceLT, Nat.reduceBEq, Nat.reduceAdd]
       rfl
      ·intro (j : Nat) (hj : j ≤ k)
       have hl2 := inAt_len st3 j
       unfold M27
       simp (maxSteps:=9^9) only [cntA_I, rdH, C46, C48, go_sem, Int.reduceLT, Int.reduceLE, Int.reduceEq, Int.reduceNe, Int.reduceAdd, Int.reduceSub, Int.reduceMul, Int.reduceToNat, Int.reduceNeg, Nat.reduceEqDiff, Nat.reduceLeDiff, Nat.reduceSub, Nat.reduceMul, Nat.reduceLT, Nat.reduceBEq, Nat.reduceAdd]
       intro c hc
       refine swd hc (fun h0 => ?_) (fun h0 => ?_)
       ·have h0 : j < k := by omega
        have hr2 := rdNum_in (inAt st3 j).2
        rintro m hm _ m1 hm1
        have e1 : m = min (rdNum (inAt st3 j).2).1 200 := by rw [hm]; split <;> omega
        rw [w64 (by omega)] at hm1
        refine ⟨⟨fun m2 h2 => by rw [hm, h2], fun _ m2 h2 => by rw [h2, w64 (by omega), hm1]⟩, fun _ => by omega, ?_⟩
        rintro _ _ _ m3 hm3
        rw [wu64 (by omega)] at hm3
        refine cntA_next h0 ?_
        rw [hm3, hm1, e1]
        rfl
       ·have hin : j = k := by omega
        subst hin
        simp (maxSteps:=9^9) only [C49, rdH, go_sem, Int.reduceLT, Int.reduceLE, Int.reduceEq, Int.reduceNe, Int.reduceAdd, Int.reduceSub, Int.reduceMul, Int.reduceToNat, Int.reduceNeg, Nat.reduceEqDiff, Nat.reduceLeDiff, Nat.reduceSub, Nat.reduceMul, Nat.reduceLT, Nat.reduceBEq, Nat.reduceAdd]
        refine swd rfl (fun he => ?_) (fun he => ?_)
        ·refine use12 ?_
         cases fp : formP ns (inAt st3 j).1 with
         | false =>
          simp (maxSteps:=9^9) only [go_sem, Int.reduceLT, Int.reduceLE, Int.reduceEq, Int.reduceNe, Int.reduceAdd, Int.reduceSub, Int.reduceMul, Int.reduceToNat, Int.reduceNeg, Nat.reduceEqDiff, Nat.reduceLeDiff, Nat.reduceSub, Nat.reduceMul, Nat.reduceLT, Nat.reduceBEq, Nat.reduceAdd]
          rw [if_neg (by rw [fp]; simp)] at h
          exact h
         | true =>
          simp (maxSteps:=9^9) only [go_sem, Int.reduceLT, Int.reduceLE, Int.reduceEq, Int.reduceNe, Int.reduceAdd, Int.reduceSub, Int.reduceMul, Int.reduceToNat, Int.reduceNeg, Nat.reduceEqDiff, Nat.reduceLeDiff, Nat.reduceSub, Nat.reduceMul, Nat.reduceLT, Nat.reduceBEq, Nat.reduceAdd]
          rw [if_pos ⟨he, fp⟩] at h
          exact h
        ·rw [if_neg (fun hh => he hh.1)] at h
         exact h
 ·exact h.elim
theorem inAt_mem (st : Option (List UInt8)) {j : Nat} : ∀ k, j < k → ((min (rdNum (inAt st j).2).1 200, (rdInt (rdNum (inAt st j).2).2).1) : Int × Int) ∈ (inAt st k).1
 | 0, h => absurd h (by omega)
 | k + 1, h => by
  rw [inAt_s]
  rcases Nat.lt_or_ge j k with h' | h'
  ·exact List.mem_append_left _ (inAt_mem st k h')
  ·obtain rfl : j = k := by omega
   exact List.mem_append_right _ (List.mem_singleton.2 rfl)
theorem form_no {ns : List ByteArray} {cs : List EvT.den} {a b : Int} (h : ((a, b) : Int × Int) ∈ cs) (ha : 24 ≤ a) : formP ns cs = false := by
 cases hf : formP ns cs with
 | false => rfl
 | true =>
  obtain ⟨_, _, hi⟩ := formP_iff.1 hf
  have := (ins_in (x := (a, b)) (List.all_eq_true.1 hi _ h)).1
  exact absurd this.2 (by show ¬ a < 24; omega)
def C28 : Contract := fun args hp K => match args, hp with
 | [.sl true 1 .byte xs], [] => dOut K (decP xs)
 | _, _ => False
def L28 (st : Option (List UInt8)) (n : Nat) : LoopAnn := cntA (fun i => ⟨[(2, .ptr 0 0), (4, .ptr 1 0), (5, .ptr 2 0), (15, .int .u64 n), (16, .int .u64 i)], [.struct [.nils, .nils], rdH (nmAt st i).2, .struct [.own 3, .own 4], .row true 16 .str (nmAt st i).1, .row true 16 EvT []]⟩) n
def M28 (ns : List ByteArray) (st : Option (List UInt8)) (n : Nat) : LoopAnn := cntA (fun i => ⟨[(2, .ptr 0 0), (4, .ptr 1 0), (5, .ptr 2 0), (37, .int .u64 n), (38, .int .u64 i)], [.struct [.nils, .nils], rdH (inAt st i).2, .struct [.own 3, .own 4], .row true 16 .str ns, .row true 16 EvT (inAt st i).1]⟩) n
theorem s28 : Sound Tryz.prog 28 C28 := by
 refine sound_of_okF ok28 (.cons s50 (callable_of_okF ok50) (.cons s51 (callable_of_okF ok51) (.cons s52 (callable_of_okF ok52) (.cons s53 (callable_of_okF ok53) (.cons s54 (callable_of_okF ok54) (.cons s41 (callable_of_okF ok41) .nil)))))) ?_
 intro args hp K h
 unfold C28 at h
 split at h
 ·rename_i xs
  have hmx := maxLen_val
  have hr0 := rdNum_in (some xs)
  refine ⟨by simp, [(1, L28 (rdNum (some xs)).2 (rdNum (some xs)).1.toNat), (2, M28 (nmAt (rdNum (some xs)).2 (rdNum (some xs)).1.toNat).1 (rdNum (nmAt (rdNum (some xs)).2 (rdNum (some xs)).1.toNat).2).2 (rdNum (nmAt (rdNum (some xs)).2 (rdNum (some xs)).1.toNat).2).1.toNat)], ?_⟩
  simp (maxSteps:=9^9) only [a28, r28, C50, rdH, C51, go_sem, Int.reduceLT, Int.reduceLE, Int.reduceEq, Int.reduceNe, Int.reduceAdd, Int.reduceSub, Int.reduceMul, Int.reduceToNat, Int.reduceNeg, Nat.reduceEqDiff, Nat.reduceLeDiff, Nat.reduceSub, Nat.reduceMul, Nat.reduceLT, Nat.reduceBEq, Nat.reduceAdd]
  unfold decP at h
  generalize rdNum (some xs) = a at h hr0 ⊢
  obtain ⟨n0, st1⟩ := a
  simp only at h hr0 ⊢
  obtain ⟨n, rfl⟩ : ∃ n : Nat, n0 = n := ⟨n0.toNat, by omega⟩
  rw [Int.toNat_natCast] at h ⊢
  intro c hc
  refine swd hc (fun h8 => ?_) (fun h8 => ?_)
  ·rw [if_pos h8] at h
   exact h
  ·rw [if_neg h8] at h
   refine loop_intro (A := L28 st1 n) (0 : Nat) ?_ (Nat.zero_le _) ?_
   ·simp (maxSteps:=9^9) only [go_sem, Int.reduceLT, Int.reduceLE, Int.reduceEq, Int.reduceNe, Int.reduceAdd, Int.reduceSub, Int.reduceMul, Int.reduceToNat, Int.reduceNeg, Nat.reduceEqDiff, Nat.reduceLeDiff, Nat.reduceSub, Nat.reduceMul, Nat.reduceLT, Nat.reduceBEq, Nat.reduceAdd]
    rfl
   ·intro (i : Nat) (hi : i ≤ n)
    have hl := nmAt_len st1 i
    unfold L28
    simp (maxSteps:=9^9) only [cntA_I, rdH, C52, go_sem, Int.reduceLT, Int.reduceLE, Int.reduceEq, Int.reduceNe, Int.reduceAdd, Int.reduceSub, Int.reduceMul, Int.reduceToNat, Int.reduceNeg, Nat.reduceEqDiff, Nat.reduceLeDiff, Nat.reduceSub, Nat.reduceMul, Nat.reduceLT, Nat.reduceBEq, Nat.reduceAdd]
    intro c hc
    refine swd hc (fun h0 => ?_) (fun h0 => ?_)
    ·have h0 : i < n := by omega
     intro hsz
     refine ⟨fun _ => by omega, ?_⟩
     rintro _ _ _ m1 hm1
     rw [wu64 (by omega)] at hm1
     refine cntA_next h0 ?_
     rw [hm1]
     rfl
    ·have hin : i = n := by omega
     subst hin
     unfold decC at h
     simp (maxSteps:=9^9) only [C51, rdH, go_sem, Int.reduceLT, Int.reduceLE, Int.reduceEq, Int.reduceNe, Int.reduceAdd, Int.reduceSub, Int.reduceMul, Int.reduceToNat, Int.reduceNeg, Nat.reduceEqDiff, Nat.reduceLeDiff, Nat.reduceSub, Nat.reduceMul, Nat.reduceLT, Nat.reduceBEq, Nat.reduceAdd]
     have hr1 := rdNum_in (nmAt st1 i).2
     generalize nmAt st1 i = a at h hr1 hl ⊢
     obtain ⟨ns, st2⟩ := a
     simp only at h hr1 hl ⊢
     cases hb : rdNum st2 with
     | mk k0 st3 =>
     rw [hb] at h hr1
     simp only at h hr1 ⊢
     cases st3 with
     | none =>
      have e0 := rdNum_none hb
      subst e0
      rw [if_neg (by omega), if_neg (by rintro ⟨h1, _⟩; cases h1)] at h
      simp (maxSteps:=9^9) only [Option.isNone, go_sem, Int.reduceLT, Int.reduceLE, Int.reduceEq, Int.reduceNe, Int.reduceAdd, Int.reduceSub, Int.reduceMul, Int.reduceToNat, Int.reduceNeg, Nat.reduceEqDiff, Nat.reduceLeDiff, Nat.reduceSub, Nat.reduceMul, Nat.reduceLT, Nat.reduceBEq, Nat.reduceAdd]
      exact h
     | some r3 =>
     obtain ⟨k, rfl⟩ : ∃ k : Nat, k0 = k := ⟨k0.toNat, by omega⟩
     rw [Int.toNat_natCast] at h ⊢
     simp (maxSteps:=9^9) only [Option.isNone, go_sem, Int.reduceLT, Int.reduceLE, Int.reduceEq, Int.reduceNe, Int.reduceAdd, Int.reduceSub, Int.reduceMul, Int.reduceToNat, Int.reduceNeg, Nat.reduceEqDiff, Nat.reduceLeDiff, Nat.reduceSub, Nat.reduceMul, Nat.reduceLT, Nat.reduceBEq, Nat.reduceAdd]
     intro c hc
     refine swd hc (fun h2 => ?_) (fun h2 => ?_)
     ·rw [if_pos h2] at h
      exact h
     ·rw [if_neg h2] at h
      refine loop_intro (A := M28 ns (some r3) k) (0 : Nat) ?_ (Nat.zero_le _) ?_
      ·simp (maxSteps:=9^9) only [go_sem, Int.reduceLT, Int.reduceLE, Int.reduceEq, Int.reduceNe, Int.reduceAdd, Int.reduceSub, Int.reduceMul, Int.reduceToNat, Int.reduceNeg, Nat.reduceEqDiff, Nat.reduceLeDiff, Nat.reduceSub, Nat.reduceMul, Nat.reduceLT, Nat.reduceBEq, Nat.reduceAdd]
       rfl
      ·intro (j : Nat) (hj : j ≤ k)
       have hl2 := inAt_len (some r3) j
       unfold M28
       simp (maxSteps:=9^9) only [cntA_I, rdH, C51, C53, go_sem, Int.reduceLT, Int.reduceLE, Int.reduceEq, Int.reduceNe, Int.reduceAdd, Int.reduceSub, Int.reduceMul, Int.reduceToNat, Int.reduceNeg, Nat.reduceEqDiff, Nat.reduceLeDiff, Nat.reduceSub, Nat.reduceMul, Nat.reduceLT, Nat.reduceBEq, Nat.reduceAdd]
       intro c hc
       refine swd hc (fun h0 => ?_) (fun h0 => ?_)
       ·have h0 : j < k := by omega
        have hr2 := rdNum_in (inAt (some r3) j).2
        intro c2 hc2
        refine swd hc2 (fun h3 => ?_) (fun h3 => ?_)
        ·rw [if_neg (by rw [form_no (inAt_mem (some r3) k h0) (by omega)]; simp)] at h
         exact h
        ·rintro _ m1 hm1
         have e1 : (rdNum (inAt (some r3) j).2).1 = min (rdNum (inAt (some r3) j).2).1 200 := by omega
         rw [w64 (by omega)] at hm1
         refine ⟨fun _ m2 h2 => by rw [h2, w64 (by omega), hm1], fun _ => by omega, ?_⟩
         rintro _ _ _ m3 hm3
         rw [wu64 (by omega)] at hm3
         refine cntA_next h0 ?_
         rw [hm3, hm1, e1]
         rfl
       ·have hin : j = k := by omega
        subst hin
        simp (maxSteps:=9^9) only [C54, rdH, go_sem, Int.reduceLT, Int.reduceLE, Int.reduceEq, Int.reduceNe, Int.reduceAdd, Int.reduceSub, Int.reduceMul, Int.reduceToNat, Int.reduceNeg, Nat.reduceEqDiff, Nat.reduceLeDiff, Nat.reduceSub, Nat.reduceMul, Nat.reduceLT, Nat.reduceBEq, Nat.reduceAdd]
        refine swd rfl (fun he => ?_) (fun he => ?_)
        ·refine use41 ?_
         cases fp : formP ns (inAt (some r3) j).1 with
         | false =>
          simp (maxSteps:=9^9) only [go_sem, Int.reduceLT, Int.reduceLE, Int.reduceEq, Int.reduceNe, Int.reduceAdd, Int.reduceSub, Int.reduceMul, Int.reduceToNat, Int.reduceNeg, Nat.reduceEqDiff, Nat.reduceLeDiff, Nat.reduceSub, Nat.reduceMul, Nat.reduceLT, Nat.reduceBEq, Nat.reduceAdd]
          rw [if_neg (by rw [fp]; simp)] at h
          exact h
         | true =>
          simp (maxSteps:=9^9) only [go_sem, Int.reduceLT, Int.reduceLE, Int.reduceEq, Int.reduceNe, Int.reduceAdd, Int.reduceSub, Int.reduceMul, Int.reduceToNat, Int.reduceNeg, Nat.reduceEqDiff, Nat.reduceLeDiff, Nat.reduceSub, Nat.reduceMul, Nat.reduceLT, Nat.reduceBEq, Nat.reduceAdd]
          rw [if_pos ⟨he, fp⟩] at h
          exact h
        ·rw [if_neg (fun hh => he hh.1)] at h
         exact h
 ·exact h.elim
end Go.V
namespace Go.V
open Go.Proofs
set_option maxRecDepth 100000
set_option maxHeartbeats 8000000
set_option linter.unusedSimpArgs false
set_option linter.unnecessarySimpa false
set_option linter.unusedVariables false
theorem use8 {ns : List ByteArray} {cs : List EvT.den} {K : SV → List SB → Prop} (h1 : formP ns cs = false → K (.tup [.own 0, .int .i64 1]) [.row true 1 .byte []]) (h2 : formP ns cs = true → K (.tup [.own 0, .int .i64 0]) [.row true 1 .byte (encL ns cs)]) : C8 [.agg [.sl true 16 .str ns, .sl true 16 EvT cs]] [] K := ⟨h1, h2⟩
theorem use26 {ns : List ByteArray} {cs : List EvT.den} {K : SV → List SB → Prop} (h1 : formP ns cs = false → K (.tup [.own 0, .int .i64 1]) [.row true 1 .byte []]) (h2 : formP ns cs = true → K (.tup [.own 0, .int .i64 0]) [.row true 1 .byte (encL ns cs)]) : C26 [.agg [.sl true 16 .str ns, .sl true 16 EvT cs]] [] K := ⟨h1, h2⟩
theorem use27 {xs : List UInt8} {K : SV → List SB → Prop} (h : dOut K (decP xs)) : C27 [.sl true 1 .byte xs] [] K := h
theorem use28 {xs : List UInt8} {K : SV → List SB → Prop} (h : dOut K (decP xs)) : C28 [.sl true 1 .byte xs] [] K := h
theorem dOut_n {K : SV → List SB → Prop} : dOut K none = K (.tup [.agg [.nils, .nils], .int .i64 2]) [] := rfl
theorem dOut_s {K : SV → List SB → Prop} {p} : dOut K (some p) = K (.tup [.agg [.sl true 16 .str p.1, .sl true 16 EvT p.2], .int .i64 0]) [] := rfl
theorem decP_form {b : List UInt8} {p} (h : decP b = some p) : formP p.1 p.2 = true := by
 unfold decP decC at h
 split at h
 ·cases h
 ·split at h
  ·cases h
  ·split at h
   ·rename_i h3
    cases h
    exact h3.2
   ·cases h
def C10 : Contract := fun args hp K => match args, hp with
 | [.agg [.sl true 16 .str n1, .sl true 16 (.pair (.int .i64) (.int .i64)) c1], .sl true 1 .byte b], [] => K (.bool true) []
 | _, _ => False
attribute [local irreducible] rc
theorem s10 : Sound Tryz.prog 10 C10 := by
 refine sound_of_okF ok10 (.cons s4 (callable_of_okF ok4) (.cons s5 (callable_of_okF ok5) (.cons s7 (callable_of_okF ok7) (.cons s8 (callable_of_okF ok8) (.cons s26 (callable_of_okF ok26) (.cons s27 (callable_of_okF ok27) (.cons s28 (callable_of_okF ok28) (.cons s25 (callable_of_okF ok25) (.cons s24 (callable_of_okF ok24) .nil))))))))) ?_
 intro args hp K h
 unfold C10 at h
 split at h
 ·rename_i n1 c1 b
  refine ⟨by simp, [], ?_⟩
  simp (maxSteps:=9^9) only [a10, r10, C4, go_sem, Int.reduceLT, Int.reduceLE, Int.reduceEq, Int.reduceNe, Int.reduceAdd, Int.reduceSub, Int.reduceMul, Int.reduceToNat, Int.reduceNeg, Nat.reduceEqDiff, Nat.reduceLeDiff, Nat.reduceSub, Nat.reduceMul, Nat.reduceLT, Nat.reduceBEq, Nat.reduceAdd]
  refine use5 ?_
  cases f1 : fewP n1 c1 with
  | false =>
   simp (maxSteps:=9^9) only [C4, go_sem, Int.reduceLT, Int.reduceLE, Int.reduceEq, Int.reduceNe, Int.reduceAdd, Int.reduceSub, Int.reduceMul, Int.reduceToNat, Int.reduceNeg, Nat.reduceEqDiff, Nat.reduceLeDiff, Nat.reduceSub, Nat.reduceMul, Nat.reduceLT, Nat.reduceBEq, Nat.reduceAdd]
   exact h
  | true =>
   simp (maxSteps:=9^9) only [go_sem, Int.reduceLT, Int.reduceLE, Int.reduceEq, Int.reduceNe, Int.reduceAdd, Int.reduceSub, Int.reduceMul, Int.reduceToNat, Int.reduceNeg, Nat.reduceEqDiff, Nat.reduceLeDiff, Nat.reduceSub, Nat.reduceMul, Nat.reduceLT, Nat.reduceBEq, Nat.reduceAdd]
   obtain ⟨⟨l1, z1⟩, l2⟩ := fewP_iff.1 f1
   refine use7 (by omega) (by omega) ?_
   simp (maxSteps:=9^9) only [go_sem, Int.reduceLT, Int.reduceLE, Int.reduceEq, Int.reduceNe, Int.reduceAdd, Int.reduceSub, Int.reduceMul, Int.reduceToNat, Int.reduceNeg, Nat.reduceEqDiff, Nat.reduceLeDiff, Nat.reduceSub, Nat.reduceMul, Nat.reduceLT, Nat.reduceBEq, Nat.reduceAdd]
   cases fp : formP n1 c1 with
   | false =>
    refine use8 (fun _ => ?_) (fun h' => absurd h' (by rw [fp]; simp))
    simp (maxSteps:=9^9) only [go_sem, Int.reduceLT, Int.reduceLE, Int.reduceEq, Int.reduceNe, Int.reduceAdd, Int.reduceSub, Int.reduceMul, Int.reduceToNat, Int.reduceNeg, Nat.reduceEqDiff, Nat.reduceLeDiff, Nat.reduceSub, Nat.reduceMul, Nat.reduceLT, Nat.reduceBEq, Nat.reduceAdd]
    refine use26 (fun _ => ?_) (fun h' => absurd h' (by rw [fp]; simp))
    simp (maxSteps:=9^9) only [go_sem, Int.reduceLT, Int.reduceLE, Int.reduceEq, Int.reduceNe, Int.reduceAdd, Int.reduceSub, Int.reduceMul, Int.reduceToNat, Int.reduceNeg, Nat.reduceEqDiff, Nat.reduceLeDiff, Nat.reduceSub, Nat.reduceMul, Nat.reduceLT, Nat.reduceBEq, Nat.reduceAdd]
    refine use27 ?_
    cases hd : decP b with
    | none =>
     rw [dOut_n]
     simp (maxSteps:=9^9) only [go_sem, Int.reduceLT, Int.reduceLE, Int.reduceEq, Int.reduceNe, Int.reduceAdd, Int.reduceSub, Int.reduceMul, Int.reduceToNat, Int.reduceNeg, Nat.reduceEqDiff, Nat.reduceLeDiff, Nat.reduceSub, Nat.reduceMul, Nat.reduceLT, Nat.reduceBEq, Nat.reduceAdd]
     refine use28 ?_
     rw [hd, dOut_n]
     simp (maxSteps:=9^9) only [go_sem, Int.reduceLT, Int.reduceLE, Int.reduceEq, Int.reduceNe, Int.reduceAdd, Int.reduceSub, Int.reduceMul, Int.reduceToNat, Int.reduceNeg, Nat.reduceEqDiff, Nat.reduceLeDiff, Nat.reduceSub, Nat.reduceMul, Nat.reduceLT, Nat.reduceBEq, Nat.reduceAdd]
     rintro u rfl u2 rfl c hc
     refine swd hc (fun _ => ?_) (fun h0 => absurd rfl h0)
     refine use25n ?_
     simp (maxSteps:=9^9) only [go_sem, Int.reduceLT, Int.reduceLE, Int.reduceEq, Int.reduceNe, Int.reduceAdd, Int.reduceSub, Int.reduceMul, Int.reduceToNat, Int.reduceNeg, Nat.reduceEqDiff, Nat.reduceLeDiff, Nat.reduceSub, Nat.reduceMul, Nat.reduceLT, Nat.reduceBEq, Nat.reduceAdd]
     refine use24n ?_
     simp (maxSteps:=9^9) only [go_sem, Int.reduceLT, Int.reduceLE, Int.reduceEq, Int.reduceNe, Int.reduceAdd, Int.reduceSub, Int.reduceMul, Int.reduceToNat, Int.reduceNeg, Nat.reduceEqDiff, Nat.reduceLeDiff, Nat.reduceSub, Nat.reduceMul, Nat.reduceLT, Nat.reduceBEq, Nat.reduceAdd]
     exact h
    | some p =>
     have hf2 := (formP_iff.1 (decP_form hd)).1
     rw [dOut_s]
     simp (maxSteps:=9^9) only [go_sem, Int.reduceLT, Int.reduceLE, Int.reduceEq, Int.reduceNe, Int.reduceAdd, Int.reduceSub, Int.reduceMul, Int.reduceToNat, Int.reduceNeg, Nat.reduceEqDiff, Nat.reduceLeDiff, Nat.reduceSub, Nat.reduceMul, Nat.reduceLT, Nat.reduceBEq, Nat.reduceAdd]
     refine use28 ?_
     rw [hd, dOut_s]
     simp (maxSteps:=9^9) only [go_sem, Int.reduceLT, Int.reduceLE, Int.reduceEq, Int.reduceNe, Int.reduceAdd, Int.reduceSub, Int.reduceMul, Int.reduceToNat, Int.reduceNeg, Nat.reduceEqDiff, Nat.reduceLeDiff, Nat.reduceSub, Nat.reduceMul, Nat.reduceLT, Nat.reduceBEq, Nat.reduceAdd]
     rintro u rfl u2 rfl c hc
     refine swd hc (fun _ => ?_) (fun h0 => absurd rfl h0)
     refine use25 (by omega) (by omega) ?_
     simp (maxSteps:=9^9) only [go_sem, Int.reduceLT, Int.reduceLE, Int.reduceEq, Int.reduceNe, Int.reduceAdd, Int.reduceSub, Int.reduceMul, Int.reduceToNat, Int.reduceNeg, Nat.reduceEqDiff, Nat.reduceLeDiff, Nat.reduceSub, Nat.reduceMul, Nat.reduceLT, Nat.reduceBEq, Nat.reduceAdd]
     refine use24 ?_
     simp (maxSteps:=9^9) only [go_sem, Int.reduceLT, Int.reduceLE, Int.reduceEq, Int.reduceNe, Int.reduceAdd, Int.reduceSub, Int.reduceMul, Int.reduceToNat, Int.reduceNeg, Nat.reduceEqDiff, Nat.reduceLeDiff, Nat.reduceSub, Nat.reduceMul, Nat.reduceLT, Nat.reduceBEq, Nat.reduceAdd]
     exact h
   | true =>
    refine use8 (fun h' => absurd h' (by rw [fp]; simp)) (fun _ => ?_)
    simp (maxSteps:=9^9) only [go_sem, Int.reduceLT, Int.reduceLE, Int.reduceEq, Int.reduceNe, Int.reduceAdd, Int.reduceSub, Int.reduceMul, Int.reduceToNat, Int.reduceNeg, Nat.reduceEqDiff, Nat.reduceLeDiff, Nat.reduceSub, Nat.reduceMul, Nat.reduceLT, Nat.reduceBEq, Nat.reduceAdd]
    refine use26 (fun h' => absurd h' (by rw [fp]; simp)) (fun _ => ?_)
    simp (maxSteps:=9^9) only [go_sem, Int.reduceLT, Int.reduceLE, Int.reduceEq, Int.reduceNe, Int.reduceAdd, Int.reduceSub, Int.reduceMul, Int.reduceToNat, Int.reduceNeg, Nat.reduceEqDiff, Nat.reduceLeDiff, Nat.reduceSub, Nat.reduceMul, Nat.reduceLT, Nat.reduceBEq, Nat.reduceAdd]
    refine use27 ?_
    cases hd : decP b with
    | none =>
     rw [dOut_n]
     simp (maxSteps:=9^9) only [go_sem, Int.reduceLT, Int.reduceLE, Int.reduceEq, Int.reduceNe, Int.reduceAdd, Int.reduceSub, Int.reduceMul, Int.reduceToNat, Int.reduceNeg, Nat.reduceEqDiff, Nat.reduceLeDiff, Nat.reduceSub, Nat.reduceMul, Nat.reduceLT, Nat.reduceBEq, Nat.reduceAdd]
     refine use28 ?_
     rw [hd, dOut_n]
     simp (maxSteps:=9^9) only [go_sem, Int.reduceLT, Int.reduceLE, Int.reduceEq, Int.reduceNe, Int.reduceAdd, Int.reduceSub, Int.reduceMul, Int.reduceToNat, Int.reduceNeg, Nat.reduceEqDiff, Nat.reduceLeDiff, Nat.reduceSub, Nat.reduceMul, Nat.reduceLT, Nat.reduceBEq, Nat.reduceAdd]
     rintro u rfl u2 rfl c hc
     refine swd hc (fun _ => ?_) (fun h0 => absurd rfl h0)
     refine use25n ?_
     simp (maxSteps:=9^9) only [go_sem, Int.reduceLT, Int.reduceLE, Int.reduceEq, Int.reduceNe, Int.reduceAdd, Int.reduceSub, Int.reduceMul, Int.reduceToNat, Int.reduceNeg, Nat.reduceEqDiff, Nat.reduceLeDiff, Nat.reduceSub, Nat.reduceMul, Nat.reduceLT, Nat.reduceBEq, Nat.reduceAdd]
     refine use24n ?_
     simp (maxSteps:=9^9) only [go_sem, Int.reduceLT, Int.reduceLE, Int.reduceEq, Int.reduceNe, Int.reduceAdd, Int.reduceSub, Int.reduceMul, Int.reduceToNat, Int.reduceNeg, Nat.reduceEqDiff, Nat.reduceLeDiff, Nat.reduceSub, Nat.reduceMul, Nat.reduceLT, Nat.reduceBEq, Nat.reduceAdd]
     exact h
    | some p =>
     have hf2 := (formP_iff.1 (decP_form hd)).1
     rw [dOut_s]
     simp (maxSteps:=9^9) only [go_sem, Int.reduceLT, Int.reduceLE, Int.reduceEq, Int.reduceNe, Int.reduceAdd, Int.reduceSub, Int.reduceMul, Int.reduceToNat, Int.reduceNeg, Nat.reduceEqDiff, Nat.reduceLeDiff, Nat.reduceSub, Nat.reduceMul, Nat.reduceLT, Nat.reduceBEq, Nat.reduceAdd]
     refine use28 ?_
     rw [hd, dOut_s]
     simp (maxSteps:=9^9) only [go_sem, Int.reduceLT, Int.reduceLE, Int.reduceEq, Int.reduceNe, Int.reduceAdd, Int.reduceSub, Int.reduceMul, Int.reduceToNat, Int.reduceNeg, Nat.reduceEqDiff, Nat.reduceLeDiff, Nat.reduceSub, Nat.reduceMul, Nat.reduceLT, Nat.reduceBEq, Nat.reduceAdd]
     rintro u rfl u2 rfl c hc
     refine swd hc (fun _ => ?_) (fun h0 => absurd rfl h0)
     refine use25 (by omega) (by omega) ?_
     simp (maxSteps:=9^9) only [go_sem, Int.reduceLT, Int.reduceLE, Int.reduceEq, Int.reduceNe, Int.reduceAdd, Int.reduceSub, Int.reduceMul, Int.reduceToNat, Int.reduceNeg, Nat.reduceEqDiff, Nat.reduceLeDiff, Nat.reduceSub, Nat.reduceMul, Nat.reduceLT, Nat.reduceBEq, Nat.reduceAdd]
     refine use24 ?_
     simp (maxSteps:=9^9) only [go_sem, Int.reduceLT, Int.reduceLE, Int.reduceEq, Int.reduceNe, Int.reduceAdd, Int.reduceSub, Int.reduceMul, Int.reduceToNat, Int.reduceNeg, Nat.reduceEqDiff, Nat.reduceLeDiff, Nat.reduceSub, Nat.reduceMul, Nat.reduceLT, Nat.reduceBEq, Nat.reduceAdd]
     exact h
 ·exact h.elim
end Go.V
namespace Go.V
set_option linter.unusedSimpArgs false
set_option linter.unnecessarySimpa false
open Go.Proofs
def a3 : AS := qS [q 4 (.box (.t 0)), q 8 (.mv qf)] [1,2,3,4] (.seq (qS [q 14 (.call 4 [] []), q 15 (.not (.t 14)), q0 16 15, qF 17 (.ldA 2 (.t 4)) 16, qF 18 (.call 5 [none] [.t 17]) 16, qF 19 (.not (.t 18)) 16, q 20 (.pick (.t 16) qt (.t 19))]
 [1,2,3,4,20] (.cond (.t 20) (qS [q 21 (.call 4 [] []), q0 8 21] [8] .ret) .skip)) (qS [q 23 (.ldA 2 (.t 4)), qX 7 24 [.t 23], qX 6 25 [.t 24], q0 22 25, q 26 (.ext (.t 22) 0), q 27 (.ext (.t 22) 1), q0 9 26, q0 10 27] [1,2,3,4,9,10] (qS [q
 29 (.ldA 2 (.t 4)), qX 7 30 [.t 29], qX 8 31 [.t 30], q0 28 31, q 32 (.ext (.t 28) 0), q 33 (.ext (.t 28) 1), q0 11 32, q0 12 33] [1,2,3,4,9,10,11,12] (.seq (qS [q0 34 10, q 35 (.bin .neq (.t 34) (qI 0)), q0 36 35, q2 37 12 36, qF 38 (.bin
 .neq (.t 37) (qI 0)) 36, q 39 (.pick (.t 36) qt (.t 38))] [1,2,3,4,9,10,11,12,39] (.cond (.t 39) (qS [q0 40 10, q0 41 12, q 42 (.bin .eql (.t 40) (.t 41)), q0 8 42] [8] .ret) .skip)) (.seq (qS [q0 43 9, q 44 (.len .i (.t 43)), q 45 (.bin
 .gtr (.t 44) (qI 0))] [1,2,3,4,9,11,45] (.cond (.t 45) (qS [q0 46 9, q 47 (.s2b (.t 46)), q0 13 47] [1,2,3,4,9,11,13] (qS [q0 48 13, q0 49 1, q 50 (.cv .u64 (.t 49)), q0 51 13, q 52 (.len .s (.t 51)), q 53 (.cv .u64 (.t 52)), q 54 (.bin .rem
 (.t 50) (.t 53)), q 55 (.cv .i64 (.t 54)), q0 56 2, q 57 (.ia 1 (.t 48) (.t 55)), q6 1 57 56] [1,2,3,4,9,11,13] (qS [q0 58 13, q 59 (.b2s (.t 58)), qX 9 60 [.t 59], q 61 (.not (.t 60)), q0 62 61, q2 63 9 62, q2 64 3 62, qF 65 (.cv .u64 (.t
 64)) 62, q2 66 9 62, qF 67 (.len .i (.t 66)) 62, qF 68 (.bin .add (.t 67) (qI 1)) 62, qF 69 (.cv .u64 (.t 68)) 62, qF 70 (.bin .rem (.t 65) (.t 69)) 62, qF 71 (.cv .i64 (.t 70)) 62, qF 72 (.slS (.t 63) none (some (.t 71))) 62, qF 73 (.call 9
 [none] [.t 72]) 62, qF 74 (.not (.t 73)) 62, q 75 (.pick (.t 62) qt (.t 74))] [1,2,3,4,11,75] (.cond (.t 75) (qS [q 8 (.mv qf)] [8] .ret) .skip)))) .skip)) (qS [q0 76 11, q0 77 1, q 78 (.cv .u64 (.t 77)), q0 79 11, q 80 (.len .s (.t 79)), q
 81 (.cv .u64 (.t 80)), q 82 (.bin .rem (.t 78) (.t 81)), q 83 (.cv .i64 (.t 82)), q0 84 2, q 85 (.ia 1 (.t 76) (.t 83)), q6 1 85 84] [3,4,11] (.seq (.frz 11 (.regD [q 86 (.ldA 2 (.t 4)), q0 87 11, q 88 (.call 10 [none, none] [.t 86, .t 87]),
 q0 89 88, qT 90 (.ldA 2 (.t 4)) 89, q1 91 11 89, q1 92 3 89, qT 93 (.cv .u64 (.t 92)) 89, q1 94 11 89, qT 95 (.len .s (.t 94)) 89, qT 96 (.cv .u64 (.t 95)) 89, qT 97 (.bin .rem (.t 93) (.t 96)) 89, qT 98 (.cv .i64 (.t 97)) 89, qT 99 (.slR 1
 (.t 91) none (some (.t 98))) 89, qT 100 (.call 10 [none, none] [.t 90, .t 99]) 89, q 101 (.pick (.t 89) (.t 100) qf), q0 8 101] [.q 0, .q 1, .e 2 [], .q 3, .q 4, .q 5, .q 6, .q 7, .q 8, .q 9, .q 10, .q 11, .q 12, .q 13, .e 14 [], .q 15, .q
 16] [8])) .ret)))))))
def r3 : List RT := [.t 8]
theorem ok3 : okF Tryz.prog 3 a3 r3 4 = true := by decide +kernel
end Go.V
namespace Go.V
open Go.Proofs
set_option maxRecDepth 100000
set_option maxHeartbeats 8000000
set_option linter.unusedSimpArgs false
set_option linter.unnecessarySimpa false
set_option linter.unusedVariables false
theorem print_len {ns : List ByteArray} {cs : List EvT.den} (h : formP ns cs = true) (hr : ∀ x ∈ cs, inR .i64 x.2) : (printL ns cs).length ≤ 9000 := by
 obtain ⟨⟨hn1, hn2⟩, hk, hi2⟩ := formP_iff.1 h
 have h1 := prN_len hk
 have h2 := prC_len hi2 hr
 unfold printL
 rw [List.length_append]
 omega
theorem mod_in {a n : Int} (ha : inR .u64 a) (hn : 0 < n) : 0 ≤ a.tmod n ∧ a.tmod n < n := by
 have h1 : 0 ≤ a ∧ a ≤ 18446744073709551615 := ha
 exact ⟨Int.tmod_nonneg _ h1.1, Int.tmod_lt_of_pos _ hn⟩
theorem use9x {s : ByteArray} {K : SV → List SB → Prop} (h : K (.bool true) []) : C9 [.str s] [] K := h
theorem use10x {n1 : List ByteArray} {c1 : List EvT.den} {b : List UInt8} {K : SV → List SB → Prop} (h : K (.bool true) []) : C10 [.agg [.sl true 16 .str n1, .sl true 16 EvT c1], .sl true 1 .byte b] [] K := h
def C3a : Contract := fun args hp K => match args, hp with
 | [.agg [.sl true 16 .str n1, .sl true 16 (.pair (.int .i64) (.int .i64)) c1], .int .i64 pos, .int .u8 b, .int .i64 cut], [] => (∀ x ∈ (c1 : List EvT.den), inR .i64 x.2) ∧ (0 ≤ b ∧ b < 256) ∧ K (.bool true) []
 | _, _ => False
attribute [local irreducible] rc
theorem s3a : Sound Tryz.prog 3 C3a := by
 refine sound_of_okF ok3 (.cons s4 (callable_of_okF ok4) (.cons s5 (callable_of_okF ok5) (.cons s7 (callable_of_okF ok7) (.cons s6 (callable_of_okF ok6) (.cons s8 (callable_of_okF ok8) (.cons s9 (callable_of_okF ok9) (.cons s10 (callable_of_okF ok10) .nil))))))) ?_
 intro args hp K h
 unfold C3a at h
 split at h
 ·rename_i n1 c1 pos b cut
  obtain ⟨hr, hb, h⟩ := h
  have hmx := maxLen_val
  refine ⟨by simp, [], ?_⟩
  simp (maxSteps:=9^9) only [a3, r3, C4, go_sem, Int.reduceLT, Int.reduceLE, Int.reduceEq, Int.reduceNe, Int.reduceAdd, Int.reduceSub, Int.reduceMul, Int.reduceToNat, Int.reduceNeg, Nat.reduceEqDiff, Nat.reduceLeDiff, Nat.reduceSub, Nat.reduceMul, Nat.reduceLT, Nat.reduceBEq, Nat.reduceAdd]
  refine use5 ?_
  cases f1 : fewP n1 c1 with
  | false =>
   simp (maxSteps:=9^9) only [C4, go_sem, Int.reduceLT, Int.reduceLE, Int.reduceEq, Int.reduceNe, Int.reduceAdd, Int.reduceSub, Int.reduceMul, Int.reduceToNat, Int.reduceNeg, Nat.reduceEqDiff, Nat.reduceLeDiff, Nat.reduceSub, Nat.reduceMul, Nat.reduceLT, Nat.reduceBEq, Nat.reduceAdd]
   exact h
  | true =>
   simp (maxSteps:=9^9) only [C4, go_sem, Int.reduceLT, Int.reduceLE, Int.reduceEq, Int.reduceNe, Int.reduceAdd, Int.reduceSub, Int.reduceMul, Int.reduceToNat, Int.reduceNeg, Nat.reduceEqDiff, Nat.reduceLeDiff, Nat.reduceSub, Nat.reduceMul, Nat.reduceLT, Nat.reduceBEq, Nat.reduceAdd]
   obtain ⟨⟨l1, z1⟩, l2⟩ := fewP_iff.1 f1
   refine use7 (by omega) (by omega) ?_
   simp (maxSteps:=9^9) only [go_sem, Int.reduceLT, Int.reduceLE, Int.reduceEq, Int.reduceNe, Int.reduceAdd, Int.reduceSub, Int.reduceMul, Int.reduceToNat, Int.reduceNeg, Nat.reduceEqDiff, Nat.reduceLeDiff, Nat.reduceSub, Nat.reduceMul, Nat.reduceLT, Nat.reduceBEq, Nat.reduceAdd]
   cases fp : formP n1 c1 with
   | false =>
    refine use6 (fun _ => ?_) (fun h' => absurd h' (by rw [fp]; simp))
    simp (maxSteps:=9^9) only [go_sem, Int.reduceLT, Int.reduceLE, Int.reduceEq, Int.reduceNe, Int.reduceAdd, Int.reduceSub, Int.reduceMul, Int.reduceToNat, Int.reduceNeg, Nat.reduceEqDiff, Nat.reduceLeDiff, Nat.reduceSub, Nat.reduceMul, Nat.reduceLT, Nat.reduceBEq, Nat.reduceAdd]
    refine use7 (by omega) (by omega) ?_
    simp (maxSteps:=9^9) only [go_sem, Int.reduceLT, Int.reduceLE, Int.reduceEq, Int.reduceNe, Int.reduceAdd, Int.reduceSub, Int.reduceMul, Int.reduceToNat, Int.reduceNeg, Nat.reduceEqDiff, Nat.reduceLeDiff, Nat.reduceSub, Nat.reduceMul, Nat.reduceLT, Nat.reduceBEq, Nat.reduceAdd]
    refine use8 (fun _ => ?_) (fun h' => absurd h' (by rw [fp]; simp))
    simp (maxSteps:=9^9) only [go_sem, Int.reduceLT, Int.reduceLE, Int.reduceEq, Int.reduceNe, Int.reduceAdd, Int.reduceSub, Int.reduceMul, Int.reduceToNat, Int.reduceNeg, Nat.reduceEqDiff, Nat.reduceLeDiff, Nat.reduceSub, Nat.reduceMul, Nat.reduceLT, Nat.reduceBEq, Nat.reduceAdd]
    exact h
   | true =>
    refine use6 (fun h' => absurd h' (by rw [fp]; simp)) (fun _ => ?_)
    have hps := bsOf_size (printL n1 c1)
    have hpl := print_len fp hr
    rw [← hps] at hpl
    clear hps
    generalize bsOf (printL n1 c1) = s at hpl ⊢
    simp (maxSteps:=9^9) only [go_sem, Int.reduceLT, Int.reduceLE, Int.reduceEq, Int.reduceNe, Int.reduceAdd, Int.reduceSub, Int.reduceMul, Int.reduceToNat, Int.reduceNeg, Nat.reduceEqDiff, Nat.reduceLeDiff, Nat.reduceSub, Nat.reduceMul, Nat.reduceLT, Nat.reduceBEq, Nat.reduceAdd]
    refine use7 (by omega) (by omega) ?_
    simp (maxSteps:=9^9) only [go_sem, Int.reduceLT, Int.reduceLE, Int.reduceEq, Int.reduceNe, Int.reduceAdd, Int.reduceSub, Int.reduceMul, Int.reduceToNat, Int.reduceNeg, Nat.reduceEqDiff, Nat.reduceLeDiff, Nat.reduceSub, Nat.reduceMul, Nat.reduceLT, Nat.reduceBEq, Nat.reduceAdd]
    refine use8 (fun h' => absurd h' (by rw [fp]; simp)) (fun _ => ?_)
    have he : 0 < (encL n1 c1).length := by
     have := numB_length n1.length
     simp only [encL, enH, List.length_append]
     omega
    have he2 : (encL n1 c1).length ≤ 9000 := by
     have hi := formP_iff.1 fp
     have h1 := enN_len hi.2.1
     have h2 := enC_len (cs := c1)
     have h3 := numB_length n1.length
     have h4 := numB_length c1.length
     simp only [encL, enH, List.length_append]
     omega
    generalize encL n1 c1 = eb at he he2 ⊢
    clear fp f1 z1
    simp (maxSteps:=9^9) only [go_sem, Int.reduceLT, Int.reduceLE, Int.reduceEq, Int.reduceNe, Int.reduceAdd, Int.reduceSub, Int.reduceMul, Int.reduceToNat, Int.reduceNeg, Nat.reduceEqDiff, Nat.reduceLeDiff, Nat.reduceSub, Nat.reduceMul, Nat.reduceLT, Nat.reduceBEq, Nat.reduceAdd]
    have hL : s.data.toList.length = s.size := (size_L s).symm
    rintro _ m0 hm0 c hc
    refine swd hc (fun h0 => ?_) (fun h0 => ?_)
    ·refine ⟨by omega, ?_⟩
     intro hp1 m1 hm1 _ _ m2 hm2 _ m3 hm3
     rw [wu64 (by omega)] at hm3
     refine ⟨by omega, ?_⟩
     intro hne hi1 hi2 m4 hm4 hi4 m5 hm5
     have h4 := mod_in hi1 (n := m3) (by omega)
     rw [← hm4] at h4
     rw [w64 (by omega)] at hm5
     refine nd_intro ⟨by omega, by omega⟩ (nd_intro (by omega) ?_)
     intro u hu
     refine use9x ?_
     simp (maxSteps:=9^9) only [go_sem, Int.reduceLT, Int.reduceLE, Int.reduceEq, Int.reduceNe, Int.reduceAdd, Int.reduceSub, Int.reduceMul, Int.reduceToNat, Int.reduceNeg, Nat.reduceEqDiff, Nat.reduceLeDiff, Nat.reduceSub, Nat.reduceMul, Nat.reduceLT, Nat.reduceBEq, Nat.reduceAdd]
     intro hp2 w1 hw1 _ w2 hw2 _ _ w3 hw3 _ w4 hw4
     rw [w64 (by omega)] at hw3
     rw [wu64 (by omega)] at hw4
     refine ⟨by omega, ?_⟩
     intro hne2 hj1 hj2 w5 hw5 hj5 w6 hw6
     have h5 := mod_in hj1 (n := w4) (by omega)
     rw [← hw5] at h5
     rw [w64 (by omega)] at hw6
     refine nd_intro ⟨by omega, by omega⟩ ?_
     intro u2 hu2
     refine use9x ?_
     simp (maxSteps:=9^9) only [go_sem, Int.reduceLT, Int.reduceLE, Int.reduceEq, Int.reduceNe, Int.reduceAdd, Int.reduceSub, Int.reduceMul, Int.reduceToNat, Int.reduceNeg, Nat.reduceEqDiff, Nat.reduceLeDiff, Nat.reduceSub, Nat.reduceMul, Nat.reduceLT, Nat.reduceBEq, Nat.reduceAdd]
     clear hp2 hw1 hw2 hw3 hw4 hne2 hj1 hj2 hw5 hj5 hw6 h5 hu2 hu hm5 h4 hm4 hm3 hne hi1 hi2 hi4 hm1 hp1
     intro hp1 q1 hq1 _ _ q2 hq2 _ q3 hq3
     rw [wu64 (by omega)] at hq3
     refine ⟨by omega, ?_⟩
     intro hne hi1 hi2 q4 hq4 hi4 q5 hq5
     have g4 := mod_in hi1 (n := q3) (by omega)
     rw [← hq4] at g4
     rw [w64 (by omega)] at hq5
     refine nd_intro ⟨by omega, by omega⟩ (nd_intro (by omega) ?_)
     refine use10x ?_
     simp (maxSteps:=9^9) only [go_sem, Int.reduceLT, Int.reduceLE, Int.reduceEq, Int.reduceNe, Int.reduceAdd, Int.reduceSub, Int.reduceMul, Int.reduceToNat, Int.reduceNeg, Nat.reduceEqDiff, Nat.reduceLeDiff, Nat.reduceSub, Nat.reduceMul, Nat.reduceLT, Nat.reduceBEq, Nat.reduceAdd]
     have hsl : (eb.set q5.toNat (UInt8.ofNat b.toNat)).length = eb.length := List.length_set ..
     generalize eb.set q5.toNat (UInt8.ofNat b.toNat) = eb2 at hsl ⊢
     intro hp3 z1 hz1 _ _ z2 hz2 _ z3 hz3
     rw [wu64 (by omega)] at hz3
     refine ⟨by omega, ?_⟩
     intro hne3 hk1 hk2 z4 hz4 hk4 z5 hz5
     have g5 := mod_in hk1 (n := z3) (by omega)
     rw [← hz4] at g5
     rw [w64 (by omega)] at hz5
     refine nd_intro ⟨by omega, by omega⟩ ?_
     intro ys hys
     refine use10x ?_
     simp (maxSteps:=9^9) only [go_sem, Int.reduceLT, Int.reduceLE, Int.reduceEq, Int.reduceNe, Int.reduceAdd, Int.reduceSub, Int.reduceMul, Int.reduceToNat, Int.reduceNeg, Nat.reduceEqDiff, Nat.reduceLeDiff, Nat.reduceSub, Nat.reduceMul, Nat.reduceLT, Nat.reduceBEq, Nat.reduceAdd]
     exact h
    ·intro hp1 q1 hq1 _ _ q2 hq2 _ q3 hq3
     rw [wu64 (by omega)] at hq3
     refine ⟨by omega, ?_⟩
     intro hne hi1 hi2 q4 hq4 hi4 q5 hq5
     have g4 := mod_in hi1 (n := q3) (by omega)
     rw [← hq4] at g4
     rw [w64 (by omega)] at hq5
     refine nd_intro ⟨by omega, by omega⟩ (nd_intro (by omega) ?_)
     refine use10x ?_
     simp (maxSteps:=9^9) only [go_sem, Int.reduceLT, Int.reduceLE, Int.reduceEq, Int.reduceNe, Int.reduceAdd, Int.reduceSub, Int.reduceMul, Int.reduceToNat, Int.reduceNeg, Nat.reduceEqDiff, Nat.reduceLeDiff, Nat.reduceSub, Nat.reduceMul, Nat.reduceLT, Nat.reduceBEq, Nat.reduceAdd]
     have hsl : (eb.set q5.toNat (UInt8.ofNat b.toNat)).length = eb.length := List.length_set ..
     generalize eb.set q5.toNat (UInt8.ofNat b.toNat) = eb2 at hsl ⊢
     intro hp3 z1 hz1 _ _ z2 hz2 _ z3 hz3
     rw [wu64 (by omega)] at hz3
     refine ⟨by omega, ?_⟩
     intro hne3 hk1 hk2 z4 hz4 hk4 z5 hz5
     have g5 := mod_in hk1 (n := z3) (by omega)
     rw [← hz4] at g5
     rw [w64 (by omega)] at hz5
     refine nd_intro ⟨by omega, by omega⟩ ?_
     intro ys hys
     refine use10x ?_
     simp (maxSteps:=9^9) only [go_sem, Int.reduceLT, Int.reduceLE, Int.reduceEq, Int.reduceNe, Int.reduceAdd, Int.reduceSub, Int.reduceMul, Int.reduceToNat, Int.reduceNeg, Nat.reduceEqDiff, Nat.reduceLeDiff, Nat.reduceSub, Nat.reduceMul, Nat.reduceLT, Nat.reduceBEq, Nat.reduceAdd]
     exact h
 ·exact h.elim
def C3 : Contract := fun args hp K => match args, hp with
 | [.agg [.sl true 16 .str n1, .sl true 16 (.pair (.int .i64) (.int .i64)) c1], .int .i64 pos, .int .u8 b, .int .i64 cut], [] => (0 ≤ b ∧ b < 256) ∧ K (.bool true) []
 | _, _ => False
theorem s3 : Sound Tryz.prog 3 C3 := by
 intro args hp K h E vs hs hg hd
 unfold C3 at h
 split at h
 ·rename_i ns cs pos b cut
  have hr : ∀ x ∈ cs, inR .i64 x.2 := by
   simp only [denL] at hd
   obtain ⟨v, r, rfl, h1, _⟩ := hd
   exact agg2_in rfl h1
  exact s3a [.agg [.sl true 16 .str ns, .sl true 16 (.pair (.int .i64) (.int .i64)) cs], .int .i64 pos, .int .u8 b, .int .i64 cut] [] K ⟨hr, h⟩ E vs hs hg hd
 ·exact h.elim
end Go.V
