/- A part of the proof layer, or functions of the given program in it: contracts and their proofs. -/
import Derived.Test.YtkoakbgfpnhckaaGreatMD4
import Derived.RangeFuncNested
import Derived.RangeFuncBound
import Derived.RangeFuncCalls
import Derived.RangeFuncLeaves
import Derived.RangeFuncBox
import Derived.Shelf.Abstract
import Derived.Shelf.RegionOpen
import Derived.WalkKit
import Derived.OwnWalkIn
import Derived.TacticsInMore
import Derived.LoopNIn
import Derived.LoopIn
import Derived.Maps.AppendAt
import Derived.Test.YtkoakbgfpnhckaaGreatProg
import Derived.Shelf.SlIterI.Collect
namespace Go.V
open Go.Proofs
set_option maxRecDepth 100000
set_option maxHeartbeats 4000000
set_option linter.unusedSimpArgs false
set_option linter.unnecessarySimpa false
set_option linter.unusedVariables false
theorem elt_new (n : Nat) (a : Nat) : elt ByT (List.replicate n ([] : List UInt8)) a = ([] : List UInt8) := by
 unfold elt
 rcases Nat.lt_or_ge a n with h | h
 ·rw [List.getD_eq_getElem?_getD, List.getElem?_replicate, if_pos h]; rfl
 ·rw [List.getD_eq_getElem?_getD, List.getElem?_replicate, if_neg (by omega)]; rfl
theorem opB_new (n : Nat) (a : Int) : opB (List.replicate n ([] : List UInt8)) a = none := by
 unfold opB
 rw [elt_new]
 exact openF_nil
theorem textF_new (n : Nat) (fr ct a : Int) : textF (List.replicate n ([] : List UInt8)) fr ct a 86 a [] [] = none := by
 rw [show (86 : Nat) = 85 + 1 from rfl]
 unfold textF
 rw [opB_new]
 split <;> rfl
def C9 : Contract := fun args hp K => match args, hp with
 | [], [] => K (.bool true) []
 | _, _ => False
section use
variable {K : SV → List SB → Prop}
theorem use9 (k : K (.bool true) []) : C9 [] [] K := k
theorem use13z {n : Int} (hn : 0 ≤ n ∧ n ≤ 65536) (k : K (.ptr 0 0) (dkH true (List.replicate n.toNat []) [] (-1) false)) : C13 [.int .i64 n] [] K := ⟨hn, k⟩
theorem use14a {a : Int} (k : K (.tup [.nilp, .int .i64 1]) []) : C14 [.nilp, .int .i64 a] [] K := ⟨rfl, k⟩
theorem use10z {p : Bool} {xs : List LsT.den} (k : ∀ b : Bool, K (.bool b) []) : C10 [.sl p 24 (.sl 48 (.pair .str (.pair (.sl 1 .byte) .bool))) xs] [] K := k
theorem use14b {a fr : Int} {T : List (Int × List Int)} {F : List (Int × Bool)} {bl : List ByT.den} {lg : List LgT.den} {f : Int} {dn : Bool} (hf : fr ≠ 0) (ht : lkT' T a = none)
  (k0 : a = 0 → K (.tup [.ptr 6 0, .int .i64 0]) (pgH false fr T F bl lg f dn ++ [.struct [.ptr 0 0, .int .i64 a, .mp 7, .own 8, .own 9, .own 10], .map true (.int .i64) nodeT [], .row true 8 (.int .i64) [], .row true 8 (.int .i64) [], .row true 8 (.int .i64) []]))
  (k1 : a ≠ 0 → K (.tup [.nilp, .int .i64 2]) (pgH false fr T F bl lg f dn)) : C14 [.ptr 0 0, .int .i64 a] (pgH false fr T F bl lg f dn) K :=
 ⟨fr, T, F, bl, lg, f, dn, rfl, ht, fun e => absurd e hf, fun _ => k0, fun _ => k1⟩
theorem use14c {a : Int} {T : List (Int × List Int)} {F : List (Int × Bool)} {bl : List ByT.den} {lg : List LgT.den} {f : Int} {dn : Bool} (ht : lkT' T a = none) (k : K (.tup [.nilp, .int .i64 1]) (pgH false 0 T F bl lg f dn)) :
  C14 [.ptr 0 0, .int .i64 a] (pgH false 0 T F bl lg f dn) K :=
 ⟨0, T, F, bl, lg, f, dn, rfl, ht, fun _ => k, fun e => absurd rfl e, fun e => absurd rfl e⟩
theorem use12a {n : Nat} {fr ct : Int} {p : Bool} (hn : n ≤ 65536) (h : 1 ≤ ct ∧ 0 ≤ fr ∧ fr ≤ n ∧ ct ≤ n - fr) (k : K (.tup [.ptr 3 0, .int .i64 0]) (dkH false (List.replicate n []) [] (-1) false ++ pgN fr [] (initF fr ct))) :
  C12 [.ptr 0 0, .int .i64 fr, .int .i64 ct, .sl p 8 (.int .i64) []] (dkH false (List.replicate n []) [] (-1) false) K :=
 ⟨_, _, _, _, rfl, p, [], rfl, ⟨rfl, by rw [List.length_replicate]; exact hn, by simp⟩, fun e => absurd (by rw [List.length_replicate]; exact h) e, fun _ => ⟨fun T F e => by cases e; exact k, fun e => by cases e⟩⟩
theorem use26z {n : Nat} {fr ct a : Int} (hn : n ≤ 65536) (h : 1 ≤ ct ∧ 0 ≤ fr ∧ fr ≤ n ∧ ct ≤ n - fr)
  (k0 : fr = 0 → K (.tup [.own 3, .int .i64 1]) (dkH false (List.replicate n []) [] (-1) false ++ [.row true 8 (.int .i64) []]))
  (k1 : fr ≠ 0 → a = 0 → K (.tup [.own 3, .int .i64 0]) (dkH false (List.replicate n []) [] (-1) false ++ [.row true 8 (.int .i64) []]))
  (k2 : fr ≠ 0 → a ≠ 0 → K (.tup [.own 3, .int .i64 2]) (dkH false (List.replicate n []) [] (-1) false ++ [.row true 8 (.int .i64) []])) :
  C26 [.ptr 0 0, .int .i64 fr, .int .i64 ct, .int .i64 a] (dkH false (List.replicate n []) [] (-1) false) K :=
 ⟨_, _, _, _, rfl, ⟨rfl, by rw [List.length_replicate]; exact hn, h.1, h.2.1, by rw [List.length_replicate]; exact h.2.2.1, by rw [List.length_replicate]; exact h.2.2.2, textF_new _ _ _ _⟩, k0, k1, k2⟩
theorem use17a (k : K (.tup []) []) : C17z [.nilp] [] K := k
theorem use20a (k : K (.int .i64 0) []) : C20z [.nilp] [] K := k
theorem use27a {s : ByteArray} (k : K (.tup [.own 0, .bool false]) [.row true 1 .byte []]) : C27z [.nilp, .str s] [] K := k
theorem use19a {a b : ByteArray} (k : K (.own 0) [.row true 16 .str []]) : C19z [.nilp, .str a, .str b] [] K := k
theorem use15a {x : SV} (k : K (.int .i64 1) []) : C15z [.nilp, x] [] K := k
end use
attribute [local irreducible] rc C9 C10 C12 C13 C14 C26 C17z C27z C20z C19z C15z
def C6 : Contract := fun args hp K => match args, hp with
 | [.int .i64 n, .str k, .sl true 48 (.pair .str (.pair (.sl 1 .byte) .bool)) l], [] => K (.bool true) []
 | _, _ => False
theorem s6_of (s9 : Sound Tryz.prog 9 C9) (c9 : Callable Tryz.prog 9) : Sound Tryz.prog 6 C6 := by
 refine sound_of_okF ok6 (.cons s9 c9 (.cons s10 (callable_of_okF ok10) (.cons s14 (callable_of_okF ok14) (.cons s13 (callable_of_okF ok13) (.cons s12 (callable_of_okF ok12) (.cons s26 (callable_of_okF ok26) (.cons s17z (callable_of_okF ok17) (.cons s27z (callable_of_okF ok27) (.cons s20z (callable_of_okF ok20) (.cons s19z (callable_of_okF ok19) (.cons s15z (callable_of_okF ok15) .nil))))))))))) ?_
 intro args hp K h
 unfold C6 at h
 split at h
 ·rename_i n k l
  refine ⟨by simp, [], ?_⟩
  simp (maxSteps:=9^9) only [a6, r6, go_sem, eq_self, and_self, Int.natCast_pos, Int.le_refl, Nat.le_refl, Int.natCast_nonneg, Int.ofNat_lt, Int.ofNat_le, Int.reduceLT, Int.reduceLE, Int.reduceEq, Int.reduceNe, Int.reduceAdd, Int.reduceSub, Int.reduceMul, Int.reduceToNat, Int.reduceNeg, Nat.reduceEqDiff, Nat.reduceLeDiff, Nat.reduceSub, Nat.reduceMul, Nat.reduceLT, Nat.reduceBEq, Nat.reduceAdd, Nat.reduceDiv, Nat.reduceMod]
  refine use9 ?_
  simp (maxSteps:=9^9) only [go_sem, eq_self, and_self, Int.natCast_pos, Int.le_refl, Nat.le_refl, Int.natCast_nonneg, Int.ofNat_lt, Int.ofNat_le, Int.reduceLT, Int.reduceLE, Int.reduceEq, Int.reduceNe, Int.reduceAdd, Int.reduceSub, Int.reduceMul, Int.reduceToNat, Int.reduceNeg, Nat.reduceEqDiff, Nat.reduceLeDiff, Nat.reduceSub, Nat.reduceMul, Nat.reduceLT, Nat.reduceBEq, Nat.reduceAdd, Nat.reduceDiv, Nat.reduceMod]
  refine And.intro rfl (use10z (fun b => ?_))
  simp (maxSteps:=9^9) only [go_sem, eq_self, and_self, Int.natCast_pos, Int.le_refl, Nat.le_refl, Int.natCast_nonneg, Int.ofNat_lt, Int.ofNat_le, Int.reduceLT, Int.reduceLE, Int.reduceEq, Int.reduceNe, Int.reduceAdd, Int.reduceSub, Int.reduceMul, Int.reduceToNat, Int.reduceNeg, Nat.reduceEqDiff, Nat.reduceLeDiff, Nat.reduceSub, Nat.reduceMul, Nat.reduceLT, Nat.reduceBEq, Nat.reduceAdd, Nat.reduceDiv, Nat.reduceMod]
  cases b
  ·simp (maxSteps:=9^9) only [go_sem, eq_self, and_self, Int.natCast_pos, Int.le_refl, Nat.le_refl, Int.natCast_nonneg, Int.ofNat_lt, Int.ofNat_le, Int.reduceLT, Int.reduceLE, Int.reduceEq, Int.reduceNe, Int.reduceAdd, Int.reduceSub, Int.reduceMul, Int.reduceToNat, Int.reduceNeg, Nat.reduceEqDiff, Nat.reduceLeDiff, Nat.reduceSub, Nat.reduceMul, Nat.reduceLT, Nat.reduceBEq, Nat.reduceAdd, Nat.reduceDiv, Nat.reduceMod]
   refine use9 ?_
   simp (maxSteps:=9^9) only [go_sem, eq_self, and_self, Int.natCast_pos, Int.le_refl, Nat.le_refl, Int.natCast_nonneg, Int.ofNat_lt, Int.ofNat_le, Int.reduceLT, Int.reduceLE, Int.reduceEq, Int.reduceNe, Int.reduceAdd, Int.reduceSub, Int.reduceMul, Int.reduceToNat, Int.reduceNeg, Nat.reduceEqDiff, Nat.reduceLeDiff, Nat.reduceSub, Nat.reduceMul, Nat.reduceLT, Nat.reduceBEq, Nat.reduceAdd, Nat.reduceDiv, Nat.reduceMod]
   exact h
  simp (maxSteps:=9^9) only [go_sem, eq_self, and_self, Int.natCast_pos, Int.le_refl, Nat.le_refl, Int.natCast_nonneg, Int.ofNat_lt, Int.ofNat_le, Int.reduceLT, Int.reduceLE, Int.reduceEq, Int.reduceNe, Int.reduceAdd, Int.reduceSub, Int.reduceMul, Int.reduceToNat, Int.reduceNeg, Nat.reduceEqDiff, Nat.reduceLeDiff, Nat.reduceSub, Nat.reduceMul, Nat.reduceLT, Nat.reduceBEq, Nat.reduceAdd, Nat.reduceDiv, Nat.reduceMod]
  refine use14a ?_
  simp (maxSteps:=9^9) only [go_sem, eq_self, and_self, Int.natCast_pos, Int.le_refl, Nat.le_refl, Int.natCast_nonneg, Int.ofNat_lt, Int.ofNat_le, Int.reduceLT, Int.reduceLE, Int.reduceEq, Int.reduceNe, Int.reduceAdd, Int.reduceSub, Int.reduceMul, Int.reduceToNat, Int.reduceNeg, Nat.reduceEqDiff, Nat.reduceLeDiff, Nat.reduceSub, Nat.reduceMul, Nat.reduceLT, Nat.reduceBEq, Nat.reduceAdd, Nat.reduceDiv, Nat.reduceMod]
  refine use13z (by omega) ?_
  simp (maxSteps:=9^9) only [dkH, go_sem, eq_self, and_self, Int.natCast_pos, Int.le_refl, Nat.le_refl, Int.natCast_nonneg, Int.ofNat_lt, Int.ofNat_le, Int.reduceLT, Int.reduceLE, Int.reduceEq, Int.reduceNe, Int.reduceAdd, Int.reduceSub, Int.reduceMul, Int.reduceToNat, Int.reduceNeg, Nat.reduceEqDiff, Nat.reduceLeDiff, Nat.reduceSub, Nat.reduceMul, Nat.reduceLT, Nat.reduceBEq, Nat.reduceAdd, Nat.reduceDiv, Nat.reduceMod]
  refine use12a (n := 31) (by omega) (by omega) ?_
  simp (maxSteps:=9^9) only [dkH, pgN, go_sem, eq_self, and_self, Int.natCast_pos, Int.le_refl, Nat.le_refl, Int.natCast_nonneg, Int.ofNat_lt, Int.ofNat_le, Int.reduceLT, Int.reduceLE, Int.reduceEq, Int.reduceNe, Int.reduceAdd, Int.reduceSub, Int.reduceMul, Int.reduceToNat, Int.reduceNeg, Nat.reduceEqDiff, Nat.reduceLeDiff, Nat.reduceSub, Nat.reduceMul, Nat.reduceLT, Nat.reduceBEq, Nat.reduceAdd, Nat.reduceDiv, Nat.reduceMod]
  refine use14b (T := []) (by omega) rfl (fun e0 => ?_) (fun e0 => ?_)
  ·skip
   simp (maxSteps:=9^9) only [pgH, go_sem, eq_self, and_self, Int.natCast_pos, Int.le_refl, Nat.le_refl, Int.natCast_nonneg, Int.ofNat_lt, Int.ofNat_le, Int.reduceLT, Int.reduceLE, Int.reduceEq, Int.reduceNe, Int.reduceAdd, Int.reduceSub, Int.reduceMul, Int.reduceToNat, Int.reduceNeg, Nat.reduceEqDiff, Nat.reduceLeDiff, Nat.reduceSub, Nat.reduceMul, Nat.reduceLT, Nat.reduceBEq, Nat.reduceAdd, Nat.reduceDiv, Nat.reduceMod]
   refine use13z (by omega) ?_
   simp (maxSteps:=9^9) only [dkH, go_sem, eq_self, and_self, Int.natCast_pos, Int.le_refl, Nat.le_refl, Int.natCast_nonneg, Int.ofNat_lt, Int.ofNat_le, Int.reduceLT, Int.reduceLE, Int.reduceEq, Int.reduceNe, Int.reduceAdd, Int.reduceSub, Int.reduceMul, Int.reduceToNat, Int.reduceNeg, Nat.reduceEqDiff, Nat.reduceLeDiff, Nat.reduceSub, Nat.reduceMul, Nat.reduceLT, Nat.reduceBEq, Nat.reduceAdd, Nat.reduceDiv, Nat.reduceMod]
   refine use26z (n := 31) (by omega) (by omega) (fun e => absurd e (by omega)) (fun _ _ => ?_) (fun _ e => absurd e0 e)
   simp (maxSteps:=9^9) only [dkH, go_sem, eq_self, and_self, Int.natCast_pos, Int.le_refl, Nat.le_refl, Int.natCast_nonneg, Int.ofNat_lt, Int.ofNat_le, Int.reduceLT, Int.reduceLE, Int.reduceEq, Int.reduceNe, Int.reduceAdd, Int.reduceSub, Int.reduceMul, Int.reduceToNat, Int.reduceNeg, Nat.reduceEqDiff, Nat.reduceLeDiff, Nat.reduceSub, Nat.reduceMul, Nat.reduceLT, Nat.reduceBEq, Nat.reduceAdd, Nat.reduceDiv, Nat.reduceMod]
   refine use13z (by omega) ?_
   simp (maxSteps:=9^9) only [dkH, go_sem, eq_self, and_self, Int.natCast_pos, Int.le_refl, Nat.le_refl, Int.natCast_nonneg, Int.ofNat_lt, Int.ofNat_le, Int.reduceLT, Int.reduceLE, Int.reduceEq, Int.reduceNe, Int.reduceAdd, Int.reduceSub, Int.reduceMul, Int.reduceToNat, Int.reduceNeg, Nat.reduceEqDiff, Nat.reduceLeDiff, Nat.reduceSub, Nat.reduceMul, Nat.reduceLT, Nat.reduceBEq, Nat.reduceAdd, Nat.reduceDiv, Nat.reduceMod]
   refine use12a (n := 9) (by omega) (by omega) ?_
   simp (maxSteps:=9^9) only [dkH, pgN, go_sem, eq_self, and_self, Int.natCast_pos, Int.le_refl, Nat.le_refl, Int.natCast_nonneg, Int.ofNat_lt, Int.ofNat_le, Int.reduceLT, Int.reduceLE, Int.reduceEq, Int.reduceNe, Int.reduceAdd, Int.reduceSub, Int.reduceMul, Int.reduceToNat, Int.reduceNeg, Nat.reduceEqDiff, Nat.reduceLeDiff, Nat.reduceSub, Nat.reduceMul, Nat.reduceLT, Nat.reduceBEq, Nat.reduceAdd, Nat.reduceDiv, Nat.reduceMod]
   refine use14c (T := []) rfl ?_
   simp (maxSteps:=9^9) only [pgH, go_sem, eq_self, and_self, Int.natCast_pos, Int.le_refl, Nat.le_refl, Int.natCast_nonneg, Int.ofNat_lt, Int.ofNat_le, Int.reduceLT, Int.reduceLE, Int.reduceEq, Int.reduceNe, Int.reduceAdd, Int.reduceSub, Int.reduceMul, Int.reduceToNat, Int.reduceNeg, Nat.reduceEqDiff, Nat.reduceLeDiff, Nat.reduceSub, Nat.reduceMul, Nat.reduceLT, Nat.reduceBEq, Nat.reduceAdd, Nat.reduceDiv, Nat.reduceMod]
   refine use13z (by omega) ?_
   simp (maxSteps:=9^9) only [dkH, go_sem, eq_self, and_self, Int.natCast_pos, Int.le_refl, Nat.le_refl, Int.natCast_nonneg, Int.ofNat_lt, Int.ofNat_le, Int.reduceLT, Int.reduceLE, Int.reduceEq, Int.reduceNe, Int.reduceAdd, Int.reduceSub, Int.reduceMul, Int.reduceToNat, Int.reduceNeg, Nat.reduceEqDiff, Nat.reduceLeDiff, Nat.reduceSub, Nat.reduceMul, Nat.reduceLT, Nat.reduceBEq, Nat.reduceAdd, Nat.reduceDiv, Nat.reduceMod]
   refine use26z (n := 9) (by omega) (by omega) (fun _ => ?_) (fun e => absurd rfl e) (fun e => absurd rfl e)
   simp (maxSteps:=9^9) only [dkH, go_sem, eq_self, and_self, Int.natCast_pos, Int.le_refl, Nat.le_refl, Int.natCast_nonneg, Int.ofNat_lt, Int.ofNat_le, Int.reduceLT, Int.reduceLE, Int.reduceEq, Int.reduceNe, Int.reduceAdd, Int.reduceSub, Int.reduceMul, Int.reduceToNat, Int.reduceNeg, Nat.reduceEqDiff, Nat.reduceLeDiff, Nat.reduceSub, Nat.reduceMul, Nat.reduceLT, Nat.reduceBEq, Nat.reduceAdd, Nat.reduceDiv, Nat.reduceMod]
   refine use17a ?_
   simp (maxSteps:=9^9) only [go_sem, eq_self, and_self, Int.natCast_pos, Int.le_refl, Nat.le_refl, Int.natCast_nonneg, Int.ofNat_lt, Int.ofNat_le, Int.reduceLT, Int.reduceLE, Int.reduceEq, Int.reduceNe, Int.reduceAdd, Int.reduceSub, Int.reduceMul, Int.reduceToNat, Int.reduceNeg, Nat.reduceEqDiff, Nat.reduceLeDiff, Nat.reduceSub, Nat.reduceMul, Nat.reduceLT, Nat.reduceBEq, Nat.reduceAdd, Nat.reduceDiv, Nat.reduceMod]
   refine use27a ?_
   simp (maxSteps:=9^9) only [go_sem, eq_self, and_self, Int.natCast_pos, Int.le_refl, Nat.le_refl, Int.natCast_nonneg, Int.ofNat_lt, Int.ofNat_le, Int.reduceLT, Int.reduceLE, Int.reduceEq, Int.reduceNe, Int.reduceAdd, Int.reduceSub, Int.reduceMul, Int.reduceToNat, Int.reduceNeg, Nat.reduceEqDiff, Nat.reduceLeDiff, Nat.reduceSub, Nat.reduceMul, Nat.reduceLT, Nat.reduceBEq, Nat.reduceAdd, Nat.reduceDiv, Nat.reduceMod]
   rintro c hc
   rw [decide_eq_true e0] at hc
   subst hc
   rintro d rfl
   refine sw_intro (fun _ => ?_) (fun e => by cases e)
   refine swd (fun _ => ?_) (fun e => absurd e0 e)
   refine use20a ?_
   simp (maxSteps:=9^9) only [go_sem, eq_self, and_self, Int.natCast_pos, Int.le_refl, Nat.le_refl, Int.natCast_nonneg, Int.ofNat_lt, Int.ofNat_le, Int.reduceLT, Int.reduceLE, Int.reduceEq, Int.reduceNe, Int.reduceAdd, Int.reduceSub, Int.reduceMul, Int.reduceToNat, Int.reduceNeg, Nat.reduceEqDiff, Nat.reduceLeDiff, Nat.reduceSub, Nat.reduceMul, Nat.reduceLT, Nat.reduceBEq, Nat.reduceAdd, Nat.reduceDiv, Nat.reduceMod]
   rintro _ m rfl
   refine swd (fun _ => ?_) (fun e => absurd Int.natCast_zero e)
   refine use19a ?_
   simp (maxSteps:=9^9) only [go_sem, eq_self, and_self, Int.natCast_pos, Int.le_refl, Nat.le_refl, Int.natCast_nonneg, Int.ofNat_lt, Int.ofNat_le, Int.reduceLT, Int.reduceLE, Int.reduceEq, Int.reduceNe, Int.reduceAdd, Int.reduceSub, Int.reduceMul, Int.reduceToNat, Int.reduceNeg, Nat.reduceEqDiff, Nat.reduceLeDiff, Nat.reduceSub, Nat.reduceMul, Nat.reduceLT, Nat.reduceBEq, Nat.reduceAdd, Nat.reduceDiv, Nat.reduceMod]
   rintro _ m rfl
   refine swd (fun _ => ?_) (fun e => absurd Int.natCast_zero e)
   refine use15a ?_
   simp (maxSteps:=9^9) only [go_sem, eq_self, and_self, Int.natCast_pos, Int.le_refl, Nat.le_refl, Int.natCast_nonneg, Int.ofNat_lt, Int.ofNat_le, Int.reduceLT, Int.reduceLE, Int.reduceEq, Int.reduceNe, Int.reduceAdd, Int.reduceSub, Int.reduceMul, Int.reduceToNat, Int.reduceNeg, Nat.reduceEqDiff, Nat.reduceLeDiff, Nat.reduceSub, Nat.reduceMul, Nat.reduceLT, Nat.reduceBEq, Nat.reduceAdd, Nat.reduceDiv, Nat.reduceMod]
   exact h
  ·skip
   simp (maxSteps:=9^9) only [pgH, go_sem, eq_self, and_self, Int.natCast_pos, Int.le_refl, Nat.le_refl, Int.natCast_nonneg, Int.ofNat_lt, Int.ofNat_le, Int.reduceLT, Int.reduceLE, Int.reduceEq, Int.reduceNe, Int.reduceAdd, Int.reduceSub, Int.reduceMul, Int.reduceToNat, Int.reduceNeg, Nat.reduceEqDiff, Nat.reduceLeDiff, Nat.reduceSub, Nat.reduceMul, Nat.reduceLT, Nat.reduceBEq, Nat.reduceAdd, Nat.reduceDiv, Nat.reduceMod]
   refine use13z (by omega) ?_
   simp (maxSteps:=9^9) only [dkH, go_sem, eq_self, and_self, Int.natCast_pos, Int.le_refl, Nat.le_refl, Int.natCast_nonneg, Int.ofNat_lt, Int.ofNat_le, Int.reduceLT, Int.reduceLE, Int.reduceEq, Int.reduceNe, Int.reduceAdd, Int.reduceSub, Int.reduceMul, Int.reduceToNat, Int.reduceNeg, Nat.reduceEqDiff, Nat.reduceLeDiff, Nat.reduceSub, Nat.reduceMul, Nat.reduceLT, Nat.reduceBEq, Nat.reduceAdd, Nat.reduceDiv, Nat.reduceMod]
   refine use26z (n := 31) (by omega) (by omega) (fun e => absurd e (by omega)) (fun _ e => absurd e e0) (fun _ _ => ?_)
   simp (maxSteps:=9^9) only [dkH, go_sem, eq_self, and_self, Int.natCast_pos, Int.le_refl, Nat.le_refl, Int.natCast_nonneg, Int.ofNat_lt, Int.ofNat_le, Int.reduceLT, Int.reduceLE, Int.reduceEq, Int.reduceNe, Int.reduceAdd, Int.reduceSub, Int.reduceMul, Int.reduceToNat, Int.reduceNeg, Nat.reduceEqDiff, Nat.reduceLeDiff, Nat.reduceSub, Nat.reduceMul, Nat.reduceLT, Nat.reduceBEq, Nat.reduceAdd, Nat.reduceDiv, Nat.reduceMod]
   refine use13z (by omega) ?_
   simp (maxSteps:=9^9) only [dkH, go_sem, eq_self, and_self, Int.natCast_pos, Int.le_refl, Nat.le_refl, Int.natCast_nonneg, Int.ofNat_lt, Int.ofNat_le, Int.reduceLT, Int.reduceLE, Int.reduceEq, Int.reduceNe, Int.reduceAdd, Int.reduceSub, Int.reduceMul, Int.reduceToNat, Int.reduceNeg, Nat.reduceEqDiff, Nat.reduceLeDiff, Nat.reduceSub, Nat.reduceMul, Nat.reduceLT, Nat.reduceBEq, Nat.reduceAdd, Nat.reduceDiv, Nat.reduceMod]
   refine use12a (n := 9) (by omega) (by omega) ?_
   simp (maxSteps:=9^9) only [dkH, pgN, go_sem, eq_self, and_self, Int.natCast_pos, Int.le_refl, Nat.le_refl, Int.natCast_nonneg, Int.ofNat_lt, Int.ofNat_le, Int.reduceLT, Int.reduceLE, Int.reduceEq, Int.reduceNe, Int.reduceAdd, Int.reduceSub, Int.reduceMul, Int.reduceToNat, Int.reduceNeg, Nat.reduceEqDiff, Nat.reduceLeDiff, Nat.reduceSub, Nat.reduceMul, Nat.reduceLT, Nat.reduceBEq, Nat.reduceAdd, Nat.reduceDiv, Nat.reduceMod]
   refine use14c (T := []) rfl ?_
   simp (maxSteps:=9^9) only [pgH, go_sem, eq_self, and_self, Int.natCast_pos, Int.le_refl, Nat.le_refl, Int.natCast_nonneg, Int.ofNat_lt, Int.ofNat_le, Int.reduceLT, Int.reduceLE, Int.reduceEq, Int.reduceNe, Int.reduceAdd, Int.reduceSub, Int.reduceMul, Int.reduceToNat, Int.reduceNeg, Nat.reduceEqDiff, Nat.reduceLeDiff, Nat.reduceSub, Nat.reduceMul, Nat.reduceLT, Nat.reduceBEq, Nat.reduceAdd, Nat.reduceDiv, Nat.reduceMod]
   refine use13z (by omega) ?_
   simp (maxSteps:=9^9) only [dkH, go_sem, eq_self, and_self, Int.natCast_pos, Int.le_refl, Nat.le_refl, Int.natCast_nonneg, Int.ofNat_lt, Int.ofNat_le, Int.reduceLT, Int.reduceLE, Int.reduceEq, Int.reduceNe, Int.reduceAdd, Int.reduceSub, Int.reduceMul, Int.reduceToNat, Int.reduceNeg, Nat.reduceEqDiff, Nat.reduceLeDiff, Nat.reduceSub, Nat.reduceMul, Nat.reduceLT, Nat.reduceBEq, Nat.reduceAdd, Nat.reduceDiv, Nat.reduceMod]
   refine use26z (n := 9) (by omega) (by omega) (fun _ => ?_) (fun e => absurd rfl e) (fun e => absurd rfl e)
   simp (maxSteps:=9^9) only [dkH, go_sem, eq_self, and_self, Int.natCast_pos, Int.le_refl, Nat.le_refl, Int.natCast_nonneg, Int.ofNat_lt, Int.ofNat_le, Int.reduceLT, Int.reduceLE, Int.reduceEq, Int.reduceNe, Int.reduceAdd, Int.reduceSub, Int.reduceMul, Int.reduceToNat, Int.reduceNeg, Nat.reduceEqDiff, Nat.reduceLeDiff, Nat.reduceSub, Nat.reduceMul, Nat.reduceLT, Nat.reduceBEq, Nat.reduceAdd, Nat.reduceDiv, Nat.reduceMod]
   refine use17a ?_
   simp (maxSteps:=9^9) only [go_sem, eq_self, and_self, Int.natCast_pos, Int.le_refl, Nat.le_refl, Int.natCast_nonneg, Int.ofNat_lt, Int.ofNat_le, Int.reduceLT, Int.reduceLE, Int.reduceEq, Int.reduceNe, Int.reduceAdd, Int.reduceSub, Int.reduceMul, Int.reduceToNat, Int.reduceNeg, Nat.reduceEqDiff, Nat.reduceLeDiff, Nat.reduceSub, Nat.reduceMul, Nat.reduceLT, Nat.reduceBEq, Nat.reduceAdd, Nat.reduceDiv, Nat.reduceMod]
   refine use27a ?_
   simp (maxSteps:=9^9) only [go_sem, eq_self, and_self, Int.natCast_pos, Int.le_refl, Nat.le_refl, Int.natCast_nonneg, Int.ofNat_lt, Int.ofNat_le, Int.reduceLT, Int.reduceLE, Int.reduceEq, Int.reduceNe, Int.reduceAdd, Int.reduceSub, Int.reduceMul, Int.reduceToNat, Int.reduceNeg, Nat.reduceEqDiff, Nat.reduceLeDiff, Nat.reduceSub, Nat.reduceMul, Nat.reduceLT, Nat.reduceBEq, Nat.reduceAdd, Nat.reduceDiv, Nat.reduceMod]
   rintro c hc
   rw [decide_eq_false e0] at hc
   subst hc
   rintro d rfl
   refine sw_intro (fun _ => ?_) (fun e => by cases e)
   refine swd (fun e => absurd e e0) (fun _ => ?_)
   refine use20a ?_
   simp (maxSteps:=9^9) only [go_sem, eq_self, and_self, Int.natCast_pos, Int.le_refl, Nat.le_refl, Int.natCast_nonneg, Int.ofNat_lt, Int.ofNat_le, Int.reduceLT, Int.reduceLE, Int.reduceEq, Int.reduceNe, Int.reduceAdd, Int.reduceSub, Int.reduceMul, Int.reduceToNat, Int.reduceNeg, Nat.reduceEqDiff, Nat.reduceLeDiff, Nat.reduceSub, Nat.reduceMul, Nat.reduceLT, Nat.reduceBEq, Nat.reduceAdd, Nat.reduceDiv, Nat.reduceMod]
   rintro _ m rfl
   refine swd (fun _ => ?_) (fun e => absurd Int.natCast_zero e)
   refine use19a ?_
   simp (maxSteps:=9^9) only [go_sem, eq_self, and_self, Int.natCast_pos, Int.le_refl, Nat.le_refl, Int.natCast_nonneg, Int.ofNat_lt, Int.ofNat_le, Int.reduceLT, Int.reduceLE, Int.reduceEq, Int.reduceNe, Int.reduceAdd, Int.reduceSub, Int.reduceMul, Int.reduceToNat, Int.reduceNeg, Nat.reduceEqDiff, Nat.reduceLeDiff, Nat.reduceSub, Nat.reduceMul, Nat.reduceLT, Nat.reduceBEq, Nat.reduceAdd, Nat.reduceDiv, Nat.reduceMod]
   rintro _ m rfl
   refine swd (fun _ => ?_) (fun e => absurd Int.natCast_zero e)
   refine use15a ?_
   simp (maxSteps:=9^9) only [go_sem, eq_self, and_self, Int.natCast_pos, Int.le_refl, Nat.le_refl, Int.natCast_nonneg, Int.ofNat_lt, Int.ofNat_le, Int.reduceLT, Int.reduceLE, Int.reduceEq, Int.reduceNe, Int.reduceAdd, Int.reduceSub, Int.reduceMul, Int.reduceToNat, Int.reduceNeg, Nat.reduceEqDiff, Nat.reduceLeDiff, Nat.reduceSub, Nat.reduceMul, Nat.reduceLT, Nat.reduceBEq, Nat.reduceAdd, Nat.reduceDiv, Nat.reduceMod]
   exact h
 ·exact h.elim
end Go.V
namespace Go.Proofs
set_option linter.unusedSimpArgs false
set_option linter.unnecessarySimpa false
open Go.RowKit Go.Shelf
set_option linter.unusedVariables false
set_option maxRecDepth 100000
set_option maxHeartbeats 2000000
attribute [local go_sem] Oper.semAt_some
structure ChV where
 key : ByteArray
 p : Option Addr
 len : Nat
 cap : Nat
 g : Bool
instance : Inhabited ChV := ⟨⟨.empty, none, 0, 0, false⟩⟩
def ChV.enc (x : ChV) : List Value := [.string x.key, .slice x.p x.len x.cap, .bool x.g]
def cupto {α : Type} (f : Nat → α) (k : Nat) : List α := (List.range k).map f
theorem cupto_succ {α : Type} (f : Nat → α) (k : Nat) : cupto f (k + 1) = cupto f k ++ [f k] := by simp [cupto, List.range_succ]
theorem cupto_length {α : Type} (f : Nat → α) (k : Nat) : (cupto f k).length = k := by simp [cupto]
def ChAt (W : World) (b off : Nat) (zs : List ChV) : Prop :=
 ∀ j, j < zs.length → W.cell? ⟨b, off + j * 3, none⟩ = some (.string (zs[j]?.getD default).key) ∧ W.cell? ⟨b, off + j * 3 + 1, none⟩ = some (.slice (zs[j]?.getD default).p (zs[j]?.getD default).len (zs[j]?.getD default).cap) ∧
  W.cell? ⟨b, off + j * 3 + 2, none⟩ = some (.bool (zs[j]?.getD default).g)
theorem ChAt.below {W W' : World} {n₀ b off : Nat} {zs : List ChV} (h : ChAt W b off zs) (hb : Below n₀ W W') (hlt : b < n₀) : ChAt W' b off zs :=
 fun j hj => ⟨(hb.cell (p := ⟨b, off + j * 3, none⟩) hlt).trans (h j hj).1, (hb.cell (p := ⟨b, off + j * 3 + 1, none⟩) hlt).trans (h j hj).2.1, (hb.cell (p := ⟨b, off + j * 3 + 2, none⟩) hlt).trans (h j hj).2.2⟩
theorem values63 (F : Fence) (n : Nat) (h63 : F.fn 63) (hro : F.round = none) (hn : 1 ≤ n) (l Bs n₀ b off cap : Nat) (zs : List ChV) (hreach : zs.length * 48 ≤ 140737488355328) (hb : b < n₀) (J : List ChV → World → Prop)
  (hJ : ∀ pre W o, J pre W → (∃ c t, o = .cells c t (0, 0)) → J pre (W.alloc o))
  (hY : ∀ pre x W, J pre W → pre.length < zs.length → YieldAt F (n - 1) Tryz.prog l #[.agg (ChV.enc x).toArray] W fun e W' =>
   e = .returned (.bool true) ∧ J (pre ++ [x]) W' ∧ Below n₀ W W')
  (W : World) (hn0 : n₀ ≤ W.heap.size) (hBs : W.cell? ⟨Bs, 0, none⟩ = some (.slice (some ⟨b, off, none⟩) zs.length cap)) (hc : ChAt W b off zs) (h0 : J [] W) :
  CallsIn F n Tryz.prog 63 #[.func (.yield l) #[] #[], .pointer (some ⟨Bs, 0, none⟩)] W fun e W' => (∃ v, e = .returned v) ∧ J (cupto (fun j => zs[j]?.getD default) zs.length) W' := by
 refine callsIn_of_wp Tryz.func63 rfl h63 ?_ hro
 simp only [Tryz.ntmps63, List.size_toArray, List.length_cons, List.length_nil, Nat.reduceAdd, Nat.reduceSub, Array.replicate_succ, Array.replicate_zero, List.push_toArray, List.append_toArray, List.nil_append, List.cons_append]
 gi_wp2
 gi_loopw [7] (fun i wr => ∃ k : Nat, k ≤ zs.length ∧ i = .int .i64 k ∧ J (cupto (fun j => zs[j]?.getD default) k) wr ∧ Below n₀ W wr)
  (fun i _ => zs.length - (intOf i).toNat)
 case atStart => exact ⟨0, Nat.zero_le _, rfl, h0, Below.refl _ _⟩
 case round =>
  obtain ⟨k, hk, rfl, hJk, hnx⟩ := hrel
  by_cases hlt : k < zs.length
  ·have hcx := (hc.below hnx hb) k hlt
   obtain ⟨c0, c1, c2⟩ := hcx
   have ek : zs[k]?.getD default = zs[k] := by simp [hlt]
   rw [ek] at c0 c1 c2
   obtain ⟨W1, hW1⟩ : ∃ W1, wr.alloc (.cells #[.string zs[k].key, .slice zs[k].p zs[k].len zs[k].cap, .bool zs[k].g] 45) = W1 := ⟨_, rfl⟩
   have hJ1 : J (cupto (fun j => zs[j]?.getD default) k) W1 := by rw [← hW1]; exact hJ _ _ _ hJk ⟨_, _, rfl⟩
   have hb1 : Below n₀ W W1 := by rw [← hW1]; exact hnx.alloc (Nat.le_trans hn0 hnx.size) _
   obtain ⟨fn, tmps, assign, body, hy, hR⟩ := hY _ zs[k] W1 hJ1 (by rw [cupto_length]; exact hlt)
   simp only [ChV.enc] at hy
   subst hW1
   gi_wp2
   refine hR.mono ?_
   rintro e W3 ⟨rfl, hJ3, hk3⟩
   gi_wp2
   go_roundw
   case rel => exact ⟨k + 1, by omega, by simp, by rw [cupto_succ, ek]; exact hJ3, hb1.trans hk3⟩
   case measure => simp [intOf]; omega
  ·obtain rfl : k = zs.length := by omega
   gi_wp2
   go_end0
   exact ⟨⟨_, rfl⟩, hJk⟩
end Go.Proofs
namespace Go.Proofs
set_option linter.unusedSimpArgs false
set_option linter.unnecessarySimpa false
open Go.RowKit Go.Shelf Go.Maps
set_option linter.unusedVariables false
set_option maxRecDepth 100000
set_option maxHeartbeats 2000000
attribute [local go_sem] Oper.semAt_some
def apAssign : Code := (Code.region 2 #[{ dst := some 5, op := Op.alloc 45, type := 0, pos := "iter.go:51", after := #[], guard := none }, { dst := none, op := Op.store 45 (Operand.tmp 5) (Operand.tmp 7), type := 0, pos := "iter.go:51", after := #[{ on := 0, ground := Ground.data }, { on := 0, ground := Ground.phase }], guard := none }] false)
def apBody : Code := (Code.block 1 (Code.region 3 #[{ dst := some 8, op := Op.load 22 (Operand.tmp 2), type := 22, pos := "iter.go:52", after := #[], guard := none }, { dst := some 9, op := Op.load 45 (Operand.tmp 5), type := 45, pos := "iter.go:52", after := #[], guard := none }, { dst := some 10, op := Op.buildSlice 22 1 #[(0, Operand.tmp 9)], type := 22, pos := "iter.go:52", after := #[{ on := 1, ground := Ground.data }], guard := none }, { dst := some 11, op := Op.call { callee := Callee.builtin Builtin.append, args := #[Operand.tmp 8, Operand.tmp 10], argTypes := #[22, 22] }, type := 22, pos := "iter.go:52", after := #[{ on := 0, ground := Ground.data }, { on := 2, ground := Ground.data }], guard := none }, { dst := none, op := Op.store 22 (Operand.tmp 2) (Operand.tmp 11), type := 0, pos := "iter.go:52", after := #[{ on := 3, ground := Ground.data }, { on := 3, ground := Ground.chain }, { on := 0, ground := Ground.phase }, { on := 1, ground := Ground.phase }, { on := 2, ground := Ground.phase }, { on := 3, ground := Ground.phase }], guard := none }] false))
def apRec (fn : FuncId) (sv : Value) (Bs D : Nat) (st : LoopState) (pend : Option Code) : Loop :=
 { state := st, pending := pend, fn, tmps := #[.slice none 0 0, sv, .pointer (some ⟨Bs, 0, none⟩), undef, .slice none 0 0, undef, sv, undef, undef, undef, undef, undef, undef], params := #[7], assign := apAssign, body := apBody, defers := D }
structure ApAt (n₀ : Nat) (w0 : World) (fn : FuncId) (sv : Value) (Bs l D : Nat) (ss : List ChV) (W : World) : Prop where
 box : ∃ v, W.heap[Bs]? = some (.cells #[v] 22 (0, 0)) ∧ W.ownsRow n₀ 45 3 v ss.length (ss.flatMap ChV.enc) ∧ (v = .slice none 0 0 ↔ ss = [])
 L : W.heap[l]? = some (.loop (apRec fn sv Bs D .ready none))
 K : W.heap[D]? = some (.deferred (some []))
 below : Below n₀ w0 W
theorem ap_alloc {n₀ : Nat} {w0 : World} {fn : FuncId} {sv : Value} {Bs l D : Nat} {ss : List ChV} {W : World} {o : Obj} (h : ApAt n₀ w0 fn sv Bs l D ss W) (hn : n₀ ≤ W.heap.size) : ApAt n₀ w0 fn sv Bs l D ss (W.alloc o) := by
 obtain ⟨v, hv, hr, hnil⟩ := h.box
 have at' : ∀ {k : Nat} {o' : Obj}, W.heap[k]? = some o' → (W.alloc o).heap[k]? = some o' := fun hk => (Below.heap_alloc _ _ _ (Array.getElem?_eq_some_iff.1 hk).1).trans hk
 exact ⟨⟨v, at' hv, hr.alloc _, hnil⟩, at' h.L, at' h.K, h.below.alloc hn _⟩
theorem info45 : (Tryz.prog.info? 45).map (fun i => (i.zero, i.size, i.bytes)) = some (some (.agg #[.string { data := #[] }, .slice none 0 0, .bool false]), 3, 48) := by kernel_rfl
theorem cell_three_new (w : World) (x : ChV) (t : TypeId) : ∀ j u, (ChV.enc x)[j]? = some u → (w.alloc (.cells #[.string x.key, .slice x.p x.len x.cap, .bool x.g] t)).cell? ((⟨w.heap.size, 0, none⟩ : Addr).add j) = some u := by
 intro j u hu
 have hj : j < 3 := (List.getElem?_eq_some_iff.1 hu).1
 have e : (w.alloc (.cells #[.string x.key, .slice x.p x.len x.cap, .bool x.g] t)).heap[w.heap.size]? = some (.cells #[.string x.key, .slice x.p x.len x.cap, .bool x.g] t) := World.alloc_heap_new w _
 rcases (by omega : j = 0 ∨ j = 1 ∨ j = 2) with rfl | rfl | rfl <;> simp only [Addr.add, World.cell?, e] <;> simp_all [ChV.enc]
theorem apYield (F : Fence) (m : Nat) (n₀ : Nat) (w0 : World) (fn : FuncId) (hfn : F.fn fn) (sv : Value) (Bs l D : Nat) (hBl : Bs ≠ l) (hDl : D ≠ l) (hDB : D ≠ Bs) (h0B : n₀ ≤ Bs) (h0l : n₀ ≤ l)
    (N : Nat) (hN : N ≤ maxLen) (hNb : N * 48 ≤ 140737488355328) (ss : List ChV) (x : ChV) (W : World) (hW0 : n₀ ≤ W.heap.size) (h : ApAt n₀ w0 fn sv Bs l D ss W) (hlen : ss.length < N) :
    YieldAt F m Tryz.prog l #[.agg (ChV.enc x).toArray] W fun e W' => e = .returned (.bool true) ∧ ApAt n₀ w0 fn sv Bs l D (ss ++ [x]) W' ∧ Below n₀ W W' := by
  have hne : (22 : Nat) ≠ 45 := by decide
  obtain ⟨i0, hi, hz0, hz1, hz2⟩ := info_parts info45
  obtain ⟨v, hv, hrow, _⟩ := h.box
  refine ⟨fn, #[.slice none 0 0, sv, .pointer (some ⟨Bs, 0, none⟩), undef, .slice none 0 0, undef, sv, .agg (ChV.enc x).toArray, undef, undef, undef, undef, undef], apAssign, apBody, by simpa [apRec] using run_yield (P := Tryz.prog) (args := #[.agg (ChV.enc x).toArray]) h.L rfl, roundIn_of_wpIn hfn ?_⟩
  obtain ⟨W1, hW1⟩ : ∃ W1, W.alloc (.cells #[.string x.key, .slice x.p x.len x.cap, .bool x.g] 45) = W1 := ⟨_, rfl⟩
  have h1 : ApAt n₀ w0 fn sv Bs l D ss W1 := by rw [← hW1]; exact ap_alloc h hW0
  have hbW1 : Below n₀ W W1 := by rw [← hW1]; exact (Below.refl n₀ W).alloc hW0 _
  have hn1 : n₀ ≤ W1.heap.size := Nat.le_trans hW0 hbW1.size
  have hx1 : W1.heap[W.heap.size]? = some (.cells #[.string x.key, .slice x.p x.len x.cap, .bool x.g] 45 (0, 0)) := by rw [← hW1]; exact World.alloc_heap_new W _
  have hlW : l < W.heap.size := (Array.getElem?_eq_some_iff.1 h.L).1
  have hBW : Bs < W.heap.size := (Array.getElem?_eq_some_iff.1 hv).1
  clear hv hrow
  obtain ⟨v, hv, hrow, _⟩ := h1.box
  have hl : l < W1.heap.size := (Array.getElem?_eq_some_iff.1 h1.L).1
  have hbr := run_beginRound (P := Tryz.prog) h1.L rfl
  obtain ⟨W2, hW2⟩ : ∃ W2, W1.putObj l (.loop { apRec fn sv Bs D .ready none with state := .busy }) = W2 := ⟨_, rfl⟩
  rw [hW2] at hbr
  have hg2 : W1.grownBy W2 (some l) := by rw [← hW2]; exact grownBy_putObj_a _ _ _
  have hv2 : W2.heap[Bs]? = some (.cells #[v] 22 (0, 0)) := by rw [← hW2]; exact (World.putObj_heap_other hBl).trans hv
  have hx2 : W2.heap[W.heap.size]? = some (.cells #[.string x.key, .slice x.p x.len x.cap, .bool x.g] 45 (0, 0)) := by rw [← hW2]; exact (World.putObj_heap_other (by omega)).trans hx1
  have hK2 : W2.heap[D]? = some (.deferred (some [])) := by rw [← hW2]; exact (World.putObj_heap_other hDl).trans h1.K
  have hL2 : W2.heap[l]? = some (.loop { apRec fn sv Bs D .ready none with state := .busy }) := by rw [← hW2]; exact World.putObj_heap_same hl
  have hrow2 : W2.ownsRow n₀ 45 3 v ss.length (ss.flatMap ChV.enc) := hrow.kept hg2 (ownsRow_ne_a hrow h1.L (fun cur e => by first | cases e | exact hne (Obj.cells.inj e).2.1))
  have hb2 : Below n₀ W W2 := hbW1.grown hg2 hn1 (fun k e => by cases e; exact h0l)
  obtain ⟨hc2, hf2⟩ := cell_of_box_a hv2
  have hxc0 : W2.cell? ⟨W.heap.size, 0, none⟩ = some (.string x.key) := by simp [World.cell?, hx2]
  have hxc1 : W2.cell? ⟨W.heap.size, 1, none⟩ = some (.slice x.p x.len x.cap) := by simp [World.cell?, hx2]
  have hxc2 : W2.cell? ⟨W.heap.size, 2, none⟩ = some (.bool x.g) := by simp [World.cell?, hx2]
  have hBlt : Bs < W2.heap.size := (Array.getElem?_eq_some_iff.1 hv2).1
  have hl2 : l < W2.heap.size := (Array.getElem?_eq_some_iff.1 hL2).1
  have hDlt : D < W2.heap.size := (Array.getElem?_eq_some_iff.1 hK2).1
  have hn2 : n₀ ≤ W2.heap.size := Nat.le_trans hW0 hb2.size
  have ne_of : ∀ {j : Nat} {o : Obj}, W2.heap[j]? = some o → (∀ cur, o ≠ .cells cur 45 (0, 0)) → some j ≠ v.ownBlock := fun hj hno => by
    rcases ownsRow_ne_a hrow2 hj hno with e | e
    · rw [e]; simp
    · exact fun e' => e e'.symm
  clear hW2
  unfold apAssign ChV.enc
  subst hW1
  gi_wp2
  unfold apBody
  have hxn : ∀ j u, ([.string x.key, .slice x.p x.len x.cap, .bool x.g] : List Value)[j]? = some u → (W2.alloc (.cells #[.string x.key, .slice x.p x.len x.cap, .bool x.g] 45)).cell? ((⟨W2.heap.size, 0, none⟩ : Addr).add j) = some u := cell_three_new W2 x 45
  gi_wp2_with (first
    | (gi_at_builtin; refine wpListIn_append_own _ rfl _ _ 22 rfl n₀ 45 i0 _ 3 48 Tryz.underlying22 hi hz0 hz1 hz2 rfl (by decide) _ _ _ rfl (hrow2.alloc _) ⟨W2.heap.size, 0, none⟩ 1 1 [.string x.key, .slice x.p x.len x.cap, .bool x.g] rfl rfl hxn (by simp [Value.oneCell']) (by omega) (by omega) (by simp; omega) ?_; intro v' w3 hown' hg3 hnil3
       have hv3 : w3.heap[Bs]? = some (.cells #[v] 22 (0, 0)) := (hg3.block Bs (by simp; omega) (ne_of hv2 (fun cur e => by first | cases e | exact hne (Obj.cells.inj e).2.1))).trans ((Below.heap_alloc _ _ Bs hBlt).trans hv2)
       obtain ⟨hc3, hf3⟩ := cell_of_box_a hv3
       obtain ⟨g', cap', cur', rfl, hbase', hgb', hr1, hr2, hr3, hr4⟩ : ∃ g' cap' cur', v' = .slice (some ⟨g', 0, none⟩) (ss.length + 1) cap' ∧ n₀ ≤ g' ∧ w3.heap[g']? = some (.cells cur' 45 (0, 0)) ∧ ss.length + 1 ≤ cap' ∧ cap' ≤ maxLen ∧ cur'.size = cap' * 3 ∧ cur'.toList.take ((ss.length + 1) * 3) = ss.flatMap ChV.enc ++ [.string x.key, .slice x.p x.len x.cap, .bool x.g] := by
         rcases hown'.2 with ⟨_, h0⟩ | h'
         · exact absurd h0 (by omega)
         · exact h'
       go_frame)
    | gi_in)
  have hg3' : (W2.alloc (.cells #[.string x.key, .slice x.p x.len x.cap, .bool x.g] 45)).grownBy w3 v.ownBlock := hg3
  have hL3 : w3.heap[l]? = some (.loop { apRec fn sv Bs D .ready none with state := .busy }) := (hg3'.block l (by simp; omega) (ne_of hL2 (fun cur e => by first | cases e | exact hne (Obj.cells.inj e).2.1))).trans ((Below.heap_alloc _ _ l hl2).trans hL2)
  have hK3 : w3.heap[D]? = some (.deferred (some [])) := (hg3'.block D (by simp; omega) (ne_of hK2 (fun cur e => by first | cases e | exact hne (Obj.cells.inj e).2.1))).trans ((Below.heap_alloc _ _ D hDlt).trans hK2)
  obtain ⟨w4, hw4⟩ : ∃ w4, w3.setCell ⟨Bs, 0, none⟩ (.slice (some ⟨g', 0, none⟩) (ss.length + 1) cap') = w4 := ⟨_, rfl⟩
  rw [hw4]
  have hg4 : w3.grownBy w4 (some Bs) := by rw [← hw4]; exact grownBy_setCell0_a _ _ _
  have hv4 : w4.heap[Bs]? = some (.cells #[.slice (some ⟨g', 0, none⟩) (ss.length + 1) cap'] 22 (0, 0)) := by rw [← hw4]; exact heap_setCell_box_a _ hv3
  have hL4 : w4.heap[l]? = some (.loop { apRec fn sv Bs D .ready none with state := .busy }) := (hg4.block l (Array.getElem?_eq_some_iff.1 hL3).1 (fun e => hBl (by cases e; rfl))).trans hL3
  have hK4 : w4.heap[D]? = some (.deferred (some [])) := (hg4.block D (Array.getElem?_eq_some_iff.1 hK3).1 (fun e => hDB (by cases e; rfl))).trans hK3
  have hrow4 := hown'.kept hg4 (ownsRow_ne_a hown' hv3 (fun cur e => by first | cases e | exact hne (Obj.cells.inj e).2.1))
  have hb3 : Below n₀ W w3 := (hb2.alloc hn2 _).grown hg3' (by simp; omega) (fun k e => (hrow2.lt k e).1)
  have hb4 : Below n₀ W w4 := hb3.grown hg4 (Nat.le_trans hW0 hb3.size) (fun k e => by cases e; exact h0B)
  clear hw4
  have hb5 := hb4.grown (grownBy_putObj_a w4 l (.loop { { apRec fn sv Bs D .ready none with state := .busy } with state := if (none : Option Code).isNone then .ready else .done, pending := none })) (Nat.le_trans hW0 hb4.size) (fun k e => by cases e; exact h0l)
  refine ⟨_, _, run_endRound none hL4, rfl, ⟨⟨_, (World.putObj_heap_other hBl).trans hv4, ?_, by simp⟩, World.putObj_heap_same (Array.getElem?_eq_some_iff.1 hL4).1, (World.putObj_heap_other hDl).trans hK4, h.below.trans hb5⟩, hb5⟩
  have := hrow4.kept (grownBy_putObj_a w4 l (.loop { { apRec fn sv Bs D .ready none with state := .busy } with state := if (none : Option Code).isNone then .ready else .done, pending := none })) (ownsRow_ne_a hrow4 hL4 (fun cur e => by first | cases e | exact hne (Obj.cells.inj e).2.1))
  simpa [ChV.enc] using this
end Go.Proofs
namespace Go.Proofs
set_option linter.unusedSimpArgs false
set_option linter.unnecessarySimpa false
open Go.RowKit Go.Shelf Go.Maps
set_option linter.unusedVariables false
set_option maxRecDepth 100000
set_option maxHeartbeats 2000000
theorem cupto_all (zs : List ChV) : cupto (fun j => zs[j]?.getD default) zs.length = zs := by
 apply List.ext_getElem
 ·simp [cupto]
 ·intro i h1 h2
  simp [cupto, h2]
theorem append84 (F : Fence) (n : Nat) (h84 : F.fn 84) (h63 : F.fn 63) (hro : F.round = none) (hn : 2 ≤ n) (w : World) (Bs b off cap : Nat) (zs : List ChV) (hN : zs.length ≤ maxLen) (hNb : zs.length * 48 ≤ 140737488355328)
    (hBl : Bs < w.heap.size) (hb : b < w.heap.size) (hBs : w.cell? ⟨Bs, 0, none⟩ = some (.slice (some ⟨b, off, none⟩) zs.length cap)) (hc : ChAt w b off zs) :
    CallsIn F n Tryz.prog 84 #[.slice none 0 0, .func (.func 63) #[] #[.pointer (some ⟨Bs, 0, none⟩)]] w fun e w' => ∃ v : Value, e = .returned v ∧ w'.ownsRow w.heap.size 45 3 v zs.length (zs.flatMap ChV.enc) ∧ (v = .slice none 0 0 ↔ zs = []) ∧ Below w.heap.size w w' := by
  have h1 : 1 ≤ n := by omega
  have hne : (22 : Nat) ≠ 45 := by decide
  have eg : ∀ args w, (callFunc 63 args).run Tryz.prog w = .ok (.enter 63 args) w := enters_of Tryz.func63 (by kernel_rfl) rfl
  refine callsIn_of_wp_marks Tryz.func84 rfl h84 ?_ hro
  simp only [Tryz.ntmps84, List.size_toArray, List.length_cons, List.length_nil, Nat.reduceAdd, Nat.reduceSub, Array.replicate_succ, Array.replicate_zero, List.push_toArray, List.append_toArray, List.nil_append, List.cons_append]
  gi_wp2
  refine wpIn_rangeFunc ?_
  intro fn hfn
  rw [hro]
  obtain ⟨W0, hW0⟩ : ∃ W0, w.alloc (.cells #[.slice none 0 0] 22) = W0 := ⟨_, rfl⟩
  have hs0 : W0.heap.size = w.heap.size + 1 := by rw [← hW0]; simp
  have hv0 : W0.heap[w.heap.size]? = some (.cells #[.slice none 0 0] 22 (0, 0)) := by rw [← hW0]; exact World.alloc_heap_new w _
  have hb0 : Below w.heap.size w W0 := by rw [← hW0]; exact (Below.refl _ w).alloc (Nat.le_refl _) _
  rw [hW0]
  let sv : Value := .func (.func 63) #[] #[.pointer (some ⟨Bs, 0, none⟩)]
  obtain ⟨W1, hW1⟩ : ∃ W1, (W0.alloc (.deferred (some []))).alloc (.loop (apRec fn sv w.heap.size W0.heap.size .ready none)) = W1 := ⟨_, rfl⟩
  have hold : ∀ k, k < W0.heap.size → W1.heap[k]? = W0.heap[k]? := fun k hk => by
    rw [← hW1]; exact (Below.heap_alloc _ _ k (by simp; omega)).trans (Below.heap_alloc _ _ k hk)
  have hb1 : Below w.heap.size w W1 := by rw [← hW1]; exact (hb0.alloc hb0.size _).alloc (by have := hb0.size; simp; omega) _
  have hs1 : W1.heap.size = W0.heap.size + 2 := by rw [← hW1]; simp
  have hM : ApAt w.heap.size w fn sv w.heap.size (W0.heap.size + 1) W0.heap.size [] W1 :=
    ⟨⟨_, (hold w.heap.size (by omega)).trans hv0, ⟨rfl, .inl ⟨rfl, rfl⟩⟩, by simp⟩,
     by rw [← hW1]; have := World.alloc_heap_new (W0.alloc (.deferred (some []))) (.loop (apRec fn sv w.heap.size W0.heap.size .ready none)); rwa [World.size_alloc] at this,
     by rw [← hW1]; exact (Below.heap_alloc _ _ _ (by simp)).trans (World.alloc_heap_new W0 _), hb1⟩
  refine ⟨W0.heap.size + 1, [{ target := .collected W0.heap.size, args := #[] }], W1, { target := .fn (.func 63) #[.pointer (some ⟨Bs, 0, none⟩)], args := #[.func (.yield (W0.heap.size + 1)) #[] #[]] }, W1, 63,
    #[.func (.yield (W0.heap.size + 1)) #[] #[]] ++ #[.pointer (some ⟨Bs, 0, none⟩)], W1, ?_, ?_, ?_, ?_, fun _ => h1, ?_⟩
  · rw [← hW1]; exact run_enterLoop_outer _ _ _ _ _
  · simp [resolve, go_sem]
  · intro f' hf'; simp [Target.leads] at hf'; subst hf'; exact h63
  · simp [invoke, go_sem, eg]
  · refine (values63 F (n - 1) h63 hro (by omega) (W0.heap.size + 1) Bs w.heap.size b off cap zs hNb hb (fun pre W => ApAt w.heap.size w fn sv w.heap.size (W0.heap.size + 1) W0.heap.size pre W ∧ w.heap.size ≤ W.heap.size)
      (fun pre W o hJ _ => ⟨ap_alloc hJ.1 hJ.2, by have := hJ.2; simp; omega⟩)
      (fun pre x W hJ hl => ?_) W1 (by omega) ((hb1.cell (p := ⟨Bs, 0, none⟩) hBl).trans hBs) (hc.below hb1 hb) ⟨hM, by omega⟩).mono ?_
    · refine (apYield F (n - 1 - 1) w.heap.size w fn hfn sv w.heap.size (W0.heap.size + 1) W0.heap.size (by omega) (by omega) (by omega) (Nat.le_refl _) (by omega) zs.length hN hNb pre x W hJ.2 hJ.1 hl).mono ?_
      rintro e W' ⟨rfl, h2, h3⟩
      exact ⟨rfl, ⟨h2, Nat.le_trans hJ.2 h3.size⟩, h3⟩
    rintro e W2 ⟨⟨v0, rfl⟩, h2, h2s⟩
    rw [cupto_all] at h2
    obtain ⟨v, hv, hrow, hnil⟩ := h2.box
    have hend := run_endLoop (P := Tryz.prog) h2.L (by simp [apRec])
    obtain ⟨W3, hW3⟩ : ∃ W3, W2.putObj (W0.heap.size + 1) (.loop { apRec fn sv w.heap.size W0.heap.size .ready none with state := .exhausted }) = W3 := ⟨_, rfl⟩
    rw [hW3] at hend
    have hg3 : W2.grownBy W3 (some (W0.heap.size + 1)) := by rw [← hW3]; exact grownBy_putObj_a _ _ _
    have hv3 : W3.heap[w.heap.size]? = some (.cells #[v] 22 (0, 0)) := by rw [← hW3]; exact (World.putObj_heap_other (by omega)).trans hv
    have hK3 : W3.heap[W0.heap.size]? = some (.deferred (some [])) := by rw [← hW3]; exact (World.putObj_heap_other (by omega)).trans h2.K
    have hrow3 := hrow.kept hg3 (ownsRow_ne_a hrow h2.L (fun cur e => by first | cases e | exact hne (Obj.cells.inj e).2.1))
    have hb3 : Below w.heap.size w W3 := h2.below.grown hg3 h2.below.size (fun k e => by cases e; omega)
    obtain ⟨hc3, hf3⟩ := cell_of_box_a hv3
    clear hW3
    refine ⟨none, W3, hend, ?_⟩
    gi_wp2
    rw [← hs0]
    refine ⟨by simp, .inl ⟨_, _, rfl, run_takeDeferred hK3, ?_⟩⟩
    exact ⟨_, results_tmp rfl _ _ _, v, rfl, hrow3.kept (grownBy_putObj_a _ _ _) (ownsRow_ne_a hrow3 hK3 (fun cur e => by first | cases e | exact hne (Obj.cells.inj e).2.1)), hnil, hb3.grown (grownBy_putObj_a _ _ _) hb3.size (fun k e => by cases e; omega)⟩
theorem collect61 (F : Fence) (n : Nat) (h61 : F.fn 61) (h84 : F.fn 84) (h63 : F.fn 63) (hro : F.round = none) (hn : 3 ≤ n) (w : World) (Bs b off cap : Nat) (zs : List ChV) (hN : zs.length ≤ maxLen) (hNb : zs.length * 48 ≤ 140737488355328)
  (hBl : Bs < w.heap.size) (hb : b < w.heap.size) (hBs : w.cell? ⟨Bs, 0, none⟩ = some (.slice (some ⟨b, off, none⟩) zs.length cap)) (hc : ChAt w b off zs) :
  CallsIn F n Tryz.prog 61 #[.func (.func 63) #[] #[.pointer (some ⟨Bs, 0, none⟩)]] w fun e w' => ∃ v : Value, e = .returned v ∧ w'.ownsRow w.heap.size 45 3 v zs.length (zs.flatMap ChV.enc) ∧ (v = .slice none 0 0 ↔ zs = []) ∧ Below w.heap.size w w' := by
 have h1 : 1 ≤ n := by omega
 have e84 : ∀ args w, (callFunc 84 args).run Tryz.prog w = .ok (.enter 84 args) w := enters_of Tryz.func84 (by kernel_rfl) rfl
 refine callsIn_of_wp Tryz.func61 rfl h61 ?_ hro
 simp only [Tryz.ntmps61, List.size_toArray, List.length_cons, List.length_nil, Nat.reduceAdd, Nat.reduceSub, Array.replicate_succ, Array.replicate_zero, List.push_toArray, List.append_toArray, List.nil_append, List.cons_append]
 gi_wp2_with (gi_at_fn 84; refine (append84 F (n - 1) h84 h63 hro (by omega) w Bs b off cap zs hN hNb hBl hb hBs hc).mono ?_; rintro e w' ⟨v, rfl, hrow, hnil, hb⟩)
 go_ret
 exact ⟨v, rfl, hrow, hnil, hb⟩
end Go.Proofs
