/- A part of the proof layer, or functions of the given program in it: contracts and their proofs. -/
import Derived.Test.YthfkoeoaehkoaaaGreatDoorMN1
import Derived.Test.YthfkoeoaehkoaaaGreatDoorProg
import Derived.Test.YthfkoeoaehkoaaaGreatDoorVx
namespace Go.V
set_option linter.unusedSimpArgs false
set_option linter.unnecessarySimpa false
open Go.Proofs
def a69 : AS := qS [q 4 (.mv (.c (.nili)))] [0,1] (qS [q0 5 0, qX 150 6 [.t 5]] [0,1] (qS [q0 7 0, q0 8 0, q5 9 8, q3 10 1 9, q4 11 10, q0 12 1, q 13 (.bsl 1 .byte 1 [(0, (.t 12))]), q 14 (.app 1 .byte (.t 11) (.t 13)), q5 15 7, q3 16 1 15, q6 1 16 14] []
 (qS [q 4 (.mv (.c (.nili)))] [4] .ret)))
def r69 : List RT := [.t 4]
def a71 : AS := qS [q 2 (.mv qf)] [0] (qS [q0 3 0, q 4 (.bin .neq (.t 3) (.c (qE))), q0 5 4, q1 6 0 5, qT 7 (.len .i (.t 6)) 5, qT 8 (.bin .leq (.t 7) (qI 40)) 5, q 9 (.pick (.t 5) (.t 8) qf), q0 2 9] [2] .ret)
def r71 : List RT := [.t 2]
def a97 : AS := qS [q 2 (.mv (.c (qE)))] [0] (qS [q 3 (.alcT 141 [.nilp, .nils])] [0,3] (.seq (qS [q0 5 0, q 6 (.len .i (.t 5)), q 7 (.mv (qI 0))] [0,3,6,7] (.block 0 (.loop 1 [0,3,6,7] (qS [q 8 (.bin .lss (.t 7) (.t 6))] [0,3,6,7,8] (.seq (.cond (.t 8)
 .skip (.exit 0)) (.seq (.block 1 (qS [q0 9 7, q0 4 9] [0,3,4,6,7] (qS [q0 10 0, q0 11 4, q 12 (.ixS (.t 10) (.t 11)), q 13 (.bin .shr (.t 12) (.c (.int .u64 4))), q 14 (.ixS (.c (.str ⟨#[48,49,50,51,52,53,54,55,56,57,97,98,99,100,101,102]⟩))
 (.t 13)), q 15 (.call 69 [none, none] [.t 3, .t 14])] [0,3,4,6,7] (.reg [q0 16 0, q0 17 4, q 18 (.ixS (.t 16) (.t 17)), q 19 (.bin .and (.t 18) (.c (.int .u8 15))), q 20 (.ixS (.c (.str
 ⟨#[48,49,50,51,52,53,54,55,56,57,97,98,99,100,101,102]⟩)) (.t 19)), q 21 (.call 69 [none, none] [.t 3, .t 20])] [0,3,6,7])))) (.reg [q 22 (.bin .add (.t 7) (qI 1)), q0 7 22] [0,3,6,7]))))))) (qS [qX 70 23 [.t 3], q0 2 23] [2] .ret)))
def r97 : List RT := [.t 2]
def a30 : AS := qS [q 2 (.mv (.c (qE))), q 3 (.mv qf)] [0] (.seq (qS [q0 8 0, q 9 (.len .i (.t 8)), q 10 (.bin .rem (.t 9) (qI 2)), q 11 (.bin .neq (.t 10) (qI 0))] [0,11] (.cond (.t 11) (qS [q 2 (.mv (.c (qE))), q 3 (.mv qf)] [2,3] .ret) .skip)) (qS [q 4
 (.alcT 141 [.nilp, .nils])] [0,4] (.seq (qS [q 5 (.mv (qI 0))] [0,4,5] (.block 0 (.loop 1 [0,4,5] (.seq (qS [q0 12 5, q0 13 0, q 14 (.len .i (.t 13)), q 15 (.bin .lss (.t 12) (.t 14))] [0,4,5,15] (.cond (.t 15) .skip (.exit 0))) (.seq
 (.block 1 (.seq (.regD [q0 18 0, q0 19 5, q 20 (.ixS (.t 18) (.t 19)), q 21 (.call 68 [none, none] [(.c (.str ⟨#[48,49,50,51,52,53,54,55,56,57,97,98,99,100,101,102]⟩)), .t 20]), q0 22 0, q0 23 5, q 24 (.bin .add (.t 23) (qI 1)), q 25 (.ixS
 (.t 22) (.t 24)), q 26 (.call 68 [none, none] [(.c (.str ⟨#[48,49,50,51,52,53,54,55,56,57,97,98,99,100,101,102]⟩)), .t 25]), q0 6 21, q0 7 26] [.q 0, .q 1, .q 2, .q 4, .q 5, .q 6, .q 7, .e 3 [4,5,6,7], .e 8 [], .q 9, .q 10] [0,4,5,6,7])
 (.seq (qS [q0 27 6, q 28 (.bin .lss (.t 27) (qI 0)), q0 29 28, q2 30 7 29, qF 31 (.bin .lss (.t 30) (qI 0)) 29, q 32 (.pick (.t 29) qt (.t 31))] [0,4,5,6,7,32] (.cond (.t 32) (qS [q 2 (.mv (.c (qE))), q 3 (.mv qf)] [2,3] .ret) .skip)) (.reg
 [q0 33 6, q 34 (.bin .shl (.t 33) (.c (.int .u64 4))), q0 35 7, q 36 (.bin .or (.t 34) (.t 35)), q 37 (.cv .u8 (.t 36)), q 38 (.call 69 [none, none] [.t 4, .t 37])] [0,4,5])))) (.reg [q0 16 5, q 17 (.bin .add (.t 16) (qI 2)), q0 5 17]
 [0,4,5])))))) (qS [qX 70 39 [.t 4], qX 70 40 [.t 4], qX 71 41 [.t 40], q0 2 39, q0 3 41] [2,3] .ret))))
def r30 : List RT := [.t 2, .t 3]
def a72 : AS := qS [q 2 (.mv (.c (.int .u64 0))), q 3 (.mv qf)] [0] (.seq (qS [q0 7 0, q 8 (.len .i (.t 7)), q 9 (.bin .eql (.t 8) (qI 0)), q0 10 9, q2 11 0 10, qF 12 (.len .i (.t 11)) 10, qF 13 (.bin .gtr (.t 12) (qI 1)) 10, q2 14 13 10, q1 15 0 14, qT 16
 (.ixS (.t 15) (qI 0)) 14, qT 17 (.bin .eql (.t 16) (.c (.int .u8 48))) 14, qF 18 (.pick (.t 14) (.t 17) qf) 10, q 19 (.pick (.t 10) qt (.t 18))] [0,19] (.cond (.t 19) (qS [q 2 (.mv (.c (.int .u64 0))), q 3 (.mv qf)] [2,3] .ret) .skip)) (qS
 [q 4 (.mv (.c (.int .u64 0)))] [0,4] (.seq (qS [q 5 (.mv (qI 0))] [0,4,5] (.block 0 (.loop 1 [0,4,5] (.seq (qS [q0 20 5, q0 21 0, q 22 (.len .i (.t 21)), q 23 (.bin .lss (.t 20) (.t 22))] [0,4,5,23] (.cond (.t 23) .skip (.exit 0))) (.seq
 (.block 1 (.seq (qS [q0 26 0, q0 27 5, q 28 (.ixS (.t 26) (.t 27)), q 29 (.bin .lss (.t 28) (.c (.int .u8 48))), q0 30 29, q2 31 0 30, q2 32 5 30, qF 33 (.ixS (.t 31) (.t 32)) 30, qF 34 (.bin .gtr (.t 33) (.c (.int .u8 57))) 30, q 35 (.pick
 (.t 30) qt (.t 34))] [0,4,5,35] (.cond (.t 35) (qS [q 2 (.mv (.c (.int .u64 0))), q 3 (.mv qf)] [2,3] .ret) .skip)) (qS [q0 36 0, q0 37 5, q 38 (.ixS (.t 36) (.t 37)), q 39 (.bin .sub (.t 38) (.c (.int .u8 48))), q 40 (.cv .u64 (.t 39)), q0
 6 40] [0,4,5,6] (.seq (qS [q0 41 4, q0 42 6, q 43 (.bin .sub (.c (.int .u64 18446744073709551615)) (.t 42)), q 44 (.bin .quo (.t 43) (.c (.int .u64 10))), q 45 (.bin .gtr (.t 41) (.t 44))] [0,4,5,6,45] (.cond (.t 45) (qS [q 2 (.mv (.c (.int
 .u64 0))), q 3 (.mv qf)] [2,3] .ret) .skip)) (.reg [q0 46 4, q 47 (.bin .mul (.c (.int .u64 10)) (.t 46)), q0 48 6, q 49 (.bin .add (.t 47) (.t 48)), q0 4 49] [0,4,5]))))) (.reg [q0 24 5, q 25 (.bin .add (.t 24) (qI 1)), q0 5 25]
 [0,4,5])))))) (qS [q0 50 4, q0 2 50, q 3 (.mv qt)] [2,3] .ret))))
def a75 : AS := qS [q 2 (.mv (qI 0)), q 3 (.mv qf)] [0] (qS [q0 7 0, q 8 (.len .i (.t 7)), q 9 (.bin .gtr (.t 8) (qI 0)), q0 10 9, q1 11 0 10, qT 12 (.ixS (.t 11) (qI 0)) 10, qT 13 (.bin .eql (.t 12) (.c (.int .u8 45))) 10, q 14 (.pick (.t 10) (.t 13) qf),
 q0 4 14] [0,4] (.seq (qS [q0 15 4] [0,4,15] (.cond (.t 15) (.reg [q0 16 0, q 17 (.slS (.t 16) (some (qI 1)) none), q0 0 17] [0,4]) .skip)) (qS [q0 19 0, qX 72 20 [.t 19], q0 18 20, q 21 (.ext (.t 18) 0), q 22 (.ext (.t 18) 1), q0 5 21, q0 6
 22] [4,5,6] (.seq (.block 0 (qS [q0 24 6, q 25 (.not (.t 24)), q0 26 25, q2 27 4 26, q2 28 27 26, q1 29 5 28, qT 30 (.bin .eql (.t 29) (.c (.int .u64 0))) 28, q1 31 30 28, q2 32 5 31, qF 33 (.bin .gtr (.t 32) (.c (.int .u64
 9223372036854775808))) 31, qT 34 (.pick (.t 31) qt (.t 33)) 28, qF 35 (.pick (.t 28) (.t 34) qf) 26, q 36 (.pick (.t 26) qt (.t 35)), q0 37 36, q2 38 4 37, qF 39 (.not (.t 38)) 37, q2 40 39 37, q1 41 5 40, qT 42 (.bin .gtr (.t 41) (.c (.int
 .u64 9223372036854775807))) 40, qF 43 (.pick (.t 40) (.t 42) qf) 37, q 44 (.pick (.t 37) qt (.t 43)), q0 23 44] [4,5,23] (.cond (.t 23) (qS [q 2 (.mv (qI 0)), q 3 (.mv qf)] [2,3] .ret) (qS [q0 46 4, q0 45 46] [5,45] (.cond (.t 45) (qS [q0 47
 5, q 48 (.neg (.t 47)), q 49 (.cv .i64 (.t 48)), q0 2 49, q 3 (.mv qt)] [2,3] .ret) .skip))))) (qS [q0 50 5, q 51 (.cv .i64 (.t 50)), q0 2 51, q 3 (.mv qt)] [2,3] .ret)))))
theorem ok69 : okF Tryz.prog 69 a69 r69 2 = true := by decide +kernel
theorem ok71 : okF Tryz.prog 71 a71 r71 1 = true := by decide +kernel
theorem ok97 : okF Tryz.prog 97 a97 r97 1 = true := by decide +kernel
theorem ok30 : okF Tryz.prog 30 a30 r30 1 = true := by decide +kernel
end Go.V
namespace Go.V
open Go.Proofs
set_option maxRecDepth 100000
set_option maxHeartbeats 2000000
set_option linter.unusedSimpArgs false
set_option linter.unnecessarySimpa false
set_option linter.unusedVariables false
def C69 : Contract := fun args hp K => match args, hp with
 | [.pty 0 141, .int .u8 c], [.struct [.nilp, .nils]] => K .nili [.struct [.ptr 0 0, .own 1], .row true 1 .byte [UInt8.ofNat c.toNat]]
 | [.pty 0 141, .int .u8 c], [.struct [.ptr 0 0, .own 1], .row false 1 .byte xs] => (xs : List UInt8).length ≤ 10000000 ∧ K .nili [.struct [.ptr 0 0, .own 1], .row true 1 .byte (xs ++ [UInt8.ofNat c.toNat])]
 | _, _ => False
attribute [local irreducible] rc
theorem s69 : Sound Tryz.prog 69 C69 := by
 refine sound_of_okF ok69 (.cons s150 ⟨_, Tryz.func150, rfl, by decide⟩ .nil) ?_
 intro args hp K h
 unfold C69 at h
 split at h
 ·rename_i c
  refine ⟨by simp, [], ?_⟩
  simp (maxSteps:=9^9) only [a69, r69, C150, go_sem, Int.reduceLT, Int.reduceLE, Int.reduceEq, Int.reduceNe, Int.reduceAdd, Int.reduceSub, Int.reduceMul, Int.reduceToNat, Int.reduceNeg, Nat.reduceEqDiff, Nat.reduceLeDiff, Nat.reduceSub, Nat.reduceMul, Nat.reduceLT, Nat.reduceBEq, Nat.reduceAdd, Nat.reduceDiv, Nat.reduceMod]
  exact h
 ·rename_i c xs
  obtain ⟨hl, h⟩ := h
  refine ⟨by simp, [], ?_⟩
  simp (maxSteps:=9^9) only [a69, r69, C150, go_sem, Int.reduceLT, Int.reduceLE, Int.reduceEq, Int.reduceNe, Int.reduceAdd, Int.reduceSub, Int.reduceMul, Int.reduceToNat, Int.reduceNeg, Nat.reduceEqDiff, Nat.reduceLeDiff, Nat.reduceSub, Nat.reduceMul, Nat.reduceLT, Nat.reduceBEq, Nat.reduceAdd, Nat.reduceDiv, Nat.reduceMod]
  exact ⟨fun _ => by omega, fun _ => h⟩
 ·exact h.elim
end Go.V
namespace Go.V
open Go.Proofs
set_option maxRecDepth 100000
set_option linter.unusedSimpArgs false
set_option linter.unnecessarySimpa false
set_option linter.unusedVariables false
def keyOk (s : ByteArray) : Bool := decide (s ≠ ByteArray.empty) && decide (s.size ≤ 40)
def C71 : Contract := fun args hp K => match args, hp with
 | [.str s], [] => K (.bool (keyOk s)) []
 | _, _ => False
theorem s71 : Sound Tryz.prog 71 C71 := by
 refine sound_of_okF ok71 (Γ := []) (fun f C h => by simp [lkC] at h) ?_
 intro args hp K h
 unfold C71 at h
 split at h
 ·rename_i s
  refine ⟨by simp, [], ?_⟩
  simp (maxSteps:=9^9) only [a71, r71, go_sem, Int.reduceLT, Int.reduceLE, Int.reduceEq, Int.reduceNe, Int.reduceAdd, Int.reduceSub, Int.reduceMul, Int.reduceToNat, Int.reduceNeg, Nat.reduceEqDiff, Nat.reduceLeDiff, Nat.reduceSub, Nat.reduceMul, Nat.reduceLT, Nat.reduceBEq, Nat.reduceAdd, Nat.reduceDiv, Nat.reduceMod]
  intro c hc
  refine sw_intro (fun hc1 => ?_) (fun hc1 => ?_)
  ·intro _ m hm c' hc'
   have e : keyOk s = c' := by simp [hc1] at hc; simp [keyOk, hc, hc', hm]; omega
   rw [← e]; exact h
  ·have e : keyOk s = false := by simp [hc1] at hc; simp [keyOk, hc]
   rw [← e]; exact h
 ·exact h.elim
theorem keyOk_eq (s : ByteArray) : keyOk s = (decide (1 ≤ s.size) && decide (s.size ≤ 40)) := by
 unfold keyOk
 congr 1
 apply decide_eq_decide.2
 constructor
 ·intro h
  rcases Nat.eq_zero_or_pos s.size with h0 | h0
  ·exfalso; apply h
   have : s.data = #[] := Array.eq_empty_of_size_eq_zero h0
   cases s; simp at this; subst this; rfl
  ·exact h0
 ·rintro h rfl
  have h' : 1 ≤ 0 := h
  omega
end Go.V
namespace Go.V
open Go.Proofs
set_option maxRecDepth 100000
set_option maxHeartbeats 4000000
set_option linter.unusedSimpArgs false
set_option linter.unnecessarySimpa false
set_option linter.unusedVariables false
def bS (l : List UInt8) : List SB := match l with
 | [] => [.struct [.nilp, .nils]]
 | x :: r => [.struct [.ptr 0 0, .own 1], .row true 1 .byte (x :: r)]
theorem bS_nil : bS [] = [.struct [.nilp, .nils]] := rfl
theorem bS_cons {x : UInt8} {r : List UInt8} : bS (x :: r) = [.struct [.ptr 0 0, .own 1], .row true 1 .byte (x :: r)] := rfl
theorem hexL_nil : hexL [] = [] := rfl
theorem hexL_take {l : List UInt8} {i : Nat} (h : i < l.length) : hexL (l.take (i + 1)) = hexL (l.take i) ++ hexC (l[i]) := by
 unfold hexL
 rw [List.take_succ_eq_append_getElem h, List.flatMap_append, List.flatMap_cons, List.flatMap_nil, List.append_nil]
theorem and15 {m : Int} (h0 : 0 ≤ m) (h1 : m < 256) : bitsI .and .u8 m 15 = m % 16 := by
 have : ∀ n : Nat, n < 256 → bitsI .and .u8 (n : Int) 15 = (n : Int) % 16 := by decide +kernel
 have := this m.toNat (by omega)
 rwa [Int.toNat_of_nonneg h0] at this
theorem u8_back (x : UInt8) : UInt8.ofNat ((x.toNat : Int)).toNat = x := by simp
theorem swd {c : Bool} {p : Prop} [Decidable p] {A B : Prop} (hc : c = decide p) (h1 : p → A) (h2 : ¬ p → B) : sw c A B := by
 subst hc
 exact sw_intro (fun h => h1 (of_decide_eq_true h)) (fun h => h2 (of_decide_eq_false h))
theorem swn {c : Bool} {p : Prop} [Decidable p] {A B : Prop} (hc : c = !decide p) (h1 : ¬ p → A) (h2 : p → B) : sw c A B := by
 subst hc
 exact sw_intro (fun h => h1 (by simpa using h)) (fun h => h2 (by simpa using h))
theorem hexC_def (c : UInt8) : hexC c = [hexT.getD (c.toNat / 16) 0, hexT.getD (c.toNat % 16) 0] := rfl
theorem getD_eq {l : List UInt8} {i : Nat} (h : i < l.length) : l.getD i 0 = l[i] := by simp [List.getD, h]
theorem hex_two {c : UInt8} {m1 m2 m3 m4 : Int} (h1 : m1 = (c.toNat : Int).fdiv (2 ^ min 4 8)) (h2 : m2 = ((hexT.getD m1.toNat 0).toNat : Int)) (h3 : m3 = bitsI .and .u8 (c.toNat : Int) 15) (h4 : m4 = ((hexT.getD m3.toNat 0).toNat : Int)) :
  (0 ≤ m1 ∧ m1 < 16) ∧ (0 ≤ m3 ∧ m3 < 16) ∧ [UInt8.ofNat m2.toNat, UInt8.ofNat m4.toNat] = hexC c := by
 have hc := UInt8.toNat_lt c
 rw [and15 (by omega) (by omega)] at h3
 have e1 : m1 = (c.toNat : Int) / 16 := by
  rw [h1, Int.fdiv_eq_ediv_of_nonneg _ (by decide)]
  rfl
 refine ⟨by omega, by omega, ?_⟩
 have e2 : m1.toNat = c.toNat / 16 := by omega
 have e3 : m3.toNat = c.toNat % 16 := by omega
 rw [hexC_def, h2, h4, u8_back, u8_back, e2, e3]
def hexB (s : ByteArray) : ByteArray := bsOf (hexL s.data.toList)
def C97 : Contract := fun args hp K => match args, hp with
 | [.str s], [] => s.size ≤ 100000 ∧ K (.str (hexB s)) []
 | _, _ => False
def L31 (s : ByteArray) : LoopAnn := cntA (fun i => ⟨[(0, .str s), (3, .pty 0 141), (6, .int .i64 s.size), (7, .int .i64 i)], bS (hexL (s.data.toList.take i))⟩) s.size
attribute [local irreducible] rc
theorem s97 : Sound Tryz.prog 97 C97 := by
 refine sound_of_okF ok97 (.cons s69 (callable_of_okF ok69) (.cons s70 ⟨_, Tryz.func70, rfl, by decide⟩ .nil)) ?_
 intro args hp K h
 unfold C97 at h
 split at h
 ·rename_i s
  obtain ⟨hs, h⟩ := h
  have hmx := maxLen_val
  have hl : s.data.toList.length = s.size := Array.length_toList
  refine ⟨by simp, [(1, L31 s)], ?_⟩
  simp (maxSteps:=9^9) only [a97, r97, go_sem, Int.reduceLT, Int.reduceLE, Int.reduceEq, Int.reduceNe, Int.reduceAdd, Int.reduceSub, Int.reduceMul, Int.reduceToNat, Int.reduceNeg, Nat.reduceEqDiff, Nat.reduceLeDiff, Nat.reduceSub, Nat.reduceMul, Nat.reduceLT, Nat.reduceBEq, Nat.reduceAdd, Nat.reduceDiv, Nat.reduceMod]
  rintro _ m rfl
  refine loop_intro (A := L31 s) (0 : Nat) ?_ (Nat.zero_le _) ?_
  ·simp (maxSteps:=9^9) only [go_sem, Int.reduceLT, Int.reduceLE, Int.reduceEq, Int.reduceNe, Int.reduceAdd, Int.reduceSub, Int.reduceMul, Int.reduceToNat, Int.reduceNeg, Nat.reduceEqDiff, Nat.reduceLeDiff, Nat.reduceSub, Nat.reduceMul, Nat.reduceLT, Nat.reduceBEq, Nat.reduceAdd, Nat.reduceDiv, Nat.reduceMod]
   rfl
  ·intro (i : Nat) (hi : i ≤ s.size)
   rcases Nat.eq_zero_or_pos i with rfl | hpos
   ·unfold L31
    simp (maxSteps:=9^9) only [cntA_I, List.take_zero, hexL_nil, bS_nil, C69, C70, go_sem, Int.reduceLT, Int.reduceLE, Int.reduceEq, Int.reduceNe, Int.reduceAdd, Int.reduceSub, Int.reduceMul, Int.reduceToNat, Int.reduceNeg, Nat.reduceEqDiff, Nat.reduceLeDiff, Nat.reduceSub, Nat.reduceMul, Nat.reduceLT, Nat.reduceBEq, Nat.reduceAdd, Nat.reduceDiv, Nat.reduceMod]
    intro c hc
    refine swd hc (fun h0 => ?_) (fun h0 => ?_)
    ·refine nd_intro h0 ?_
     rintro m rfl _ _ m1 h1
     have e0 : s.data.toList.getD 0 0 = s.data.toList[0]'(by omega) := getD_eq (by omega)
     obtain ⟨k1, k2, k3⟩ := hex_two h1 rfl rfl rfl
     refine nd_intro k1 ?_
     rintro m2 h2
     refine nd_intro h0 ?_
     rintro _ rfl _ _ m3 h3
     rw [h3]
     refine nd_intro k2 ?_
     rintro m4 h4 _ _ m5 h5
     rw [w64 (by omega)] at h5
     refine cntA_next h0 ?_
     rw [h2, h4, h5]
     have e5 : hexL (s.data.toList.take (0 + 1)) = hexC (s.data.toList.getD 0 0) := by rw [hexL_take (by omega), e0]; rfl
     rw [e5, ← k3]
     rfl
    ·have e : s = ByteArray.empty := by
      have : s.data = #[] := Array.eq_empty_of_size_eq_zero (by show s.size = 0; omega)
      cases s; simp at this; subst this; rfl
     subst e
     exact h
   ·obtain ⟨x, r, e⟩ : ∃ x r, hexL (s.data.toList.take i) = x :: r := by
     obtain ⟨j, rfl⟩ : ∃ j, i = j + 1 := ⟨i - 1, by omega⟩
     rw [hexL_take (by omega)]
     cases hexL (s.data.toList.take j) with
     | nil => exact ⟨_, _, rfl⟩
     | cons x r => exact ⟨x, _, rfl⟩
    have hlen : (x :: r).length ≤ 2 * i := by
     rw [← e]
     have : ∀ l : List UInt8, (hexL l).length = 2 * l.length := by
      intro l
      induction l with
      | nil => rfl
      | cons a l ih => show (hexC a ++ hexL l).length = _; rw [List.length_append, ih, hexC_def]; simp; omega
     rw [this]
     simp
     omega
    unfold L31
    simp (maxSteps:=9^9) only [cntA_I, e, bS_cons, C69, C70, go_sem, Int.reduceLT, Int.reduceLE, Int.reduceEq, Int.reduceNe, Int.reduceAdd, Int.reduceSub, Int.reduceMul, Int.reduceToNat, Int.reduceNeg, Nat.reduceEqDiff, Nat.reduceLeDiff, Nat.reduceSub, Nat.reduceMul, Nat.reduceLT, Nat.reduceBEq, Nat.reduceAdd, Nat.reduceDiv, Nat.reduceMod]
    intro c hc
    refine swd hc (fun h0 => ?_) (fun h0 => ?_)
    ·refine nd_intro h0 ?_
     rintro m rfl _ _ m1 h1
     have e0 : s.data.toList.getD i 0 = s.data.toList[i]'(by omega) := getD_eq (by omega)
     obtain ⟨k1, k2, k3⟩ := hex_two h1 rfl rfl rfl
     refine nd_intro k1 ?_
     rintro m2 h2
     simp only [List.length_cons] at hlen
     refine ⟨by omega, ?_⟩
     refine nd_intro h0 ?_
     rintro _ rfl _ _ m3 h3
     rw [h3]
     refine nd_intro k2 ?_
     rintro m4 h4
     refine ⟨by simp only [List.length_append, List.length_cons, List.length_nil]; omega, ?_⟩
     rintro _ _ m5 h5
     rw [w64 (by omega)] at h5
     refine cntA_next h0 ?_
     rw [h2, h4, h5]
     have e5 : hexL (s.data.toList.take (i + 1)) = (x :: r) ++ hexC (s.data.toList.getD i 0) := by rw [hexL_take (by omega), e0, e]
     rw [e5, ← k3]
     simp only [List.append_assoc, List.cons_append, List.nil_append, bS_cons]
     rfl
    ·have e6 : s.data.toList.take i = s.data.toList := List.take_of_length_le (by omega)
     rw [e6] at e
     unfold hexB at h
     rw [e] at h
     simp only [List.length_cons] at hlen
     exact ⟨⟨by simp, by omega⟩, h⟩
 ·exact h.elim
theorem hexL_len (l : List UInt8) : (hexL l).length = 2 * l.length := by
 induction l with
 | nil => rfl
 | cons a l ih => show (hexC a ++ hexL l).length = _; rw [List.length_append, ih, hexC_def]; simp; omega
def digI (c : UInt8) : Int := match digV c with | some x => (x : Int) | none => -1
def unhexF (s : ByteArray) : Option (List UInt8) := unhexL s.data.toList
theorem unhexL_two : ∀ (l : List UInt8) (i : Nat), 2 * i + 1 < l.length → unhexL (l.drop (2 * i)) = match digV (l.getD (2 * i) 0), digV (l.getD (2 * i + 1) 0) with
  | some x, some y => (unhexL (l.drop (2 * (i + 1)))).map (UInt8.ofNat (16 * x + y) :: ·)
  | _, _ => none := by
 intro l i h
 have e1 : l.drop (2 * i) = l.getD (2 * i) 0 :: l.getD (2 * i + 1) 0 :: l.drop (2 * (i + 1)) := by
  rw [List.drop_eq_getElem_cons (by omega), List.drop_eq_getElem_cons (by omega), getD_eq (by omega), getD_eq (by omega)]
  rfl
 rw [e1]
 rfl
theorem unhexL_len : ∀ (l r : List UInt8), unhexL l = some r → l.length = 2 * r.length
 | [], r, h => by cases h; rfl
 | [_], r, h => by cases h
 | a :: b :: t, r, h => by
  simp only [unhexL] at h
  split at h
  ·cases ht : unhexL t with
   | none => rw [ht] at h; cases h
   | some r' =>
    rw [ht] at h
    cases h
    have := unhexL_len t r' ht
    simp only [List.length_cons, this]
    omega
  ·cases h
theorem idx_hex (u : UInt8) : idxB ⟨#[48, 49, 50, 51, 52, 53, 54, 55, 56, 57, 97, 98, 99, 100, 101, 102]⟩ (u.toNat : Int) = digI u := by
 unfold idxB digI
 have e : ((u.toNat : Int)).toNat.toUInt8 = u := by simp
 rw [e]
 exact digV_idx u
theorem digI_cases (c : UInt8) : (digV c = none ∧ digI c = -1) ∨ ∃ x, digV c = some x ∧ digI c = (x : Int) ∧ x < 16 := by
 unfold digI
 cases h : digV c with
 | none => exact .inl ⟨rfl, rfl⟩
 | some x => exact .inr ⟨x, rfl, rfl, digV_lt h⟩
theorem digI_in (c : UInt8) : inR .i64 (digI c) := by
 unfold inR
 rw [i64_min, i64_max]
 rcases digI_cases c with ⟨_, h⟩ | ⟨x, _, h, hx⟩ <;> rw [h] <;> omega
theorem digI_neg {c : UInt8} (h : digI c < 0) : digV c = none := by
 rcases digI_cases c with ⟨h1, _⟩ | ⟨x, _, h2, hx⟩
 ·exact h1
 ·omega
theorem digI_pos {c : UInt8} (h : ¬ digI c < 0) : ∃ x, digV c = some x := by
 rcases digI_cases c with ⟨_, h1⟩ | ⟨x, h1, _, _⟩
 ·omega
 ·exact ⟨x, h1⟩
theorem or16 {x y : Nat} (hx : x < 16) (hy : y < 16) : bitsI .or .i64 ((16 * x : Nat) : Int) (y : Int) = ((16 * x + y : Nat) : Int) := by
 have : ∀ x : Nat, x < 16 → ∀ y : Nat, y < 16 → bitsI .or .i64 ((16 * x : Nat) : Int) (y : Int) = ((16 * x + y : Nat) : Int) := by decide +kernel
 exact this x hx y hy
def C30 : Contract := fun args hp K => match args, hp with
 | [.str s], [] => s.size ≤ 100000 ∧ (unhexF s = none → K (.tup [.str ByteArray.empty, .bool false]) []) ∧ (∀ l, unhexF s = some l → K (.tup [.str (bsOf l), .bool (keyOk (bsOf l))]) [])
 | _, _ => False
structure U26 where
 i : Nat
 l : List UInt8
def R26 (s : ByteArray) (g : U26) : Prop := 2 * g.i ≤ s.size ∧ g.l.length = g.i ∧ unhexF s = (unhexL (s.data.toList.drop (2 * g.i))).map (g.l ++ ·)
def L26 (s : ByteArray) : LoopAnn := { G := U26, I := fun g => ⟨[(0, .str s), (4, .pty 0 141), (5, .int .i64 (2 * g.i : Nat))], bS g.l⟩, R := fun _ g => R26 s g, μ := fun g => s.size - g.i }
theorem L26_I {s : ByteArray} (g : U26) : (L26 s).I g = ⟨[(0, .str s), (4, .pty 0 141), (5, .int .i64 (2 * g.i : Nat))], bS g.l⟩ := rfl
theorem s30 : Sound Tryz.prog 30 C30 := by
  refine sound_of_okF ok30 (.cons s68 ⟨_, Tryz.func68, rfl, by decide⟩ (.cons s69 (callable_of_okF ok69) (.cons s70 ⟨_, Tryz.func70, rfl, by decide⟩ (.cons s71 (callable_of_okF ok71) .nil)))) ?_
  intro args hp K h
  unfold C30 at h
  split at h
  · rename_i s
    obtain ⟨hs, hn, hk⟩ := h
    have hmx := maxLen_val
    have hl : s.data.toList.length = s.size := Array.length_toList
    refine ⟨by simp, [(1, L26 s)], ?_⟩
    simp (maxSteps:=9^9) only [a30, r30, go_sem, Int.reduceLT, Int.reduceLE, Int.reduceEq, Int.reduceNe, Int.reduceAdd, Int.reduceSub, Int.reduceMul, Int.reduceToNat, Int.reduceNeg, Nat.reduceEqDiff, Nat.reduceLeDiff, Nat.reduceSub, Nat.reduceMul, Nat.reduceLT, Nat.reduceBEq, Nat.reduceAdd, Nat.reduceDiv, Nat.reduceMod]
    rintro _ _ rfl _ _ m1 hm1 c hc
    rw [Int.tmod_eq_emod_of_nonneg (by omega)] at hm1
    refine swn hc (fun h0 => ?_) (fun h0 => ?_)
    · refine hn ?_
      cases hu : unhexF s with
      | none => rfl
      | some r =>
        have := unhexL_len _ _ hu
        omega
    · refine loop_intro (A := L26 s) (⟨0, []⟩ : U26) ?_ ⟨by simp, rfl, by simp [unhexF]⟩ ?_
      · simp (maxSteps:=9^9) only [go_sem, Int.reduceLT, Int.reduceLE, Int.reduceEq, Int.reduceNe, Int.reduceAdd, Int.reduceSub, Int.reduceMul, Int.reduceToNat, Int.reduceNeg, Nat.reduceEqDiff, Nat.reduceLeDiff, Nat.reduceSub, Nat.reduceMul, Nat.reduceLT, Nat.reduceBEq, Nat.reduceAdd, Nat.reduceDiv, Nat.reduceMod]
        rfl
      · rintro (⟨i, l⟩ : U26) (⟨g1, g2, g3⟩ : R26 s ⟨i, l⟩)
        simp only at g1 g2 g3
        cases l with
        | nil =>
          simp (maxSteps:=9^9) only [L26_I, bS_nil, C68, C69, C70, C71, go_sem, Int.reduceLT, Int.reduceLE, Int.reduceEq, Int.reduceNe, Int.reduceAdd, Int.reduceSub, Int.reduceMul, Int.reduceToNat, Int.reduceNeg, Nat.reduceEqDiff, Nat.reduceLeDiff, Nat.reduceSub, Nat.reduceMul, Nat.reduceLT, Nat.reduceBEq, Nat.reduceAdd, Nat.reduceDiv, Nat.reduceMod]
          rintro _ _ rfl c2 hc2
          refine swd hc2 (fun hlt => ?_) (fun hlt => ?_)
          · refine nd_intro (by omega) ?_
            rintro m rfl _ _ n1 hn1
            rw [w64 (by omega)] at hn1
            refine nd_intro (by omega) ?_
            rintro m2 hm2
            have e1 : n1.toNat = 2 * i + 1 := by omega
            rw [e1] at hm2 ⊢
            subst hm2
            rw [idx_hex, idx_hex]
            generalize ea : s.data.toList.getD (2 * i) 0 = a
            generalize eb : s.data.toList.getD (2 * i + 1) 0 = b
            have hu := unhexL_two s.data.toList i (by omega)
            rw [ea, eb] at hu
            rw [hu] at g3
            refine ⟨digI_in a, ⟨fun _ _ m hm => by rw [hm, w64 (by omega), hn1], nd_intro (by omega) (fun m hm => by rw [hm])⟩, digI_in b, ?_⟩
            intro c3 hc3
            refine swd hc3 (fun hx => hn ?_) (fun hx => ?_)
            · rw [g3]
              have : digV a = none := digI_neg hx
              rw [this]
              rfl
            · intro c4 hc4
              obtain ⟨x1, ex⟩ := digI_pos hx
              refine swd hc4 (fun hy => hn ?_) (fun hy => ?_)
              · rw [g3]
                have : digV b = none := digI_neg hy
                rw [this, ex]
                rfl
              · obtain ⟨y1, ey⟩ := digI_pos hy
                have lx := digV_lt ex
                have ly := digV_lt ey
                have dx : digI a = (x1 : Int) := by unfold digI; rw [ex]
                have dy : digI b = (y1 : Int) := by unfold digI; rw [ey]
                rw [dx, dy]
                rintro _ _ n3 hn3 _ _ n4 hn4
                have e16 : (x1 : Int) * 2 ^ min 4 64 = ((16 * x1 : Nat) : Int) := by
                  show (x1 : Int) * 16 = _
                  omega
                rw [e16, w64 (by omega)] at hn3
                rw [hn3, or16 lx ly] at hn4
                rw [ex, ey] at g3
                rintro _ n5 hn5 _ _ n6 hn6
                rw [w64 (by omega)] at hn6
                rw [hn4, wu8 (by omega)] at hn5
                rw [hn5, hn6]
                refine lpE_intro (A := L26 s) (⟨i + 1, ([] : List UInt8) ++ [UInt8.ofNat (16 * x1 + y1)]⟩ : U26) ?_ ⟨by show 2 * (i + 1) ≤ s.size; omega, by simp [← g2], ?_⟩ (by show s.size - (i + 1) < s.size - i; omega)
                · rw [L26_I]
                  have e7 : ((16 * x1 + y1 : Nat) : Int).toNat = 16 * x1 + y1 := Int.toNat_natCast _
                  rw [e7]
                  have e8 : ((2 * i : Nat) : Int) + 2 = ((2 * (i + 1) : Nat) : Int) := by omega
                  rw [e8]
                  rfl
                · rw [g3]
                  simp only [Option.map_map]
                  apply congrArg (fun f => Option.map f _)
                  funext z
                  simp
          · have e9 : s.data.toList.drop (2 * i) = [] := List.drop_of_length_le (by omega)
            rw [e9] at g3
            have hf := hk _ g3
            exact hf
        | cons x r =>
          simp (maxSteps:=9^9) only [L26_I, bS_cons, C68, C69, C70, C71, go_sem, Int.reduceLT, Int.reduceLE, Int.reduceEq, Int.reduceNe, Int.reduceAdd, Int.reduceSub, Int.reduceMul, Int.reduceToNat, Int.reduceNeg, Nat.reduceEqDiff, Nat.reduceLeDiff, Nat.reduceSub, Nat.reduceMul, Nat.reduceLT, Nat.reduceBEq, Nat.reduceAdd, Nat.reduceDiv, Nat.reduceMod]
          rintro _ _ rfl c2 hc2
          refine swd hc2 (fun hlt => ?_) (fun hlt => ?_)
          · refine nd_intro (by omega) ?_
            rintro m rfl _ _ n1 hn1
            rw [w64 (by omega)] at hn1
            refine nd_intro (by omega) ?_
            rintro m2 hm2
            have e1 : n1.toNat = 2 * i + 1 := by omega
            rw [e1] at hm2 ⊢
            subst hm2
            rw [idx_hex, idx_hex]
            generalize ea : s.data.toList.getD (2 * i) 0 = a
            generalize eb : s.data.toList.getD (2 * i + 1) 0 = b
            have hu := unhexL_two s.data.toList i (by omega)
            rw [ea, eb] at hu
            rw [hu] at g3
            refine ⟨digI_in a, ⟨fun _ _ m hm => by rw [hm, w64 (by omega), hn1], nd_intro (by omega) (fun m hm => by rw [hm])⟩, digI_in b, ?_⟩
            intro c3 hc3
            refine swd hc3 (fun hx => hn ?_) (fun hx => ?_)
            · rw [g3]
              have : digV a = none := digI_neg hx
              rw [this]
              rfl
            · intro c4 hc4
              obtain ⟨x1, ex⟩ := digI_pos hx
              refine swd hc4 (fun hy => hn ?_) (fun hy => ?_)
              · rw [g3]
                have : digV b = none := digI_neg hy
                rw [this, ex]
                rfl
              · obtain ⟨y1, ey⟩ := digI_pos hy
                have lx := digV_lt ex
                have ly := digV_lt ey
                have dx : digI a = (x1 : Int) := by unfold digI; rw [ex]
                have dy : digI b = (y1 : Int) := by unfold digI; rw [ey]
                rw [dx, dy]
                rintro _ _ n3 hn3 _ _ n4 hn4
                have e16 : (x1 : Int) * 2 ^ min 4 64 = ((16 * x1 : Nat) : Int) := by
                  show (x1 : Int) * 16 = _
                  omega
                rw [e16, w64 (by omega)] at hn3
                rw [hn3, or16 lx ly] at hn4
                rw [ex, ey] at g3
                have hxl : (x :: r).length ≤ 100000 := by omega
                simp only [List.length_cons] at hxl
                rintro _ n5 hn5
                refine ⟨by omega, ?_⟩
                rintro _ _ n6 hn6
                rw [w64 (by omega)] at hn6
                rw [hn4, wu8 (by omega)] at hn5
                rw [hn5, hn6]
                refine lpE_intro (A := L26 s) (⟨i + 1, (x :: r) ++ [UInt8.ofNat (16 * x1 + y1)]⟩ : U26) ?_ ⟨by show 2 * (i + 1) ≤ s.size; omega, by simp [← g2], ?_⟩ (by show s.size - (i + 1) < s.size - i; omega)
                · rw [L26_I]
                  have e7 : ((16 * x1 + y1 : Nat) : Int).toNat = 16 * x1 + y1 := Int.toNat_natCast _
                  rw [e7]
                  have e8 : ((2 * i : Nat) : Int) + 2 = ((2 * (i + 1) : Nat) : Int) := by omega
                  rw [e8]
                  rfl
                · rw [g3]
                  simp only [Option.map_map]
                  apply congrArg (fun f => Option.map f _)
                  funext z
                  simp
          · have e9 : s.data.toList.drop (2 * i) = [] := List.drop_of_length_le (by omega)
            rw [e9] at g3
            have hf := hk _ g3
            simp only [List.append_nil] at hf
            have hxl : (x :: r).length ≤ 100000 := by omega
            simp only [List.length_cons] at hxl
            exact ⟨⟨by simp, by omega⟩, ⟨by simp, by omega⟩, hf⟩
  · exact h.elim
end Go.V
namespace Go.V
open Go.Proofs
set_option maxRecDepth 100000
set_option maxHeartbeats 4000000
set_option linter.unusedSimpArgs false
set_option linter.unnecessarySimpa false
set_option linter.unusedVariables false
def C73 : Contract := fun args hp K => match args, hp with
 | [.str s], [] => s.size ≤ 100000 ∧ (unhexF s = none → ∀ t : ByteArray, t.size ≤ 100000 → K (.tup [.str t, .bool false]) []) ∧ (∀ l, unhexF s = some l → K (.tup [.str (bsOf l), .bool (keyOk (bsOf l))]) [])
 | _, _ => False
attribute [local irreducible] rc
def C72 : Contract := fun args hp K => match args, hp with
 | [.str s], [] => s.size ≤ 100000 ∧ (natF s.data.toList = none → K (.tup [.int .u64 0, .bool false]) []) ∧ (∀ n : Nat, natF s.data.toList = some n → K (.tup [.int .u64 n, .bool true]) [])
 | _, _ => False
def C75 : Contract := fun args hp K => match args, hp with
 | [.str s], [] => s.size ≤ 100000 ∧ (numI s.data.toList = none → K (.tup [.int .i64 0, .bool false]) []) ∧ (∀ n : Int, numI s.data.toList = some n → K (.tup [.int .i64 n, .bool true]) [])
 | _, _ => False
end Go.V
namespace Go.V
set_option linter.unusedSimpArgs false
set_option linter.unnecessarySimpa false
set_option linter.unusedVariables false
/-! ### quiet operations -/
def pickX (c a b : SV) : Option SV :=
 match c with
 | .bool c => some (bif c then a else b)
 | _ => none
theorem pickX_ok {c a b v : SV} {K : SV → Prop} (h : pickX c a b = some v) (hk : K v) : pickC c a b K := by
 unfold pickX at h; split at h <;> first | cases h | skip
 rename_i c; cases c <;> exact hk
def nckX (x : SV) : Option SV :=
 match x with
 | .ptr i off => some (.ptr i off)
 | .el i n sz off => some (.el i n sz off)
 | .rel p eb t xs n off => some (.rel p eb t xs n off)
 | .fn f caps => some (.fn f caps)
 | .pty i T => some (.pty i T)
 | _ => none
theorem nckX_ok {x v : SV} {K : SV → Prop} (h : nckX x = some v) (hk : K v) : nckC x K := by
 unfold nckX at h; split at h <;> first | cases h | skip
 all_goals exact hk
def faX (off : Nat) (x : SV) : Option SV :=
 match x with
 | .ptr i o => some (.ptr i (o + off))
 | .el i n sz o => some (.el i n sz (o + off))
 | .rel p eb t xs n o => some (.rel p eb t xs n (o + off))
 | .ptrA i o n sz => some (.ptrA i (o + off) n sz)
 | .pty i _ => some (.ptr i off)
 | _ => none
theorem faX_ok {off : Nat} {x v : SV} {K : SV → Prop} (h : faX off x = some v) (hk : K v) : faC off x K := by
 unfold faX at h; split at h <;> first | cases h | skip
 all_goals exact hk
def iaX (hp : List SB) (sz : Nat) (x i : SV) : Option SV :=
 match i with
 | .int _ n => match x with
  | .sl p eb t xs => if sz = t.size ∧ 0 ≤ n ∧ n < xs.length then some (.rel p eb t xs n.toNat 0) else none
  | .own j => match hp[j]? with
   | some (.row _ _ _ xs) => if 0 ≤ n ∧ n < xs.length then some (.el j n.toNat sz 0) else none
   | _ => none
  | .vw j lo hi sz' => match hp[j]? with
   | some (.row _ _ t xs) => if (sz = sz' ∧ sz = t.size) ∧ 0 ≤ n ∧ lo + n < hi ∧ hi ≤ xs.length then some (.el j (lo + n.toNat) sz 0) else none
   | _ => none
  | _ => none
 | _ => none
theorem iaX_ok {hp : List SB} {sz : Nat} {x i v : SV} {K : SV → Prop} (h : iaX hp sz x i = some v) (hk : K v) : iaC hp sz x i K := by
 unfold iaX at h
 split at h <;> first | cases h | skip
 split at h <;> first | cases h | skip
 ·split at h <;> first | cases h | skip
  rename_i hc
  exact ⟨hc.1, hc.2, fun _ m hm => hm ▸ hk⟩
 ·split at h <;> first | cases h | skip
  rename_i hh
  split at h <;> first | cases h | skip
  rename_i hc
  unfold iaC; simp only [hh]
  exact ⟨hc, fun _ m hm => hm ▸ hk⟩
 ·split at h <;> first | cases h | skip
  rename_i hh
  split at h <;> first | cases h | skip
  rename_i hc
  unfold iaC; simp only [hh]
  exact ⟨hc.1, hc.2, fun _ m hm => hm ▸ hk⟩
def iaAX (len sz : Nat) (x i : SV) : Option SV :=
 match i with
 | .int _ n => match x with
  | .ptr j off => if 0 ≤ n ∧ n < len then some (.ptrA j off n.toNat sz) else none
  | _ => none
 | _ => none
theorem iaAX_ok {len sz : Nat} {x i v : SV} {K : SV → Prop} (h : iaAX len sz x i = some v) (hk : K v) : iaAC len sz x i K := by
 unfold iaAX at h
 split at h <;> first | cases h | skip
 split at h <;> first | cases h | skip
 split at h <;> first | cases h | skip
 rename_i hc
 exact ⟨hc, fun _ m hm => hm ▸ hk⟩
def ixX (x i : SV) : Option SV :=
 match x with
 | .str b => match i with
  | .int _ n => if 0 ≤ n ∧ n < b.size then some (.int .u8 ((b.data.toList.getD n.toNat 0).toNat : Int)) else none
  | _ => none
 | _ => none
theorem ixX_ok {x i v : SV} {K : SV → Prop} (h : ixX x i = some v) (hk : K v) : ixC x i K := by
 unfold ixX at h
 split at h <;> first | cases h | skip
 split at h <;> first | cases h | skip
 split at h <;> first | cases h | skip
 rename_i hc
 exact ⟨hc, fun _ m hm => hm ▸ hk⟩
def seenX (hp : List SB) : SV → Option (List SV)
 | .ptr i off => match hp[i]? with
  | some (.struct cells) => dropC cells off
  | _ => none
 | .el i n sz off => match hp[i]? with
  | some (.row _ eb t xs) => if sz = t.size ∧ n < xs.length then dropC (t.sv true (xs.getD n t.dflt)) off else none
  | _ => none
 | .rel p eb t xs n off => if n < xs.length then dropC (t.sv p (xs.getD n t.dflt)) off else none
 | .ptrA i off n sz => match hp[i]? with
  | some (.struct cells) => match dropC cells off with
   | some (.arr m t xs :: _) => if sz = t.size ∧ n < m then some (t.sv true (xs.getD n t.dflt)) else none
   | _ => none
  | _ => none
 | _ => none
def ldZ (n : Option Nat) (l : Option (List SV)) : Option SV :=
 match n with
 | none => headO l
 | some n => takeO l n
theorem ldZ_some {n : Option Nat} {l : Option (List SV)} {v : SV} (h : ldZ n l = some v) : ∃ l', l = some l' := by
 cases l with
 | none => cases n <;> cases h
 | some l => exact ⟨l, rfl⟩
theorem ldZ_none {l : List SV} {v : SV} {K : SV → Prop} (h : ldZ none (some l) = some v) (hk : K v) : optC (headC l) K := by
 simp only [ldZ, headO] at h; simp only [h, optC]; exact hk
theorem ldZ_n {m : Nat} {l : List SV} {v : SV} {K : SV → Prop} (h : ldZ (some m) (some l) = some v) (hk : K v) : optC (aggO (takeC l m)) K := by
 simp only [ldZ, takeO] at h; simp only [h, optC]; exact hk
theorem ldZ_ok {hp : List SB} {x v : SV} {n : Option Nat} {K : SV → Prop} (h : ldZ n (seenX hp x) = some v) (hk : K v) : ldC hp x n K := by
 obtain ⟨l, hl⟩ := ldZ_some h
 rw [hl] at h
 unfold seenX at hl
 split at hl <;> first | cases hl | skip
 ·split at hl <;> first | cases hl | skip
  rename_i cells hh
  simp only [ldC, hh, hl, headO, takeO]
  cases n with
  | none => exact ldZ_none h hk
  | some n => exact ldZ_n h hk
 ·split at hl <;> first | cases hl | skip
  rename_i hh
  split at hl <;> first | cases hl | skip
  rename_i hc
  simp only [ldC, seen, hh, if_pos hc.1, hl, Option.map_some]
  refine ⟨hc.2, fun _ => ?_⟩
  cases n with
  | none => exact ldZ_none h hk
  | some n => exact ldZ_n h hk
 ·split at hl <;> first | cases hl | skip
  rename_i hc
  simp only [ldC, seen, hl, Option.map_some]
  refine ⟨hc, fun _ => ?_⟩
  cases n with
  | none => exact ldZ_none h hk
  | some n => exact ldZ_n h hk
 ·split at hl <;> first | cases hl | skip
  rename_i hh
  split at hl <;> first | cases hl | skip
  rename_i hd
  split at hl <;> first | cases hl | skip
  rename_i hc
  simp only [ldC, seen, hh, hd, if_pos hc.1]
  refine ⟨hc.2, fun _ => ?_⟩
  cases n with
  | none => exact ldZ_none h hk
  | some n => exact ldZ_n h hk
def beqB (a b : ByteArray) : Bool := a.data.toList == b.data.toList
theorem beqB_eq (a b : ByteArray) : decide (a = b) = beqB a b := by
 unfold beqB
 rw [Bool.eq_iff_iff, decide_eq_true_iff, beq_iff_eq]
 exact ⟨fun h => h ▸ rfl, fun h => ByteArray.ext (Array.ext' h)⟩
def binIX (op : BinOp) (k k' : IntKind) (a b : Int) : Option SV :=
 match op with
 | .shl => if 0 ≤ b then some (.int k (k.wrap (a * 2 ^ (min b.toNat k.bits)))) else none
 | .shr => if 0 ≤ b then some (.int k (a.fdiv (2 ^ (min b.toNat k.bits)))) else none
 | .add => if k = k' then some (.int k (k.wrap (a + b))) else none
 | .sub => if k = k' then some (.int k (k.wrap (a - b))) else none
 | .mul => if k = k' then some (.int k (k.wrap (a * b))) else none
 | .quo => if k = k' ∧ b ≠ 0 then some (.int k (k.wrap (a.tdiv b))) else none
 | .rem => if k = k' ∧ b ≠ 0 then some (.int k (a.tmod b)) else none
 | .and => if k = k' then some (.int k (bitsI .and k a b)) else none
 | .or => if k = k' then some (.int k (bitsI .or k a b)) else none
 | .xor => if k = k' then some (.int k (bitsI .xor k a b)) else none
 | .andNot => if k = k' then some (.int k (bitsI .andNot k a b)) else none
 | .eql => if k = k' then some (.bool (decide (a = b))) else none
 | .neq => if k = k' then some (.bool (!decide (a = b))) else none
 | .lss => if k = k' then some (.bool (decide (a < b))) else none
 | .leq => if k = k' then some (.bool (decide (a ≤ b))) else none
 | .gtr => if k = k' then some (.bool (decide (b < a))) else none
 | .geq => if k = k' then some (.bool (decide (b ≤ a))) else none
def binSX (op : BinOp) (a b : ByteArray) : Option SV :=
 match op with
 | .add => if a.size + b.size ≤ maxLen then some (.str ⟨⟨a.data.toList ++ b.data.toList⟩⟩) else none
 | .eql => some (.bool (beqB a b))
 | .neq => some (.bool (!beqB a b))
 | .lss => some (.bool (ltS a b))
 | .leq => some (.bool (ltS a b || beqB a b))
 | .gtr => some (.bool (!(ltS a b || beqB a b)))
 | .geq => some (.bool (!ltS a b))
 | _ => none
def binX (op : BinOp) (x y : SV) : Option SV :=
 match x with
 | .int k a => match y with
  | .int k' b => binIX op k k' a b
  | _ => none
 | .str a => match y with
  | .str b => binSX op a b
  | _ => none
 | _ => none
theorem binIX_ok {op : BinOp} {k k' : IntKind} {a b : Int} {v : SV} {K : SV → Prop} (h : binIX op k k' a b = some v) (hk : K v) : binC op k k' a b K := by
 cases op <;> (simp only [binIX] at h; split at h <;> first | cases h | skip) <;> rename_i hc <;> simp only [binC] <;>
  first
  | exact ⟨hc, fun _ _ _ m hm => hm ▸ hk⟩
  | exact ⟨hc, fun _ _ m hm => hm ▸ hk⟩
  | exact ⟨hc, fun m hm => hm ▸ hk⟩
  | exact ⟨hc.1, hc.2, fun _ _ _ m hm => hm ▸ hk⟩
theorem app_list (a b : ByteArray) : a ++ b = ⟨⟨a.data.toList ++ b.data.toList⟩⟩ := ByteArray.ext (Array.ext' (by simp [ByteArray.data_append]))
theorem binSX_ok {op : BinOp} {a b : ByteArray} {v : SV} {K : SV → Prop} (h : binSX op a b = some v) (hk : K v) : binSC op a b K := by
 cases op <;> simp only [binSX] at h <;> first | cases h | skip
 ·split at h <;> first | cases h | skip
  rename_i hc
  exact ⟨hc, fun m hm => by rw [hm, app_list]; exact hk⟩
 all_goals (simp only [binSC, gB, beqB_eq]; intro c hc; subst hc; exact hk)
theorem binX_ok {op : BinOp} {x y v : SV} {K : SV → Prop} (h : binX op x y = some v) (hk : K v) : binV op x y K := by
 unfold binX at h
 split at h <;> first | cases h | skip
 ·split at h <;> first | cases h | skip
  exact binIX_ok h hk
 ·split at h <;> first | cases h | skip
  exact binSX_ok h hk
def eqnX (ng : Bool) (k : NK) (x y : SV) : Option SV :=
 match k with
 | .p => match x with
  | .nilp => match y with
   | .nilp => some (.bool (!ng))
   | .ptr _ _ => some (.bool ng)
   | _ => none
  | .ptr _ _ => match y with
   | .nilp => some (.bool ng)
   | _ => none
  | _ => none
 | .s => match x with
  | .nils => match y with
   | .nils => some (.bool (!ng))
   | _ => none
  | _ => none
 | .m => match x with
  | .nilm => match y with
   | .nilm => some (.bool (!ng))
   | _ => none
  | .mp _ => match y with
   | .nilm => some (.bool ng)
   | _ => none
  | _ => none
 | .f => match x with
  | .nilf => match y with
   | .nilf => some (.bool (!ng))
   | _ => none
  | .fn _ _ => match y with
   | .nilf => some (.bool ng)
   | _ => none
  | _ => none
 | .i => none
theorem eqnX_ok {ng : Bool} {k : NK} {x y v : SV} {K : SV → Prop} (h : eqnX ng k x y = some v) (hk : K v) : eqnC ng k x y K := by
 unfold eqnX at h
 split at h <;> first | cases h | skip
 all_goals (split at h <;> first | cases h | skip)
 all_goals (split at h <;> first | cases h | skip)
 all_goals exact hk
def iaPX (x i : SV) : Option SV :=
 match i with
 | .int _ n => match x with
  | .svw j m => if 0 ≤ n ∧ n < m then some (.ptr j n.toNat) else none
  | _ => none
 | _ => none
def lenPX (x : SV) : Option SV :=
 match x with
 | .nils => some (.int .i64 0)
 | .svw _ m => some (.int .i64 m)
 | _ => none
theorem iaPX_ok {s : SS} {x i : Opd} {v : SV} {K : SV → Prop} (h : iaPX (s.get x) (s.get i) = some v) (hk : K v) : evC (.iaP x i) s K := by
 unfold iaPX at h
 split at h <;> first | cases h | skip
 rename_i hi
 split at h <;> first | cases h | skip
 rename_i hx
 split at h <;> first | cases h | skip
 rename_i hc
 simp only [evC, ev, hi, hx, qrC]
 exact ⟨hc, fun _ _ => hk⟩
theorem lenPX_ok {s : SS} {x : Opd} {v : SV} {K : SV → Prop} (h : lenPX (s.get x) = some v) (hk : K v) : evC (.lenP x) s K := by
 unfold lenPX at h
 split at h <;> first | cases h | skip
 all_goals
  rename_i hx
  simp only [evC, ev, hx, qrC]
  exact ⟨trivial, fun _ _ => hk⟩
def ixAX (len : Nat) (x i : SV) : Option SV :=
 match i with
 | .int _ n => match x with
  | .agg [.arr m t xs] => if (m = len ∧ t.size = 1) ∧ 0 ≤ n ∧ n < len then headC (t.sv true (xs.getD n.toNat t.dflt)) else none
  | _ => none
 | _ => none
theorem ixAX_ok {len : Nat} {x i v : SV} {K : SV → Prop} (h : ixAX len x i = some v) (hk : K v) : ixAC len x i K := by
 unfold ixAX at h
 split at h <;> first | cases h | skip
 split at h <;> first | cases h | skip
 split at h <;> first | cases h | skip
 rename_i hc
 simp only [ixAC, ixAV, if_pos hc.1, h, Option.map_some]
 exact ⟨hc.2, fun _ => hk⟩
def eqRX (ng : Bool) (n : Nat) (x y : SV) : Option SV :=
 match x with
 | .agg [.arr m (.int k) xs] => match y with
  | .agg [.arr m' (.int k') ys] => if m = n ∧ m' = n ∧ k = k' then some (.bool (bif ng then !(decide ((xs : List Int) = ys)) else (decide ((xs : List Int) = ys)))) else none
  | _ => none
 | _ => none
theorem eqRX_ok {ng : Bool} {n : Nat} {x y v : SV} {K : SV → Prop} (h : eqRX ng n x y = some v) (hk : K v) : eqRC ng n x y K := by
 unfold eqRX at h
 split at h <;> first | cases h | skip
 split at h <;> first | cases h | skip
 split at h <;> first | cases h | skip
 rename_i hc
 exact ⟨hc, fun c hc => hc ▸ hk⟩
def oneX (o : AOp) (s : SS) : Option SV :=
 match o with
 | .not x => match s.get x with
  | .bool b => some (.bool (!b))
  | _ => none
 | .binB ng x y => match s.get x with
  | .bool a => match s.get y with
   | .bool b => some (.bool (bif ng then !(a == b) else (a == b)))
   | _ => none
  | _ => none
 | .neg x => match s.get x with
  | .int k n => some (.int k (k.wrap (0 - n)))
  | _ => none
 | .cv k x => match s.get x with
  | .int k' n => some (.int k (k.wrap n))
  | _ => none
 | .cvS x => match s.get x with
  | .str b => some (.str b)
  | _ => none
 | .ext x i => match s.get x with
  | .tup l => l[i]?
  | _ => none
 | .mm mx x y => match s.get x with
  | .int k a => match s.get y with
   | .int k' b => if k = k' then some (.int k (bif mx then (if a < b then b else a) else (if b < a then b else a))) else none
   | _ => none
  | _ => none
 | .eqS ng ts x y => match s.get x with
  | .agg l => match s.get y with
   | .agg l' => match eqL ts l l' with
    | some b => some (.bool (bif ng then !b else b))
    | none => none
   | _ => none
  | _ => none
 | _ => none
theorem oneX_ok {o : AOp} {s : SS} {v : SV} {K : SV → Prop} (h : oneX o s = some v) (hk : K v) : evC o s K := by
 unfold oneX at h
 split at h <;> first | cases h | skip
 ·split at h <;> first | cases h | skip
  rename_i hx; simp only [evC, notC, hx]; exact hk
 ·split at h <;> first | cases h | skip
  rename_i hx
  split at h <;> first | cases h | skip
  rename_i hy; simp only [evC, binBC, hx, hy]; exact fun c hc => hc ▸ hk
 ·split at h <;> first | cases h | skip
  rename_i hx; simp only [evC, negC, hx]; exact fun _ c hc => hc ▸ hk
 ·split at h <;> first | cases h | skip
  rename_i hx; simp only [evC, cvC, hx]; exact fun _ c hc => hc ▸ hk
 ·split at h <;> first | cases h | skip
  rename_i hx; simp only [evC, cvSC, hx]; exact hk
 ·split at h <;> first | cases h | skip
  rename_i hx; simp only [evC, extC, hx, h, optC]; exact hk
 ·split at h <;> first | cases h | skip
  rename_i hx
  split at h <;> first | cases h | skip
  rename_i hy
  split at h <;> first | cases h | skip
  rename_i hc; simp only [evC, mmC, hx, hy]; exact ⟨hc, fun c hc => hc ▸ hk⟩
 ·split at h <;> first | cases h | skip
  rename_i hx
  split at h <;> first | cases h | skip
  rename_i hy
  split at h <;> first | cases h | skip
  rename_i hc; simp only [evC, eqSC, hx, hy, hc, eqOC]; exact fun c hc => hc ▸ hk
def b2sX (hp : List SB) (x : SV) : Option SV :=
 match x with
 | .nils => some (.str ByteArray.empty)
 | y => match cont hp y with
  | some ⟨_, _, .byte, xs⟩ => some (.str ⟨⟨(xs : List UInt8)⟩⟩)
  | _ => none
theorem b2sX_ok {hp : List SB} {x v : SV} {K : SV → Prop} (h : b2sX hp x = some v) (hk : K v) : b2sC hp x K := by
 cases x <;> first | (cases h; exact hk) | (simp only [b2sX] at h; split at h <;> first | (cases h; done) | (rename_i hc; cases h; simp only [b2sC, hc]; exact fun c hc => hc ▸ hk))
def lenSX (hp : List SB) (x : SV) : Option SV :=
 match x with
 | .nils => some (.int .i64 0)
 | y => match cont hp y with
  | some C => some (.int .i64 C.xs.length)
  | none => none
theorem lenSX_ok {hp : List SB} {x v : SV} {K : SV → Prop} (h : lenSX hp x = some v) (hk : K v) : lenC hp .s x K := by
 cases x <;> first | (cases h; exact hk) | (simp only [lenSX] at h; split at h <;> first | (cases h; done) | (rename_i hc; cases h; simp only [lenC, hc]; exact fun _ _ c hc => hc ▸ hk))
def lenX (hp : List SB) (k : NK) (x : SV) : Option SV :=
 match k with
 | .i => match x with
  | .str b => some (.int .i64 b.size)
  | _ => none
 | .m => match x with
  | .nilm => some (.int .i64 0)
  | .mp i => match hp[i]? with
   | some (.map _ _ _ m) => some (.int .i64 m.length)
   | _ => none
  | _ => none
 | .s => lenSX hp x
 | _ => none
theorem lenX_ok {hp : List SB} {k : NK} {x v : SV} {K : SV → Prop} (h : lenX hp k x = some v) (hk : K v) : lenC hp k x K := by
 unfold lenX at h
 split at h <;> first | cases h | skip
 ·split at h <;> first | cases h | skip
  exact fun _ c hc => hc ▸ hk
 ·split at h <;> first | cases h | skip
  ·exact hk
  ·split at h <;> first | cases h | skip
   rename_i hh; simp only [lenC, hh]; exact fun _ c hc => hc ▸ hk
 ·exact lenSX_ok h hk
def lkX (hp : List SB) (va : Bool) (kt vt : Ty) (ok : Bool) (x k : SV) : Option SV :=
 match x with
 | .nilm => match kt.keyOf k with
  | some _ => match toV va true vt vt.dflt with
   | some z => some (bif ok then .tup [z, .bool false] else z)
   | none => none
  | none => none
 | .mp i => match hp[i]? with
  | some (.map va' kt' vt' m) => if va' = va ∧ kt' = kt ∧ vt' = vt then match kt'.keyOf k with
    | some key => match toV va' true vt' ((lookM kt' vt' m key).getD vt'.dflt) with
     | some z => some (bif ok then .tup [z, .bool (lookM kt' vt' m key).isSome] else z)
     | none => none
    | none => none
   else none
  | _ => none
 | _ => none
theorem lkX_ok {hp : List SB} {va : Bool} {kt vt : Ty} {ok : Bool} {x k v : SV} {K : SV → Prop} (h : lkX hp va kt vt ok x k = some v) (hk : K v) : lkC2 hp va kt vt ok x k K := by
 unfold lkX at h
 split at h <;> first | cases h | skip
 ·split at h <;> first | cases h | skip
  rename_i key hkey
  split at h <;> first | cases h | skip
  rename_i z hz
  simp only [lkC2, hkey]
  intro y b hy hb
  simp only [Option.getD_none] at hy
  subst hy hb
  simp only [hz]
  cases ok <;> exact hk
 split at h <;> first | cases h | skip
 rename_i hh
 split at h <;> first | cases h | skip
 rename_i hc
 split at h <;> first | cases h | skip
 rename_i key hkey
 split at h <;> first | cases h | skip
 rename_i z hz
 simp only [lkC2, hh, hkey]
 refine ⟨hc, fun y b hy hb => ?_⟩
 subst hy hb
 simp only [hz]
 cases ok <;> exact hk
def bdX (s : SS) (d : Int) (o : Option Opd) : Option Int :=
 match o with
 | none => some d
 | some x => match s.get x with
  | .int _ n => some n
  | _ => none
theorem bdX_ok {s : SS} {d n : Int} {o : Option Opd} {K : Int → Prop} (h : bdX s d o = some n) (hk : K n) : bdC s d o K := by
 unfold bdX at h
 split at h
 ·cases h; exact hk
 ·split at h <;> first | cases h | skip
  rename_i hx; simp only [bdC, hx]; exact hk
def bd2X (s : SS) (d : Nat) (lo hi : Option Opd) : Option (Nat × Nat) :=
 match bdX s 0 lo with
 | some l => match bdX s d hi with
  | some h => if 0 ≤ l ∧ l ≤ h ∧ h ≤ d then some (l.toNat, h.toNat) else none
  | none => none
 | none => none
theorem bd2X_ok {s : SS} {d a b : Nat} {lo hi : Option Opd} {K : Int → Int → Prop} (h : bd2X s d lo hi = some (a, b)) (hk : ∀ l h : Int, (0 ≤ l ∧ l ≤ h ∧ h ≤ d) → a = l.toNat → b = h.toNat → K l h) :
  bdC s 0 lo fun l => bdC s d hi fun h => K l h := by
 unfold bd2X at h
 split at h <;> first | cases h | skip
 rename_i hl
 split at h <;> first | cases h | skip
 rename_i hh
 split at h <;> first | cases h | skip
 rename_i hc
 exact bdX_ok hl (bdX_ok hh (hk _ _ hc rfl rfl))
def slRX (s : SS) (sz : Nat) (x : SV) (lo hi : Option Opd) : Option SV :=
 match x with
 | .nils => match bd2X s 0 lo hi with
  | some _ => some .nils
  | none => none
 | .sl p eb t xs => if sz = t.size then match bd2X s xs.length lo hi with
   | some (l, h) => some (.sl p eb t ((xs.drop l).take (h - l)))
   | none => none
  else none
 | .own j => match s.hp[j]? with
  | some (.row _ _ t xs) => if sz = t.size then match bd2X s xs.length lo hi with
    | some (l, h) => some (.vw j l h sz)
    | none => none
   else none
  | _ => none
 | .vw j a b sz' => match s.hp[j]? with
  | some (.row _ _ t xs) => if sz = sz' ∧ sz = t.size then match bd2X s (b - a) lo hi with
    | some (l, h) => some (.vw j (a + l) (a + h) sz)
    | none => none
   else none
  | _ => none
 | _ => none
theorem slRX_ok {s : SS} {sz : Nat} {x v : SV} {lo hi : Option Opd} {K : SV → Prop} (h : slRX s sz x lo hi = some v) (hk : K v) : slRC s sz x lo hi K := by
 unfold slRX at h
 split at h <;> first | cases h | skip
 ·split at h <;> first | cases h | skip
  rename_i p hb
  unfold slRC
  exact bd2X_ok (d := 0) (a := p.1) (b := p.2) hb fun l h hc _ _ => ⟨by have := hc.2.2; have := hc.1; have := hc.2.1; simp at *; omega, fun _ _ => hk⟩
 ·split at h <;> first | cases h | skip
  rename_i hs
  split at h <;> first | cases h | skip
  rename_i hb
  exact ⟨hs, bd2X_ok hb fun l h hc ha hb => ⟨hc, fun _ _ _ ys hy => by rw [hy, ← ha, ← hb]; exact hk⟩⟩
 ·split at h <;> first | cases h | skip
  rename_i hh
  split at h <;> first | cases h | skip
  rename_i hs
  split at h <;> first | cases h | skip
  rename_i hb
  simp only [slRC, hh, slRO]
  exact ⟨hs, bd2X_ok hb fun l h hc ha hb => ⟨hc, fun _ _ _ a' b' hy hz => by rw [hy, hz, ← ha, ← hb]; exact hk⟩⟩
 ·split at h <;> first | cases h | skip
  rename_i hh
  split at h <;> first | cases h | skip
  rename_i hs
  split at h <;> first | cases h | skip
  rename_i hb
  simp only [slRC, hh, slRV]
  exact ⟨hs, bd2X_ok hb fun l h hc ha hb => ⟨hc, fun _ _ _ a' b' hy hz => by rw [hy, hz, ← ha, ← hb]; exact hk⟩⟩
def slSX (s : SS) (x : SV) (lo hi : Option Opd) : Option SV :=
 match x with
 | .str b => match bd2X s b.size lo hi with
  | some (l, h) => some (.str ⟨⟨(b.data.toList.drop l).take (h - l)⟩⟩)
  | none => none
 | _ => none
theorem ext_list (b : ByteArray) (l h : Nat) : b.extract l h = ⟨⟨(b.data.toList.drop l).take (h - l)⟩⟩ := ByteArray.ext (Array.ext' (by simp [ByteArray.data_extract, List.extract]))
theorem slSX_ok {s : SS} {x v : SV} {lo hi : Option Opd} {K : SV → Prop} (h : slSX s x lo hi = some v) (hk : K v) : slSC s x lo hi K := by
 unfold slSX at h
 split at h <;> first | cases h | skip
 split at h <;> first | cases h | skip
 rename_i hb
 unfold slSC
 exact bd2X_ok hb fun l h hc ha hb => ⟨hc, fun _ _ _ ys hy => by rw [hy, ← ha, ← hb, ext_list]; exact hk⟩
def evX (o : AOp) (s : SS) : Option SV :=
 match o with
 | .mv x => some (s.get x)
 | .pick c a b => pickX (s.get c) (s.get a) (s.get b)
 | .nck x => nckX (s.get x)
 | .fld off n x => fldV off n (s.get x)
 | .fa off x => faX off (s.get x)
 | .ia sz x i => iaX s.hp sz (s.get x) (s.get i)
 | .iaA len sz x i => iaAX len sz (s.get x) (s.get i)
 | .ixS x i => ixX (s.get x) (s.get i)
 | .ixA len x i => ixAX len (s.get x) (s.get i)
 | .eqR ng n x y => eqRX ng n (s.get x) (s.get y)
 | .ld x => ldZ none (seenX s.hp (s.get x))
 | .ldA n x => ldZ (some n) (seenX s.hp (s.get x))
 | .bin op x y => binX op (s.get x) (s.get y)
 | .eqn ng k x y => eqnX ng k (s.get x) (s.get y)
 | .b2s x => b2sX s.hp (s.get x)
 | .len k x => lenX s.hp k (s.get x)
 | .lk va kt vt ok x k => lkX s.hp va kt vt ok (s.get x) (s.get k)
 | .bld zs parts => aggO (bldC s zs parts)
 | .bldA zs n t parts => arrO n t (bldC s zs parts)
 | .mkf f caps => some (.fn f (caps.map s.get))
 | .slR sz x lo hi => slRX s sz (s.get x) lo hi
 | .slS x lo hi => slSX s (s.get x) lo hi
 | .iaP x i => iaPX (s.get x) (s.get i)
 | .lenP x => lenPX (s.get x)
 | o => oneX o s
theorem evX_ok {o : AOp} {s : SS} {v : SV} {K : SV → Prop} (h : evX o s = some v) (hk : K v) : evC o s K := by
 cases o with
 | mv x => cases h; exact hk
 | pick c a b => exact pickX_ok h hk
 | nck x => exact nckX_ok h hk
 | fld off n x => simp only [evX] at h; simp only [evC, h, optC]; exact hk
 | fa off x => exact faX_ok h hk
 | ia sz x i => exact iaX_ok h hk
 | iaA len sz x i => exact iaAX_ok h hk
 | ixS x i => exact ixX_ok h hk
 | ixA len x i => exact ixAX_ok h hk
 | eqR ng n x y => exact eqRX_ok h hk
 | ld x => exact ldZ_ok (n := none) (hp := s.hp) (x := s.get x) h hk
 | ldA n x => exact ldZ_ok (n := some n) (hp := s.hp) (x := s.get x) h hk
 | bin op x y => exact binX_ok h hk
 | eqn ng k x y => exact eqnX_ok h hk
 | b2s x => exact b2sX_ok h hk
 | len k x => exact lenX_ok h hk
 | lk va kt vt ok x k => exact lkX_ok h hk
 | bld zs parts => simp only [evX] at h; simp only [evC, h, optC]; exact hk
 | bldA zs n t parts => simp only [evX] at h; simp only [evC, h, optC]; exact hk
 | mkf f caps => cases h; exact hk
 | slR sz x lo hi => exact slRX_ok h hk
 | slS x lo hi => exact slSX_ok h hk
 | iaP x i => exact iaPX_ok (x := x) (i := i) h hk
 | lenP x => exact lenPX_ok (x := x) h hk
 | _ => exact oneX_ok h hk
end Go.V
