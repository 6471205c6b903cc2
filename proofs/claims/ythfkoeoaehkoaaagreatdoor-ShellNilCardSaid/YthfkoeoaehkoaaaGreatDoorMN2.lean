/- A part of the proof layer, or functions of the given program in it: contracts and their proofs. -/
import Derived.Test.YthfkoeoaehkoaaaGreatDoorMN1
import Derived.Test.YthfkoeoaehkoaaaGreatDoorProg
namespace Go.V
set_option linter.unusedSimpArgs false
set_option linter.unnecessarySimpa false
open Go.Proofs
def a69 : AS := qS [q 4 (.mv (.c (.nili)))] [0,1] (qS [q0 5 0, qX 150 6 [.t 5]] [0,1] (qS [q0 7 0, q0 8 0, q5 9 8, q3 10 1 9, q4 11 10, q0 12 1, q 13 (.bsl 1 .byte 1 [(0, (.t 12))]), q 14 (.app 1 .byte (.t 11) (.t 13)), q5 15 7, q3 16 1 15, q6 1 16 14] []
 (qS [q 4 (.mv (.c (.nili)))] [4] .ret)))
def r69 : List RT := [.t 4]
def a71 : AS := qS [q 2 (.mv qf)] [0] (qS [q0 3 0, q 4 (.bin .neq (.t 3) (.c (qE))), q0 5 4, q1 6 0 5, qT 7 (.len .i (.t 6)) 5, qT 8 (.bin .leq (.t 7) (qI 40)) 5, q 9 (.pick (.t 5) (.t 8) qf), q0 2 9] [2] .ret)
def r71 : List RT := [.t 2]
def a30 : AS := qS [q 2 (.mv (.c (qE))), q 3 (.mv qf)] [0] (.seq (qS [q0 8 0, q 9 (.len .i (.t 8)), q 10 (.bin .rem (.t 9) (qI 2)), q 11 (.bin .neq (.t 10) (qI 0))] [0,11] (.cond (.t 11) (qS [q 2 (.mv (.c (qE))), q 3 (.mv qf)] [2,3] .ret) .skip)) (qS [q 4
 (.alcT 141 [.nilp, .nils])] [0,4] (.seq (qS [q 5 (.mv (qI 0))] [0,4,5] (.block 0 (.loop 1 [0,4,5] (.seq (qS [q0 12 5, q0 13 0, q 14 (.len .i (.t 13)), q 15 (.bin .lss (.t 12) (.t 14))] [0,4,5,15] (.cond (.t 15) .skip (.exit 0))) (.seq
 (.block 1 (.seq (.regD [q0 18 0, q0 19 5, q 20 (.ixS (.t 18) (.t 19)), q 21 (.call 68 [none, none] [(.c (.str ⟨#[48,49,50,51,52,53,54,55,56,57,97,98,99,100,101,102]⟩)), .t 20]), q0 22 0, q0 23 5, q 24 (.bin .add (.t 23) (qI 1)), q 25 (.ixS
 (.t 22) (.t 24)), q 26 (.call 68 [none, none] [(.c (.str ⟨#[48,49,50,51,52,53,54,55,56,57,97,98,99,100,101,102]⟩)), .t 25]), q0 6 21, q0 7 26] [.q 0, .q 1, .q 2, .q 4, .q 5, .q 6, .q 7, .e 3 [4,5,6,7], .e 8 [], .q 9, .q 10] [0,4,5,6,7])
 (.seq (qS [q0 27 6, q 28 (.bin .lss (.t 27) (qI 0)), q0 29 28, q2 30 7 29, qF 31 (.bin .lss (.t 30) (qI 0)) 29, q 32 (.pick (.t 29) qt (.t 31))] [0,4,5,6,7,32] (.cond (.t 32) (qS [q 2 (.mv (.c (qE))), q 3 (.mv qf)] [2,3] .ret) .skip)) (.reg
 [q0 33 6, q 34 (.bin .shl (.t 33) (.c (.int .u64 4))), q0 35 7, q 36 (.bin .or (.t 34) (.t 35)), q 37 (.cv .u8 (.t 36)), q 38 (.call 69 [none, none] [.t 4, .t 37])] [0,4,5])))) (.reg [q0 16 5, q 17 (.bin .add (.t 16) (qI 2)), q0 5 17]
 [0,4,5])))))) (qS [qX 70 39 [.t 4], qX 70 40 [.t 4], qX 71 41 [.t 40], q0 2 39, q0 3 41] [2,3] .ret))))
def r30 : List RT := [.t 2, .t 3]
def a73 : AS := qS [q 2 (.mv (.c (qE))), q 3 (.mv qf)] [0] (qS [q 4 (.mv (.c (.nils)))] [0,4] (.seq (qS [q 5 (.mv (qI 0))] [0,4,5] (.block 0 (.lift 4 none 1 .byte (.loop 1 [0,4,5] (.seq (qS [q0 8 5, q 9 (.bin .add (.t 8) (qI 1)), q0 10 0, q 11 (.len .i (.t
 10)), q 12 (.bin .lss (.t 9) (.t 11))] [0,4,5,12] (.cond (.t 12) .skip (.exit 0))) (.seq (.block 1 (.seq (.regD [q0 15 0, q0 16 5, q 17 (.ixS (.t 15) (.t 16)), qX 151 18 [.t 17], q0 19 0, q0 20 5, q 21 (.bin .add (.t 20) (qI 1)), q 22 (.ixS
 (.t 19) (.t 21)), qX 151 23 [.t 22], q0 6 18, q0 7 23] [.q 0, .q 1, .q 2, .q 4, .q 5, .q 6, .q 7, .e 3 [4,5,6,7], .e 8 [], .q 9, .q 10] [0,4,5,6,7]) (.seq (qS [q0 24 6, q 25 (.bin .lss (.t 24) (qI 0)), q0 26 25, q2 27 7 26, qF 28 (.bin .lss
 (.t 27) (qI 0)) 26, q 29 (.pick (.t 26) qt (.t 28))] [0,4,5,6,7,29] (.cond (.t 29) (qS [q 2 (.mv (.c (qE))), q 3 (.mv qf)] [2,3] .ret) .skip)) (.reg [q0 30 4, q0 31 6, q 32 (.bin .mul (qI 16) (.t 31)), q0 33 7, q 34 (.bin .add (.t 32) (.t
 33)), q 35 (.cv .u8 (.t 34)), q 36 (.bsl 1 .byte 1 [(0, (.t 35))]), q 37 (.app 1 .byte (.t 30) (.t 36)), q0 4 37] [0,4,5])))) (.reg [q0 13 5, q 14 (.bin .add (.t 13) (qI 2)), q0 5 14] [0,4,5]))))))) (.seq (.regD [q0 38 4, q 39 (.b2s (.t
 38)), q0 40 0, q 41 (.len .i (.t 40)), q 42 (.bin .rem (.t 41) (qI 2)), q 43 (.bin .eql (.t 42) (qI 0)), q0 44 43, q1 45 4 44, qT 46 (.b2s (.t 45)) 44, qT 47 (.call 152 [none] [.t 46]) 44, q 48 (.pick (.t 44) (.t 47) qf), q0 2 39, q0 3 48]
 [.q 0, .q 1, .q 2, .q 3, .q 4, .q 5, .q 6, .q 7, .q 8, .e 9 [0,1], .q 10, .q 11, .q 12] [2,3]) .ret)))
def r73 : List RT := [.t 2, .t 3]
def a151 : AS := qS [q 2 (.mv (qI 0))] [0] (.seq (.block 0 (qS [q0 4 0, q 5 (.bin .geq (.t 4) (.c (.int .u8 48))), q0 6 5, q1 7 0 6, qT 8 (.bin .leq (.t 7) (.c (.int .u8 57))) 6, q 9 (.pick (.t 6) (.t 8) qf), q0 3 9] [0,3] (.cond (.t 3) (qS [q0 10 0, q 11
 (.bin .sub (.t 10) (.c (.int .u8 48))), q 12 (.cv .i64 (.t 11)), q0 2 12] [2] .ret) (qS [q0 14 0, q 15 (.bin .geq (.t 14) (.c (.int .u8 97))), q0 16 15, q1 17 0 16, qT 18 (.bin .leq (.t 17) (.c (.int .u8 102))) 16, q 19 (.pick (.t 16) (.t
 18) qf), q0 13 19] [0,13] (.cond (.t 13) (qS [q0 20 0, q 21 (.bin .sub (.t 20) (.c (.int .u8 97))), q 22 (.cv .i64 (.t 21)), q 23 (.bin .add (.t 22) (qI 10)), q0 2 23] [2] .ret) .skip))))) (qS [q 2 (.mv (qI (-1)))] [2] .ret))
def r151 : List RT := [.t 2]
def a72 : AS := qS [q 2 (.mv (.c (.int .u64 0))), q 3 (.mv qf)] [0] (.seq (qS [q0 7 0, q 8 (.len .i (.t 7)), q 9 (.bin .eql (.t 8) (qI 0)), q0 10 9, q2 11 0 10, qF 12 (.len .i (.t 11)) 10, qF 13 (.bin .gtr (.t 12) (qI 1)) 10, q2 14 13 10, q1 15 0 14, qT 16
 (.ixS (.t 15) (qI 0)) 14, qT 17 (.bin .eql (.t 16) (.c (.int .u8 48))) 14, qF 18 (.pick (.t 14) (.t 17) qf) 10, q 19 (.pick (.t 10) qt (.t 18))] [0,19] (.cond (.t 19) (qS [q 2 (.mv (.c (.int .u64 0))), q 3 (.mv qf)] [2,3] .ret) .skip)) (qS
 [q 4 (.mv (.c (.int .u64 0)))] [0,4] (.seq (qS [q 5 (.mv (qI 0))] [0,4,5] (.block 0 (.loop 1 [0,4,5] (.seq (qS [q0 20 5, q0 21 0, q 22 (.len .i (.t 21)), q 23 (.bin .lss (.t 20) (.t 22))] [0,4,5,23] (.cond (.t 23) .skip (.exit 0))) (.seq
 (.block 1 (.seq (qS [q0 26 0, q0 27 5, q 28 (.ixS (.t 26) (.t 27)), q 29 (.bin .lss (.t 28) (.c (.int .u8 48))), q0 30 29, q2 31 0 30, q2 32 5 30, qF 33 (.ixS (.t 31) (.t 32)) 30, qF 34 (.bin .gtr (.t 33) (.c (.int .u8 57))) 30, q 35 (.pick
 (.t 30) qt (.t 34))] [0,4,5,35] (.cond (.t 35) (qS [q 2 (.mv (.c (.int .u64 0))), q 3 (.mv qf)] [2,3] .ret) .skip)) (qS [q0 36 0, q0 37 5, q 38 (.ixS (.t 36) (.t 37)), q 39 (.bin .sub (.t 38) (.c (.int .u8 48))), q 40 (.cv .u64 (.t 39)), q0
 6 40] [0,4,5,6] (.seq (qS [q0 41 4, q0 42 6, q 43 (.bin .sub (.c (.int .u64 18446744073709551615)) (.t 42)), q 44 (.bin .quo (.t 43) (.c (.int .u64 10))), q 45 (.bin .gtr (.t 41) (.t 44))] [0,4,5,6,45] (.cond (.t 45) (qS [q 2 (.mv (.c (.int
 .u64 0))), q 3 (.mv qf)] [2,3] .ret) .skip)) (.reg [q0 46 4, q 47 (.bin .mul (.c (.int .u64 10)) (.t 46)), q0 48 6, q 49 (.bin .add (.t 47) (.t 48)), q0 4 49] [0,4,5]))))) (.reg [q0 24 5, q 25 (.bin .add (.t 24) (qI 1)), q0 5 25]
 [0,4,5])))))) (qS [q0 50 4, q0 2 50, q 3 (.mv qt)] [2,3] .ret))))
def r72 : List RT := [.t 2, .t 3]
def a75 : AS := qS [q 2 (.mv (qI 0)), q 3 (.mv qf)] [0] (qS [q0 7 0, q 8 (.len .i (.t 7)), q 9 (.bin .gtr (.t 8) (qI 0)), q0 10 9, q1 11 0 10, qT 12 (.ixS (.t 11) (qI 0)) 10, qT 13 (.bin .eql (.t 12) (.c (.int .u8 45))) 10, q 14 (.pick (.t 10) (.t 13) qf),
 q0 4 14] [0,4] (.seq (qS [q0 15 4] [0,4,15] (.cond (.t 15) (.reg [q0 16 0, q 17 (.slS (.t 16) (some (qI 1)) none), q0 0 17] [0,4]) .skip)) (qS [q0 19 0, qX 72 20 [.t 19], q0 18 20, q 21 (.ext (.t 18) 0), q 22 (.ext (.t 18) 1), q0 5 21, q0 6
 22] [4,5,6] (.seq (.block 0 (qS [q0 24 6, q 25 (.not (.t 24)), q0 26 25, q2 27 4 26, q2 28 27 26, q1 29 5 28, qT 30 (.bin .eql (.t 29) (.c (.int .u64 0))) 28, q1 31 30 28, q2 32 5 31, qF 33 (.bin .gtr (.t 32) (.c (.int .u64
 9223372036854775808))) 31, qT 34 (.pick (.t 31) qt (.t 33)) 28, qF 35 (.pick (.t 28) (.t 34) qf) 26, q 36 (.pick (.t 26) qt (.t 35)), q0 37 36, q2 38 4 37, qF 39 (.not (.t 38)) 37, q2 40 39 37, q1 41 5 40, qT 42 (.bin .gtr (.t 41) (.c (.int
 .u64 9223372036854775807))) 40, qF 43 (.pick (.t 40) (.t 42) qf) 37, q 44 (.pick (.t 37) qt (.t 43)), q0 23 44] [4,5,23] (.cond (.t 23) (qS [q 2 (.mv (qI 0)), q 3 (.mv qf)] [2,3] .ret) (qS [q0 46 4, q0 45 46] [5,45] (.cond (.t 45) (qS [q0 47
 5, q 48 (.neg (.t 47)), q 49 (.cv .i64 (.t 48)), q0 2 49, q 3 (.mv qt)] [2,3] .ret) .skip))))) (qS [q0 50 5, q 51 (.cv .i64 (.t 50)), q0 2 51, q 3 (.mv qt)] [2,3] .ret)))))
def r75 : List RT := [.t 2, .t 3]
def a152 : AS := qS [q 2 (.mv qf)] [0] (qS [q0 3 0, q 4 (.len .i (.t 3)), q 5 (.bin .geq (.t 4) (qI 1)), q0 6 5, q1 7 0 6, qT 8 (.len .i (.t 7)) 6, qT 9 (.bin .leq (.t 8) (qI 40)) 6, q 10 (.pick (.t 6) (.t 9) qf), q0 2 10] [2] .ret)
def r152 : List RT := [.t 2]
theorem ok69 : okF Tryz.prog 69 a69 r69 2 = true := by decide +kernel
theorem ok71 : okF Tryz.prog 71 a71 r71 1 = true := by decide +kernel
theorem ok30 : okF Tryz.prog 30 a30 r30 1 = true := by decide +kernel
theorem ok73 : okF Tryz.prog 73 a73 r73 1 = true := by decide +kernel
theorem ok151 : okF Tryz.prog 151 a151 r151 1 = true := by decide +kernel
theorem ok72 : okF Tryz.prog 72 a72 r72 1 = true := by decide +kernel
theorem ok75 : okF Tryz.prog 75 a75 r75 1 = true := by decide +kernel
theorem ok152 : okF Tryz.prog 152 a152 r152 1 = true := by decide +kernel
end Go.V
namespace Go.V
open Go.Proofs
set_option maxRecDepth 100000
set_option maxHeartbeats 2000000
set_option linter.unusedSimpArgs false
set_option linter.unnecessarySimpa false
set_option linter.unusedVariables false
def C69 : Contract := fun args hp K => match args, hp with
 | [.pty 0 141, .int .u8 c], [.struct [.nilp, .nils]] => K .nili [.struct [.ptr 0 0, .own 1], .row true 1 .byte [UInt8.ofNat c.toNat]]
 | [.pty 0 141, .int .u8 c], [.struct [.ptr 0 0, .own 1], .row false 1 .byte xs] => (xs : List UInt8).length ≤ 10000000 ∧ K .nili [.struct [.ptr 0 0, .own 1], .row true 1 .byte (xs ++ [UInt8.ofNat c.toNat])]
 | _, _ => False
attribute [local irreducible] rc
theorem s69 : Sound Tryz.prog 69 C69 := by
 refine sound_of_okF ok69 (.cons s150 ⟨_, Tryz.func150, rfl, by decide⟩ .nil) ?_
 intro args hp K h
 unfold C69 at h
 split at h
 ·rename_i c
  refine ⟨by simp, [], ?_⟩
  simp (maxSteps:=9^9) only [a69, r69, C150, go_sem, Int.reduceLT, Int.reduceLE, Int.reduceEq, Int.reduceNe, Int.reduceAdd, Int.reduceSub, Int.reduceMul, Int.reduceToNat, Int.reduceNeg, Nat.reduceEqDiff, Nat.reduceLeDiff, Nat.reduceSub, Nat.reduceMul, Nat.reduceLT, Nat.reduceBEq, Nat.reduceAdd, Nat.reduceDiv, Nat.reduceMod]
  exact h
 ·rename_i c xs
  obtain ⟨hl, h⟩ := h
  refine ⟨by simp, [], ?_⟩
  simp (maxSteps:=9^9) only [a69, r69, C150, go_sem, Int.reduceLT, Int.reduceLE, Int.reduceEq, Int.reduceNe, Int.reduceAdd, Int.reduceSub, Int.reduceMul, Int.reduceToNat, Int.reduceNeg, Nat.reduceEqDiff, Nat.reduceLeDiff, Nat.reduceSub, Nat.reduceMul, Nat.reduceLT, Nat.reduceBEq, Nat.reduceAdd, Nat.reduceDiv, Nat.reduceMod]
  exact ⟨fun _ => by omega, fun _ => h⟩
 ·exact h.elim
end Go.V
namespace Go.V
open Go.Proofs
set_option maxRecDepth 100000
set_option linter.unusedSimpArgs false
set_option linter.unnecessarySimpa false
set_option linter.unusedVariables false
def keyOk (s : ByteArray) : Bool := decide (s ≠ ByteArray.empty) && decide (s.size ≤ 40)
def C71 : Contract := fun args hp K => match args, hp with
 | [.str s], [] => K (.bool (keyOk s)) []
 | _, _ => False
theorem s71 : Sound Tryz.prog 71 C71 := by
 refine sound_of_okF ok71 (Γ := []) (fun f C h => by simp [lkC] at h) ?_
 intro args hp K h
 unfold C71 at h
 split at h
 ·rename_i s
  refine ⟨by simp, [], ?_⟩
  simp (maxSteps:=9^9) only [a71, r71, go_sem, Int.reduceLT, Int.reduceLE, Int.reduceEq, Int.reduceNe, Int.reduceAdd, Int.reduceSub, Int.reduceMul, Int.reduceToNat, Int.reduceNeg, Nat.reduceEqDiff, Nat.reduceLeDiff, Nat.reduceSub, Nat.reduceMul, Nat.reduceLT, Nat.reduceBEq, Nat.reduceAdd, Nat.reduceDiv, Nat.reduceMod]
  intro c hc
  refine sw_intro (fun hc1 => ?_) (fun hc1 => ?_)
  ·intro _ m hm c' hc'
   have e : keyOk s = c' := by simp [hc1] at hc; simp [keyOk, hc, hc', hm]; omega
   rw [← e]; exact h
  ·have e : keyOk s = false := by simp [hc1] at hc; simp [keyOk, hc]
   rw [← e]; exact h
 ·exact h.elim
def C152 : Contract := fun args hp K => match args, hp with
 | [.str s], [] => K (.bool (keyOk s)) []
 | _, _ => False
theorem keyOk_eq (s : ByteArray) : keyOk s = (decide (1 ≤ s.size) && decide (s.size ≤ 40)) := by
 unfold keyOk
 congr 1
 apply decide_eq_decide.2
 constructor
 ·intro h
  rcases Nat.eq_zero_or_pos s.size with h0 | h0
  ·exfalso; apply h
   have : s.data = #[] := Array.eq_empty_of_size_eq_zero h0
   cases s; simp at this; subst this; rfl
  ·exact h0
 ·rintro h rfl
  have h' : 1 ≤ 0 := h
  omega
theorem s152 : Sound Tryz.prog 152 C152 := by
 refine sound_of_okF ok152 .nil ?_
 intro args hp K h
 unfold C152 at h
 split at h
 ·rename_i s
  refine ⟨by simp, [], ?_⟩
  simp (maxSteps:=9^9) only [a152, r152, go_sem, Int.reduceLT, Int.reduceLE, Int.reduceEq, Int.reduceNe, Int.reduceAdd, Int.reduceSub, Int.reduceMul, Int.reduceToNat, Int.reduceNeg, Nat.reduceEqDiff, Nat.reduceLeDiff, Nat.reduceSub, Nat.reduceMul, Nat.reduceLT, Nat.reduceBEq, Nat.reduceAdd, Nat.reduceDiv, Nat.reduceMod]
  intro _ n hn c hc
  refine sw_intro (fun hc1 => ?_) (fun hc1 => ?_)
  ·intro _ m hm c' hc'
   have h1 : 1 ≤ s.size := by simp [hc1, hn] at hc; omega
   have e : keyOk s = c' := by rw [keyOk_eq, hc', hm]; simp [h1]; omega
   rw [← e]; exact h
  ·have e : keyOk s = false := by
    have h1 : ¬ 1 ≤ s.size := by simp [hc1, hn] at hc; omega
    rw [keyOk_eq]; simp [h1]
   rw [← e]; exact h
 ·exact h.elim
end Go.V
namespace Go.V
open Go.Proofs
set_option maxRecDepth 100000
set_option maxHeartbeats 4000000
set_option linter.unusedSimpArgs false
set_option linter.unnecessarySimpa false
set_option linter.unusedVariables false
def bS (l : List UInt8) : List SB := match l with
 | [] => [.struct [.nilp, .nils]]
 | x :: r => [.struct [.ptr 0 0, .own 1], .row true 1 .byte (x :: r)]
theorem bS_nil : bS [] = [.struct [.nilp, .nils]] := rfl
theorem bS_cons {x : UInt8} {r : List UInt8} : bS (x :: r) = [.struct [.ptr 0 0, .own 1], .row true 1 .byte (x :: r)] := rfl
theorem u8_back (x : UInt8) : UInt8.ofNat ((x.toNat : Int)).toNat = x := by simp
theorem swd {c : Bool} {p : Prop} [Decidable p] {A B : Prop} (hc : c = decide p) (h1 : p → A) (h2 : ¬ p → B) : sw c A B := by
 subst hc
 exact sw_intro (fun h => h1 (of_decide_eq_true h)) (fun h => h2 (of_decide_eq_false h))
theorem swn {c : Bool} {p : Prop} [Decidable p] {A B : Prop} (hc : c = !decide p) (h1 : ¬ p → A) (h2 : p → B) : sw c A B := by
 subst hc
 exact sw_intro (fun h => h1 (by simpa using h)) (fun h => h2 (by simpa using h))
theorem getD_eq {l : List UInt8} {i : Nat} (h : i < l.length) : l.getD i 0 = l[i] := by simp [List.getD, h]
def hexB (s : ByteArray) : ByteArray := bsOf (hexL s.data.toList)
attribute [local irreducible] rc
def digI (c : UInt8) : Int := match digV c with | some x => (x : Int) | none => -1
def C151 : Contract := fun args hp K => match args, hp with
 | [.int .u8 c], [] => (0 ≤ c ∧ c < 256) ∧ K (.int .i64 (digI (UInt8.ofNat c.toNat))) []
 | _, _ => False
theorem s151 : Sound Tryz.prog 151 C151 := by
 refine sound_of_okF ok151 .nil ?_
 intro args hp K h
 unfold C151 at h
 split at h
 ·rename_i c
  obtain ⟨hc, h⟩ := h
  refine ⟨by simp, [], ?_⟩
  simp (maxSteps:=9^9) only [a151, r151, go_sem, Int.reduceLT, Int.reduceLE, Int.reduceEq, Int.reduceNe, Int.reduceAdd, Int.reduceSub, Int.reduceMul, Int.reduceToNat, Int.reduceNeg, Nat.reduceEqDiff, Nat.reduceLeDiff, Nat.reduceSub, Nat.reduceMul, Nat.reduceLT, Nat.reduceBEq, Nat.reduceAdd, Nat.reduceDiv, Nat.reduceMod]
  have key : ∀ n : Nat, n < 256 → digI (UInt8.ofNat n) = if 48 ≤ n ∧ n ≤ 57 then (n : Int) - 48 else if 97 ≤ n ∧ n ≤ 102 then (n : Int) - 87 else -1 := by decide +kernel
  have hk := key c.toNat (by omega)
  rw [Int.toNat_of_nonneg hc.1] at hk
  have b1 : (48 ≤ c.toNat ∧ c.toNat ≤ 57) ↔ (48 ≤ c ∧ c ≤ 57) := by omega
  have b2 : (97 ≤ c.toNat ∧ c.toNat ≤ 102) ↔ (97 ≤ c ∧ c ≤ 102) := by omega
  simp only [b1, b2] at hk
  rw [hk] at h
  clear hk key
  intro c1 e1
  refine swd e1 (fun a => ?_) (fun a => ?_)
  ·intro c2 e2
   refine swd e2 (fun b => ?_) (fun b => ?_)
   ·rintro _ _ m hm _ m1 hm1
    rw [wu8 (by omega)] at hm
    rw [w64 (by omega)] at hm1
    rw [if_pos ⟨a, b⟩] at h
    rw [hm1, hm]
    exact h
   ·rw [if_neg (by omega)] at h
    intro c3 e3
    refine swd e3 (fun a2 => ?_) (fun a2 => ?_)
    ·intro c4 e4
     refine swd e4 (fun a3 => ?_) (fun a3 => ?_)
     ·rintro _ _ m hm _ m1 hm1 _ _ m2 hm2
      rw [wu8 (by omega)] at hm
      rw [w64 (by omega)] at hm1
      rw [w64 (by omega)] at hm2
      rw [if_pos ⟨a2, a3⟩] at h
      have e : m2 = c - 87 := by omega
      rw [e]
      exact h
     ·rw [if_neg (by omega)] at h
      exact h
    ·rw [if_neg (by omega)] at h
     exact h
  ·rw [if_neg (by omega)] at h
   intro c3 e3
   refine swd e3 (fun a2 => ?_) (fun a2 => ?_)
   ·omega
   ·rw [if_neg (by omega)] at h
    exact h
 ·exact h.elim
def unhexF (s : ByteArray) : Option (List UInt8) := unhexL s.data.toList
theorem unhexL_two : ∀ (l : List UInt8) (i : Nat), 2 * i + 1 < l.length → unhexL (l.drop (2 * i)) = match digV (l.getD (2 * i) 0), digV (l.getD (2 * i + 1) 0) with
  | some x, some y => (unhexL (l.drop (2 * (i + 1)))).map (UInt8.ofNat (16 * x + y) :: ·)
  | _, _ => none := by
 intro l i h
 have e1 : l.drop (2 * i) = l.getD (2 * i) 0 :: l.getD (2 * i + 1) 0 :: l.drop (2 * (i + 1)) := by
  rw [List.drop_eq_getElem_cons (by omega), List.drop_eq_getElem_cons (by omega), getD_eq (by omega), getD_eq (by omega)]
  rfl
 rw [e1]
 rfl
theorem unhexL_len : ∀ (l r : List UInt8), unhexL l = some r → l.length = 2 * r.length
 | [], r, h => by cases h; rfl
 | [_], r, h => by cases h
 | a :: b :: t, r, h => by
  simp only [unhexL] at h
  split at h
  ·cases ht : unhexL t with
   | none => rw [ht] at h; cases h
   | some r' =>
    rw [ht] at h
    cases h
    have := unhexL_len t r' ht
    simp only [List.length_cons, this]
    omega
  ·cases h
theorem idx_hex (u : UInt8) : idxB ⟨#[48, 49, 50, 51, 52, 53, 54, 55, 56, 57, 97, 98, 99, 100, 101, 102]⟩ (u.toNat : Int) = digI u := by
 unfold idxB digI
 have e : ((u.toNat : Int)).toNat.toUInt8 = u := by simp
 rw [e]
 exact digV_idx u
theorem digI_cases (c : UInt8) : (digV c = none ∧ digI c = -1) ∨ ∃ x, digV c = some x ∧ digI c = (x : Int) ∧ x < 16 := by
 unfold digI
 cases h : digV c with
 | none => exact .inl ⟨rfl, rfl⟩
 | some x => exact .inr ⟨x, rfl, rfl, digV_lt h⟩
theorem digI_in (c : UInt8) : inR .i64 (digI c) := by
 unfold inR
 rw [i64_min, i64_max]
 rcases digI_cases c with ⟨_, h⟩ | ⟨x, _, h, hx⟩ <;> rw [h] <;> omega
theorem digI_neg {c : UInt8} (h : digI c < 0) : digV c = none := by
 rcases digI_cases c with ⟨h1, _⟩ | ⟨x, _, h2, hx⟩
 ·exact h1
 ·omega
theorem digI_pos {c : UInt8} (h : ¬ digI c < 0) : ∃ x, digV c = some x := by
 rcases digI_cases c with ⟨_, h1⟩ | ⟨x, h1, _, _⟩
 ·omega
 ·exact ⟨x, h1⟩
theorem or16 {x y : Nat} (hx : x < 16) (hy : y < 16) : bitsI .or .i64 ((16 * x : Nat) : Int) (y : Int) = ((16 * x + y : Nat) : Int) := by
 have : ∀ x : Nat, x < 16 → ∀ y : Nat, y < 16 → bitsI .or .i64 ((16 * x : Nat) : Int) (y : Int) = ((16 * x + y : Nat) : Int) := by decide +kernel
 exact this x hx y hy
def C30 : Contract := fun args hp K => match args, hp with
 | [.str s], [] => s.size ≤ 100000 ∧ (unhexF s = none → K (.tup [.str ByteArray.empty, .bool false]) []) ∧ (∀ l, unhexF s = some l → K (.tup [.str (bsOf l), .bool (keyOk (bsOf l))]) [])
 | _, _ => False
structure U26 where
 i : Nat
 l : List UInt8
def R26 (s : ByteArray) (g : U26) : Prop := 2 * g.i ≤ s.size ∧ g.l.length = g.i ∧ unhexF s = (unhexL (s.data.toList.drop (2 * g.i))).map (g.l ++ ·)
def L26 (s : ByteArray) : LoopAnn := { G := U26, I := fun g => ⟨[(0, .str s), (4, .pty 0 141), (5, .int .i64 (2 * g.i : Nat))], bS g.l⟩, R := fun _ g => R26 s g, μ := fun g => s.size - g.i }
theorem L26_I {s : ByteArray} (g : U26) : (L26 s).I g = ⟨[(0, .str s), (4, .pty 0 141), (5, .int .i64 (2 * g.i : Nat))], bS g.l⟩ := rfl
theorem s30 : Sound Tryz.prog 30 C30 := by
  refine sound_of_okF ok30 (.cons s68 ⟨_, Tryz.func68, rfl, by decide⟩ (.cons s69 (callable_of_okF ok69) (.cons s70 ⟨_, Tryz.func70, rfl, by decide⟩ (.cons s71 (callable_of_okF ok71) .nil)))) ?_
  intro args hp K h
  unfold C30 at h
  split at h
  · rename_i s
    obtain ⟨hs, hn, hk⟩ := h
    have hmx := maxLen_val
    have hl : s.data.toList.length = s.size := Array.length_toList
    refine ⟨by simp, [(1, L26 s)], ?_⟩
    simp (maxSteps:=9^9) only [a30, r30, go_sem, Int.reduceLT, Int.reduceLE, Int.reduceEq, Int.reduceNe, Int.reduceAdd, Int.reduceSub, Int.reduceMul, Int.reduceToNat, Int.reduceNeg, Nat.reduceEqDiff, Nat.reduceLeDiff, Nat.reduceSub, Nat.reduceMul, Nat.reduceLT, Nat.reduceBEq, Nat.reduceAdd, Nat.reduceDiv, Nat.reduceMod]
    rintro _ _ rfl _ _ m1 hm1 c hc
    rw [Int.tmod_eq_emod_of_nonneg (by omega)] at hm1
    refine swn hc (fun h0 => ?_) (fun h0 => ?_)
    · refine hn ?_
      cases hu : unhexF s with
      | none => rfl
      | some r =>
        have := unhexL_len _ _ hu
        omega
    · refine loop_intro (A := L26 s) (⟨0, []⟩ : U26) ?_ ⟨by simp, rfl, by simp [unhexF]⟩ ?_
      · simp (maxSteps:=9^9) only [go_sem, Int.reduceLT, Int.reduceLE, Int.reduceEq, Int.reduceNe, Int.reduceAdd, Int.reduceSub, Int.reduceMul, Int.reduceToNat, Int.reduceNeg, Nat.reduceEqDiff, Nat.reduceLeDiff, Nat.reduceSub, Nat.reduceMul, Nat.reduceLT, Nat.reduceBEq, Nat.reduceAdd, Nat.reduceDiv, Nat.reduceMod]
        rfl
      · rintro (⟨i, l⟩ : U26) (⟨g1, g2, g3⟩ : R26 s ⟨i, l⟩)
        simp only at g1 g2 g3
        cases l with
        | nil =>
          simp (maxSteps:=9^9) only [L26_I, bS_nil, C68, C69, C70, C71, go_sem, Int.reduceLT, Int.reduceLE, Int.reduceEq, Int.reduceNe, Int.reduceAdd, Int.reduceSub, Int.reduceMul, Int.reduceToNat, Int.reduceNeg, Nat.reduceEqDiff, Nat.reduceLeDiff, Nat.reduceSub, Nat.reduceMul, Nat.reduceLT, Nat.reduceBEq, Nat.reduceAdd, Nat.reduceDiv, Nat.reduceMod]
          rintro _ _ rfl c2 hc2
          refine swd hc2 (fun hlt => ?_) (fun hlt => ?_)
          · refine nd_intro (by omega) ?_
            rintro m rfl _ _ n1 hn1
            rw [w64 (by omega)] at hn1
            refine nd_intro (by omega) ?_
            rintro m2 hm2
            have e1 : n1.toNat = 2 * i + 1 := by omega
            rw [e1] at hm2 ⊢
            subst hm2
            rw [idx_hex, idx_hex]
            generalize ea : s.data.toList.getD (2 * i) 0 = a
            generalize eb : s.data.toList.getD (2 * i + 1) 0 = b
            have hu := unhexL_two s.data.toList i (by omega)
            rw [ea, eb] at hu
            rw [hu] at g3
            refine ⟨digI_in a, ⟨fun _ _ m hm => by rw [hm, w64 (by omega), hn1], nd_intro (by omega) (fun m hm => by rw [hm])⟩, digI_in b, ?_⟩
            intro c3 hc3
            refine swd hc3 (fun hx => hn ?_) (fun hx => ?_)
            · rw [g3]
              have : digV a = none := digI_neg hx
              rw [this]
              rfl
            · intro c4 hc4
              obtain ⟨x1, ex⟩ := digI_pos hx
              refine swd hc4 (fun hy => hn ?_) (fun hy => ?_)
              · rw [g3]
                have : digV b = none := digI_neg hy
                rw [this, ex]
                rfl
              · obtain ⟨y1, ey⟩ := digI_pos hy
                have lx := digV_lt ex
                have ly := digV_lt ey
                have dx : digI a = (x1 : Int) := by unfold digI; rw [ex]
                have dy : digI b = (y1 : Int) := by unfold digI; rw [ey]
                rw [dx, dy]
                rintro _ _ n3 hn3 _ _ n4 hn4
                have e16 : (x1 : Int) * 2 ^ min 4 64 = ((16 * x1 : Nat) : Int) := by
                  show (x1 : Int) * 16 = _
                  omega
                rw [e16, w64 (by omega)] at hn3
                rw [hn3, or16 lx ly] at hn4
                rw [ex, ey] at g3
                rintro _ n5 hn5 _ _ n6 hn6
                rw [w64 (by omega)] at hn6
                rw [hn4, wu8 (by omega)] at hn5
                rw [hn5, hn6]
                refine lpE_intro (A := L26 s) (⟨i + 1, ([] : List UInt8) ++ [UInt8.ofNat (16 * x1 + y1)]⟩ : U26) ?_ ⟨by show 2 * (i + 1) ≤ s.size; omega, by simp [← g2], ?_⟩ (by show s.size - (i + 1) < s.size - i; omega)
                · rw [L26_I]
                  have e7 : ((16 * x1 + y1 : Nat) : Int).toNat = 16 * x1 + y1 := Int.toNat_natCast _
                  rw [e7]
                  have e8 : ((2 * i : Nat) : Int) + 2 = ((2 * (i + 1) : Nat) : Int) := by omega
                  rw [e8]
                  rfl
                · rw [g3]
                  simp only [Option.map_map]
                  apply congrArg (fun f => Option.map f _)
                  funext z
                  simp
          · have e9 : s.data.toList.drop (2 * i) = [] := List.drop_of_length_le (by omega)
            rw [e9] at g3
            have hf := hk _ g3
            exact hf
        | cons x r =>
          simp (maxSteps:=9^9) only [L26_I, bS_cons, C68, C69, C70, C71, go_sem, Int.reduceLT, Int.reduceLE, Int.reduceEq, Int.reduceNe, Int.reduceAdd, Int.reduceSub, Int.reduceMul, Int.reduceToNat, Int.reduceNeg, Nat.reduceEqDiff, Nat.reduceLeDiff, Nat.reduceSub, Nat.reduceMul, Nat.reduceLT, Nat.reduceBEq, Nat.reduceAdd, Nat.reduceDiv, Nat.reduceMod]
          rintro _ _ rfl c2 hc2
          refine swd hc2 (fun hlt => ?_) (fun hlt => ?_)
          · refine nd_intro (by omega) ?_
            rintro m rfl _ _ n1 hn1
            rw [w64 (by omega)] at hn1
            refine nd_intro (by omega) ?_
            rintro m2 hm2
            have e1 : n1.toNat = 2 * i + 1 := by omega
            rw [e1] at hm2 ⊢
            subst hm2
            rw [idx_hex, idx_hex]
            generalize ea : s.data.toList.getD (2 * i) 0 = a
            generalize eb : s.data.toList.getD (2 * i + 1) 0 = b
            have hu := unhexL_two s.data.toList i (by omega)
            rw [ea, eb] at hu
            rw [hu] at g3
            refine ⟨digI_in a, ⟨fun _ _ m hm => by rw [hm, w64 (by omega), hn1], nd_intro (by omega) (fun m hm => by rw [hm])⟩, digI_in b, ?_⟩
            intro c3 hc3
            refine swd hc3 (fun hx => hn ?_) (fun hx => ?_)
            · rw [g3]
              have : digV a = none := digI_neg hx
              rw [this]
              rfl
            · intro c4 hc4
              obtain ⟨x1, ex⟩ := digI_pos hx
              refine swd hc4 (fun hy => hn ?_) (fun hy => ?_)
              · rw [g3]
                have : digV b = none := digI_neg hy
                rw [this, ex]
                rfl
              · obtain ⟨y1, ey⟩ := digI_pos hy
                have lx := digV_lt ex
                have ly := digV_lt ey
                have dx : digI a = (x1 : Int) := by unfold digI; rw [ex]
                have dy : digI b = (y1 : Int) := by unfold digI; rw [ey]
                rw [dx, dy]
                rintro _ _ n3 hn3 _ _ n4 hn4
                have e16 : (x1 : Int) * 2 ^ min 4 64 = ((16 * x1 : Nat) : Int) := by
                  show (x1 : Int) * 16 = _
                  omega
                rw [e16, w64 (by omega)] at hn3
                rw [hn3, or16 lx ly] at hn4
                rw [ex, ey] at g3
                have hxl : (x :: r).length ≤ 100000 := by omega
                simp only [List.length_cons] at hxl
                rintro _ n5 hn5
                refine ⟨by omega, ?_⟩
                rintro _ _ n6 hn6
                rw [w64 (by omega)] at hn6
                rw [hn4, wu8 (by omega)] at hn5
                rw [hn5, hn6]
                refine lpE_intro (A := L26 s) (⟨i + 1, (x :: r) ++ [UInt8.ofNat (16 * x1 + y1)]⟩ : U26) ?_ ⟨by show 2 * (i + 1) ≤ s.size; omega, by simp [← g2], ?_⟩ (by show s.size - (i + 1) < s.size - i; omega)
                · rw [L26_I]
                  have e7 : ((16 * x1 + y1 : Nat) : Int).toNat = 16 * x1 + y1 := Int.toNat_natCast _
                  rw [e7]
                  have e8 : ((2 * i : Nat) : Int) + 2 = ((2 * (i + 1) : Nat) : Int) := by omega
                  rw [e8]
                  rfl
                · rw [g3]
                  simp only [Option.map_map]
                  apply congrArg (fun f => Option.map f _)
                  funext z
                  simp
          · have e9 : s.data.toList.drop (2 * i) = [] := List.drop_of_length_le (by omega)
            rw [e9] at g3
            have hf := hk _ g3
            simp only [List.append_nil] at hf
            have hxl : (x :: r).length ≤ 100000 := by omega
            simp only [List.length_cons] at hxl
            exact ⟨⟨by simp, by omega⟩, ⟨by simp, by omega⟩, hf⟩
  · exact h.elim
end Go.V
namespace Go.V
open Go.Proofs
set_option maxRecDepth 100000
set_option maxHeartbeats 4000000
set_option linter.unusedSimpArgs false
set_option linter.unnecessarySimpa false
set_option linter.unusedVariables false
def C73 : Contract := fun args hp K => match args, hp with
 | [.str s], [] => s.size ≤ 100000 ∧ (unhexF s = none → ∀ t : ByteArray, t.size ≤ 100000 → K (.tup [.str t, .bool false]) []) ∧ (∀ l, unhexF s = some l → K (.tup [.str (bsOf l), .bool (keyOk (bsOf l))]) [])
 | _, _ => False
def R65 (s : ByteArray) (g : U26) : Prop := 2 * g.i ≤ s.size ∧ g.l.length = g.i ∧ unhexF s = (unhexL (s.data.toList.drop (2 * g.i))).map (g.l ++ ·)
def L65 (s : ByteArray) : LoopAnn := { G := U26, I := fun g => ⟨[(0, .str s), (4, .own 0), (5, .int .i64 (2 * g.i : Nat))], [.row true 1 .byte g.l]⟩, R := fun _ g => R65 s g, μ := fun g => s.size - g.i }
theorem L65_I {s : ByteArray} (g : U26) : (L65 s).I g = ⟨[(0, .str s), (4, .own 0), (5, .int .i64 (2 * g.i : Nat))], [.row true 1 .byte g.l]⟩ := rfl
attribute [local irreducible] rc
theorem s73 : Sound Tryz.prog 73 C73 := by
  refine sound_of_okF ok73 (.cons s151 (callable_of_okF ok151) (.cons s152 (callable_of_okF ok152) .nil)) ?_
  intro args hp K h
  unfold C73 at h
  split at h
  · rename_i s
    obtain ⟨hs, hn, hk⟩ := h
    have hmx := maxLen_val
    have hl : s.data.toList.length = s.size := Array.length_toList
    refine ⟨by simp, [(1, L65 s)], ?_⟩
    simp (maxSteps:=9^9) only [a73, r73, go_sem, Int.reduceLT, Int.reduceLE, Int.reduceEq, Int.reduceNe, Int.reduceAdd, Int.reduceSub, Int.reduceMul, Int.reduceToNat, Int.reduceNeg, Nat.reduceEqDiff, Nat.reduceLeDiff, Nat.reduceSub, Nat.reduceMul, Nat.reduceLT, Nat.reduceBEq, Nat.reduceAdd, Nat.reduceDiv, Nat.reduceMod]
    refine loop_intro (A := L65 s) (⟨0, []⟩ : U26) ?_ ⟨by simp, rfl, by simp [unhexF]⟩ ?_
    · simp (maxSteps:=9^9) only [go_sem, Int.reduceLT, Int.reduceLE, Int.reduceEq, Int.reduceNe, Int.reduceAdd, Int.reduceSub, Int.reduceMul, Int.reduceToNat, Int.reduceNeg, Nat.reduceEqDiff, Nat.reduceLeDiff, Nat.reduceSub, Nat.reduceMul, Nat.reduceLT, Nat.reduceBEq, Nat.reduceAdd, Nat.reduceDiv, Nat.reduceMod]
      rfl
    · rintro (⟨i, l⟩ : U26) (⟨g1, g2, g3⟩ : R65 s ⟨i, l⟩)
      simp only at g1 g2 g3
      simp (maxSteps:=9^9) only [L65_I, C151, C152, go_sem, Int.reduceLT, Int.reduceLE, Int.reduceEq, Int.reduceNe, Int.reduceAdd, Int.reduceSub, Int.reduceMul, Int.reduceToNat, Int.reduceNeg, Nat.reduceEqDiff, Nat.reduceLeDiff, Nat.reduceSub, Nat.reduceMul, Nat.reduceLT, Nat.reduceBEq, Nat.reduceAdd, Nat.reduceDiv, Nat.reduceMod]
      rintro _ _ n0 hn0 _ _ rfl c hc
      rw [w64 (by omega)] at hn0
      refine swd hc (fun hlt => ?_) (fun hlt => ?_)
      · refine nd_intro (by omega) ?_
        rintro m hm _ _ n1 hn1
        rw [w64 (by omega)] at hn1
        refine nd_intro (by omega) ?_
        rintro m2 hm2
        have e1 : n1.toNat = 2 * i + 1 := by omega
        rw [e1] at hm2 ⊢
        generalize ea : s.data.toList.getD (2 * i) 0 = a at hm
        generalize eb : s.data.toList.getD (2 * i + 1) 0 = b at hm2 ⊢
        have hu := unhexL_two s.data.toList i (by omega)
        rw [ea, eb] at hu
        rw [hu] at g3
        have la := UInt8.toNat_lt a
        have lb := UInt8.toNat_lt b
        have ua : UInt8.ofNat m.toNat = a := by rw [hm]; exact u8_back a
        have ub : UInt8.ofNat m2.toNat = b := by rw [hm2]; exact u8_back b
        rw [ua, ub]
        refine ⟨by omega, ⟨fun _ _ m hm => by rw [hm, w64 (by omega), hn1], nd_intro (by omega) (fun m hm => by rw [hm, hm2])⟩, by omega, ?_⟩
        intro c3 hc3
        refine swd hc3 (fun hx => hn ?_ _ (by decide)) (fun hx => ?_)
        · rw [g3]
          have : digV a = none := digI_neg hx
          rw [this]
          rfl
        · intro c4 hc4
          obtain ⟨x1, ex⟩ := digI_pos hx
          refine swd hc4 (fun hy => hn ?_ _ (by decide)) (fun hy => ?_)
          · rw [g3]
            have : digV b = none := digI_neg hy
            rw [this, ex]
            rfl
          · obtain ⟨y1, ey⟩ := digI_pos hy
            have lx := digV_lt ex
            have ly := digV_lt ey
            have dx : digI a = (x1 : Int) := by unfold digI; rw [ex]
            have dy : digI b = (y1 : Int) := by unfold digI; rw [ey]
            rw [dx, dy]
            rintro _ _ n3 hn3 _ _ n4 hn4 _ n5 hn5
            rw [w64 (by omega)] at hn3
            rw [w64 (by omega)] at hn4
            rw [wu8 (by omega)] at hn5
            rw [ex, ey] at g3
            refine ⟨fun _ => by omega, ?_⟩
            rintro _ _ _ n6 hn6
            rw [w64 (by omega)] at hn6
            have e7 : n5.toNat = 16 * x1 + y1 := by omega
            rw [hn6, e7]
            refine lpE_intro (A := L65 s) (⟨i + 1, l ++ [UInt8.ofNat (16 * x1 + y1)]⟩ : U26) ?_ ⟨by show 2 * (i + 1) ≤ s.size; omega, by simp [← g2], ?_⟩ (by show s.size - (i + 1) < s.size - i; omega)
            · rw [L65_I]
              have e8 : ((2 * i : Nat) : Int) + 2 = ((2 * (i + 1) : Nat) : Int) := by omega
              rw [e8]
              rfl
            · rw [g3]
              simp only [Option.map_map]
              apply congrArg (fun f => Option.map f _)
              funext z
              simp
      · rintro u rfl _ _ rfl _ _ n1 hn1 c3 hc3
        rw [Int.tmod_eq_emod_of_nonneg (by omega)] at hn1
        have hll : (l.toArray).size ≤ 100000 := by simp; omega
        refine swd hc3 (fun hz => ?_) (fun hz => ?_)
        · rintro u rfl
          refine ⟨fun u hu => by rw [hu], ?_⟩
          have e9 : s.data.toList.drop (2 * i) = [] := List.drop_of_length_le (by omega)
          rw [e9] at g3
          have hf := hk _ g3
          simp only [List.append_nil] at hf
          exact hf
        · refine hn ?_ _ hll
          cases hu : unhexF s with
          | none => rfl
          | some r =>
            have := unhexL_len _ _ hu
            omega
  · exact h.elim
theorem head_48 {l : List UInt8} (h : 0 < l.length) : l.head? = some 48 ↔ ((l.getD 0 0).toNat : Int) = 48 := by
 cases l with
 | nil => simp at h
 | cons c r =>
  simp only [List.head?_cons, Option.some.injEq, List.getD_cons_zero]
  constructor
  ·rintro rfl; rfl
  ·intro h
   have : c.toNat = (48 : UInt8).toNat := by simp; omega
   exact UInt8.toNat.inj this
def C72 : Contract := fun args hp K => match args, hp with
 | [.str s], [] => s.size ≤ 100000 ∧ (natF s.data.toList = none → K (.tup [.int .u64 0, .bool false]) []) ∧ (∀ n : Nat, natF s.data.toList = some n → K (.tup [.int .u64 n, .bool true]) [])
 | _, _ => False
structure U77 where
 i : Nat
 n : Nat
def L77 (s : ByteArray) : LoopAnn := { G := U77, I := fun g => ⟨[(0, .str s), (4, .int .u64 g.n), (5, .int .i64 g.i)], []⟩, R := fun _ g => (g.i ≤ s.size ∧ g.n ≤ 18446744073709551615) ∧ natGo s.data.toList 0 = natGo (s.data.toList.drop g.i) g.n, μ := fun g => s.size - g.i }
theorem L77_I {s : ByteArray} (g : U77) : (L77 s).I g = ⟨[(0, .str s), (4, .int .u64 g.n), (5, .int .i64 g.i)], []⟩ := rfl
theorem s72 : Sound Tryz.prog 72 C72 := by
  refine sound_of_okF ok72 .nil ?_
  intro args hp K h
  unfold C72 at h
  split at h
  · rename_i s
    obtain ⟨hs, hn, hk⟩ := h
    have hmx := maxLen_val
    have hl : s.data.toList.length = s.size := Array.length_toList
    refine ⟨by simp, [(1, L77 s)], ?_⟩
    simp (maxSteps:=9^9) only [a72, r72, go_sem, Int.reduceLT, Int.reduceLE, Int.reduceEq, Int.reduceNe, Int.reduceAdd, Int.reduceSub, Int.reduceMul, Int.reduceToNat, Int.reduceNeg, Nat.reduceEqDiff, Nat.reduceLeDiff, Nat.reduceSub, Nat.reduceMul, Nat.reduceLT, Nat.reduceBEq, Nat.reduceAdd, Nat.reduceDiv, Nat.reduceMod]
    rintro _ _ rfl c hc
    refine swd hc (fun h0 => hn ?_) (fun h0 => ?_)
    · unfold natF
      rw [if_pos (.inl (List.length_eq_zero_iff.1 (by omega)))]
    · rintro _ _ rfl c2 hc2
      refine swd hc2 (fun h1 => nd_intro (by omega) ?_) (fun h1 => ?_)
      · intro m hm c3 hc3
        refine swd hc3 (fun h2 => hn ?_) (fun h2 => ?_)
        · unfold natF
          rw [if_pos (.inr ⟨by omega, (head_48 (by omega)).2 (by omega)⟩)]
        · have hN : natF s.data.toList = natGo s.data.toList 0 := by
            unfold natF
            rw [if_neg]
            rintro (h | ⟨_, h⟩)
            · rw [h] at hl; simp at hl; omega
            · have := (head_48 (l := s.data.toList) (by omega)).1 h
              omega
          refine loop_intro (A := L77 s) (⟨0, 0⟩ : U77) ?_ ⟨⟨by simp, by simp⟩, rfl⟩ ?_
          · simp (maxSteps:=9^9) only [go_sem, Int.reduceLT, Int.reduceLE, Int.reduceEq, Int.reduceNe, Int.reduceAdd, Int.reduceSub, Int.reduceMul, Int.reduceToNat, Int.reduceNeg, Nat.reduceEqDiff, Nat.reduceLeDiff, Nat.reduceSub, Nat.reduceMul, Nat.reduceLT, Nat.reduceBEq, Nat.reduceAdd, Nat.reduceDiv, Nat.reduceMod]
            rfl
          · rintro (⟨i, n⟩ : U77) (⟨⟨g1, g2⟩, g3⟩ : (i ≤ s.size ∧ n ≤ 18446744073709551615) ∧ natGo s.data.toList 0 = natGo (s.data.toList.drop i) n)
            simp (maxSteps:=9^9) only [L77_I, go_sem, Int.reduceLT, Int.reduceLE, Int.reduceEq, Int.reduceNe, Int.reduceAdd, Int.reduceSub, Int.reduceMul, Int.reduceToNat, Int.reduceNeg, Nat.reduceEqDiff, Nat.reduceLeDiff, Nat.reduceSub, Nat.reduceMul, Nat.reduceLT, Nat.reduceBEq, Nat.reduceAdd, Nat.reduceDiv, Nat.reduceMod]
            rintro _ _ rfl c4 hc4
            refine swd hc4 (fun hlt => ?_) (fun hlt => ?_)
            · have hlt' : i < s.size := by omega
              have hd : s.data.toList.drop i = s.data.toList.getD i 0 :: s.data.toList.drop (i + 1) := by
                rw [List.drop_eq_getElem_cons (by omega), getD_eq (by omega)]
              rw [hd] at g3
              generalize s.data.toList.getD i 0 = a at g3 ⊢
              have la := UInt8.toNat_lt a
              simp only [natGo] at g3
              refine nd_intro hlt' ?_
              rintro m6 rfl c5 hc5
              refine swd hc5 (fun h5 => hn ?_) (fun h5 => ?_)
              · rw [hN, g3, if_neg (by omega)]
              · refine nd_intro hlt' ?_
                rintro _ rfl c6 hc6
                refine swd hc6 (fun h6 => hn ?_) (fun h6 => ?_)
                · rw [hN, g3, if_neg (by omega)]
                · rw [if_pos (by omega)] at g3
                  refine nd_intro hlt' ?_
                  rintro _ rfl _ _ m7 hm7 _ m8 hm8 _ _ m9 hm9 _ _ m10 hm10 c7 hc7
                  rw [wu8 (by omega)] at hm7
                  rw [wu64 (by omega)] at hm8
                  rw [wu64 (by omega)] at hm9
                  rw [Int.tdiv_eq_ediv_of_nonneg (by omega), wu64 (by omega)] at hm10
                  refine swd hc7 (fun h7 => hn ?_) (fun h7 => ?_)
                  · rw [hN, g3, if_pos (by omega)]
                  · rw [if_neg (by omega)] at g3
                    rintro _ _ m11 hm11 _ _ m12 hm12 _ _ m13 hm13
                    rw [wu64 (by omega)] at hm11
                    rw [wu64 (by omega)] at hm12
                    rw [w64 (by omega)] at hm13
                    refine lpE_intro (A := L77 s) (⟨i + 1, 10 * n + (a.toNat - 48)⟩ : U77) ?_ ⟨⟨by show i + 1 ≤ s.size; omega, by show 10 * n + (a.toNat - 48) ≤ 18446744073709551615; omega⟩, g3⟩ (by show s.size - (i + 1) < s.size - i; omega)
                    rw [L77_I]
                    have e8 : m12 = ((10 * n + (a.toNat - 48) : Nat) : Int) := by omega
                    have e9 : m13 = ((i + 1 : Nat) : Int) := by omega
                    rw [e8, e9]
                    rfl
            · rw [List.drop_of_length_le (by omega)] at g3
              exact hk n (hN.trans g3)
      · have hN : natF s.data.toList = natGo s.data.toList 0 := by
          unfold natF
          rw [if_neg]
          rintro (h | ⟨h, _⟩)
          · rw [h] at hl; simp at hl; omega
          · omega
        refine loop_intro (A := L77 s) (⟨0, 0⟩ : U77) ?_ ⟨⟨by simp, by simp⟩, rfl⟩ ?_
        · simp (maxSteps:=9^9) only [go_sem, Int.reduceLT, Int.reduceLE, Int.reduceEq, Int.reduceNe, Int.reduceAdd, Int.reduceSub, Int.reduceMul, Int.reduceToNat, Int.reduceNeg, Nat.reduceEqDiff, Nat.reduceLeDiff, Nat.reduceSub, Nat.reduceMul, Nat.reduceLT, Nat.reduceBEq, Nat.reduceAdd, Nat.reduceDiv, Nat.reduceMod]
          rfl
        · rintro (⟨i, n⟩ : U77) (⟨⟨g1, g2⟩, g3⟩ : (i ≤ s.size ∧ n ≤ 18446744073709551615) ∧ natGo s.data.toList 0 = natGo (s.data.toList.drop i) n)
          simp (maxSteps:=9^9) only [L77_I, go_sem, Int.reduceLT, Int.reduceLE, Int.reduceEq, Int.reduceNe, Int.reduceAdd, Int.reduceSub, Int.reduceMul, Int.reduceToNat, Int.reduceNeg, Nat.reduceEqDiff, Nat.reduceLeDiff, Nat.reduceSub, Nat.reduceMul, Nat.reduceLT, Nat.reduceBEq, Nat.reduceAdd, Nat.reduceDiv, Nat.reduceMod]
          rintro _ _ rfl c4 hc4
          refine swd hc4 (fun hlt => ?_) (fun hlt => ?_)
          · have hlt' : i < s.size := by omega
            have hd : s.data.toList.drop i = s.data.toList.getD i 0 :: s.data.toList.drop (i + 1) := by
              rw [List.drop_eq_getElem_cons (by omega), getD_eq (by omega)]
            rw [hd] at g3
            generalize s.data.toList.getD i 0 = a at g3 ⊢
            have la := UInt8.toNat_lt a
            simp only [natGo] at g3
            refine nd_intro hlt' ?_
            rintro m6 rfl c5 hc5
            refine swd hc5 (fun h5 => hn ?_) (fun h5 => ?_)
            · rw [hN, g3, if_neg (by omega)]
            · refine nd_intro hlt' ?_
              rintro _ rfl c6 hc6
              refine swd hc6 (fun h6 => hn ?_) (fun h6 => ?_)
              · rw [hN, g3, if_neg (by omega)]
              · rw [if_pos (by omega)] at g3
                refine nd_intro hlt' ?_
                rintro _ rfl _ _ m7 hm7 _ m8 hm8 _ _ m9 hm9 _ _ m10 hm10 c7 hc7
                rw [wu8 (by omega)] at hm7
                rw [wu64 (by omega)] at hm8
                rw [wu64 (by omega)] at hm9
                rw [Int.tdiv_eq_ediv_of_nonneg (by omega), wu64 (by omega)] at hm10
                refine swd hc7 (fun h7 => hn ?_) (fun h7 => ?_)
                · rw [hN, g3, if_pos (by omega)]
                · rw [if_neg (by omega)] at g3
                  rintro _ _ m11 hm11 _ _ m12 hm12 _ _ m13 hm13
                  rw [wu64 (by omega)] at hm11
                  rw [wu64 (by omega)] at hm12
                  rw [w64 (by omega)] at hm13
                  refine lpE_intro (A := L77 s) (⟨i + 1, 10 * n + (a.toNat - 48)⟩ : U77) ?_ ⟨⟨by show i + 1 ≤ s.size; omega, by show 10 * n + (a.toNat - 48) ≤ 18446744073709551615; omega⟩, g3⟩ (by show s.size - (i + 1) < s.size - i; omega)
                  rw [L77_I]
                  have e8 : m12 = ((10 * n + (a.toNat - 48) : Nat) : Int) := by omega
                  have e9 : m13 = ((i + 1 : Nat) : Int) := by omega
                  rw [e8, e9]
                  rfl
          · rw [List.drop_of_length_le (by omega)] at g3
            exact hk n (hN.trans g3)
  · exact h.elim
theorem use72 {s : ByteArray} {K : SV → List SB → Prop} (hs : s.size ≤ 100000) (h1 : natF s.data.toList = none → K (.tup [.int .u64 0, .bool false]) []) (h2 : ∀ n : Nat, natF s.data.toList = some n → n ≤ 18446744073709551615 → K (.tup [.int .u64 n, .bool true]) []) : C72 [.str s] [] K :=
 ⟨hs, h1, fun n hn => h2 n hn (parse_natF hn).2⟩
theorem head_45 {l : List UInt8} (h : 0 < l.length) : l.head? = some 45 ↔ ((l.getD 0 0).toNat : Int) = 45 := by
 cases l with
 | nil => simp at h
 | cons c r =>
  simp only [List.head?_cons, Option.some.injEq, List.getD_cons_zero]
  constructor
  ·rintro rfl; rfl
  ·intro h
   have : c.toNat = (45 : UInt8).toNat := by simp; omega
   exact UInt8.toNat.inj this
theorem wneg {n : Nat} (h0 : 0 < n) (h1 : n ≤ 9223372036854775808) : IntKind.u64.wrap (0 - (n : Int)) = 18446744073709551616 - (n : Int) := by
 unfold IntKind.wrap
 simp only [IntKind.signed, IntKind.bits]
 simp
 omega
theorem wback {n : Nat} (h0 : 0 < n) (h1 : n ≤ 9223372036854775808) : IntKind.i64.wrap (18446744073709551616 - (n : Int)) = -(n : Int) := by
 unfold IntKind.wrap
 simp only [IntKind.signed, IntKind.bits]
 simp
 omega
def C75 : Contract := fun args hp K => match args, hp with
 | [.str s], [] => s.size ≤ 100000 ∧ (numI s.data.toList = none → K (.tup [.int .i64 0, .bool false]) []) ∧ (∀ n : Int, numI s.data.toList = some n → K (.tup [.int .i64 n, .bool true]) [])
 | _, _ => False
theorem s75 : Sound Tryz.prog 75 C75 := by
 refine sound_of_okF ok75 (.cons s72 (callable_of_okF ok72) .nil) ?_
 intro args hp K h
 unfold C75 at h
 split at h
 ·rename_i s
  obtain ⟨hs, hn, hk⟩ := h
  have hmx := maxLen_val
  have hl : s.data.toList.length = s.size := Array.length_toList
  refine ⟨by simp, [], ?_⟩
  simp (maxSteps:=9^9) only [a75, r75, go_sem, Int.reduceLT, Int.reduceLE, Int.reduceEq, Int.reduceNe, Int.reduceAdd, Int.reduceSub, Int.reduceMul, Int.reduceToNat, Int.reduceNeg, Nat.reduceEqDiff, Nat.reduceLeDiff, Nat.reduceSub, Nat.reduceMul, Nat.reduceLT, Nat.reduceBEq, Nat.reduceAdd, Nat.reduceDiv, Nat.reduceMod]
  rintro _ _ rfl c hc
  refine swd hc (fun h0 => ?_) (fun h0 => ?_)
  ·refine nd_intro (by omega) ?_
   rintro m hm c2 hc2
   by_cases h1 : m = 45
   ·obtain rfl : c2 = true := by rw [hc2]; exact decide_eq_true h1
    have hI : numI s.data.toList = (natF s.data.toList.tail).bind fun n => if n = 0 ∨ 9223372036854775808 < n then none else some (-(n : Int)) := by
     unfold numI
     rw [if_pos ((head_45 (by omega)).2 (by omega))]
    simp (maxSteps:=9^9) only [go_sem, Int.reduceLT, Int.reduceLE, Int.reduceEq, Int.reduceNe, Int.reduceAdd, Int.reduceSub, Int.reduceMul, Int.reduceToNat, Int.reduceNeg, Nat.reduceEqDiff, Nat.reduceLeDiff, Nat.reduceSub, Nat.reduceMul, Nat.reduceLT, Nat.reduceBEq, Nat.reduceAdd, Nat.reduceDiv, Nat.reduceMod]
    refine nd_intro (by omega) ?_
    rintro u hu
    have hu2 : u.data.toList = s.data.toList.tail := by
     rw [hu, Go.Lib.extract_data]
     simp
     rw [List.take_of_length_le (by simp)]
    refine use72 (by have := congrArg List.length hu2; simp only [List.length_tail] at this; have e : u.data.toList.length = u.size := Array.length_toList; omega) (fun hn2 => ?_) (fun n hn2 hle => ?_)
    ·simp (maxSteps:=9^9) only [go_sem, Int.reduceLT, Int.reduceLE, Int.reduceEq, Int.reduceNe, Int.reduceAdd, Int.reduceSub, Int.reduceMul, Int.reduceToNat, Int.reduceNeg, Nat.reduceEqDiff, Nat.reduceLeDiff, Nat.reduceSub, Nat.reduceMul, Nat.reduceLT, Nat.reduceBEq, Nat.reduceAdd, Nat.reduceDiv, Nat.reduceMod]
     refine hn ?_
     rw [hI, ← hu2, hn2]
     rfl
    ·simp (maxSteps:=9^9) only [go_sem, Int.reduceLT, Int.reduceLE, Int.reduceEq, Int.reduceNe, Int.reduceAdd, Int.reduceSub, Int.reduceMul, Int.reduceToNat, Int.reduceNeg, Nat.reduceEqDiff, Nat.reduceLeDiff, Nat.reduceSub, Nat.reduceMul, Nat.reduceLT, Nat.reduceBEq, Nat.reduceAdd, Nat.reduceDiv, Nat.reduceMod]
     rw [hu2] at hn2
     rw [hn2] at hI
     simp only [Option.bind_some] at hI
     intro c3 hc3
     refine swd hc3 (fun h3 => hn ?_) (fun h3 => ?_)
     ·rw [hI, if_pos (.inl (by omega))]
     ·intro c4 hc4
      refine swd hc4 (fun h4 => hn ?_) (fun h4 => ?_)
      ·rw [hI, if_pos (.inr (by omega))]
      ·rintro _ m3 hm3 _ m4 hm4
       rw [wneg (by omega) (by omega)] at hm3
       rw [hm3, wback (by omega) (by omega)] at hm4
       rw [hm4]
       rw [if_neg (by omega)] at hI
       exact hk _ hI
   ·obtain rfl : c2 = false := by rw [hc2]; exact decide_eq_false h1
    simp (maxSteps:=9^9) only [go_sem, Int.reduceLT, Int.reduceLE, Int.reduceEq, Int.reduceNe, Int.reduceAdd, Int.reduceSub, Int.reduceMul, Int.reduceToNat, Int.reduceNeg, Nat.reduceEqDiff, Nat.reduceLeDiff, Nat.reduceSub, Nat.reduceMul, Nat.reduceLT, Nat.reduceBEq, Nat.reduceAdd, Nat.reduceDiv, Nat.reduceMod]
    have hI : numI s.data.toList = (natF s.data.toList).bind fun n => if 9223372036854775807 < n then none else some (n : Int) := by
     unfold numI
     rw [if_neg (fun h => h1 (by have := (head_45 (l := s.data.toList) (by omega)).1 h; omega))]
    refine use72 hs (fun hn2 => ?_) (fun n hn2 hle => ?_)
    ·simp (maxSteps:=9^9) only [go_sem, Int.reduceLT, Int.reduceLE, Int.reduceEq, Int.reduceNe, Int.reduceAdd, Int.reduceSub, Int.reduceMul, Int.reduceToNat, Int.reduceNeg, Nat.reduceEqDiff, Nat.reduceLeDiff, Nat.reduceSub, Nat.reduceMul, Nat.reduceLT, Nat.reduceBEq, Nat.reduceAdd, Nat.reduceDiv, Nat.reduceMod]
     refine hn ?_
     rw [hI, hn2]
     rfl
    ·simp (maxSteps:=9^9) only [go_sem, Int.reduceLT, Int.reduceLE, Int.reduceEq, Int.reduceNe, Int.reduceAdd, Int.reduceSub, Int.reduceMul, Int.reduceToNat, Int.reduceNeg, Nat.reduceEqDiff, Nat.reduceLeDiff, Nat.reduceSub, Nat.reduceMul, Nat.reduceLT, Nat.reduceBEq, Nat.reduceAdd, Nat.reduceDiv, Nat.reduceMod]
     rw [hn2] at hI
     simp only [Option.bind_some] at hI
     intro c4 hc4
     refine swd hc4 (fun h4 => hn ?_) (fun h4 => ?_)
     ·rw [hI, if_pos (by omega)]
     ·rw [if_neg (by omega)] at hI
      intro _ m5 hm5
      rw [w64 (by omega)] at hm5
      rw [hm5]
      exact hk _ hI
  ·have hI : numI s.data.toList = (natF s.data.toList).bind fun n => if 9223372036854775807 < n then none else some (n : Int) := by
    unfold numI
    rw [if_neg (fun h => by rw [List.length_eq_zero_iff.1 (show s.data.toList.length = 0 by omega)] at h; cases h)]
   refine use72 hs (fun hn2 => ?_) (fun n hn2 hle => ?_)
   ·simp (maxSteps:=9^9) only [go_sem, Int.reduceLT, Int.reduceLE, Int.reduceEq, Int.reduceNe, Int.reduceAdd, Int.reduceSub, Int.reduceMul, Int.reduceToNat, Int.reduceNeg, Nat.reduceEqDiff, Nat.reduceLeDiff, Nat.reduceSub, Nat.reduceMul, Nat.reduceLT, Nat.reduceBEq, Nat.reduceAdd, Nat.reduceDiv, Nat.reduceMod]
    refine hn ?_
    rw [hI, hn2]
    rfl
   ·simp (maxSteps:=9^9) only [go_sem, Int.reduceLT, Int.reduceLE, Int.reduceEq, Int.reduceNe, Int.reduceAdd, Int.reduceSub, Int.reduceMul, Int.reduceToNat, Int.reduceNeg, Nat.reduceEqDiff, Nat.reduceLeDiff, Nat.reduceSub, Nat.reduceMul, Nat.reduceLT, Nat.reduceBEq, Nat.reduceAdd, Nat.reduceDiv, Nat.reduceMod]
    rw [hn2] at hI
    simp only [Option.bind_some] at hI
    intro c4 hc4
    refine swd hc4 (fun h4 => hn ?_) (fun h4 => ?_)
    ·rw [hI, if_pos (by omega)]
    ·rw [if_neg (by omega)] at hI
     intro _ m5 hm5
     rw [w64 (by omega)] at hm5
     rw [hm5]
     exact hk _ hI
 ·exact h.elim
end Go.V
