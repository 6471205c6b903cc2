/- A part of the proof layer, or functions of the given program in it: contracts and their proofs. -/
import Derived.Test.YtbcmjkfdeikkhaaGreatVy
import Derived.Test.YtbcmjkfdeikkhaaGreatProg
namespace Go.V
set_option linter.unusedSimpArgs false
set_option linter.unnecessarySimpa false
open Go.Proofs
def q (n : Nat) (o : AOp) : AOper := ⟨some n, o, none⟩
def qT (n : Nat) (o : AOp) (g : Nat) : AOper := ⟨some n, o, some (g, true)⟩
def qF (n : Nat) (o : AOp) (g : Nat) : AOper := ⟨some n, o, some (g, false)⟩
def q0 (n k : Nat) : AOper := ⟨some n, .mv (.t k), none⟩
def q1 (n k g : Nat) : AOper := ⟨some n, .mv (.t k), some (g, true)⟩
def q2 (n k g : Nat) : AOper := ⟨some n, .mv (.t k), some (g, false)⟩
def q3 (n i k : Nat) : AOper := ⟨some n, .fa i (.t k), none⟩
def q4 (n k : Nat) : AOper := ⟨some n, .ld (.t k), none⟩
def q5 (n k : Nat) : AOper := ⟨some n, .nck (.t k), none⟩
def q6 (n i k : Nat) : AOper := ⟨none, .st n (.t i) (.t k), none⟩
def qI (k : Int) : Opd := .c (.int .i64 k)
def qS (l : List AOper) (k : List Nat) (x : AS) : AS := .seq (.reg l k) x
def qC (t : Nat) (x y : AS) : AS := .seq (.cond (.t t) x .skip) y
def qX (f n : Nat) (l : List Opd) : AOper := ⟨some n, .call f [none] l, none⟩
def qD : Ty := .pair .str (.pair (.int .u64) (.pair (.int .i64) (.sl 8 (.int .i64))))
def qP : Ty := .pair (.int .i64) (.int .i64)
def qf : Opd := .c (.bool false)
def qt : Opd := .c (.bool true)
def qE : SV := .str ByteArray.empty
@[go_sem] theorem qD_d : qD = .pair .str (.pair (.int .u64) (.pair (.int .i64) (.sl 8 (.int .i64)))) := rt
@[go_sem] theorem qP_d : qP = .pair (.int .i64) (.int .i64) := rt
@[go_sem] theorem qf_d : qf = .c (.bool false) := rt
@[go_sem] theorem qt_d : qt = .c (.bool true) := rt
@[go_sem] theorem qE_d : qE = .str ByteArray.empty := rt
@[go_sem] theorem q_d {n o} : q n o = ⟨some n, o, none⟩ := rt
@[go_sem] theorem qT_d {n o g} : qT n o g = ⟨some n, o, some (g, true)⟩ := rt
@[go_sem] theorem qF_d {n o g} : qF n o g = ⟨some n, o, some (g, false)⟩ := rt
@[go_sem] theorem q0_d {n k} : q0 n k = ⟨some n, .mv (.t k), none⟩ := rt
@[go_sem] theorem q1_d {n k g} : q1 n k g = ⟨some n, .mv (.t k), some (g, true)⟩ := rt
@[go_sem] theorem q2_d {n k g} : q2 n k g = ⟨some n, .mv (.t k), some (g, false)⟩ := rt
@[go_sem] theorem q3_d {n i k} : q3 n i k = ⟨some n, .fa i (.t k), none⟩ := rt
@[go_sem] theorem q4_d {n k} : q4 n k = ⟨some n, .ld (.t k), none⟩ := rt
@[go_sem] theorem q5_d {n k} : q5 n k = ⟨some n, .nck (.t k), none⟩ := rt
@[go_sem] theorem q6_d {n i k} : q6 n i k = ⟨none, .st n (.t i) (.t k), none⟩ := rt
@[go_sem] theorem qI_d {k} : qI k = .c (.int .i64 k) := rt
@[go_sem] theorem qS_d {l k x} : qS l k x = .seq (.reg l k) x := rt
@[go_sem] theorem qC_d {t x y} : qC t x y = .seq (.cond (.t t) x .skip) y := rt
@[go_sem] theorem qX_d {f n l} : qX f n l = ⟨some n, .call f [none] l, none⟩ := rt
def a82 : AS := qS [q 2 (.mv qf)] [0] (qS [q0 3 0, q 4 (.len .i (.t 3)), q 5 (.bin .geq (.t 4) (qI 1)), q0 6 5, q1 7 0 6, qT 8 (.len .i (.t 7)) 6, qT 9 (.bin .leq (.t 8) (qI 40)) 6, q 10 (.pick (.t 6) (.t 9) qf), q0 2 10] [2] .ret)
def r82 : List RT := [.t 2]
def a24 : AS := qS [q 8 (.mv (.c (.int .u64 0))), q 9 (.mv (qI 0))] [0,1,2,3] (.seq (qS [q0 13 0, qX 79 14 [.t 13], q0 15 14, q2 16 1 15, qF 17 (.call 80 [none] [.t 16]) 15, qF 18 (.not (.t 17)) 15, q 19 (.pick (.t 15) qt (.t 18)), q0 20 19, q2 21 3 20, qF
 22 (.len .s (.t 21)) 20, qF 23 (.bin .gtr (.t 22) (qI 4)) 20, q 24 (.pick (.t 20) qt (.t 23))] [0,1,2,3,24] (.cond (.t 24) (qS [q 8 (.mv (.c (.int .u64 0))), q 9 (.mv (qI 1))] [8,9] .ret) .skip)) (.seq (qS [q0 26 0, q5 27 26, q3 28 2 27, q4
 29 28, q0 30 1, q 31 (.lk false .str (.int .u64) true (.t 29) (.t 30)), q0 25 31, q 32 (.ext (.t 25) 0), q 33 (.ext (.t 25) 1), q0 10 32, q0 11 33] [0,1,2,3,11] (qS [q0 34 0, q5 35 34, q3 36 1 35, q4 37 36, q 38 (.len .s (.t 37)), q 39 (.bin
 .geq (.t 38) (qI 32)), q0 40 39, q2 41 11 40, qF 42 (.not (.t 41)) 40, q2 43 42 40, q1 44 0 43, qT 45 (.nck (.t 44)) 43, qT 46 (.fa 2 (.t 45)) 43, qT 47 (.ld (.t 46)) 43, qT 48 (.len .m (.t 47)) 43, qT 49 (.bin .geq (.t 48) (qI 64)) 43, qF
 50 (.pick (.t 43) (.t 49) qf) 40, q 51 (.pick (.t 40) qt (.t 50))] [0,1,2,3,51] (.cond (.t 51) (qS [q 8 (.mv (.c (.int .u64 0))), q 9 (.mv (qI 6))] [8,9] .ret) .skip))) (qS [q0 52 0, q5 53 52, q3 54 2 53, q4 55 54, q0 56 1, q 57 (.lk false
 .str (.int .u64) false (.t 55) (.t 56)), q 58 (.bin .add (.t 57) (.c (.int .u64 1))), ⟨none, .mu false .str (.int .u64) (.t 55) (.t 56) (.t 58), none⟩] [0,1,2,3] (qS [q0 59 0, q5 60 59, q3 61 2 60, q4 62 61, q0 63 1, q 64 (.lk false .str
 (.int .u64) false (.t 62) (.t 63)), q0 12 64] [0,1,2,3,12] (.seq (.regD [q0 65 0, q0 66 0, q5 67 66, q3 68 1 67, q4 69 68, q0 70 1, q0 71 0, q5 72 71, q3 73 0 72, q4 74 73, q0 75 12, q0 76 2, q0 77 3, qX 81 78 [.t 77], q 79 (.bld [qE, .int
 .u64 0, .int .i64 0, .nils] [(0, 1, (.t 74)), (1, 1, (.t 75)), (2, 1, (.t 76)), (3, 1, (.t 78))]), q 80 (.bld [qE, qE, .int .u64 0, .int .i64 0, .nils] [(0, 1, (.t 70)), (1, 4, (.t 79))]), q 81 (.bsl 72 (.pair .str qD) 1 [(0, (.t 80))]), q
 82 (.app 72 (.pair .str qD) (.t 69) (.t 81)), q5 83 65, q3 84 1 83, q6 1 84 82] [.q 0, .q 1, .q 2, .q 3, .q 4, .q 5, .q 6, .q 7, .q 8, .q 9, .q 10, .q 11, .q 12, .e 13 [0,1,2,3,4,5,6,7,8,9,10,11], .q 14, .q 15, .e 16 [0,1,2,3,4], .e 17 [0],
 .q 18, .q 19, .e 20 []] [12]) (qS [q0 85 12, q0 8 85, q 9 (.mv (qI 0))] [8,9] .ret))))))
def r24 : List RT := [.t 8, .t 9]
def a47 : AS := qS [q 2 (.mv (.c (.nils)))] [0] (.seq (qS [q0 6 0, qX 79 7 [.t 6]] [0,7] (.cond (.t 7) (qS [q 2 (.mv (.c (.nils)))] [2] (.lift 2 none 72 (.pair .str qD) .ret)) .skip)) (qS [q 3 (.mv (.c (.nils)))] [0,3] (.seq (qS [q0 8 0, q5 9 8, q3 10 1 9,
 q4 11 10, q 12 (.len .s (.t 11)), q 13 (.mv (qI 0))] [3,11,12,13] (.block 0 (.lift 3 none 72 (.pair .str qD) (.loop 1 [3,11,12,13] (qS [q 14 (.bin .lss (.t 13) (.t 12))] [3,11,12,13,14] (.seq (.cond (.t 14) .skip (.exit 0)) (.seq (.block 1
 (qS [q 15 (.ia 5 (.t 11) (.t 13)), q 16 (.ldA 5 (.t 15)), q 5 (.alc [qE, qE, .int .u64 0, .int .i64 0, .nils]), q6 5 5 16] [3,5,11,12,13] (.regD [q0 17 3, q3 18 0 5, q4 19 18, q3 20 1 5, q 21 (.ldA 4 (.t 20)), qX 75 22 [.t 21], q 23 (.bld
 [qE, qE, .int .u64 0, .int .i64 0, .nils] [(0, 1, (.t 19)), (1, 4, (.t 22))]), q 24 (.bsl 72 (.pair .str qD) 1 [(0, (.t 23))]), q 25 (.app 72 (.pair .str qD) (.t 17) (.t 24)), q0 3 25] [.q 0, .q 1, .q 2, .q 3, .q 4, .e 5 [0,1,2], .q 6, .e 7
 [0], .e 8 [], .e 9 []] [3,11,12,13]))) (.reg [q 26 (.bin .add (.t 13) (qI 1)), q0 13 26] [3,11,12,13])))))))) (qS [q0 27 3, q0 2 27] [2] (.lift 2 none 72 (.pair .str qD) .ret)))))
def r47 : List RT := [.t 2]
def a49 : AS := qS [q 4 (.mv (.c (.int .u64 0)))] [0,1] (.seq (qS [q0 5 0, qX 79 6 [.t 5]] [0,1,6] (.cond (.t 6) (qS [q 4 (.mv (.c (.int .u64 0)))] [4] .ret) .skip)) (qS [q0 7 0, q5 8 7, q3 9 2 8, q4 10 9, q0 11 1, q 12 (.lk false .str (.int .u64) false (.t
 10) (.t 11)), q0 4 12] [4] .ret))
def r49 : List RT := [.t 4]
def a25 : AS := qS [q 8 (.mv (.c (.int .u64 0))), q 9 (.mv (qI 0))] [0,1,2,3] (.seq (qS [q0 11 1, qX 82 12 [.t 11], q 13 (.not (.t 12)), q0 14 13, q2 15 3 14, qF 16 (.len .s (.t 15)) 14, qF 17 (.bin .gtr (.t 16) (qI 4)) 14, q 18 (.pick (.t 14) qt (.t 17))]
 [0,1,2,3,18] (.cond (.t 18) (qS [q 8 (.mv (.c (.int .u64 0))), q 9 (.mv (qI 1))] [8,9] .ret) .skip)) (.seq (qS [q0 19 0, q5 20 19, q3 21 1 20, q4 22 21, q 23 (.len .s (.t 22)), q 24 (.bin .geq (.t 23) (qI 32)), q0 25 24, q2 26 0 25, q2 27 1
 25, qF 28 (.call 83 [none, none] [.t 26, .t 27]) 25, qF 29 (.not (.t 28)) 25, q2 30 29 25, q1 31 0 30, qT 32 (.nck (.t 31)) 30, qT 33 (.fa 2 (.t 32)) 30, qT 34 (.ld (.t 33)) 30, qT 35 (.len .s (.t 34)) 30, qT 36 (.bin .geq (.t 35) (qI 64))
 30, qF 37 (.pick (.t 30) (.t 36) qf) 25, q 38 (.pick (.t 25) qt (.t 37))] [0,1,2,3,38] (.cond (.t 38) (qS [q 8 (.mv (.c (.int .u64 0))), q 9 (.mv (qI 6))] [8,9] .ret) .skip)) (qS [q0 39 0, q0 40 1, q 41 (.call 50 [none, none] [.t 39, .t
 40]), q 42 (.bin .add (.t 41) (.c (.int .u64 1))), q0 10 42] [0,1,2,3,10] (qS [q0 43 0, q0 44 1, q0 45 10, q 46 (.call 84 [none, none, none] [.t 43, .t 44, .t 45])] [0,1,2,3,10] (.seq (.regD [q0 47 0, q0 48 0, q5 49 48, q3 50 1 49, q4 51 50,
 q0 52 1, q0 53 0, q5 54 53, q3 55 0 54, q4 56 55, q0 57 10, q0 58 2, q0 59 3, q 60 (.bld [qE, .int .u64 0, .int .i64 0, .nils] [(0, 1, (.t 56)), (1, 1, (.t 57)), (2, 1, (.t 58)), (3, 1, (.t 59))]), qX 78 61 [.t 60], q 62 (.bld [qE, qE, .int
 .u64 0, .int .i64 0, .nils] [(0, 1, (.t 52)), (1, 4, (.t 61))]), q 63 (.bsl 72 (.pair .str qD) 1 [(0, (.t 62))]), q 64 (.app 72 (.pair .str qD) (.t 51) (.t 63)), q5 65 47, q3 66 1 65, q6 1 66 64] [.q 0, .q 1, .q 2, .q 3, .q 4, .q 5, .q 6, .q
 7, .q 8, .q 9, .q 10, .q 11, .q 12, .q 13, .e 14 [0,1,2,3,4,5], .q 15, .e 16 [0,1,2,3,4], .e 17 [0], .q 18, .q 19, .e 20 []] [10]) (qS [q0 67 10, q0 8 67, q 9 (.mv (qI 0))] [8,9] .ret))))))
def r25 : List RT := [.t 8, .t 9]
def a71 : AS := qS [q 2 (.mv (.c (.nilp))), q 3 (.mv (qI 0))] [0] (.seq (qS [q0 4 0, qX 80 5 [.t 4], q 6 (.not (.t 5))] [0,6] (.cond (.t 6) (qS [q 2 (.mv (.c (.nilp))), q 3 (.mv (qI 1))] [2,3] (.lift 2 (some 1) 72 (.pair .str qD) .ret)) .skip)) (qS [q0 7 0,
 q 8 (.mkm false .str (.int .u64)), q 9 (.bld [qE, .nils, .nilm] [(0, 1, (.t 7)), (2, 1, (.t 8))]), q 10 (.box (.t 9)), q0 2 10, q 3 (.mv (qI 0))] [2,3] (.lift 2 (some 1) 72 (.pair .str qD) .ret)))
def r71 : List RT := [.t 2, .t 3]
def a102 : AS := qS [q 2 (.mv (.c (qE)))] [0] (.seq (qS [q0 3 0, q 4 (.eqn false .p (.t 3) (.c (.nilp)))] [0,4] (.cond (.t 4) (qS [q 2 (.mv (.c (qE)))] [2] .ret) .skip)) (qS [q0 5 0, q5 6 5, q3 7 0 6, q4 8 7, q0 2 8] [2] .ret))
def r102 : List RT := [.t 2]
def a74 : AS := qS [q 1 (.box (.t 0)), q 2 (.mv qf)] [1] (qS [q3 3 0 1, q4 4 3, q 5 (.len .i (.t 4)), q 6 (.bin .leq (.t 5) (qI 40)), q0 7 6, qT 8 (.fa 3 (.t 1)) 7, qT 9 (.ld (.t 8)) 7, qT 10 (.len .s (.t 9)) 7, qT 11 (.bin .leq (.t 10) (qI 4)) 7, q 12
 (.pick (.t 7) (.t 11) qf), q0 2 12] [2] .ret)
def r74 : List RT := [.t 2]
def a75 : AS := qS [q 1 (.box (.t 0)), q 2 (.alc [qE, .int .u64 0, .int .i64 0, .nils])] [1,2] (qS [q3 3 3 1, q4 4 3, qX 81 5 [.t 4], q3 6 3 1, q6 1 6 5] [1,2] (qS [q 7 (.ldA 4 (.t 1)), q6 4 2 7] [2] .ret))
def r75 : List RT := [.c 2 (some 4)]
def a79 : AS := qS [q 2 (.mv qf)] [0] (qS [q0 3 0, q 4 (.eqn false .p (.t 3) (.c (.nilp))), q0 5 4, q2 6 0 5, qF 7 (.nck (.t 6)) 5, qF 8 (.fa 0 (.t 7)) 5, qF 9 (.ld (.t 8)) 5, qF 10 (.bin .eql (.t 9) (.c (qE))) 5, q 11 (.pick (.t 5) qt (.t 10)), q0 2 11]
 [2] .ret)
def r79 : List RT := [.t 2]
def a80 : AS := qS [q 2 (.mv qf)] [0] (qS [q0 3 0, q 4 (.bin .neq (.t 3) (.c (qE))), q0 5 4, q1 6 0 5, qT 7 (.len .i (.t 6)) 5, qT 8 (.bin .leq (.t 7) (qI 40)) 5, q 9 (.pick (.t 5) (.t 8) qf), q0 2 9] [2] .ret)
def r80 : List RT := [.t 2]
def a81 : AS := qS [q 2 (.mv (.c (.nils)))] [0] (.seq (qS [q0 3 0, q 4 (.isn false (.t 3))] [0,4] (.cond (.t 4) (qS [q 2 (.mv (.c (.nils)))] [2] (.lift 2 none 8 (.int .i64) .ret)) .skip)) (qS [q 5 (.bsl 8 (.int .i64) 0 []), q0 6 0, q 7 (.app 8 (.int .i64)
 (.t 5) (.t 6)), q0 2 7] [2] (.lift 2 none 8 (.int .i64) .ret)))
def r81 : List RT := [.t 2]
def a76 : AS := qS [q 2 (.mv (.c (.nilp))), q 3 (.mv (qI 0))] [0] (.seq (qS [q0 4 0, qX 82 5 [.t 4], q 6 (.not (.t 5))] [0,6] (.cond (.t 6) (qS [q 2 (.mv (.c (.nilp))), q 3 (.mv (qI 1))] [2,3] (.lift 2 (some 1) 72 (.pair .str qD) (.lift 2 (some 2) 24 (.pair
 .str (.int .u64)) .ret))) .skip)) (qS [q0 7 0, q 8 (.bld [qE, .nils, .nils] [(0, 1, (.t 7))]), q 9 (.box (.t 8)), q0 2 9, q 3 (.mv (qI 0))] [2,3] (.lift 2 (some 1) 72 (.pair .str qD) (.lift 2 (some 2) 24 (.pair .str (.int .u64)) .ret))))
def r76 : List RT := [.t 2, .t 3]
def a77 : AS := qS [q 1 (.box (.t 0)), q 2 (.mv qf)] [1] (qS [q3 3 0 1, q4 4 3, q 5 (.len .i (.t 4)), q 6 (.bin .leq (.t 5) (qI 40)), q0 7 6, qT 8 (.fa 3 (.t 1)) 7, qT 9 (.ld (.t 8)) 7, qT 10 (.len .s (.t 9)) 7, qT 11 (.bin .leq (.t 10) (qI 4)) 7, q 12
 (.pick (.t 7) (.t 11) qf), q0 2 12] [2] .ret)
def r77 : List RT := [.t 2]
def a78 : AS := qS [q 1 (.box (.t 0)), q 2 (.alc [qE, .int .u64 0, .int .i64 0, .nils])] [1,2] (qS [q 3 (.bsl 8 (.int .i64) 0 []), q3 4 3 1, q4 5 4, q 6 (.app 8 (.int .i64) (.t 3) (.t 5)), q3 7 3 1, q6 1 7 6] [1,2] (qS [q 8 (.ldA 4 (.t 1)), q6 4 2 8] [2]
 .ret))
def r78 : List RT := [.c 2 (some 4)]
def a83 : AS := qS [q 4 (.mv qf)] [0,1] (qS [q0 6 0, q0 7 1, q 8 (.call 104 [none, none] [.t 6, .t 7]), q0 5 8] [0,1,5] (qS [q0 9 5, q0 10 0, q5 11 10, q3 12 2 11, q4 13 12, q 14 (.len .s (.t 13)), q 15 (.bin .lss (.t 9) (.t 14)), q0 16 15, q1 17 0 16, qT
 18 (.nck (.t 17)) 16, qT 19 (.fa 2 (.t 18)) 16, qT 20 (.ld (.t 19)) 16, q1 21 5 16, qT 22 (.ia 2 (.t 20) (.t 21)) 16, qT 23 (.fa 0 (.t 22)) 16, qT 24 (.ld (.t 23)) 16, q1 25 1 16, qT 26 (.bin .eql (.t 24) (.t 25)) 16, q 27 (.pick (.t 16) (.t
 26) qf), q0 4 27] [4] .ret))
def r83 : List RT := [.t 4]
def a50 : AS := qS [q 4 (.mv (.c (.int .u64 0)))] [0,1] (.seq (qS [q0 5 0, q0 6 1, q 7 (.call 83 [none, none] [.t 5, .t 6]), q 8 (.not (.t 7))] [0,1,8] (.cond (.t 8) (qS [q 4 (.mv (.c (.int .u64 0)))] [4] .ret) .skip)) (.seq (.regD [q0 9 0, q5 10 9, q3 11 2
 10, q4 12 11, q0 13 0, q0 14 1, q 15 (.call 104 [none, none] [.t 13, .t 14]), q 16 (.ia 2 (.t 12) (.t 15)), q3 17 1 16, q4 18 17, q0 4 18] [.q 0, .q 1, .q 2, .q 3, .q 4, .q 5, .e 6 [0,1,2,3], .q 7, .q 8, .q 9, .q 10] [4]) .ret))
def r50 : List RT := [.t 4]
def a84 : AS := qS [q0 8 0, q0 9 1, q 10 (.call 104 [none, none] [.t 8, .t 9]), q0 6 10] [0,1,2,6] (.seq (qS [q0 11 0, q0 12 1, q 13 (.call 83 [none, none] [.t 11, .t 12])] [0,1,2,6,13] (.cond (.t 13) (qS [q0 14 0, q5 15 14, q3 16 2 15, q4 17 16, q0 18 6,
 q0 19 2, q 20 (.ia 2 (.t 17) (.t 18)), q3 21 1 20, q6 1 21 19] [] .ret) .skip)) (qS [q 7 (.mv (.c (.nils)))] [0,1,2,6,7] (qS [q0 22 7, q0 23 0, q5 24 23, q3 25 2 24, q4 26 25, q0 27 6, q 28 (.slR 2 (.t 26) none (some (.t 27))), q 29 (.app 24
 (.pair .str (.int .u64)) (.t 22) (.t 28)), q0 7 29] [0,1,2,6,7] (qS [q0 30 7, q0 31 1, q0 32 2, q 33 (.bld [qE, .int .u64 0] [(0, 1, (.t 31)), (1, 1, (.t 32))]), q 34 (.bsl 24 (.pair .str (.int .u64)) 1 [(0, (.t 33))]), q 35 (.app 24 (.pair
 .str (.int .u64)) (.t 30) (.t 34)), q0 7 35] [0,6,7] (.reg [q0 36 0, q0 37 7, q0 38 0, q5 39 38, q3 40 2 39, q4 41 40, q0 42 6, q 43 (.slR 2 (.t 41) (some (.t 42)) none), q 44 (.app 24 (.pair .str (.int .u64)) (.t 37) (.t 43)), q5 45 36, q3
 46 2 45, q6 1 46 44] [])))))
def r84 : List RT := [.w 2 0 2]
def a104 : AS := qS [q 4 (.mv (qI 0))] [0,1] (qS [q 5 (.mv (qI 0))] [0,1,5] (.seq (.block 0 (.lift 0 (some 1) 72 (.pair .str qD) (.lift 0 (some 2) 24 (.pair .str (.int .u64)) (.loop 1 [0,1,5] (.seq (qS [q0 6 5, q0 7 0, q5 8 7, q3 9 2 8, q4 10 9, q 11 (.len
 .s (.t 10)), q 12 (.bin .lss (.t 6) (.t 11)), q0 13 12, q1 14 0 13, qT 15 (.nck (.t 14)) 13, qT 16 (.fa 2 (.t 15)) 13, qT 17 (.ld (.t 16)) 13, q1 18 5 13, qT 19 (.ia 2 (.t 17) (.t 18)) 13, qT 20 (.fa 0 (.t 19)) 13, qT 21 (.ld (.t 20)) 13, q1
 22 1 13, qT 23 (.bin .lss (.t 21) (.t 22)) 13, q 24 (.pick (.t 13) (.t 23) qf)] [0,1,5,24] (.cond (.t 24) .skip (.exit 0))) (.block 1 (.reg [q0 25 5, q 26 (.bin .add (.t 25) (qI 1)), q0 5 26] [0,1,5]))))))) (qS [q0 27 5, q0 4 27] [4] .ret)))
def r104 : List RT := [.t 4]
theorem ok82 : okF Tryz.prog 82 a82 r82 1 = true := by decide +kernel
theorem ok24 : okF Tryz.prog 24 a24 r24 4 = true := by decide +kernel
theorem ok47 : okF Tryz.prog 47 a47 r47 1 = true := by decide +kernel
theorem ok49 : okF Tryz.prog 49 a49 r49 2 = true := by decide +kernel
theorem ok25 : okF Tryz.prog 25 a25 r25 4 = true := by decide +kernel
theorem ok71 : okF Tryz.prog 71 a71 r71 1 = true := by decide +kernel
theorem ok102 : okF Tryz.prog 102 a102 r102 1 = true := by decide +kernel
theorem ok74 : okF Tryz.prog 74 a74 r74 1 = true := by decide +kernel
theorem ok75 : okF Tryz.prog 75 a75 r75 1 = true := by decide +kernel
theorem ok79 : okF Tryz.prog 79 a79 r79 1 = true := by decide +kernel
theorem ok80 : okF Tryz.prog 80 a80 r80 1 = true := by decide +kernel
theorem ok81 : okF Tryz.prog 81 a81 r81 1 = true := by decide +kernel
theorem ok76 : okF Tryz.prog 76 a76 r76 1 = true := by decide +kernel
theorem ok77 : okF Tryz.prog 77 a77 r77 1 = true := by decide +kernel
theorem ok78 : okF Tryz.prog 78 a78 r78 1 = true := by decide +kernel
theorem ok83 : okF Tryz.prog 83 a83 r83 2 = true := by decide +kernel
theorem ok50 : okF Tryz.prog 50 a50 r50 2 = true := by decide +kernel
theorem ok84 : okF Tryz.prog 84 a84 r84 3 = true := by decide +kernel
theorem ok104 : okF Tryz.prog 104 a104 r104 2 = true := by decide +kernel
end Go.V
namespace Go.V
set_option linter.unusedSimpArgs false
set_option linter.unnecessarySimpa false
open Go.Proofs
def a58 : AS := qS [q 0 (.mv (.c (.nilp)))] [] (qS [q 1 (.bld [.nils] []), q 2 (.box (.t 1)), q0 0 2] [0] (.lift 0 (some 0) 1 .byte .ret))
def r58 : List RT := [.t 0]
def a59 : AS := .seq (qS [q0 6 0, q 7 (.eqn false .p (.t 6) (.c (.nilp)))] [0,1,7] (.cond (.t 7) .ret .skip)) (.seq (qS [q0 8 1, q 9 (.bin .lss (.t 8) (.c (.int .u64 248)))] [0,1,9] (.cond (.t 9) (qS [q0 10 0, q0 11 0, q5 12 11, q3 13 0 12, q4 14 13, q0 15
 1, q 16 (.cv .u8 (.t 15)), q 17 (.bsl 1 .byte 1 [(0, (.t 16))]), q 18 (.app 1 .byte (.t 14) (.t 17)), q5 19 10, q3 20 0 19, q6 1 20 18] [] .ret) .skip)) (qS [q0 21 1, qX 107 22 [.t 21], q 23 (.bin .add (.t 22) (qI 7)), q 24 (.bin .quo (.t
 23) (qI 8)), q0 4 24] [0,1,4] (qS [q0 25 0, q0 26 0, q5 27 26, q3 28 0 27, q4 29 28, q0 30 4, q 31 (.bin .add (qI 247) (.t 30)), q 32 (.cv .u8 (.t 31)), q 33 (.bsl 1 .byte 1 [(0, (.t 32))]), q 34 (.app 1 .byte (.t 29) (.t 33)), q5 35 25, q3
 36 0 35, q6 1 36 34] [0,1,4] (qS [q0 37 4, q 38 (.bin .sub (.t 37) (qI 1)), q0 5 38] [0,1,5] (.block 0 (.lift 0 (some 0) 1 .byte (.loop 1 [0,1,5] (.seq (qS [q0 39 5, q 40 (.bin .geq (.t 39) (qI 0))] [0,1,5,40] (.cond (.t 40) .skip (.exit
 0))) (.seq (.block 1 (.regD [q0 43 0, q0 44 0, q5 45 44, q3 46 0 45, q4 47 46, q0 48 1, q0 49 5, q 50 (.bin .mul (qI 8) (.t 49)), q 51 (.bin .shr (.t 48) (.t 50)), q 52 (.cv .u8 (.t 51)), q 53 (.bsl 1 .byte 1 [(0, (.t 52))]), q 54 (.app 1
 .byte (.t 47) (.t 53)), q5 55 43, q3 56 0 55, q6 1 56 54] [.q 0, .q 1, .q 2, .q 3, .q 4, .q 5, .q 6, .q 7, .q 8, .q 9, .e 10 [0,1,2,3,4], .e 11 [0], .q 12, .q 13, .e 14 []] [0,1,5])) (.reg [q0 41 5, q 42 (.bin .sub (.t 41) (qI 1)), q0 5 42]
 [0,1,5]))))))))))
def r59 : List RT := []
def a34 : AS := qS [q 2 (.mv (.c (.nils)))] [0] (.seq (qS [q0 10 0, qX 79 11 [.t 10]] [0,11] (.cond (.t 11) (qS [q 2 (.mv (.c (.nils)))] [2] (.lift 2 none 1 .byte .ret)) .skip)) (qS [q 12 (.call 58 [] []), q0 3 12] [0,3] (qS [q0 13 3, q0 14 0, q5 15 14, q3
 16 0 15, q4 17 16, q 18 (.call 62 [none, none] [.t 13, .t 17])] [0,3] (qS [q0 19 3, q0 20 0, q5 21 20, q3 22 2 21, q4 23 22, q 24 (.len .m (.t 23)), q 25 (.cv .u64 (.t 24)), q 26 (.call 59 [none, none] [.t 19, .t 25])] [0,3] (.seq (qS [q0 27
 0, q5 28 27, q3 29 2 28, q4 30 29, qX 96 31 [.t 30], qX 95 32 [.t 31], q 33 (.len .s (.t 32)), q 34 (.mv (qI 0))] [0,3,32,33,34] (.block 0 (.lift 0 (some 1) 72 (.pair .str qD) (.lift 3 (some 0) 1 .byte (.loop 1 [0,3,32,33,34] (qS [q 35 (.bin
 .lss (.t 34) (.t 33))] [0,3,32,33,34,35] (.seq (.cond (.t 35) .skip (.exit 0)) (.seq (.block 1 (qS [q 36 (.ia 1 (.t 32) (.t 34)), q4 37 36, q0 5 37] [0,3,5,32,33,34] (qS [q0 38 3, q0 39 5, q 40 (.call 62 [none, none] [.t 38, .t 39])]
 [0,3,5,32,33,34] (.reg [q0 41 3, q0 42 0, q5 43 42, q3 44 2 43, q4 45 44, q0 46 5, q 47 (.lk false .str (.int .u64) false (.t 45) (.t 46)), q 48 (.call 59 [none, none] [.t 41, .t 47])] [0,3,32,33,34])))) (.reg [q 49 (.bin .add (.t 34) (qI
 1)), q0 34 49] [0,3,32,33,34]))))))))) (qS [q0 50 3, q0 51 0, q5 52 51, q3 53 1 52, q4 54 53, q 55 (.len .s (.t 54)), q 56 (.cv .u64 (.t 55)), q 57 (.call 59 [none, none] [.t 50, .t 56])] [0,3] (.seq (qS [q0 58 0, q5 59 58, q3 60 1 59, q4 61
 60, q 62 (.len .s (.t 61)), q 63 (.mv (qI 0))] [3,61,62,63] (.block 2 (.lift 3 (some 0) 1 .byte (.loop 2 [3,61,62,63] (qS [q 64 (.bin .lss (.t 63) (.t 62))] [3,61,62,63,64] (.seq (.cond (.t 64) .skip (.exit 2)) (.seq (.block 3 (qS [q 65 (.ia
 5 (.t 61) (.t 63)), q 66 (.ldA 5 (.t 65)), q 7 (.alc [qE, qE, .int .u64 0, .int .i64 0, .nils]), q6 5 7 66] [3,7,61,62,63] (qS [q0 67 3, q3 68 0 7, q4 69 68, q 70 (.call 62 [none, none] [.t 67, .t 69])] [3,7,61,62,63] (qS [q3 72 1 7, q 73
 (.ldA 4 (.t 72)), qX 97 74 [.t 73], q0 71 74, q 75 (.ext (.t 71) 0), q 76 (.ext (.t 71) 1), q0 8 75, q0 9 76] [3,8,61,62,63] (.reg [q0 77 3, q0 78 8, q 79 (.b2s (.t 78)), q 80 (.call 62 [none, none] [.t 77, .t 79])] [3,61,62,63]))))) (.reg
 [q 81 (.bin .add (.t 63) (qI 1)), q0 63 81] [3,61,62,63])))))))) (qS [q0 82 3, qX 63 83 [.t 82], q0 2 83] [2] (.lift 2 none 1 .byte .ret)))))))))
def r34 : List RT := [.t 2]
def a62 : AS := qS [q0 4 0, q 5 (.eqn true .p (.t 4) (.c (.nilp)))] [0,1,5] (.cond (.t 5) (qS [q0 6 0, q0 7 1, q 8 (.len .i (.t 7)), q 9 (.cv .u64 (.t 8)), q 10 (.call 59 [none, none] [.t 6, .t 9])] [0,1] (.reg [q0 11 0, q0 12 0, q5 13 12, q3 14 0 13, q4 15
 14, q0 16 1, q 17 (.app 1 .byte (.t 15) (.t 16)), q5 18 11, q3 19 0 18, q6 1 19 17] [])) .skip)
def r62 : List RT := []
def a63 : AS := qS [q 2 (.mv (.c (.nils)))] [0] (.seq (qS [q0 3 0, q 4 (.eqn false .p (.t 3) (.c (.nilp)))] [0,4] (.cond (.t 4) (qS [q 2 (.mv (.c (.nils)))] [2] (.lift 2 none 1 .byte .ret)) .skip)) (qS [q 5 (.bsl 1 .byte 0 []), q0 6 0, q5 7 6, q3 8 0 7, q4
 9 8, q 10 (.app 1 .byte (.t 5) (.t 9)), q0 2 10] [2] (.lift 2 none 1 .byte .ret)))
def r63 : List RT := [.t 2]
def a105 : AS := qS [q 2 (.mv qf)] [0] (qS [q0 3 0, qX 79 4 [.t 3], q0 5 4, q2 6 0 5, qF 7 (.nck (.t 6)) 5, qF 8 (.fa 2 (.t 7)) 5, qF 9 (.ld (.t 8)) 5, qF 10 (.len .m (.t 9)) 5, qF 11 (.bin .eql (.t 10) (qI 0)) 5, q2 12 11 5, q1 13 0 12, qT 14 (.nck (.t 13))
 12, qT 15 (.fa 1 (.t 14)) 12, qT 16 (.ld (.t 15)) 12, qT 17 (.len .s (.t 16)) 12, qT 18 (.bin .eql (.t 17) (qI 0)) 12, qF 19 (.pick (.t 12) (.t 18) qf) 5, q 20 (.pick (.t 5) qt (.t 19)), q0 2 20] [2] .ret)
def r105 : List RT := [.t 2]
def a48 : AS := qS [q 2 (.mv (.c (.nils)))] [0] (qS [q 3 (.mv (.c (.nils)))] [0,3] (.seq (qS [q0 5 0, q5 6 5, q3 7 2 6, q4 8 7, q 9 (.len .s (.t 8)), q 10 (.mv (qI 0))] [0,3,9,10] (.block 0 (.lift 3 none 16 .str (.lift 0 (some 1) 72 (.pair .str qD) (.lift 0
 (some 2) 24 (.pair .str (.int .u64)) (.loop 1 [0,3,9,10] (qS [q 11 (.bin .lss (.t 10) (.t 9))] [0,3,9,10,11] (.seq (.cond (.t 11) .skip (.exit 0)) (.seq (.block 1 (qS [q0 12 10, q0 4 12] [0,3,4,9,10] (.reg [q0 13 3, q0 14 0, q5 15 14, q3 16
 2 15, q4 17 16, q0 18 4, q 19 (.ia 2 (.t 17) (.t 18)), q3 20 0 19, q4 21 20, q 22 (.bsl 16 .str 1 [(0, (.t 21))]), q 23 (.app 16 .str (.t 13) (.t 22)), q0 3 23] [0,3,9,10]))) (.reg [q 24 (.bin .add (.t 10) (qI 1)), q0 10 24]
 [0,3,9,10])))))))))) (qS [q0 25 3, q0 2 25] [2] (.lift 2 none 16 .str .ret))))
def r48 : List RT := [.t 2]
def a33 : AS := qS [q 2 (.mv (.c (.nilp))), q 3 (.mv (qI 0))] [0] (qS [q0 17 0, q 18 (.call 64 [(some (1, .byte))] [.t 17]), q0 4 18] [4] (qS [q0 20 4, qX 67 21 [.t 20], qX 71 22 [.t 21], q0 19 22, q 23 (.ext (.t 19) 0), q 24 (.ext (.t 19) 1), q0 5 23, q0 6
 24] [4,5,6] (qS [q0 25 4, qX 65 26 [.t 25], q0 7 26] [4,5,6,7] (.seq (qS [q0 27 6, q 28 (.bin .neq (.t 27) (qI 0)), q0 29 28, q2 30 7 29, qF 31 (.bin .gtr (.t 30) (.c (.int .u64 64))) 29, q 32 (.pick (.t 29) qt (.t 31))] [4,5,7,32] (.cond
 (.t 32) (qS [q 2 (.mv (.c (.nilp))), q 3 (.mv (qI 2))] [2,3] (.lift 2 (some 1) 72 (.pair .str qD) .ret)) .skip)) (qS [q 8 (.mv (.c (qE)))] [4,5,7,8] (.seq (qS [q0 33 7, q 34 (.mv (.c (.int .u64 0)))] [4,5,8,33,34] (.block 0 (.lift 4 (some 0)
 1 .byte (.lift 5 (some 1) 72 (.pair .str qD) (.loop 1 [4,5,8,33,34] (qS [q 35 (.bin .lss (.t 34) (.t 33))] [4,5,8,33,34,35] (.seq (.cond (.t 35) .skip (.exit 0)) (.seq (.block 1 (qS [q0 36 4, qX 67 37 [.t 36], q0 38 4, qX 65 39 [.t 38], q0 9
 37, q0 10 39] [4,5,8,9,10,33,34] (.seq (qS [q0 40 4, qX 93 41 [.t 40], q0 42 41, q2 43 9 42, qF 44 (.call 80 [none] [.t 43]) 42, qF 45 (.not (.t 44)) 42, q 46 (.pick (.t 42) qt (.t 45)), q0 47 46, q2 48 10 47, qF 49 (.bin .eql (.t 48) (.c
 (.int .u64 0))) 47, q 50 (.pick (.t 47) qt (.t 49)), q0 51 50, q2 52 9 51, q2 53 8 51, qF 54 (.bin .leq (.t 52) (.t 53)) 51, q 55 (.pick (.t 51) qt (.t 54))] [4,5,9,10,33,34,55] (.cond (.t 55) (qS [q 2 (.mv (.c (.nilp))), q 3 (.mv (qI 2))]
 [2,3] (.lift 2 (some 1) 72 (.pair .str qD) .ret)) .skip)) (qS [q0 56 9, q0 8 56] [4,5,8,9,10,33,34] (.reg [q0 57 5, q5 58 57, q3 59 2 58, q4 60 59, q0 61 9, q0 62 10, ⟨none, .mu false .str (.int .u64) (.t 60) (.t 61) (.t 62), none⟩]
 [4,5,8,33,34]))))) (.reg [q 63 (.bin .add (.t 34) (.c (.int .u64 1))), q0 34 63] [4,5,8,33,34]))))))))) (.seq (qS [q0 64 4, qX 65 65 [.t 64], q0 7 65] [4,5,7] (qS [q0 66 7, q 67 (.bin .gtr (.t 66) (.c (.int .u64 32)))] [4,5,7,67] (.cond (.t
 67) (qS [q 2 (.mv (.c (.nilp))), q 3 (.mv (qI 2))] [2,3] (.lift 2 (some 1) 72 (.pair .str qD) .ret)) .skip))) (qS [q 68 (.mkm false .str (.int .u64)), q0 11 68] [4,5,7,11] (.seq (qS [q0 69 7, q 70 (.mv (.c (.int .u64 0)))] [4,5,11,69,70]
 (.block 2 (.lift 4 (some 0) 1 .byte (.lift 5 (some 1) 72 (.pair .str qD) (.loop 2 [4,5,11,69,70] (qS [q 71 (.bin .lss (.t 70) (.t 69))] [4,5,11,69,70,71] (.seq (.cond (.t 71) .skip (.exit 2)) (.seq (.block 3 (qS [q0 72 4, qX 67 73 [.t 72],
 q0 12 73] [4,5,11,12,69,70] (qS [q0 75 4, qX 67 76 [.t 75], q 77 (.s2b (.t 76)), q 78 (.call 94 [(some (1, .byte))] [.t 77]), q0 74 78, q 79 (.ext (.t 74) 0), q 80 (.ext (.t 74) 1), q 13 (.alc [qE, .int .u64 0, .int .i64 0, .nils]), q6 4 13
 79, q0 14 80] [4,5,11,12,13,14,69,70] (.seq (.seq (.regD [q0 81 4, qX 93 82 [.t 81], q0 83 82, q2 84 14 83, qF 85 (.bin .neq (.t 84) (qI 0)) 83, q 86 (.pick (.t 83) qt (.t 85)), q0 87 86, qF 88 (.fa 0 (.t 13)) 87, qF 89 (.ld (.t 88)) 87, q2
 90 5 87, qF 91 (.nck (.t 90)) 87, qF 92 (.fa 0 (.t 91)) 87, qF 93 (.ld (.t 92)) 87, qF 94 (.bin .neq (.t 89) (.t 93)) 87, q 95 (.pick (.t 87) qt (.t 94)), q0 96 95, q2 97 5 96, qF 98 (.nck (.t 97)) 96, qF 99 (.fa 2 (.t 98)) 96, qF 100 (.ld
 (.t 99)) 96, q2 101 12 96, qF 102 (.lk false .str (.int .u64) false (.t 100) (.t 101)) 96, qF 103 (.bin .eql (.t 102) (.c (.int .u64 0))) 96, q 104 (.pick (.t 96) qt (.t 103))] [.q 0, .e 1 [], .q 2, .q 3, .q 4, .q 5, .q 6, .q 7, .q 8, .q 9,
 .q 10, .q 11, .q 12, .q 13, .q 14, .q 15, .q 16, .q 17, .q 18, .q 19, .q 20, .q 21, .q 22, .q 23] [4,5,11,12,13,69,70,104]) (.cond (.t 104) (qS [q 2 (.mv (.c (.nilp))), q 3 (.mv (qI 2))] [2,3] (.lift 2 (some 1) 72 (.pair .str qD) .ret))
 .skip)) (qS [q0 105 11, q0 106 12, q 107 (.lk false .str (.int .u64) false (.t 105) (.t 106)), q 108 (.bin .add (.t 107) (.c (.int .u64 1))), ⟨none, .mu false .str (.int .u64) (.t 105) (.t 106) (.t 108), none⟩] [4,5,11,12,13,69,70] (.regD
 [q0 109 5, q0 110 5, q5 111 110, q3 112 1 111, q4 113 112, q0 114 12, q 115 (.ldA 4 (.t 13)), q 116 (.bld [qE, qE, .int .u64 0, .int .i64 0, .nils] [(0, 1, (.t 114)), (1, 4, (.t 115))]), q 117 (.bsl 72 (.pair .str qD) 1 [(0, (.t 116))]), q
 118 (.app 72 (.pair .str qD) (.t 113) (.t 117)), q5 119 109, q3 120 1 119, q6 1 120 118] [.q 0, .q 1, .q 2, .q 3, .q 4, .q 5, .q 6, .q 7, .e 8 [0,1,2,3,4], .e 9 [0], .q 10, .q 11, .e 12 []] [4,5,11,69,70])))))) (.reg [q 121 (.bin .add (.t
 70) (.c (.int .u64 1))), q0 70 121] [4,5,11,69,70]))))))))) (.seq (qS [q0 122 5, q5 123 122, q3 124 1 123, q4 125 124, q 126 (.len .s (.t 125)), q 127 (.mv (qI 0))] [4,5,11,125,126,127] (.block 4 (.lift 4 (some 0) 1 .byte (.lift 5 (some 1)
 72 (.pair .str qD) (.loop 3 [4,5,11,125,126,127] (qS [q 128 (.bin .lss (.t 127) (.t 126))] [4,5,11,125,126,127,128] (.seq (.cond (.t 128) .skip (.exit 4)) (.seq (.block 5 (qS [q 129 (.ia 5 (.t 125) (.t 127)), q 130 (.ldA 5 (.t 129)), q 16
 (.alc [qE, qE, .int .u64 0, .int .i64 0, .nils]), q6 5 16 130] [4,5,11,16,125,126,127] (.seq (.seq (.regD [q0 131 11, q3 132 0 16, q4 133 132, q 134 (.lk false .str (.int .u64) false (.t 131) (.t 133)), q0 135 5, q5 136 135, q3 137 2 136, q4
 138 137, q3 139 0 16, q4 140 139, q 141 (.lk false .str (.int .u64) false (.t 138) (.t 140)), q 142 (.bin .gtr (.t 134) (.t 141)), q0 143 142, qF 144 (.fa 1 (.t 16)) 143, qF 145 (.fa 1 (.t 144)) 143, qF 146 (.ld (.t 145)) 143, q2 147 5 143,
 qF 148 (.nck (.t 147)) 143, qF 149 (.fa 2 (.t 148)) 143, qF 150 (.ld (.t 149)) 143, qF 151 (.fa 0 (.t 16)) 143, qF 152 (.ld (.t 151)) 143, qF 153 (.lk false .str (.int .u64) false (.t 150) (.t 152)) 143, q2 154 11 143, qF 155 (.fa 0 (.t 16))
 143, qF 156 (.ld (.t 155)) 143, qF 157 (.lk false .str (.int .u64) false (.t 154) (.t 156)) 143, qF 158 (.bin .sub (.t 153) (.t 157)) 143, qF 159 (.bin .add (.t 158) (.c (.int .u64 1))) 143, qF 160 (.bin .neq (.t 146) (.t 159)) 143, q 161
 (.pick (.t 143) qt (.t 160))] [.q 0, .q 1, .q 2, .q 3, .q 4, .q 5, .q 6, .q 7, .q 8, .q 9, .q 10, .q 11, .q 12, .q 13, .q 14, .q 15, .q 16, .q 17, .q 18, .q 19, .q 20, .q 21, .q 22, .q 23, .q 24, .q 25, .q 26, .q 27, .q 28, .q 29, .q 30]
 [4,5,11,16,125,126,127,161]) (.cond (.t 161) (qS [q 2 (.mv (.c (.nilp))), q 3 (.mv (qI 2))] [2,3] (.lift 2 (some 1) 72 (.pair .str qD) .ret)) .skip)) (.reg [q0 162 11, q3 163 0 16, q4 164 163, q 165 (.lk false .str (.int .u64) false (.t 162)
 (.t 164)), q 166 (.bin .sub (.t 165) (.c (.int .u64 1))), ⟨none, .mu false .str (.int .u64) (.t 162) (.t 164) (.t 166), none⟩] [4,5,11,125,126,127])))) (.reg [q 167 (.bin .add (.t 127) (qI 1)), q0 127 167] [4,5,11,125,126,127]))))))))) (.seq
 (qS [q0 168 4, qX 70 169 [.t 168], q 170 (.not (.t 169))] [5,170] (.cond (.t 170) (qS [q 2 (.mv (.c (.nilp))), q 3 (.mv (qI 2))] [2,3] (.lift 2 (some 1) 72 (.pair .str qD) .ret)) .skip)) (qS [q0 171 5, q0 2 171, q 3 (.mv (qI 0))] [2,3]
 (.lift 2 (some 1) 72 (.pair .str qD) .ret)))))))))))))
def r33 : List RT := [.t 2, .t 3]
def a106 : AS := qS [q 3 (.box (.t 1))] [0,3] (qS [q0 6 0, q3 7 0 3, q4 8 7, q 9 (.call 62 [none, none] [.t 6, .t 8])] [0,3] (qS [q0 10 0, q3 11 1 3, q4 12 11, q 13 (.call 59 [none, none] [.t 10, .t 12])] [0,3] (qS [q0 14 0, q3 15 2 3, q4 16 15, q 17 (.call
 108 [none, none] [.t 14, .t 16])] [0,3] (qS [q0 18 0, q3 19 3 3, q4 20 19, q 21 (.len .s (.t 20)), q 22 (.cv .u64 (.t 21)), q 23 (.call 59 [none, none] [.t 18, .t 22])] [0,3] (qS [q3 24 3 3, q4 25 24, q 26 (.len .s (.t 25)), q 27 (.mv (qI
 0))] [0,25,26,27] (.block 0 (.lift 0 (some 0) 1 .byte (.loop 1 [0,25,26,27] (qS [q 28 (.bin .lss (.t 27) (.t 26))] [0,25,26,27,28] (.seq (.cond (.t 28) .skip (.exit 0)) (.seq (.block 1 (qS [q 29 (.ia 1 (.t 25) (.t 27)), q4 30 29, q0 5 30]
 [0,5,25,26,27] (.reg [q0 31 0, q0 32 5, q 33 (.call 108 [none, none] [.t 31, .t 32])] [0,25,26,27]))) (.reg [q 34 (.bin .add (.t 27) (qI 1)), q0 27 34] [0,25,26,27]))))))))))))
def r106 : List RT := []
def a107 : AS := qS [q 2 (.mv (qI 0))] [0,2] (.seq (qS [q0 3 0, q 4 (.bin .geq (.t 3) (.c (.int .u64 4294967296)))] [0,2,4] (.cond (.t 4) (qS [q0 5 0, q 6 (.bin .shr (.t 5) (.c (.int .u64 32))), q0 0 6] [0] (.reg [q 2 (.mv (qI 32))] [0,2])) .skip)) (.seq (qS
 [q0 7 0, q 8 (.bin .geq (.t 7) (.c (.int .u64 65536)))] [0,2,8] (.cond (.t 8) (qS [q0 9 0, q 10 (.bin .shr (.t 9) (.c (.int .u64 16))), q0 0 10] [0,2] (.reg [q0 11 2, q 12 (.bin .add (.t 11) (qI 16)), q0 2 12] [0,2])) .skip)) (.seq (qS [q0
 13 0, q 14 (.bin .geq (.t 13) (.c (.int .u64 256)))] [0,2,14] (.cond (.t 14) (qS [q0 15 0, q 16 (.bin .shr (.t 15) (.c (.int .u64 8))), q0 0 16] [0,2] (.reg [q0 17 2, q 18 (.bin .add (.t 17) (qI 8)), q0 2 18] [0,2])) .skip)) (qS [q0 19 2, q0
 20 0, q 21 (.cv .u8 (.t 20)), q 22 (.ixS (.c (.str
 ⟨#[0,1,2,2,3,3,3,3,4,4,4,4,4,4,4,4,5,5,5,5,5,5,5,5,5,5,5,5,5,5,5,5,6,6,6,6,6,6,6,6,6,6,6,6,6,6,6,6,6,6,6,6,6,6,6,6,6,6,6,6,6,6,6,6,7,7,7,7,7,7,7,7,7,7,7,7,7,7,7,7,7,7,7,7,7,7,7,7,7,7,7,7,7,7,7,7,7,7,7,7,7,7,7,7,7,7,7,7,7,7,7,7,7,7,7,7,7,7,7,7,7,7,7,7,7,7,7,7,8,8,8,8,8,8,8,8,8,8,8,8,8,8,8,8,8,8,8,8,8,8,8,8,8,8,8,8,8,8,8,8,8,8,8,8,8,8,8,8,8,8,8,8,8,8,8,8,8,8,8,8,8,8,8,8,8,8,8,8,8,8,8,8,8,8,8,8,8,8,8,8,8,8,8,8,8,8,8,8,8,8,8,8,8,8,8,8,8,8,8,8,8,8,8,8,8,8,8,8,8,8,8,8,8,8,8,8,8,8,8,8,8,8,8,8,8,8,8,8,8,8,8,8,8,8,8,8]⟩))
 (.t 21)), q 23 (.cv .i64 (.t 22)), q 24 (.bin .add (.t 19) (.t 23)), q0 2 24] [2] .ret))))
def r107 : List RT := [.t 2]
def a108 : AS := .reg [q0 4 0, q0 5 1, q 6 (.cv .u64 (.t 5)), q 7 (.bin .shl (.t 6) (.c (.int .u64 1))), q0 8 1, q 9 (.bin .shr (.t 8) (.c (.int .u64 63))), q 10 (.cv .u64 (.t 9)), q 11 (.bin .xor (.t 7) (.t 10)), q 12 (.call 59 [none, none] [.t 4, .t 11])]
 []
def r108 : List RT := []
def a96 : AS := qS [q 1 (.box (.t 0)), q 2 (.mv (.c (.nilf)))] [1] (qS [q 3 (.mkf 124 [.t 1]), q0 2 3] [2] .ret)
def r96 : List RT := [.t 2]
def a97 : AS := qS [q 1 (.box (.t 0)), q 2 (.mv (.c (.nils))), q 3 (.mv (qI 0))] [1] (.seq (qS [q 5 (.ldA 4 (.t 1)), qX 74 6 [.t 5], q 7 (.not (.t 6))] [1,7] (.cond (.t 7) (qS [q 2 (.mv (.c (.nils))), q 3 (.mv (qI 1))] [2,3] (.lift 2 none 1 .byte .ret))
 .skip)) (qS [q 8 (.call 58 [] []), q0 4 8] [1,4] (qS [q0 9 4, q 10 (.ldA 4 (.t 1)), q 11 (.call 106 [none, none] [.t 9, .t 10])] [4] (qS [q0 12 4, qX 63 13 [.t 12], q0 2 13, q 3 (.mv (qI 0))] [2,3] (.lift 2 none 1 .byte .ret)))))
def r97 : List RT := [.t 2, .t 3]
def a64 : AS := qS [q 2 (.mv (.c (.nilp)))] [0] (qS [q 3 (.bsl 1 .byte 0 []), q0 4 0, q 5 (.app 1 .byte (.t 3) (.t 4)), q 6 (.bld [.nils, .bool false] [(0, 1, (.t 5))]), q 7 (.box (.t 6)), q0 2 7] [2] (.lift 2 (some 0) 1 .byte (.lift 2 (some 0) 1 .byte
 .ret)))
def r64 : List RT := [.t 2, .f 2]
def a67 : AS := qS [q 2 (.mv (.c (qE)))] [0] (qS [q0 5 0, qX 65 6 [.t 5], q0 3 6] [0,3] (.seq (qS [q0 7 0, q 8 (.eqn false .p (.t 7) (.c (.nilp))), q0 9 8, q2 10 0 9, qF 11 (.nck (.t 10)) 9, qF 12 (.fa 1 (.t 11)) 9, qF 13 (.ld (.t 12)) 9, q 14 (.pick (.t 9)
 qt (.t 13))] [0,3,14] (.cond (.t 14) (qS [q 2 (.mv (.c (qE)))] [0,2] (.lift 0 (some 0) 1 .byte .ret)) .skip)) (.seq (qS [q0 15 3, q0 16 0, q5 17 16, q3 18 0 17, q4 19 18, q 20 (.len .s (.t 19)), q 21 (.cv .u64 (.t 20)), q 22 (.bin .gtr (.t
 15) (.t 21))] [0,3,22] (.cond (.t 22) (qS [q0 23 0, qX 109 24 [.t 23]] [0] (qS [q 2 (.mv (.c (qE)))] [0,2] (.lift 0 (some 0) 1 .byte .ret))) .skip)) (qS [q0 25 0, q5 26 25, q3 27 0 26, q4 28 27, q0 29 3, q 30 (.slR 1 (.t 28) none (some (.t
 29))), q 31 (.b2s (.t 30)), q0 4 31] [0,3,4] (qS [q0 32 0, q0 33 0, q5 34 33, q3 35 0 34, q4 36 35, q0 37 3, q 38 (.slR 1 (.t 36) (some (.t 37)) none), q5 39 32, q3 40 0 39, q6 1 40 38] [0,4] (qS [q0 41 4, q0 2 41] [0,2] (.lift 0 (some 0) 1
 .byte .ret)))))))
def r67 : List RT := [.t 2, .f 0]
def a65 : AS := qS [q 2 (.mv (.c (.int .u64 0)))] [0] (.seq (qS [q0 8 0, q 9 (.eqn false .p (.t 8) (.c (.nilp))), q0 10 9, q2 11 0 10, qF 12 (.nck (.t 11)) 10, qF 13 (.fa 1 (.t 12)) 10, qF 14 (.ld (.t 13)) 10, q 15 (.pick (.t 10) qt (.t 14))] [0,15] (.cond
 (.t 15) (qS [q 2 (.mv (.c (.int .u64 0)))] [0,2] (.lift 0 (some 0) 1 .byte .ret)) .skip)) (.seq (qS [q0 16 0, q5 17 16, q3 18 0 17, q4 19 18, q 20 (.len .s (.t 19)), q 21 (.bin .eql (.t 20) (qI 0))] [0,21] (.cond (.t 21) (qS [q0 22 0, qX 109
 23 [.t 22]] [0] (qS [q 2 (.mv (.c (.int .u64 0)))] [0,2] (.lift 0 (some 0) 1 .byte .ret))) .skip)) (qS [q0 24 0, q5 25 24, q3 26 0 25, q4 27 26, q 28 (.ia 1 (.t 27) (qI 0)), q4 29 28, q0 3 29] [0,3] (.seq (qS [q0 30 3, q 31 (.bin .lss (.t
 30) (.c (.int .u8 248)))] [0,3,31] (.cond (.t 31) (qS [q0 32 0, q0 33 0, q5 34 33, q3 35 0 34, q4 36 35, q 37 (.slR 1 (.t 36) (some (qI 1)) none), q5 38 32, q3 39 0 38, q6 1 39 37] [0,3] (qS [q0 40 3, q 41 (.cv .u64 (.t 40)), q0 2 41] [0,2]
 (.lift 0 (some 0) 1 .byte .ret))) .skip)) (qS [q0 42 3, q 43 (.cv .i64 (.t 42)), q 44 (.bin .sub (.t 43) (qI 247)), q0 4 44] [0,4] (.seq (qS [q0 45 4, q0 46 0, q5 47 46, q3 48 0 47, q4 49 48, q 50 (.len .s (.t 49)), q 51 (.bin .sub (.t 50)
 (qI 1)), q 52 (.bin .gtr (.t 45) (.t 51))] [0,4,52] (.cond (.t 52) (qS [q0 53 0, qX 109 54 [.t 53]] [0] (qS [q 2 (.mv (.c (.int .u64 0)))] [0,2] (.lift 0 (some 0) 1 .byte .ret))) .skip)) (qS [q 5 (.mv (.c (.int .u64 0)))] [0,4,5] (.seq (qS
 [q0 55 0, q5 56 55, q3 57 0 56, q4 58 57, q0 59 4, q 60 (.bin .add (qI 1) (.t 59)), q 61 (.slR 1 (.t 58) (some (qI 1)) (some (.t 60))), q 62 (.len .s (.t 61)), q 63 (.mv (qI 0))] [0,4,5,61,62,63] (.block 0 (.lift 0 (some 0) 1 .byte (.loop 1
 [0,4,5,61,62,63] (qS [q 64 (.bin .lss (.t 63) (.t 62))] [0,4,5,61,62,63,64] (.seq (.cond (.t 64) .skip (.exit 0)) (.seq (.block 1 (qS [q 65 (.ia 1 (.t 61) (.t 63)), q4 66 65, q0 7 66] [0,4,5,7,61,62,63] (.reg [q0 67 5, q 68 (.bin .shl (.t
 67) (.c (.int .u64 8))), q0 69 7, q 70 (.cv .u64 (.t 69)), q 71 (.bin .or (.t 68) (.t 70)), q0 5 71] [0,4,5,61,62,63]))) (.reg [q 72 (.bin .add (.t 63) (qI 1)), q0 63 72] [0,4,5,61,62,63])))))))) (.seq (qS [q0 73 5, q 74 (.bin .lss (.t 73)
 (.c (.int .u64 248))), q0 75 74, q2 76 0 75, qF 77 (.nck (.t 76)) 75, qF 78 (.fa 0 (.t 77)) 75, qF 79 (.ld (.t 78)) 75, qF 80 (.ia 1 (.t 79) (qI 1)) 75, qF 81 (.ld (.t 80)) 75, qF 82 (.bin .eql (.t 81) (.c (.int .u8 0))) 75, q 83 (.pick (.t
 75) qt (.t 82))] [0,4,5,83] (.cond (.t 83) (qS [q0 84 0, qX 109 85 [.t 84]] [0] (qS [q 2 (.mv (.c (.int .u64 0)))] [0,2] (.lift 0 (some 0) 1 .byte .ret))) .skip)) (qS [q0 86 0, q0 87 0, q5 88 87, q3 89 0 88, q4 90 89, q0 91 4, q 92 (.bin
 .add (qI 1) (.t 91)), q 93 (.slR 1 (.t 90) (some (.t 92)) none), q5 94 86, q3 95 0 94, q6 1 95 93] [0,5] (qS [q0 96 5, q0 2 96] [0,2] (.lift 0 (some 0) 1 .byte .ret))))))))))))
def r65 : List RT := [.t 2, .f 0]
def a93 : AS := qS [q 2 (.mv qf)] [0] (qS [q0 3 0, q 4 (.eqn true .p (.t 3) (.c (.nilp))), q0 5 4, q1 6 0 5, qT 7 (.nck (.t 6)) 5, qT 8 (.fa 1 (.t 7)) 5, qT 9 (.ld (.t 8)) 5, q 10 (.pick (.t 5) (.t 9) qf), q0 2 10] [2] .ret)
def r93 : List RT := [.t 2]
def a94 : AS := qS [q 2 (.alc [qE, .int .u64 0, .int .i64 0, .nils]), q 3 (.mv (qI 0))] [0,2] (qS [q0 7 0, q 8 (.call 64 [(some (1, .byte))] [.t 7]), q0 4 8] [2,4] (qS [q0 10 4, qX 112 11 [.t 10], q0 9 11, q 12 (.ext (.t 9) 0), q 13 (.ext (.t 9) 1), q 5
 (.alc [qE, .int .u64 0, .int .i64 0, .nils]), q6 4 5 12, q0 6 13] [2,4,5,6] (.seq (qS [q0 14 6, q 15 (.not (.t 14)), q0 16 15, q2 17 4 16, qF 18 (.call 70 [none] [.t 17]) 16, qF 19 (.not (.t 18)) 16, q 20 (.pick (.t 16) qt (.t 19))] [2,5,20]
 (.cond (.t 20) (qS [q 21 (.bld [qE, .int .u64 0, .int .i64 0, .nils] []), q6 4 2 21, q 3 (.mv (qI 2))] [2,3] .ret) .skip)) (qS [q 22 (.ldA 4 (.t 5)), q6 4 2 22, q 3 (.mv (qI 0))] [2,3] .ret))))
def r94 : List RT := [.c 2 (some 4), .t 3]
def a70 : AS := qS [q 2 (.mv qf)] [0] (qS [q0 3 0, q 4 (.eqn true .p (.t 3) (.c (.nilp))), q0 5 4, q1 6 0 5, qT 7 (.nck (.t 6)) 5, qT 8 (.fa 1 (.t 7)) 5, qT 9 (.ld (.t 8)) 5, qT 10 (.not (.t 9)) 5, q 11 (.pick (.t 5) (.t 10) qf), q0 12 11, q1 13 0 12, qT 14
 (.nck (.t 13)) 12, qT 15 (.fa 0 (.t 14)) 12, qT 16 (.ld (.t 15)) 12, qT 17 (.len .s (.t 16)) 12, qT 18 (.bin .eql (.t 17) (qI 0)) 12, q 19 (.pick (.t 12) (.t 18) qf), q0 2 19] [2] .ret)
def r70 : List RT := [.t 2]
def a109 : AS := .reg [q0 2 0, q0 3 0, q5 4 2, q3 5 0 4, ⟨none, .st 1 (.t 5) (.c (.nils)), none⟩, q5 6 3, q3 7 1 6, ⟨none, .st 1 (.t 7) qt, none⟩] []
def r109 : List RT := []
def a112 : AS := qS [q 2 (.alc [qE, .int .u64 0, .int .i64 0, .nils]), q 3 (.mv qf)] [0,2] (qS [q0 5 0, qX 67 6 [.t 5], q0 7 0, qX 65 8 [.t 7], q0 9 0, qX 110 10 [.t 9], q3 11 0 2, q6 1 11 6, q3 12 1 2, q6 1 12 8, q3 13 2 2, q6 1 13 10] [0,2] (qS [q0 14 0,
 qX 65 15 [.t 14], q0 4 15] [0,2,4] (.seq (qS [q0 16 4, q 17 (.bin .gtr (.t 16) (.c (.int .u64 4)))] [0,2,4,17] (.cond (.t 17) (qS [q 18 (.bld [qE, .int .u64 0, .int .i64 0, .nils] []), q6 4 2 18, q 3 (.mv qf)] [2,3] .ret) .skip)) (.seq (qS
 [q0 19 4, q 20 (.mv (.c (.int .u64 0)))] [0,2,19,20] (.block 0 (.lift 0 (some 0) 1 .byte (.lift 2 (some 3) 8 (.int .i64) (.loop 1 [0,2,19,20] (qS [q 21 (.bin .lss (.t 20) (.t 19))] [0,2,19,20,21] (.seq (.cond (.t 21) .skip (.exit 0)) (.seq
 (.block 1 (.regD [q3 22 3 2, q4 23 22, q0 24 0, qX 110 25 [.t 24], q 26 (.bsl 8 (.int .i64) 1 [(0, (.t 25))]), q 27 (.app 8 (.int .i64) (.t 23) (.t 26)), q3 28 3 2, q6 1 28 27] [.q 0, .q 1, .q 2, .e 3 [0,1], .e 4 [0,1], .e 5 [], .q 6, .e 7
 []] [0,2,19,20])) (.reg [q 29 (.bin .add (.t 20) (.c (.int .u64 1))), q0 20 29] [0,2,19,20]))))))))) (.seq (qS [q0 30 0, qX 93 31 [.t 30], q0 32 31, qF 33 (.ldA 4 (.t 2)) 32, qF 34 (.call 74 [none] [.t 33]) 32, qF 35 (.not (.t 34)) 32, q 36
 (.pick (.t 32) qt (.t 35))] [2,36] (.cond (.t 36) (qS [q 37 (.bld [qE, .int .u64 0, .int .i64 0, .nils] []), q6 4 2 37, q 3 (.mv qf)] [2,3] .ret) .skip)) (qS [q 38 (.ldA 4 (.t 2)), q6 4 2 38, q 3 (.mv qt)] [2,3] .ret))))))
def r112 : List RT := [.c 2 (some 4), .t 3]
def a110 : AS := qS [q 2 (.mv (qI 0))] [0] (qS [q0 4 0, qX 65 5 [.t 4], q0 3 5] [3] (qS [q0 6 3, q 7 (.bin .shr (.t 6) (.c (.int .u64 1))), q 8 (.cv .i64 (.t 7)), q0 9 3, q 10 (.bin .and (.t 9) (.c (.int .u64 1))), q 11 (.cv .i64 (.t 10)), q 12 (.neg (.t
 11)), q 13 (.bin .xor (.t 8) (.t 12)), q0 2 13] [2] .ret))
def r110 : List RT := [.t 2]
theorem ok58 : okF Tryz.prog 58 a58 r58 0 = true := by decide +kernel
theorem ok59 : okF Tryz.prog 59 a59 r59 2 = true := by decide +kernel
theorem ok34 : okF Tryz.prog 34 a34 r34 1 = true := by decide +kernel
theorem ok62 : okF Tryz.prog 62 a62 r62 2 = true := by decide +kernel
theorem ok63 : okF Tryz.prog 63 a63 r63 1 = true := by decide +kernel
theorem ok105 : okF Tryz.prog 105 a105 r105 1 = true := by decide +kernel
theorem ok48 : okF Tryz.prog 48 a48 r48 1 = true := by decide +kernel
theorem ok33 : okF Tryz.prog 33 a33 r33 1 = true := by decide +kernel
theorem ok106 : okF Tryz.prog 106 a106 r106 2 = true := by decide +kernel
theorem ok107 : okF Tryz.prog 107 a107 r107 1 = true := by decide +kernel
theorem ok108 : okF Tryz.prog 108 a108 r108 2 = true := by decide +kernel
theorem ok96 : okF Tryz.prog 96 a96 r96 1 = true := by decide +kernel
theorem ok97 : okF Tryz.prog 97 a97 r97 1 = true := by decide +kernel
theorem ok64 : okF Tryz.prog 64 a64 r64 1 = true := by decide +kernel
theorem ok67 : okF Tryz.prog 67 a67 r67 1 = true := by decide +kernel
theorem ok65 : okF Tryz.prog 65 a65 r65 1 = true := by decide +kernel
theorem ok93 : okF Tryz.prog 93 a93 r93 1 = true := by decide +kernel
theorem ok94 : okF Tryz.prog 94 a94 r94 1 = true := by decide +kernel
theorem ok70 : okF Tryz.prog 70 a70 r70 1 = true := by decide +kernel
theorem ok109 : okF Tryz.prog 109 a109 r109 1 = true := by decide +kernel
theorem ok112 : okF Tryz.prog 112 a112 r112 1 = true := by decide +kernel
theorem ok110 : okF Tryz.prog 110 a110 r110 1 = true := by decide +kernel
end Go.V
