/- A part of the proof layer, or functions of the given program in it: contracts and their proofs. -/
import Derived.Test.YthfkoeoaehkoaaaGreatDoorMN2
import Derived.Test.YthfkoeoaehkoaaaGreatDoorProg
import Derived.Shelf.Strings.Repeat
import Derived.Shelf.LaysM
import Derived.Test.YthfkoeoaehkoaaaGreatDoorMVza
namespace Go.V
set_option linter.unusedSimpArgs false
set_option linter.unnecessarySimpa false
open Go.Proofs
def a3 : AS := qS [q 2 (.mv qf)] [0] (.seq (qS [q 7 (.call 9 [] []), q 8 (.not (.t 7)), q0 9 8, q2 10 0 9, qF 11 (.len .i (.t 10)) 9, qF 12 (.bin .gtr (.t 11) (qI 5000)) 9, q 13 (.pick (.t 9) qt (.t 12))] [0,13] (.cond (.t 13) (qS [q 14 (.call 9 [] []), q0
 2 14] [2] .ret) .skip)) (qS [q0 16 0, qX 10 17 [.t 16], q0 15 17, q 18 (.ext (.t 15) 0), q 19 (.ext (.t 15) 1), q 3 (.alc [qE, .nils, .int .u64 0, .int .u64 0, .nils]), q6 5 3 18, q0 4 19] [0,3,4] (qS [q0 21 0, qX 11 22 [.t 21], q0 20 22, q
 23 (.ext (.t 20) 0), q 24 (.ext (.t 20) 1), q 5 (.alc [qE, .nils, .int .u64 0, .int .u64 0, .nils]), q6 5 5 23, q0 6 24] [3,4,5,6] (.seq (.regD [q 25 (.ldA 5 (.t 3)), qX 13 26 [.t 25], q 27 (.ldA 5 (.t 5)), q 28 (.call 12 [none, none] [.t
 26, .t 27]), q0 29 28, q1 30 4 29, q1 31 6 29, qT 32 (.bin .eql (.t 30) (.t 31)) 29, q 33 (.pick (.t 29) (.t 32) qf), q0 2 33] [.q 0, .q 2, .e 1 [2], .e 3 [], .q 4, .q 5, .q 6, .q 7, .q 8, .q 9] [2]) .ret))))
def r3 : List RT := [.t 2]
def a4 : AS := qS [q 2 (.mv qf)] [0] (.seq (qS [q 6 (.call 9 [] []), q 7 (.not (.t 6)), q0 8 7, q2 9 0 8, qF 10 (.len .i (.t 9)) 8, qF 11 (.bin .gtr (.t 10) (qI 5000)) 8, q 12 (.pick (.t 8) qt (.t 11))] [0,12] (.cond (.t 12) (qS [q 13 (.call 9 [] []), q0 2
 13] [2] .ret) .skip)) (qS [q0 15 0, qX 11 16 [.t 15], q0 14 16, q 17 (.ext (.t 14) 0), q 18 (.ext (.t 14) 1), q 3 (.alc [qE, .nils, .int .u64 0, .int .u64 0, .nils]), q6 5 3 17, q0 4 18] [0,4] (qS [q 5 (.mv (.c (.str
 ⟨#[101,114,114,111,114,32,49]⟩)))] [0,4,5] (.seq (qS [q0 19 4, q 20 (.bin .eql (.t 19) (qI 2))] [0,4,5,20] (.cond (.t 20) (.reg [q 5 (.mv (.c (.str ⟨#[101,114,114,111,114,32,50]⟩)))] [0,4,5]) .skip)) (.seq (qS [q0 21 4, q 22 (.bin .eql (.t
 21) (qI 4))] [0,5,22] (.cond (.t 22) (.reg [q 5 (.mv (.c (.str ⟨#[101,114,114,111,114,32,52]⟩)))] [0,5]) .skip)) (qS [q0 23 0, q 24 (.call 14 [none, none] [(.c (.nilp)), .t 23]), q0 25 5, q 26 (.bin .eql (.t 24) (.t 25)), q0 2 26] [2]
 .ret))))))
def r4 : List RT := [.t 2]
def a10 : AS := qS [q 2 (.alc [qE, .nils, .int .u64 0, .int .u64 0, .nils]), q 3 (.mv (qI 0))] [0,2] (.seq (qS [q0 12 0, q 13 (.len .i (.t 12)), q 14 (.bin .gtr (.t 13) (qI 1000))] [0,2,14] (.cond (.t 14) (qS [q 15 (.bld [qE, .nils, .int .u64 0, .int .u64
 0, .nils] []), q6 5 2 15, q 3 (.mv (qI 4))] [2,3] .ret) .skip)) (qS [q0 16 0, q 17 (.call 26 [none, none] [.t 16, (.c (.str ⟨#[32]⟩))]), q0 4 17] [2,4] (qS [q0 18 4, q 19 (.ia 1 (.t 18) (qI 0)), q4 20 19, q 21 (.bld [qE, .nils, .int .u64 0,
 .int .u64 0, .nils] [(0, 1, (.t 20))]), q 5 (.alc [qE, .nils, .int .u64 0, .int .u64 0, .nils]), q6 5 5 21] [2,4,5] (qS [q0 22 4, q 23 (.slR 1 (.t 22) (some (qI 1)) none), q0 4 23] [2,4,5] (qS [q3 25 0 5, q4 26 25, q0 27 4, q 28 (.len .s (.t
 27)), q 29 (.call 27 [none, none] [.t 26, .t 28]), q0 24 29, q 30 (.ext (.t 24) 0), q 31 (.ext (.t 24) 1), q0 6 30, q0 7 31] [2,4,5,6,7] (.seq (qS [q0 32 7, q 33 (.not (.t 32)), q0 34 33, q2 35 4 34, qF 36 (.len .s (.t 35)) 34, q2 37 6 34,
 qF 38 (.len .i (.t 37)) 34, qF 39 (.bin .neq (.t 36) (.t 38)) 34, q 40 (.pick (.t 34) qt (.t 39))] [2,4,5,6,40] (.cond (.t 40) (qS [q 41 (.bld [qE, .nils, .int .u64 0, .int .u64 0, .nils] []), q6 5 2 41, q 3 (.mv (qI 2))] [2,3] .ret) .skip))
 (.seq (qS [q0 42 4, q 43 (.len .s (.t 42)), q 44 (.mv (qI 0))] [2,5,6,42,43,44] (.block 0 (.lift 5 (some 1) 16 .str (.lift 5 (some 4) 8 (.int .i64) (.loop 1 [2,5,6,42,43,44] (qS [q 45 (.bin .lss (.t 44) (.t 43))] [2,5,6,42,43,44,45] (.seq
 (.cond (.t 45) .skip (.exit 0)) (.seq (.block 1 (qS [q0 46 44, q 47 (.ia 1 (.t 42) (.t 44)), q4 48 47, q0 8 46, q0 9 48] [2,5,6,8,9,42,43,44] (qS [q 10 (.mv (.c (qE)))] [2,5,6,8,9,10,42,43,44] (qS [q 11 (.mv (qI 0))] [2,5,6,8,9,10,42,43,44]
 (.seq (qS [q0 49 6, q0 50 8, q 51 (.ixS (.t 49) (.t 50))] [2,5,6,8,9,10,42,43,44,51] (.block 2 (qS [q 74 (.bin .eql (.t 51) (.c (.int .u8 99))), q0 73 74] [2,5,6,8,9,10,42,43,44,51,73] (.cond (.t 73) (.reg [q0 76 9, qX 28 77 [.t 76], q0 75
 77, q 78 (.ext (.t 75) 0), q 79 (.ext (.t 75) 1), q3 80 2 5, q6 1 80 78, q0 7 79] [2,5,6,7,42,43,44]) (qS [q 82 (.bin .eql (.t 51) (.c (.int .u8 115))), q0 81 82] [2,5,6,8,9,10,42,43,44,51,81] (.cond (.t 81) (.reg [q0 84 9, qX 28 85 [.t 84],
 q0 83 85, q 86 (.ext (.t 83) 0), q 87 (.ext (.t 83) 1), q3 88 3 5, q6 1 88 86, q0 7 87] [2,5,6,7,42,43,44]) (qS [q 90 (.bin .eql (.t 51) (.c (.int .u8 105))), q0 89 90] [2,5,6,8,9,10,42,43,44,89] (.cond (.t 89) (qS [q0 92 9, qX 29 93 [.t
 92], q0 91 93, q 94 (.ext (.t 91) 0), q 95 (.ext (.t 91) 1), q0 11 94, q0 7 95] [2,5,6,7,11,42,43,44] (.reg [q3 96 4 5, q4 97 96, q0 98 11, q 99 (.bsl 8 (.int .i64) 1 [(0, (.t 98))]), q 100 (.app 8 (.int .i64) (.t 97) (.t 99)), q3 101 4 5,
 q6 1 101 100] [2,5,6,7,42,43,44])) (.seq (qS [q0 52 6, q0 53 8, q 54 (.ixS (.t 52) (.t 53)), q 55 (.bin .eql (.t 54) (.c (.int .u8 110))), q0 56 55, q1 57 9 56, qT 58 (.bin .eql (.t 57) (.c (.str ⟨#[45]⟩))) 56, q 59 (.pick (.t 56) (.t 58)
 qf), q0 7 59] [2,5,6,7,9,10,42,43,44] (qS [q0 60 7, q 61 (.not (.t 60))] [2,5,6,7,9,10,42,43,44,61] (.cond (.t 61) (.reg [q0 63 9, qX 30 64 [.t 63], q0 62 64, q 65 (.ext (.t 62) 0), q 66 (.ext (.t 62) 1), q0 10 65, q0 7 66]
 [2,5,6,7,10,42,43,44]) .skip))) (.reg [q3 67 1 5, q4 68 67, q0 69 10, q 70 (.bsl 16 .str 1 [(0, (.t 69))]), q 71 (.app 16 .str (.t 68) (.t 70)), q3 72 1 5, q6 1 72 71] [2,5,6,7,42,43,44])))))))))) (qS [q0 102 7, q 103 (.not (.t 102))]
 [2,5,6,42,43,44,103] (.cond (.t 103) (qS [q 104 (.bld [qE, .nils, .int .u64 0, .int .u64 0, .nils] []), q6 5 2 104, q 3 (.mv (qI 2))] [2,3] .ret) .skip))))))) (.reg [q 105 (.bin .add (.t 44) (qI 1)), q0 44 105] [2,5,6,42,43,44])))))))))
 (.seq (.frz 5 (.reg [q 106 (.ldA 5 (.t 5)), q6 5 2 106, q 3 (.mv (qI 0))] [2,3])) .ret))))))))
def r10 : List RT := [.c 2 (some 5), .t 3]
def a12 : AS := qS [q 2 (.box (.t 0)), q 3 (.box (.t 1)), q 4 (.mv qf)] [2,3] (qS [q3 5 0 2, q4 6 5, q3 7 0 3, q4 8 7, q 9 (.bin .eql (.t 6) (.t 8)), q0 10 9, qT 11 (.fa 2 (.t 2)) 10, qT 12 (.ld (.t 11)) 10, qT 13 (.fa 2 (.t 3)) 10, qT 14 (.ld (.t 13)) 10,
 qT 15 (.bin .eql (.t 12) (.t 14)) 10, q 16 (.pick (.t 10) (.t 15) qf), q0 17 16, qT 18 (.fa 3 (.t 2)) 17, qT 19 (.ld (.t 18)) 17, qT 20 (.fa 3 (.t 3)) 17, qT 21 (.ld (.t 20)) 17, qT 22 (.bin .eql (.t 19) (.t 21)) 17, q 23 (.pick (.t 17) (.t
 22) qf), q0 24 23, qT 25 (.fa 1 (.t 2)) 24, qT 26 (.ld (.t 25)) 24, qT 27 (.fa 1 (.t 3)) 24, qT 28 (.ld (.t 27)) 24, qT 29 (.call 34 [none, none] [.t 26, .t 28]) 24, q 30 (.pick (.t 24) (.t 29) qf), q0 31 30, qT 32 (.fa 4 (.t 2)) 31, qT 33
 (.ld (.t 32)) 31, qT 34 (.fa 4 (.t 3)) 31, qT 35 (.ld (.t 34)) 31, qT 36 (.call 35 [(some (8, (.int .i64))), (some (8, (.int .i64)))] [.t 33, .t 35]) 31, q 37 (.pick (.t 31) (.t 36) qf), q0 4 37] [4] .ret)
def r12 : List RT := [.t 4]
def a13 : AS := qS [q 1 (.box (.t 0)), q 2 (.alc [qE, .nils, .int .u64 0, .int .u64 0, .nils])] [1,2] (qS [q3 3 0 1, q4 4 3, q3 5 1 1, q4 6 5, q3 7 2 1, q4 8 7, q3 9 3 1, q4 10 9, q3 11 4 1, q4 12 11, q 13 (.bld [qE, .nils, .int .u64 0, .int .u64 0, .nils]
 [(0, 1, (.t 4)), (1, 1, (.t 6)), (2, 1, (.t 8)), (3, 1, (.t 10)), (4, 1, (.t 12))]), q6 5 2 13] [2] .ret)
def r13 : List RT := [.c 2 (some 5)]
def a27 : AS := qS [q 4 (.mv (.c (qE))), q 5 (.mv qf)] [0,1] (.seq (qS [q0 6 0] [1,6] (.block 0 (qS [q 8 (.bin .eql (.t 6) (.c (.str ⟨#[111,102,102,101,114]⟩))), q0 7 8] [1,6,7] (.cond (.t 7) (qS [q0 9 1, q 10 (.bin .sub (.t 9) (qI 4)), q 11 (.mm true (.t
 10) (qI 0)), q 12 (.mm false (.t 11) (qI 4)), q 13 (.call 65 [none, none] [(.c (.str ⟨#[105]⟩)), .t 12]), q 14 (.bin .add (.c (.str ⟨#[99,115,107,105]⟩)) (.t 13)), q0 4 14, q 5 (.mv qt)] [4,5] .ret) (qS [q 16 (.bin .eql (.t 6) (.c (.str
 ⟨#[116,105,99,107]⟩))), q0 15 16] [6,15] (.cond (.t 15) (qS [q 4 (.mv (.c (.str ⟨#[105]⟩))), q 5 (.mv qt)] [4,5] .ret) (.seq (qS [q 18 (.bin .eql (.t 6) (.c (.str ⟨#[112,105,99,107]⟩))), q0 17 18] [6,17] (.cond (.t 17) .skip (qS [q 19 (.bin
 .eql (.t 6) (.c (.str ⟨#[114,101,108,97,121]⟩))), q0 17 19] [6,17] (.cond (.t 17) .skip (qS [q 20 (.bin .eql (.t 6) (.c (.str ⟨#[112,97,114,100,111,110]⟩))), q0 17 20] [6,17] (.cond (.t 17) .skip (qS [q 21 (.bin .eql (.t 6) (.c (.str
 ⟨#[115,116,97,116,101]⟩))), q0 17 21] [6,17] (.cond (.t 17) .skip (.reg [q 22 (.bin .eql (.t 6) (.c (.str ⟨#[109,97,105,108]⟩))), q0 17 22] [6,17]))))))))) (.cond (.t 17) (qS [q 4 (.mv (.c (.str ⟨#[107]⟩))), q 5 (.mv qt)] [4,5] .ret) (qS [q
 24 (.bin .eql (.t 6) (.c (.str ⟨#[114,101,109,105,110,100]⟩))), q0 23 24] [6,23] (.cond (.t 23) (qS [q 4 (.mv (.c (.str ⟨#[107,110,105,105,105]⟩))), q 5 (.mv qt)] [4,5] .ret) (qS [q 26 (.bin .eql (.t 6) (.c (.str
 ⟨#[99,97,110,99,101,108]⟩))), q0 25 26] [6,25] (.cond (.t 25) (qS [q 4 (.mv (.c (.str ⟨#[107,110]⟩))), q 5 (.mv qt)] [4,5] .ret) (.seq (qS [q 28 (.bin .eql (.t 6) (.c (.str ⟨#[115,101,114,118,101]⟩))), q0 27 28] [6,27] (.cond (.t 27) .skip
 (qS [q 29 (.bin .eql (.t 6) (.c (.str ⟨#[99,104,101,99,107,112,111,105,110,116]⟩))), q0 27 29] [6,27] (.cond (.t 27) .skip (qS [q 30 (.bin .eql (.t 6) (.c (.str ⟨#[107,101,121,115]⟩))), q0 27 30] [6,27] (.cond (.t 27) .skip (.reg [q 31 (.bin
 .eql (.t 6) (.c (.str ⟨#[99,108,111,99,107]⟩))), q0 27 31] [27]))))))) (.cond (.t 27) (qS [q 4 (.mv (.c (qE))), q 5 (.mv qt)] [4,5] .ret) .skip)))))))))))))) (qS [q 4 (.mv (.c (qE))), q 5 (.mv qf)] [4,5] .ret))
def r27 : List RT := [.t 4, .t 5]
def a31 : AS := qS [q 2 (.mv (.c (.nils)))] [0] (qS [q 3 (.mv (.c (.nils)))] [0,3] (qS [q 4 (.mv (qI 0))] [0,3,4] (.seq (qS [q 5 (.mv (qI 0))] [0,3,4,5] (.block 0 (.lift 3 none 16 .str (.loop 1 [0,3,4,5] (.seq (qS [q0 6 5, q0 7 0, q 8 (.len .i (.t 7)), q 9
 (.bin .leq (.t 6) (.t 8))] [0,3,4,5,9] (.cond (.t 9) .skip (.exit 0))) (.seq (.block 1 (qS [q0 12 5, q0 13 0, q 14 (.len .i (.t 13)), q 15 (.bin .eql (.t 12) (.t 14)), q0 16 15, q2 17 0 16, q2 18 5 16, qF 19 (.ixS (.t 17) (.t 18)) 16, qF 20
 (.bin .eql (.t 19) (.c (.int .u8 32))) 16, q 21 (.pick (.t 16) qt (.t 20))] [0,3,4,5,21] (.cond (.t 21) (qS [q0 22 3, q0 23 0, q0 24 4, q0 25 5, q 26 (.slS (.t 23) (some (.t 24)) (some (.t 25))), q 27 (.bsl 16 .str 1 [(0, (.t 26))]), q 28
 (.app 16 .str (.t 22) (.t 27)), q0 3 28] [0,3,5] (.reg [q0 29 5, q 30 (.bin .add (.t 29) (qI 1)), q0 4 30] [0,3,4,5])) .skip))) (.reg [q0 10 5, q 11 (.bin .add (.t 10) (qI 1)), q0 5 11] [0,3,4,5]))))))) (qS [q0 31 3, q0 2 31] [2] (.lift 2
 none 16 .str .ret)))))
def a32 : AS := qS [q 2 (.mv (.c (qE)))] [0] (.seq (qS [q0 3 0] [3] (.block 0 (qS [q 5 (.bin .eql (.t 3) (.c (.str ⟨#[111,102,102,101,114]⟩))), q0 4 5] [3,4] (.cond (.t 4) (qS [q 2 (.mv (.c (.str ⟨#[99,115,107,105,97,97,97,97]⟩)))] [2] .ret) (qS [q 7 (.bin
 .eql (.t 3) (.c (.str ⟨#[116,105,99,107]⟩))), q0 6 7] [3,6] (.cond (.t 6) (qS [q 2 (.mv (.c (.str ⟨#[105]⟩)))] [2] .ret) (.seq (qS [q 9 (.bin .eql (.t 3) (.c (.str ⟨#[112,105,99,107]⟩))), q0 8 9] [3,8] (.cond (.t 8) .skip (qS [q 10 (.bin
 .eql (.t 3) (.c (.str ⟨#[114,101,108,97,121]⟩))), q0 8 10] [3,8] (.cond (.t 8) .skip (qS [q 11 (.bin .eql (.t 3) (.c (.str ⟨#[112,97,114,100,111,110]⟩))), q0 8 11] [3,8] (.cond (.t 8) .skip (qS [q 12 (.bin .eql (.t 3) (.c (.str
 ⟨#[115,116,97,116,101]⟩))), q0 8 12] [3,8] (.cond (.t 8) .skip (.reg [q 13 (.bin .eql (.t 3) (.c (.str ⟨#[109,97,105,108]⟩))), q0 8 13] [3,8]))))))))) (.cond (.t 8) (qS [q 2 (.mv (.c (.str ⟨#[107]⟩)))] [2] .ret) (qS [q 15 (.bin .eql (.t 3)
 (.c (.str ⟨#[114,101,109,105,110,100]⟩))), q0 14 15] [3,14] (.cond (.t 14) (qS [q 2 (.mv (.c (.str ⟨#[107,110,105,105,105]⟩)))] [2] .ret) (qS [q 17 (.bin .eql (.t 3) (.c (.str ⟨#[99,97,110,99,101,108]⟩))), q0 16 17] [3,16] (.cond (.t 16) (qS
 [q 2 (.mv (.c (.str ⟨#[107,110]⟩)))] [2] .ret) (.seq (qS [q 19 (.bin .eql (.t 3) (.c (.str ⟨#[115,101,114,118,101]⟩))), q0 18 19] [3,18] (.cond (.t 18) .skip (qS [q 20 (.bin .eql (.t 3) (.c (.str
 ⟨#[99,104,101,99,107,112,111,105,110,116]⟩))), q0 18 20] [3,18] (.cond (.t 18) .skip (qS [q 21 (.bin .eql (.t 3) (.c (.str ⟨#[107,101,121,115]⟩))), q0 18 21] [3,18] (.cond (.t 18) .skip (.reg [q 22 (.bin .eql (.t 3) (.c (.str
 ⟨#[99,108,111,99,107]⟩))), q0 18 22] [18]))))))) (.cond (.t 18) (qS [q 2 (.mv (.c (qE)))] [2] .ret) .skip)))))))))))))) (qS [q 2 (.mv (.c (.str ⟨#[63]⟩)))] [2] .ret))
def a33 : AS := qS [q 6 (.mv qf)] [0,1,2] (qS [q 7 (.mv qf)] [0,1,2,7] (.seq (qS [q0 10 1] [0,1,2,7,10] (.block 0 (qS [q 12 (.bin .eql (.t 10) (.c (.int .u8 99))), q0 11 12] [0,1,2,7,10,11] (.cond (.t 11) (.reg [q0 14 0, q0 15 2, qX 72 16 [.t 15], q0 13 16,
 q 17 (.ext (.t 13) 0), q 18 (.ext (.t 13) 1), q5 19 14, q3 20 2 19, q6 1 20 17, q0 7 18] [7]) (qS [q 22 (.bin .eql (.t 10) (.c (.int .u8 115))), q0 21 22] [0,1,2,7,10,21] (.cond (.t 21) (.reg [q0 24 0, q0 25 2, qX 72 26 [.t 25], q0 23 26, q
 27 (.ext (.t 23) 0), q 28 (.ext (.t 23) 1), q5 29 24, q3 30 3 29, q6 1 30 27, q0 7 28] [7]) (.seq (qS [q 32 (.bin .eql (.t 10) (.c (.int .u8 107))), q0 31 32] [0,1,2,7,10,31] (.cond (.t 31) .skip (.reg [q 33 (.bin .eql (.t 10) (.c (.int .u8
 110))), q0 31 33] [0,1,2,7,10,31]))) (.cond (.t 31) (qS [q 8 (.mv (.c (qE)))] [0,1,2] (.seq (qS [q0 34 1, q 35 (.bin .eql (.t 34) (.c (.int .u8 107)))] [0,2,35] (.cond (.t 35) (.reg [q0 37 2, qX 73 38 [.t 37], q0 36 38, q 39 (.ext (.t 36)
 0), q 40 (.ext (.t 36) 1), q0 8 39, q0 7 40] [0,7,8]) (.reg [q0 42 2, qX 74 43 [.t 42], q0 41 43, q 44 (.ext (.t 41) 0), q 45 (.ext (.t 41) 1), q0 8 44, q0 7 45] [0,7,8]))) (.reg [q0 46 0, q0 47 0, q5 48 47, q3 49 1 48, q4 50 49, q0 51 8, q
 52 (.bsl 16 .str 1 [(0, (.t 51))]), q 53 (.app 16 .str (.t 50) (.t 52)), q5 54 46, q3 55 1 54, q6 1 55 53] [7]))) (.seq (qS [q 57 (.bin .eql (.t 10) (.c (.int .u8 105))), q0 56 57] [0,2,7,10,56] (.cond (.t 56) .skip (.reg [q 58 (.bin .eql
 (.t 10) (.c (.int .u8 97))), q0 56 58] [0,2,7,56]))) (.cond (.t 56) (qS [q 9 (.mv (qI 0))] [0,2] (qS [q0 60 2, qX 75 61 [.t 60], q0 59 61, q 62 (.ext (.t 59) 0), q 63 (.ext (.t 59) 1), q0 9 62, q0 7 63] [0,7,9] (.reg [q0 64 0, q0 65 0, q5 66
 65, q3 67 4 66, q4 68 67, q0 69 9, q 70 (.bsl 8 (.int .i64) 1 [(0, (.t 69))]), q 71 (.app 8 (.int .i64) (.t 68) (.t 70)), q5 72 64, q3 73 4 72, q6 1 73 71] [7]))) .skip)))))))))) (qS [q0 74 7, q0 6 74] [6] .ret)))
def a34 : AS := qS [q 4 (.mv qf)] [0,1] (.seq (qS [q0 6 0, q 7 (.len .s (.t 6)), q0 8 1, q 9 (.len .s (.t 8)), q 10 (.bin .neq (.t 7) (.t 9))] [0,1,10] (.cond (.t 10) (qS [q 4 (.mv qf)] [4] .ret) .skip)) (.seq (qS [q0 11 0, q 12 (.len .s (.t 11)), q 13 (.mv
 (qI 0))] [0,1,12,13] (.block 0 (.loop 1 [0,1,12,13] (qS [q 14 (.bin .lss (.t 13) (.t 12))] [0,1,12,13,14] (.seq (.cond (.t 14) .skip (.exit 0)) (.seq (.block 1 (qS [q0 15 13, q0 5 15] [0,1,5,12,13] (.seq (.regD [q0 16 0, q0 17 5, q 18 (.ia 1
 (.t 16) (.t 17)), q4 19 18, q0 20 1, q0 21 5, q 22 (.ia 1 (.t 20) (.t 21)), q4 23 22, q 24 (.bin .neq (.t 19) (.t 23))] [.q 0, .q 1, .q 2, .q 3, .q 4, .q 5, .q 6, .q 7, .q 8] [0,1,12,13,24]) (.cond (.t 24) (qS [q 4 (.mv qf)] [4] .ret)
 .skip)))) (.reg [q 25 (.bin .add (.t 13) (qI 1)), q0 13 25] [0,1,12,13]))))))) (qS [q 4 (.mv qt)] [4] .ret)))
def r34 : List RT := [.t 4]
def a35 : AS := qS [q 4 (.mv qf)] [0,1] (.seq (qS [q0 6 0, q 7 (.len .s (.t 6)), q0 8 1, q 9 (.len .s (.t 8)), q 10 (.bin .neq (.t 7) (.t 9))] [0,1,10] (.cond (.t 10) (qS [q 4 (.mv qf)] [4] .ret) .skip)) (.seq (qS [q0 11 0, q 12 (.len .s (.t 11)), q 13 (.mv
 (qI 0))] [0,1,12,13] (.block 0 (.loop 1 [0,1,12,13] (qS [q 14 (.bin .lss (.t 13) (.t 12))] [0,1,12,13,14] (.seq (.cond (.t 14) .skip (.exit 0)) (.seq (.block 1 (qS [q0 15 13, q0 5 15] [0,1,5,12,13] (.seq (.regD [q0 16 0, q0 17 5, q 18 (.ia 1
 (.t 16) (.t 17)), q4 19 18, q0 20 1, q0 21 5, q 22 (.ia 1 (.t 20) (.t 21)), q4 23 22, q 24 (.bin .neq (.t 19) (.t 23))] [.q 0, .q 1, .q 2, .q 3, .q 4, .q 5, .q 6, .q 7, .q 8] [0,1,12,13,24]) (.cond (.t 24) (qS [q 4 (.mv qf)] [4] .ret)
 .skip)))) (.reg [q 25 (.bin .add (.t 13) (qI 1)), q0 13 25] [0,1,12,13]))))))) (qS [q 4 (.mv qt)] [4] .ret)))
def r35 : List RT := [.t 4]
theorem ok10 : okF Tryz.prog 10 a10 r10 1 = true := by decide +kernel
theorem ok12 : okF Tryz.prog 12 a12 r12 2 = true := by decide +kernel
theorem ok13 : okF Tryz.prog 13 a13 r13 1 = true := by decide +kernel
theorem ok27 : okF Tryz.prog 27 a27 r27 2 = true := by decide +kernel
theorem ok34 : okF Tryz.prog 34 a34 r34 2 = true := by decide +kernel
theorem ok35 : okF Tryz.prog 35 a35 r35 2 = true := by decide +kernel
end Go.V
namespace Go.Proofs
set_option linter.unusedSimpArgs false
set_option linter.unnecessarySimpa false
open Go.Shelf
def Tryz.rep_ren : Go.Shelf.Ren := ⟨fun | 105 => 65 | 212 => 143 | 99 => 144 | 165 => 98 | 166 => 99 | 170 => 145 | 169 => 70 | 263 => 224 | 264 => 225 | 206 => 226 | 240 => 150 | 241 => 177 | 276 => 234 | 277 => 265 | n => n, fun | 9 => 9 | 3 => 3 | 4 => 4 | 20 => 20 | 0 => 0 | 46 => 144 | 109 => 255 | 5 => 5 | 72 => 141 | 76 => 182 | 51 => 310 | 146 => 364 | 53 => 24 | 148 => 366 | 70 => 139 | 37 => 89 | 75 => 134 | 127 => 259 | 164 => 373 | 80 => 61 | n => n, fun | n => n⟩
theorem Tryz.rep : Go.Proofs.Lays.n105 Tryz.prog Tryz.rep_ren := {
 mixed := by kernel_rfl
 f99 := Tryz.func144.trans (congrArg some (by kernel_rfl))
 f105 := Tryz.func65.trans (congrArg some (by kernel_rfl))
 f165 := Tryz.func98.trans (congrArg some (by kernel_rfl))
 f166 := Tryz.func99.trans (congrArg some (by kernel_rfl))
 f169 := Tryz.func70.trans (congrArg some (by kernel_rfl))
 f170 := Tryz.func145.trans (congrArg some (by kernel_rfl))
 f206 := Tryz.func226.trans (congrArg some (by kernel_rfl))
 f212 := Tryz.func143.trans (congrArg some (by kernel_rfl))
 f240 := Tryz.func150.trans (congrArg some (by kernel_rfl))
 f241 := Tryz.func177.trans (congrArg some (by kernel_rfl))
 f263 := Tryz.func224.trans (congrArg some (by kernel_rfl))
 f264 := Tryz.func225.trans (congrArg some (by kernel_rfl))
 f276 := Tryz.func234.trans (congrArg some (by kernel_rfl))
 f277 := Tryz.func265.trans (congrArg some (by kernel_rfl))
 t0 := Tryz.underlying0
 a0 := Tryz.isAgg0
 z0 := Tryz.sizeOf0
 v0 := Tryz.zeroValue0
 t3 := Tryz.underlying3
 a3 := Tryz.isAgg3
 z3 := Tryz.sizeOf3
 v3 := Tryz.zeroValue3
 t4 := Tryz.underlying4
 a4 := Tryz.isAgg4
 z4 := Tryz.sizeOf4
 v4 := Tryz.zeroValue4
 t5 := Tryz.underlying5
 a5 := Tryz.isAgg5
 z5 := Tryz.sizeOf5
 v5 := Tryz.zeroValue5
 t9 := Tryz.underlying9
 a9 := Tryz.isAgg9
 z9 := Tryz.sizeOf9
 v9 := Tryz.zeroValue9
 t20 := Tryz.underlying20
 a20 := Tryz.isAgg20
 z20 := Tryz.sizeOf20
 v20 := Tryz.zeroValue20
 t37 := Tryz.underlying89
 a37 := Tryz.isAgg89
 z37 := Tryz.sizeOf89
 v37 := Tryz.zeroValue89
 t46 := Tryz.underlying144
 a46 := Tryz.isAgg144
 z46 := Tryz.sizeOf144
 v46 := Tryz.zeroValue144
 t51 := Tryz.underlying310
 a51 := Tryz.isAgg310
 z51 := Tryz.sizeOf310
 v51 := Tryz.zeroValue310
 t53 := Tryz.underlying24
 a53 := Tryz.isAgg24
 z53 := Tryz.sizeOf24
 v53 := Tryz.zeroValue24
 t70 := Tryz.underlying139
 a70 := Tryz.isAgg139
 z70 := Tryz.sizeOf139
 v70 := Tryz.zeroValue139
 t72 := Tryz.underlying141
 a72 := Tryz.isAgg141
 z72 := Tryz.sizeOf141
 v72 := Tryz.zeroValue141
 t75 := Tryz.underlying134
 a75 := Tryz.isAgg134
 z75 := Tryz.sizeOf134
 v75 := Tryz.zeroValue134
 t76 := Tryz.underlying182
 a76 := Tryz.isAgg182
 z76 := Tryz.sizeOf182
 v76 := Tryz.zeroValue182
 t109 := Tryz.underlying255
 a109 := Tryz.isAgg255
 z109 := Tryz.sizeOf255
 v109 := Tryz.zeroValue255
 t127 := Tryz.underlying259
 a127 := Tryz.isAgg259
 z127 := Tryz.sizeOf259
 v127 := Tryz.zeroValue259
 t146 := Tryz.underlying364
 a146 := Tryz.isAgg364
 z146 := Tryz.sizeOf364
 v146 := Tryz.zeroValue364
 t148 := Tryz.underlying366
 a148 := Tryz.isAgg366
 z148 := Tryz.sizeOf366
 v148 := Tryz.zeroValue366
 t164 := Tryz.underlying373
 a164 := Tryz.isAgg373
 z164 := Tryz.sizeOf373
 v164 := Tryz.zeroValue373 }
end Go.Proofs
namespace Go.V
open Go.Proofs Go.Shelf Go.RowKit
set_option maxRecDepth 100000
set_option maxHeartbeats 4000000
set_option linter.unusedSimpArgs false
set_option linter.unnecessarySimpa false
set_option linter.unusedVariables false
theorem rep_extra : Builder.Extra Tryz.prog Tryz.rep_ren where
 sizeBuilder := by kernel_rfl
 liesBuilder := by kernel_rfl
 t5 := Tryz.underlying5
 a5 := Tryz.isAgg5
 z5 := Tryz.sizeOf5
 v5 := Tryz.zeroValue5
 infoByte := by kernel_rfl
 cellsByte := by kernel_rfl
 sizeByte := by kernel_rfl
 neB5 := by decide
def repB (n : Nat) : ByteArray := bsOf (List.replicate n 105)
theorem repL_i : ∀ n, Lib.repeatL [105] n = List.replicate n 105
 | 0 => rfl
 | n + 1 => by rw [Lib.repeatL, repL_i n]; rfl
def C65 : Contract := fun args hp K => match args, hp with
 | [.str s, .int .i64 n], [] => s = ⟨#[105]⟩ ∧ (0 ≤ n ∧ n ≤ 4) ∧ K (.str (repB n.toNat)) []
 | _, _ => False
theorem s65 : Sound Tryz.prog 65 C65 := by
 refine sound_plain ?_
 intro args hp K h E vs hg hd
 unfold C65 at h
 split at h
 ·rename_i s n
  obtain ⟨rfl, ⟨h0, h4⟩, h⟩ := h
  simp only [denL, den] at hd
  obtain ⟨v, r, rfl, ⟨rfl, hs⟩, v2, r2, rfl, ⟨rfl, hc⟩, rfl⟩ := hd
  obtain ⟨k, rfl⟩ : ∃ k : Nat, n = k := ⟨n.toNat, by omega⟩
  have hsz : (repB k).size ≤ maxLen := by
   unfold repB
   rw [bsOf_size, List.length_replicate]
   have := maxLen_val
   omega
  rw [Int.toNat_natCast] at h
  have run : Calls Tryz.prog 65 #[.string ⟨#[105]⟩, .int .i64 k] E.w fun e w' => e = .returned (.string (repB k)) ∧ Below E.w.heap.size E.w w' := by
   rcases (by omega : k = 0 ∨ k = 1 ∨ 2 ≤ k) with rfl | rfl | h2
   ·refine (Any.strings_Repeat_zero Tryz.rep _ E.w).mono ?_
    rintro e w' ⟨rfl, rfl⟩
    exact ⟨rfl, Below.refl _ _⟩
   ·refine (Any.strings_Repeat_one Tryz.rep _ E.w).mono ?_
    rintro e w' ⟨rfl, rfl⟩
    exact ⟨rfl, Below.refl _ _⟩
   ·refine (Any.strings_Repeat_main Tryz.rep rep_extra ⟨#[105]⟩ k E.w h2 (by omega) (by show 1 * k ≤ _; omega) (by decide)).mono ?_
    rintro e w' ⟨rfl, hb⟩
    refine ⟨?_, hb⟩
    show Ending.returned (Value.string ⟨(Lib.repeatL [105] k).toArray⟩) = _
    rw [repL_i]
    rfl
  refine run.mono ?_
  rintro e w' ⟨rfl, hb⟩
  exact ⟨_, _, rfl, Chg.below hb, h, fun E' => by simp only [den]; exact ⟨trivial, hsz⟩⟩
 ·exact h.elim
end Go.V
namespace Go.V
open Go.Proofs
set_option maxRecDepth 100000
set_option maxHeartbeats 4000000
set_option linter.unusedSimpArgs false
set_option linter.unnecessarySimpa false
set_option linter.unusedVariables false
theorem swd9 {c : Bool} {p : Prop} [Decidable p] {A B : Prop} (hc : c = decide p) (h1 : p → A) (h2 : ¬ p → B) : sw c A B := by
 subst hc
 exact sw_intro (fun h => h1 (of_decide_eq_true h)) (fun h => h2 (of_decide_eq_false h))
def kindsF (w : ByteArray) (n : Nat) : Option (List UInt8) :=
 if w = ⟨#[111, 102, 102, 101, 114]⟩ then some ([99, 115, 107, 105] ++ List.replicate (min (n - 4) 4) 105) else
 if w = ⟨#[116, 105, 99, 107]⟩ then some [105] else
 if w = ⟨#[112, 105, 99, 107]⟩ ∨ w = ⟨#[114, 101, 108, 97, 121]⟩ ∨ w = ⟨#[112, 97, 114, 100, 111, 110]⟩ ∨ w = ⟨#[115, 116, 97, 116, 101]⟩ ∨ w = ⟨#[109, 97, 105, 108]⟩ then some [107] else
 if w = ⟨#[114, 101, 109, 105, 110, 100]⟩ then some [107, 110, 105, 105, 105] else
 if w = ⟨#[99, 97, 110, 99, 101, 108]⟩ then some [107, 110] else
 if w = ⟨#[115, 101, 114, 118, 101]⟩ ∨ w = ⟨#[99, 104, 101, 99, 107, 112, 111, 105, 110, 116]⟩ ∨ w = ⟨#[107, 101, 121, 115]⟩ ∨ w = ⟨#[99, 108, 111, 99, 107]⟩ then some [] else none
def C27 : Contract := fun args hp K => match args, hp with
 | [.str w, .int .i64 n], [] => (0 ≤ n ∧ n ≤ 100000) ∧ K (.tup [.str (bsOf ((kindsF w n.toNat).getD [])), .bool (kindsF w n.toNat).isSome]) []
 | _, _ => False
attribute [local irreducible] rc
theorem s27 : Sound Tryz.prog 27 C27 := by
 refine sound_of_okF ok27 (.cons s65 ⟨_, Tryz.func65, rfl, by decide⟩ .nil) ?_
 intro args hp K h
 unfold C27 at h
 split at h
 ·rename_i w n
  obtain ⟨⟨h0, h1⟩, h⟩ := h
  refine ⟨by simp, [], ?_⟩
  have hm := maxLen_val
  simp (maxSteps:=9^9) only [a27, r27, go_sem, Int.reduceLT, Int.reduceLE, Int.reduceEq, Int.reduceNe, Int.reduceAdd, Int.reduceSub, Int.reduceMul, Int.reduceToNat, Int.reduceNeg, Nat.reduceEqDiff, Nat.reduceLeDiff, Nat.reduceSub, Nat.reduceMul, Nat.reduceLT, Nat.reduceBEq, Nat.reduceAdd, Nat.reduceDiv, Nat.reduceMod]
  intro c hc
  refine swd9 hc (fun e => ?_) (fun n1 => ?_)
  ·rintro _ _ m hm1 m1 hm2 m2 hm3
   rw [w64 (by omega)] at hm1
   have e4 : m2 = ((min (n.toNat - 4) 4 : Nat) : Int) := by
    rw [hm3, hm2, hm1]
    split <;> split <;> omega
   refine ⟨rfl, by omega, ?_⟩
   simp (maxSteps:=9^9) only [go_sem, Int.reduceLT, Int.reduceLE, Int.reduceEq, Int.reduceNe, Int.reduceAdd, Int.reduceSub, Int.reduceMul, Int.reduceToNat, Int.reduceNeg, Nat.reduceEqDiff, Nat.reduceLeDiff, Nat.reduceSub, Nat.reduceMul, Nat.reduceLT, Nat.reduceBEq, Nat.reduceAdd, Nat.reduceDiv, Nat.reduceMod]
   have e0 : kindsF w n.toNat = some ([99, 115, 107, 105] ++ List.replicate (min (n.toNat - 4) 4) 105) := (by unfold kindsF; rw [if_pos e])
   rw [e0] at h
   have e5 : m2.toNat = min (n.toNat - 4) 4 := by omega
   rw [e5]
   refine ⟨?_, ?_⟩
   ·unfold repB
    rw [bsOf_size, List.length_replicate, hm]
    show 4 + _ ≤ 9223372036854775807
    omega
   ·rintro u rfl
    have e6 : (⟨#[99, 115, 107, 105]⟩ : ByteArray) ++ repB (min (n.toNat - 4) 4) = bsOf ([99, 115, 107, 105] ++ List.replicate (min (n.toNat - 4) 4) 105) := by
     unfold repB
     apply ByteArray.ext
     rw [ByteArray.data_append]
     simp [bsOf]
    rw [e6]
    exact h
  intro c hc
  refine swd9 hc (fun e => (by have e0 : kindsF w n.toNat = some [105] := (by unfold kindsF; rw [if_neg n1, if_pos e]); rw [e0] at h; exact h)) (fun n2 => ?_)
  intro c hc
  refine swd9 hc (fun e => swd9 hc (fun _ => (by have e0 : kindsF w n.toNat = some [107] := (by unfold kindsF; rw [if_neg n1, if_neg n2, if_pos (.inl e)]); rw [e0] at h; exact h)) (fun e' => absurd e e')) (fun n30 => ?_)
  intro c hc
  refine swd9 hc (fun e => swd9 hc (fun _ => (by have e0 : kindsF w n.toNat = some [107] := (by unfold kindsF; rw [if_neg n1, if_neg n2, if_pos (.inr (.inl e))]); rw [e0] at h; exact h)) (fun e' => absurd e e')) (fun n31 => ?_)
  intro c hc
  refine swd9 hc (fun e => swd9 hc (fun _ => (by have e0 : kindsF w n.toNat = some [107] := (by unfold kindsF; rw [if_neg n1, if_neg n2, if_pos (.inr (.inr (.inl e)))]); rw [e0] at h; exact h)) (fun e' => absurd e e')) (fun n32 => ?_)
  intro c hc
  refine swd9 hc (fun e => swd9 hc (fun _ => (by have e0 : kindsF w n.toNat = some [107] := (by unfold kindsF; rw [if_neg n1, if_neg n2, if_pos (.inr (.inr (.inr (.inl e))))]); rw [e0] at h; exact h)) (fun e' => absurd e e')) (fun n33 => ?_)
  intro c hc
  refine swd9 hc (fun e => (by have e0 : kindsF w n.toNat = some [107] := (by unfold kindsF; rw [if_neg n1, if_neg n2, if_pos (.inr (.inr (.inr (.inr e))))]); rw [e0] at h; exact h)) (fun n34 => ?_)
  have n3 : ¬ _ := fun e => Or.elim e n30 (fun e => Or.elim e n31 (fun e => Or.elim e n32 (fun e => Or.elim e n33 n34)))
  intro c hc
  refine swd9 hc (fun e => (by have e0 : kindsF w n.toNat = some [107, 110, 105, 105, 105] := (by unfold kindsF; rw [if_neg n1, if_neg n2, if_neg n3, if_pos e]); rw [e0] at h; exact h)) (fun n4 => ?_)
  intro c hc
  refine swd9 hc (fun e => (by have e0 : kindsF w n.toNat = some [107, 110] := (by unfold kindsF; rw [if_neg n1, if_neg n2, if_neg n3, if_neg n4, if_pos e]); rw [e0] at h; exact h)) (fun n5 => ?_)
  intro c hc
  refine swd9 hc (fun e => swd9 hc (fun _ => (by have e0 : kindsF w n.toNat = some [] := (by unfold kindsF; rw [if_neg n1, if_neg n2, if_neg n3, if_neg n4, if_neg n5, if_pos (.inl e)]); rw [e0] at h; exact h)) (fun e' => absurd e e')) (fun n60 => ?_)
  intro c hc
  refine swd9 hc (fun e => swd9 hc (fun _ => (by have e0 : kindsF w n.toNat = some [] := (by unfold kindsF; rw [if_neg n1, if_neg n2, if_neg n3, if_neg n4, if_neg n5, if_pos (.inr (.inl e))]); rw [e0] at h; exact h)) (fun e' => absurd e e')) (fun n61 => ?_)
  intro c hc
  refine swd9 hc (fun e => swd9 hc (fun _ => (by have e0 : kindsF w n.toNat = some [] := (by unfold kindsF; rw [if_neg n1, if_neg n2, if_neg n3, if_neg n4, if_neg n5, if_pos (.inr (.inr (.inl e)))]); rw [e0] at h; exact h)) (fun e' => absurd e e')) (fun n62 => ?_)
  intro c hc
  refine swd9 hc (fun e => (by have e0 : kindsF w n.toNat = some [] := (by unfold kindsF; rw [if_neg n1, if_neg n2, if_neg n3, if_neg n4, if_neg n5, if_pos (.inr (.inr (.inr e)))]); rw [e0] at h; exact h)) (fun n63 => ?_)
  have n6 : ¬ _ := fun e => Or.elim e n60 (fun e => Or.elim e n61 (fun e => Or.elim e n62 n63))
  have e0 : kindsF w n.toNat = none := (by unfold kindsF; rw [if_neg n1, if_neg n2, if_neg n3, if_neg n4, if_neg n5, if_neg n6])
  rw [e0] at h
  exact h
 ·exact h.elim
end Go.V
namespace Go.V
set_option linter.unusedSimpArgs false
set_option linter.unnecessarySimpa false
set_option linter.unusedVariables false
structure Cmd where
 word : ByteArray
 keys : List ByteArray
 client : Nat
 serial : Nat
 ints : List Int
def stepC (kd : UInt8) (s : ByteArray) (c : Cmd) : Option Cmd :=
 if kd = 99 then (natF s.data.toList).map fun n => { c with client := n }
 else if kd = 115 then (natF s.data.toList).map fun n => { c with serial := n }
 else if kd = 105 then (numI s.data.toList).map fun n => { c with ints := c.ints ++ [n] }
 else if kd = 110 ∧ s = ⟨#[45]⟩ then some { c with keys := c.keys ++ [ByteArray.empty] }
 else match unhexF s with
  | some l => if keyOk (bsOf l) = true then some { c with keys := c.keys ++ [bsOf l] } else none
  | none => none
def goC : List UInt8 → List ByteArray → Cmd → Option Cmd
 | k :: ks, w :: ws, c => match stepC k w c with
  | some c' => goC ks ws c'
  | none => none
 | _, _, c => some c
def parseC (s : ByteArray) : Except Int Cmd :=
 if 1000 < s.size then .error 4 else
  match kindsF ((wordsB s).headD ByteArray.empty) ((wordsB s).length - 1) with
  | none => .error 2
  | some ks => if (wordsB s).length - 1 = ks.length then
    match goC ks (wordsB s).tail ⟨(wordsB s).headD ByteArray.empty, [], 0, 0, []⟩ with
    | some c => .ok c
    | none => .error 2
   else .error 2
end Go.V
namespace Go.V
open Go.Proofs
set_option maxRecDepth 100000
set_option maxHeartbeats 8000000
set_option linter.unusedSimpArgs false
set_option linter.unnecessarySimpa false
set_option linter.unusedVariables false
def zeroC : SV := .agg [.str ByteArray.empty, .nils, .int .u64 0, .int .u64 0, .nils]
def cmdV (c : Cmd) : SV := .agg [.str c.word, .sl true 16 .str c.keys, .int .u64 c.client, .int .u64 c.serial, .sl true 8 (.int .i64) c.ints]
def CParse : Contract := fun args hp K => match args, hp with
 | [.str s], [] => s.size ≤ 1000000 ∧ (∀ e, parseC s = .error e → K (.tup [zeroC, .int .i64 e]) []) ∧ (∀ c, parseC s = .ok c → K (.tup [cmdV c, .int .i64 0]) [])
 | _, _ => False
section use
variable {K : SV → List SB → Prop}
theorem use26 {s : ByteArray} (hs : s.size ≤ 100000) (k : K (.own 0) [.row true 16 .str (wordsB s)]) : C26 [.str s, .str ⟨#[32]⟩] [] K := ⟨rfl, hs, k⟩
theorem use27 {w : ByteArray} {n : Int} (hn : 0 ≤ n ∧ n ≤ 100000) (k : K (.tup [.str (bsOf ((kindsF w n.toNat).getD [])), .bool (kindsF w n.toNat).isSome]) []) : C27 [.str w, .int .i64 n] [] K := ⟨hn, k⟩
theorem use28 {x : ByteArray} (hx : x.size ≤ 100000) (h0 : natF x.data.toList = none → ∀ n, inR .u64 n → K (.tup [.int .u64 n, .bool false]) []) (h1 : ∀ v : Nat, natF x.data.toList = some v → inR .u64 v → K (.tup [.int .u64 v, .bool true]) []) : C28 [.str x] [] K := by
 refine ⟨by omega, fun n b hn hb1 hb0 => ?_⟩
 cases b
 ·exact h0 (by rw [← numP_natF]; exact hb0 rfl) n hn
 ·obtain ⟨v, hv, rfl⟩ := hb1 rfl
  exact h1 v (by rw [← numP_natF]; exact hv) hn
theorem use29 {x : ByteArray} (hx : x.size ≤ 100000) (h0 : numI x.data.toList = none → ∀ n, inR .i64 n → K (.tup [.int .i64 n, .bool false]) []) (h1 : ∀ v : Int, numI x.data.toList = some v → inR .i64 v → K (.tup [.int .i64 v, .bool true]) []) : C29 [.str x] [] K := by
 refine ⟨by omega, fun n b hn hb1 hb0 => ?_⟩
 cases b
 ·exact h0 (by rw [← intP_numI]; exact hb0 rfl) n hn
 ·exact h1 n (by rw [← intP_numI]; exact hb1 rfl) hn
theorem use30 {x : ByteArray} (hx : x.size ≤ 100000) (h0 : unhexF x = none → K (.tup [.str ByteArray.empty, .bool false]) []) (h1 : ∀ l, unhexF x = some l → K (.tup [.str (bsOf l), .bool (keyOk (bsOf l))]) []) : C30 [.str x] [] K := ⟨hx, h0, h1⟩
end use
theorem words_size {s x : ByteArray} (h : x ∈ wordsB s) : x.size ≤ s.size := by
 obtain ⟨l, hl, rfl⟩ := List.mem_map.1 h
 rw [bsOf_size]
 have := splitL_sum _ l hl
 have e : s.data.toList.length = s.size := by simp
 omega
theorem swn9 {c : Bool} {p : Prop} [Decidable p] {A B : Prop} (hc : c = !decide p) (h1 : ¬ p → A) (h2 : p → B) : sw c A B := by
 subst hc
 refine sw_intro (fun h => h1 (fun e => ?_)) (fun h => h2 (Classical.byContradiction fun e => ?_))
 ·rw [decide_eq_true e] at h; cases h
 ·rw [decide_eq_false e] at h; cases h
theorem words_cons (s : ByteArray) : ∃ w0 ws, wordsB s = w0 :: ws ∧ ws.length ≤ s.size := by
 cases hx : wordsB s with
 | nil => exact absurd (List.map_eq_nil_iff.1 hx) (splitL_ne_nil _)
 | cons a l =>
  refine ⟨a, l, rfl, ?_⟩
  have h9 := splitL_count s.data.toList
  have e9 : (wordsB s).length = (splitL 32 s.data.toList).length := by unfold wordsB; rw [List.length_map]
  rw [hx] at e9
  have e : s.data.toList.length = s.size := by simp
  simp only [List.length_cons] at e9
  omega
structure G10 where
 i : Nat
 c : Cmd
def A10 (w0 : ByteArray) (ws : List ByteArray) (ks : List UInt8) : LoopAnn := {
 G := G10
 I := fun g => ⟨[(2, .ptr 0 0), (5, .ptr 1 0), (6, .str (bsOf ks)), (42, .vw 4 1 (ws.length + 1) 1), (43, .int .i64 ws.length), (44, .int .i64 g.i)],
  [.struct [.str ByteArray.empty, .nils, .int .u64 0, .int .u64 0, .nils], .struct [.str g.c.word, .own 2, .int .u64 g.c.client, .int .u64 g.c.serial, .own 3], .row true 16 .str g.c.keys, .row true 8 (.int .i64) g.c.ints, .row true 16 .str (w0 :: ws)]⟩
 R := fun _ g => goC (ks.drop g.i) (ws.drop g.i) g.c = goC ks ws ⟨w0, [], 0, 0, []⟩ ∧ g.i ≤ ws.length ∧ g.c.keys.length ≤ g.i ∧ g.c.ints.length ≤ g.i ∧ (g.c.client ≤ 18446744073709551615 ∧ g.c.serial ≤ 18446744073709551615)
 μ := fun g => ws.length - g.i }
theorem I10 (w0 ws ks) (g : G10) : (A10 w0 ws ks).I g = ⟨[(2, .ptr 0 0), (5, .ptr 1 0), (6, .str (bsOf ks)), (42, .vw 4 1 (ws.length + 1) 1), (43, .int .i64 ws.length), (44, .int .i64 g.i)],
  [.struct [.str ByteArray.empty, .nils, .int .u64 0, .int .u64 0, .nils], .struct [.str g.c.word, .own 2, .int .u64 g.c.client, .int .u64 g.c.serial, .own 3], .row true 16 .str g.c.keys, .row true 8 (.int .i64) g.c.ints, .row true 16 .str (w0 :: ws)]⟩ := rfl
attribute [local irreducible] rc C26 C27 C28 C29 C30
theorem s10 : Sound Tryz.prog 10 CParse := by
 refine sound_of_okF ok10 (.cons s26 ⟨_, Tryz.func26, rfl, by decide⟩ (.cons s27 (callable_of_okF ok27) (.cons s28 ⟨_, Tryz.func28, rfl, by decide⟩ (.cons s29 ⟨_, Tryz.func29, rfl, by decide⟩ (.cons s30 (callable_of_okF ok30) .nil))))) ?_
 intro args hp K h
 unfold CParse at h
 split at h
 ·rename_i s
  obtain ⟨hs, h1, h2⟩ := h
  obtain ⟨w0, ws, hw, hn⟩ := words_cons s
  refine ⟨by simp, [(1, A10 w0 ws ((kindsF w0 ws.length).getD []))], ?_⟩
  have hm := maxLen_val
  simp (maxSteps:=9^9) only [a10, r10, go_sem, Int.reduceLT, Int.reduceLE, Int.reduceEq, Int.reduceNe, Int.reduceAdd, Int.reduceSub, Int.reduceMul, Int.reduceToNat, Int.reduceNeg, Nat.reduceEqDiff, Nat.reduceLeDiff, Nat.reduceSub, Nat.reduceMul, Nat.reduceLT, Nat.reduceBEq, Nat.reduceAdd, Nat.reduceDiv, Nat.reduceMod]
  rintro _ m rfl c0 hc0
  refine swd9 hc0 (fun hl => ?_) (fun hl => ?_)
  ·exact h1 4 (by unfold parseC; rw [if_pos (by omega)])
  refine use26 (by omega) ?_
  have hp : parseC s = match kindsF w0 ws.length with
    | none => .error 2
    | some ks => if ws.length = ks.length then (match goC ks ws ⟨w0, [], 0, 0, []⟩ with
      | some c => .ok c
      | none => .error 2) else .error 2 := by
   unfold parseC
   rw [if_neg (by omega), hw]
   rfl
  have hw0 := hw
  rw [hw]
  rw [hp] at h1 h2
  clear hp hw
  simp (maxSteps:=9^9) only [go_sem, Int.reduceLT, Int.reduceLE, Int.reduceEq, Int.reduceNe, Int.reduceAdd, Int.reduceSub, Int.reduceMul, Int.reduceToNat, Int.reduceNeg, Nat.reduceEqDiff, Nat.reduceLeDiff, Nat.reduceSub, Nat.reduceMul, Nat.reduceLT, Nat.reduceBEq, Nat.reduceAdd, Nat.reduceDiv, Nat.reduceMod]
  have e1 : List.take (ws.length + 1 - 1) ws = ws := by simp
  have e2 : elt Ty.str (w0 :: ws) 0 = w0 := rfl
  refine nd_intro (by simp) (nd_intro (by simp; omega) ?_)
  rw [e1, e2]
  intro _ _ m hm2
  refine use27 (by omega) ?_
  have e3 : m.toNat = ws.length := by omega
  subst hm2
  rw [Int.toNat_natCast]
  cases hk : kindsF w0 ws.length with
  | none =>
   rw [hk] at h1
   simp (maxSteps:=9^9) only [Option.getD_none, Option.isSome_none, go_sem, Int.reduceLT, Int.reduceLE, Int.reduceEq, Int.reduceNe, Int.reduceAdd, Int.reduceSub, Int.reduceMul, Int.reduceToNat, Int.reduceNeg, Nat.reduceEqDiff, Nat.reduceLeDiff, Nat.reduceSub, Nat.reduceMul, Nat.reduceLT, Nat.reduceBEq, Nat.reduceAdd, Nat.reduceDiv, Nat.reduceMod]
   exact h1 2 rfl
  | some ks =>
   rw [hk] at h1 h2
   simp (maxSteps:=9^9) only [Option.getD_some, Option.isSome_some, go_sem, Int.reduceLT, Int.reduceLE, Int.reduceEq, Int.reduceNe, Int.reduceAdd, Int.reduceSub, Int.reduceMul, Int.reduceToNat, Int.reduceNeg, Nat.reduceEqDiff, Nat.reduceLeDiff, Nat.reduceSub, Nat.reduceMul, Nat.reduceLT, Nat.reduceBEq, Nat.reduceAdd, Nat.reduceDiv, Nat.reduceMod]
   rw [e1]
   rintro _ _ m rfl _ m1 hm1 c hc
   rw [bsOf_size] at hm1
   refine swn9 hc (fun hne => ?_) (fun heq => ?_)
   ·refine h1 2 ?_
    have : ¬ ws.length = ks.length := by omega
    simp only [if_neg this]
   have hlen : ws.length = ks.length := by omega
   simp only [if_pos hlen] at h1 h2
   rintro _ _ m rfl
   refine loop_intro (A := A10 w0 ws ks) (⟨0, ⟨w0, [], 0, 0, []⟩⟩ : G10) ?_ ⟨rfl, Nat.zero_le _, Nat.le_refl _, Nat.le_refl _, Nat.zero_le _, Nat.zero_le _⟩ ?_
   ·simp (maxSteps:=9^9) only [I10, go_sem, Int.reduceLT, Int.reduceLE, Int.reduceEq, Int.reduceNe, Int.reduceAdd, Int.reduceSub, Int.reduceMul, Int.reduceToNat, Int.reduceNeg, Nat.reduceEqDiff, Nat.reduceLeDiff, Nat.reduceSub, Nat.reduceMul, Nat.reduceLT, Nat.reduceBEq, Nat.reduceAdd, Nat.reduceDiv, Nat.reduceMod]
    rfl
   rintro ⟨i, c⟩ ⟨g1, g2, g3, g4, g5, g6⟩
   change goC (ks.drop i) (ws.drop i) c = goC ks ws ⟨w0, [], 0, 0, []⟩ at g1
   change i ≤ ws.length at g2
   change c.keys.length ≤ i at g3
   change c.ints.length ≤ i at g4
   change c.client ≤ 18446744073709551615 at g5
   change c.serial ≤ 18446744073709551615 at g6
   simp (maxSteps:=9^9) only [I10, go_sem, Int.reduceLT, Int.reduceLE, Int.reduceEq, Int.reduceNe, Int.reduceAdd, Int.reduceSub, Int.reduceMul, Int.reduceToNat, Int.reduceNeg, Nat.reduceEqDiff, Nat.reduceLeDiff, Nat.reduceSub, Nat.reduceMul, Nat.reduceLT, Nat.reduceBEq, Nat.reduceAdd, Nat.reduceDiv, Nat.reduceMod]
   intro cc hcc
   refine swd9 hcc (fun hlt => ?_) (fun hge => ?_)
   ·have hki : ∃ k kr, ks.drop i = k :: kr := by
     cases hx : ks.drop i with
     | nil => have := congrArg List.length hx; simp at this; omega
     | cons a b => exact ⟨a, b, rfl⟩
    obtain ⟨k, kr, hki⟩ := hki
    have hwi : ∃ x xr, ws.drop i = x :: xr := by
     cases hx : ws.drop i with
     | nil => have := congrArg List.length hx; simp at this; omega
     | cons a b => exact ⟨a, b, rfl⟩
    obtain ⟨x, xr, hwi⟩ := hwi
    rw [hki, hwi, goC] at g1
    have ex : elt Ty.str (w0 :: ws) (1 + i) = x := by
     have : ws[i]? = some x := by rw [← List.head?_drop, hwi]; rfl
     exact elt_eq (by rw [Nat.add_comm]; simpa using this)
    refine nd_intro (by omega) (nd_intro (by omega) (nd_intro (by rw [bsOf_size]; omega) ?_))
    have hxm : x ∈ wordsB s := by
     have : x ∈ ws := by rw [← List.take_append_drop i ws, hwi]; simp
     rw [hw0]; exact List.mem_cons_of_mem _ this
    have hxs := words_size hxm
    rw [ex]
    clear ex hxm
    have hkr : ks.drop (i + 1) = kr := by rw [← List.tail_drop, hki]; rfl
    have hwr : ws.drop (i + 1) = xr := by rw [← List.tail_drop, hwi]; rfl
    have bad : stepC k x c = none → K (.tup [zeroC, .int .i64 2]) [] := fun e => h1 2 (by rw [← g1, e])
    have good : ∀ c', stepC k x c = some c' → goC (ks.drop (i + 1)) (ws.drop (i + 1)) c' = goC ks ws ⟨w0, [], 0, 0, []⟩ := fun c' e => by rw [hkr, hwr, ← g1, e]
    have hkk : ks[i]? = some k := by rw [← List.head?_drop, hki]; rfl
    have keq : ∀ n : UInt8, (k.toNat : Int) = n.toNat → k = n := fun n e => UInt8.toNat_inj.1 (by omega)
    intro m hm1 c1 hc1
    have hmk : m = k.toNat := by
     rw [hm1]
     simp [bsOf, List.getD_eq_getElem?_getD, hkk]
    clear hm1 h1 h2
    subst hmk
    refine swd9 hc1 (fun e99 => ?_) (fun n99 => ?_)
    ·have k9 := keq 99 e99
     refine use28 (by omega) (fun hnn n hn' => ?_) (fun v hv hn' => ?_)
     ·simp (maxSteps:=9^9) only [go_sem, Int.reduceLT, Int.reduceLE, Int.reduceEq, Int.reduceNe, Int.reduceAdd, Int.reduceSub, Int.reduceMul, Int.reduceToNat, Int.reduceNeg, Nat.reduceEqDiff, Nat.reduceLeDiff, Nat.reduceSub, Nat.reduceMul, Nat.reduceLT, Nat.reduceBEq, Nat.reduceAdd, Nat.reduceDiv, Nat.reduceMod]
      exact bad (by unfold stepC; rw [if_pos k9, hnn]; rfl)
     ·simp (maxSteps:=9^9) only [go_sem, Int.reduceLT, Int.reduceLE, Int.reduceEq, Int.reduceNe, Int.reduceAdd, Int.reduceSub, Int.reduceMul, Int.reduceToNat, Int.reduceNeg, Nat.reduceEqDiff, Nat.reduceLeDiff, Nat.reduceSub, Nat.reduceMul, Nat.reduceLT, Nat.reduceBEq, Nat.reduceAdd, Nat.reduceDiv, Nat.reduceMod]
      rintro _ _ m2 hm2
      rw [w64 (by omega)] at hm2
      subst hm2
      have hv9 := hn'.2
      rw [u64_max] at hv9
      refine lpE_intro (A := A10 w0 ws ks) (⟨i + 1, { c with client := v }⟩ : G10) ?_ ⟨good _ (by unfold stepC; rw [if_pos k9, hv]; rfl), by show i + 1 ≤ ws.length; omega, by show c.keys.length ≤ i + 1; omega, by show c.ints.length ≤ i + 1; omega, by show v ≤ _; omega, g6⟩ (by show ws.length - (i + 1) < ws.length - i; omega)
      simp (maxSteps:=9^9) only [I10, go_sem, Int.reduceLT, Int.reduceLE, Int.reduceEq, Int.reduceNe, Int.reduceAdd, Int.reduceSub, Int.reduceMul, Int.reduceToNat, Int.reduceNeg, Nat.reduceEqDiff, Nat.reduceLeDiff, Nat.reduceSub, Nat.reduceMul, Nat.reduceLT, Nat.reduceBEq, Nat.reduceAdd, Nat.reduceDiv, Nat.reduceMod]
      rfl
    have k1 : ¬ k = 99 := fun e => n99 (by rw [e]; rfl)
    intro c2 hc2
    refine swd9 hc2 (fun e99 => ?_) (fun n115 => ?_)
    ·have k9 := keq 115 e99
     refine use28 (by omega) (fun hnn n hn' => ?_) (fun v hv hn' => ?_)
     ·simp (maxSteps:=9^9) only [go_sem, Int.reduceLT, Int.reduceLE, Int.reduceEq, Int.reduceNe, Int.reduceAdd, Int.reduceSub, Int.reduceMul, Int.reduceToNat, Int.reduceNeg, Nat.reduceEqDiff, Nat.reduceLeDiff, Nat.reduceSub, Nat.reduceMul, Nat.reduceLT, Nat.reduceBEq, Nat.reduceAdd, Nat.reduceDiv, Nat.reduceMod]
      exact bad (by unfold stepC; rw [if_neg k1, if_pos k9, hnn]; rfl)
     ·simp (maxSteps:=9^9) only [go_sem, Int.reduceLT, Int.reduceLE, Int.reduceEq, Int.reduceNe, Int.reduceAdd, Int.reduceSub, Int.reduceMul, Int.reduceToNat, Int.reduceNeg, Nat.reduceEqDiff, Nat.reduceLeDiff, Nat.reduceSub, Nat.reduceMul, Nat.reduceLT, Nat.reduceBEq, Nat.reduceAdd, Nat.reduceDiv, Nat.reduceMod]
      rintro _ _ m2 hm2
      rw [w64 (by omega)] at hm2
      subst hm2
      have hv9 := hn'.2
      rw [u64_max] at hv9
      refine lpE_intro (A := A10 w0 ws ks) (⟨i + 1, { c with serial := v }⟩ : G10) ?_ ⟨good _ (by unfold stepC; rw [if_neg k1, if_pos k9, hv]; rfl), by show i + 1 ≤ ws.length; omega, by show c.keys.length ≤ i + 1; omega, by show c.ints.length ≤ i + 1; omega, g5, by show v ≤ _; omega⟩ (by show ws.length - (i + 1) < ws.length - i; omega)
      simp (maxSteps:=9^9) only [I10, go_sem, Int.reduceLT, Int.reduceLE, Int.reduceEq, Int.reduceNe, Int.reduceAdd, Int.reduceSub, Int.reduceMul, Int.reduceToNat, Int.reduceNeg, Nat.reduceEqDiff, Nat.reduceLeDiff, Nat.reduceSub, Nat.reduceMul, Nat.reduceLT, Nat.reduceBEq, Nat.reduceAdd, Nat.reduceDiv, Nat.reduceMod]
      rfl
    have k2 : ¬ k = 115 := fun e => n115 (by rw [e]; rfl)
    intro c3 hc3
    refine swd9 hc3 (fun e99 => ?_) (fun n105 => ?_)
    ·have k9 := keq 105 e99
     refine use29 (by omega) (fun hnn n hn' => ?_) (fun v hv hn' => ?_)
     ·simp (maxSteps:=9^9) only [go_sem, Int.reduceLT, Int.reduceLE, Int.reduceEq, Int.reduceNe, Int.reduceAdd, Int.reduceSub, Int.reduceMul, Int.reduceToNat, Int.reduceNeg, Nat.reduceEqDiff, Nat.reduceLeDiff, Nat.reduceSub, Nat.reduceMul, Nat.reduceLT, Nat.reduceBEq, Nat.reduceAdd, Nat.reduceDiv, Nat.reduceMod]
      exact ⟨fun _ => by omega, fun _ => bad (by unfold stepC; rw [if_neg k1, if_neg k2, if_pos k9, hnn]; rfl)⟩
     ·simp (maxSteps:=9^9) only [go_sem, Int.reduceLT, Int.reduceLE, Int.reduceEq, Int.reduceNe, Int.reduceAdd, Int.reduceSub, Int.reduceMul, Int.reduceToNat, Int.reduceNeg, Nat.reduceEqDiff, Nat.reduceLeDiff, Nat.reduceSub, Nat.reduceMul, Nat.reduceLT, Nat.reduceBEq, Nat.reduceAdd, Nat.reduceDiv, Nat.reduceMod]
      refine ⟨fun _ => by omega, fun _ => ?_⟩
      rintro _ _ m2 hm2
      rw [w64 (by omega)] at hm2
      subst hm2
      refine lpE_intro (A := A10 w0 ws ks) (⟨i + 1, { c with ints := c.ints ++ [v] }⟩ : G10) ?_ ⟨good _ (by unfold stepC; rw [if_neg k1, if_neg k2, if_pos k9, hv]; rfl), by show i + 1 ≤ ws.length; omega, by show c.keys.length ≤ i + 1; omega, by show (c.ints ++ [v]).length ≤ i + 1; rw [List.length_append]; simp; omega, g5, g6⟩ (by show ws.length - (i + 1) < ws.length - i; omega)
      simp (maxSteps:=9^9) only [I10, go_sem, Int.reduceLT, Int.reduceLE, Int.reduceEq, Int.reduceNe, Int.reduceAdd, Int.reduceSub, Int.reduceMul, Int.reduceToNat, Int.reduceNeg, Nat.reduceEqDiff, Nat.reduceLeDiff, Nat.reduceSub, Nat.reduceMul, Nat.reduceLT, Nat.reduceBEq, Nat.reduceAdd, Nat.reduceDiv, Nat.reduceMod]
      rfl
    have k3 : ¬ k = 105 := fun e => n105 (by rw [e]; rfl)
    refine nd_intro (by rw [bsOf_size]; omega) ?_
    intro m hm1 c4 hc4
    have hmk : m = k.toNat := by
     rw [hm1]
     simp [bsOf, List.getD_eq_getElem?_getD, hkk]
    clear hm1
    subst hmk
    refine swd9 hc4 (fun e99 => ?_) (fun n110 => ?_)
    ·have k9 := keq 110 e99
     intro c5 hc5
     refine swd9 hc5 (fun hd => ?_) (fun hd => ?_)
     ·refine ⟨fun _ => by omega, fun _ => swd9 hc5 (fun _ => ?_) (fun e => absurd hd e)⟩
      rintro _ _ m2 hm2
      rw [w64 (by omega)] at hm2
      subst hm2
      refine lpE_intro (A := A10 w0 ws ks) (⟨i + 1, { c with keys := c.keys ++ [ByteArray.empty] }⟩ : G10) ?_ ⟨good _ (by unfold stepC; rw [if_neg k1, if_neg k2, if_neg k3, if_pos ⟨k9, hd⟩]), by show i + 1 ≤ ws.length; omega, by show (c.keys ++ [ByteArray.empty]).length ≤ i + 1; rw [List.length_append]; simp; omega, by show c.ints.length ≤ i + 1; omega, g5, g6⟩ (by show ws.length - (i + 1) < ws.length - i; omega)
      simp (maxSteps:=9^9) only [I10, go_sem, Int.reduceLT, Int.reduceLE, Int.reduceEq, Int.reduceNe, Int.reduceAdd, Int.reduceSub, Int.reduceMul, Int.reduceToNat, Int.reduceNeg, Nat.reduceEqDiff, Nat.reduceLeDiff, Nat.reduceSub, Nat.reduceMul, Nat.reduceLT, Nat.reduceBEq, Nat.reduceAdd, Nat.reduceDiv, Nat.reduceMod]
      rfl
     refine use30 (by omega) (fun hnn => ?_) (fun l hl30 => ?_)
     ·simp (maxSteps:=9^9) only [go_sem, Int.reduceLT, Int.reduceLE, Int.reduceEq, Int.reduceNe, Int.reduceAdd, Int.reduceSub, Int.reduceMul, Int.reduceToNat, Int.reduceNeg, Nat.reduceEqDiff, Nat.reduceLeDiff, Nat.reduceSub, Nat.reduceMul, Nat.reduceLT, Nat.reduceBEq, Nat.reduceAdd, Nat.reduceDiv, Nat.reduceMod]
      exact ⟨fun _ => by omega, fun _ => bad (by unfold stepC; rw [if_neg k1, if_neg k2, if_neg k3, if_neg (fun e => hd e.2), hnn])⟩
     ·simp (maxSteps:=9^9) only [go_sem, Int.reduceLT, Int.reduceLE, Int.reduceEq, Int.reduceNe, Int.reduceAdd, Int.reduceSub, Int.reduceMul, Int.reduceToNat, Int.reduceNeg, Nat.reduceEqDiff, Nat.reduceLeDiff, Nat.reduceSub, Nat.reduceMul, Nat.reduceLT, Nat.reduceBEq, Nat.reduceAdd, Nat.reduceDiv, Nat.reduceMod]
      refine ⟨fun _ => by omega, fun _ => ?_⟩
      cases hko : keyOk (bsOf l) with
      | false =>
       simp (maxSteps:=9^9) only [go_sem, Int.reduceLT, Int.reduceLE, Int.reduceEq, Int.reduceNe, Int.reduceAdd, Int.reduceSub, Int.reduceMul, Int.reduceToNat, Int.reduceNeg, Nat.reduceEqDiff, Nat.reduceLeDiff, Nat.reduceSub, Nat.reduceMul, Nat.reduceLT, Nat.reduceBEq, Nat.reduceAdd, Nat.reduceDiv, Nat.reduceMod]
       exact bad (by unfold stepC; rw [if_neg k1, if_neg k2, if_neg k3, if_neg (fun e => hd e.2), hl30]; simp [hko])
      | true =>
       simp (maxSteps:=9^9) only [go_sem, Int.reduceLT, Int.reduceLE, Int.reduceEq, Int.reduceNe, Int.reduceAdd, Int.reduceSub, Int.reduceMul, Int.reduceToNat, Int.reduceNeg, Nat.reduceEqDiff, Nat.reduceLeDiff, Nat.reduceSub, Nat.reduceMul, Nat.reduceLT, Nat.reduceBEq, Nat.reduceAdd, Nat.reduceDiv, Nat.reduceMod]
       rintro _ _ m2 hm2
       rw [w64 (by omega)] at hm2
       subst hm2
       refine lpE_intro (A := A10 w0 ws ks) (⟨i + 1, { c with keys := c.keys ++ [bsOf l] }⟩ : G10) ?_ ⟨good _ (by unfold stepC; rw [if_neg k1, if_neg k2, if_neg k3, if_neg (fun e => hd e.2), hl30]; simp [hko]), by show i + 1 ≤ ws.length; omega, by show (c.keys ++ [bsOf l]).length ≤ i + 1; rw [List.length_append]; simp; omega, by show c.ints.length ≤ i + 1; omega, g5, g6⟩ (by show ws.length - (i + 1) < ws.length - i; omega)
       simp (maxSteps:=9^9) only [I10, go_sem, Int.reduceLT, Int.reduceLE, Int.reduceEq, Int.reduceNe, Int.reduceAdd, Int.reduceSub, Int.reduceMul, Int.reduceToNat, Int.reduceNeg, Nat.reduceEqDiff, Nat.reduceLeDiff, Nat.reduceSub, Nat.reduceMul, Nat.reduceLT, Nat.reduceBEq, Nat.reduceAdd, Nat.reduceDiv, Nat.reduceMod]
       rfl
    have k4 : ¬ k = 110 := fun e => n110 (by rw [e]; rfl)
    refine use30 (by omega) (fun hnn => ?_) (fun l hl30 => ?_)
    ·simp (maxSteps:=9^9) only [go_sem, Int.reduceLT, Int.reduceLE, Int.reduceEq, Int.reduceNe, Int.reduceAdd, Int.reduceSub, Int.reduceMul, Int.reduceToNat, Int.reduceNeg, Nat.reduceEqDiff, Nat.reduceLeDiff, Nat.reduceSub, Nat.reduceMul, Nat.reduceLT, Nat.reduceBEq, Nat.reduceAdd, Nat.reduceDiv, Nat.reduceMod]
     exact ⟨fun _ => by omega, fun _ => bad (by unfold stepC; rw [if_neg k1, if_neg k2, if_neg k3, if_neg (fun e => k4 e.1), hnn])⟩
    ·simp (maxSteps:=9^9) only [go_sem, Int.reduceLT, Int.reduceLE, Int.reduceEq, Int.reduceNe, Int.reduceAdd, Int.reduceSub, Int.reduceMul, Int.reduceToNat, Int.reduceNeg, Nat.reduceEqDiff, Nat.reduceLeDiff, Nat.reduceSub, Nat.reduceMul, Nat.reduceLT, Nat.reduceBEq, Nat.reduceAdd, Nat.reduceDiv, Nat.reduceMod]
     refine ⟨fun _ => by omega, fun _ => ?_⟩
     cases hko : keyOk (bsOf l) with
     | false =>
      simp (maxSteps:=9^9) only [go_sem, Int.reduceLT, Int.reduceLE, Int.reduceEq, Int.reduceNe, Int.reduceAdd, Int.reduceSub, Int.reduceMul, Int.reduceToNat, Int.reduceNeg, Nat.reduceEqDiff, Nat.reduceLeDiff, Nat.reduceSub, Nat.reduceMul, Nat.reduceLT, Nat.reduceBEq, Nat.reduceAdd, Nat.reduceDiv, Nat.reduceMod]
      exact bad (by unfold stepC; rw [if_neg k1, if_neg k2, if_neg k3, if_neg (fun e => k4 e.1), hl30]; simp [hko])
     | true =>
      simp (maxSteps:=9^9) only [go_sem, Int.reduceLT, Int.reduceLE, Int.reduceEq, Int.reduceNe, Int.reduceAdd, Int.reduceSub, Int.reduceMul, Int.reduceToNat, Int.reduceNeg, Nat.reduceEqDiff, Nat.reduceLeDiff, Nat.reduceSub, Nat.reduceMul, Nat.reduceLT, Nat.reduceBEq, Nat.reduceAdd, Nat.reduceDiv, Nat.reduceMod]
      rintro _ _ m2 hm2
      rw [w64 (by omega)] at hm2
      subst hm2
      refine lpE_intro (A := A10 w0 ws ks) (⟨i + 1, { c with keys := c.keys ++ [bsOf l] }⟩ : G10) ?_ ⟨good _ (by unfold stepC; rw [if_neg k1, if_neg k2, if_neg k3, if_neg (fun e => k4 e.1), hl30]; simp [hko]), by show i + 1 ≤ ws.length; omega, by show (c.keys ++ [bsOf l]).length ≤ i + 1; rw [List.length_append]; simp; omega, by show c.ints.length ≤ i + 1; omega, g5, g6⟩ (by show ws.length - (i + 1) < ws.length - i; omega)
      simp (maxSteps:=9^9) only [I10, go_sem, Int.reduceLT, Int.reduceLE, Int.reduceEq, Int.reduceNe, Int.reduceAdd, Int.reduceSub, Int.reduceMul, Int.reduceToNat, Int.reduceNeg, Nat.reduceEqDiff, Nat.reduceLeDiff, Nat.reduceSub, Nat.reduceMul, Nat.reduceLT, Nat.reduceBEq, Nat.reduceAdd, Nat.reduceDiv, Nat.reduceMod]
      rfl
   ·have hi : i = ws.length := by omega
    subst hi
    rw [List.drop_length, hlen, List.drop_length] at g1
    exact h2 c (by rw [← g1]; rfl)
 ·exact h.elim
end Go.V
namespace Go.V
open Go.Proofs
set_option maxRecDepth 100000
set_option maxHeartbeats 4000000
set_option linter.unusedSimpArgs false
set_option linter.unnecessarySimpa false
set_option linter.unusedVariables false
def shapeR (w : ByteArray) : ByteArray :=
 if w = ⟨#[111, 102, 102, 101, 114]⟩ then ⟨#[99, 115, 107, 105, 97, 97, 97, 97]⟩ else
 if w = ⟨#[116, 105, 99, 107]⟩ then ⟨#[105]⟩ else
 if w = ⟨#[112, 105, 99, 107]⟩ ∨ w = ⟨#[114, 101, 108, 97, 121]⟩ ∨ w = ⟨#[112, 97, 114, 100, 111, 110]⟩ ∨ w = ⟨#[115, 116, 97, 116, 101]⟩ ∨ w = ⟨#[109, 97, 105, 108]⟩ then ⟨#[107]⟩ else
 if w = ⟨#[114, 101, 109, 105, 110, 100]⟩ then ⟨#[107, 110, 105, 105, 105]⟩ else
 if w = ⟨#[99, 97, 110, 99, 101, 108]⟩ then ⟨#[107, 110]⟩ else
 if w = ⟨#[115, 101, 114, 118, 101]⟩ ∨ w = ⟨#[99, 104, 101, 99, 107, 112, 111, 105, 110, 116]⟩ ∨ w = ⟨#[107, 101, 121, 115]⟩ ∨ w = ⟨#[99, 108, 111, 99, 107]⟩ then ByteArray.empty else ⟨#[63]⟩
def C32 : Contract := fun args hp K => match args, hp with
 | [.str w], [] => K (.str (shapeR w)) []
 | _, _ => False
attribute [local irreducible] rc
def C74 : Contract := fun args hp K => match args, hp with
 | [.str s], [] => s.size ≤ 100000 ∧ (s = ⟨#[45]⟩ → K (.tup [.str ByteArray.empty, .bool true]) []) ∧ (¬ s = ⟨#[45]⟩ → (unhexF s = none → ∀ t : ByteArray, t.size ≤ 100000 → K (.tup [.str t, .bool false]) []) ∧ (∀ l, unhexF s = some l → K (.tup [.str (bsOf l), .bool (keyOk (bsOf l))]) []))
 | _, _ => False
end Go.V
namespace Go.V
open Go.Proofs
set_option maxRecDepth 100000
set_option maxHeartbeats 4000000
set_option linter.unusedSimpArgs false
set_option linter.unnecessarySimpa false
set_option linter.unusedVariables false
def C31 : Contract := fun args hp K => match args, hp with
 | [.str s], [] => s.size ≤ 100000 ∧ K (.own 0) [.row true 16 .str (wordsB s)]
 | _, _ => False
attribute [local irreducible] rc
end Go.V
namespace Go.V
open Go.Proofs
set_option maxRecDepth 100000
set_option maxHeartbeats 8000000
set_option linter.unusedSimpArgs false
set_option linter.unnecessarySimpa false
set_option linter.unusedVariables false
def cmdG (a b : Bool) (c : Cmd) : List SB := [.struct [.str c.word, .own 1, .int .u64 c.client, .int .u64 c.serial, .own 2], .row a 16 .str c.keys, .row b 8 (.int .i64) c.ints]
def stepR (k : UInt8) (s : ByteArray) (c : Cmd) : Option Cmd := if k = 97 then stepC 105 s c else stepC k s c
def kindR (k : UInt8) : Prop := k = 99 ∨ k = 115 ∨ k = 107 ∨ k = 110 ∨ k = 105 ∨ k = 97
def C33 : Contract := fun args hp K => match args with
 | [.ptr 0 0, .int .u8 m, .str s] => ∃ (k : UInt8) (c : Cmd), m = k.toNat ∧ kindR k ∧ hp = cmdG false false c ∧ (s.size ≤ 100000 ∧ c.keys.length ≤ 1000000 ∧ c.ints.length ≤ 1000000) ∧
   (stepR k s c = none → ∀ (c2 : Cmd) (a b : Bool), K (.bool false) (cmdG a b c2)) ∧ (∀ c', stepR k s c = some c' → ∀ a b : Bool, K (.bool true) (cmdG a b c'))
 | _ => False
section use
variable {K : SV → List SB → Prop}
end use
attribute [local irreducible] rc C72 C73 C74 C75
end Go.V
namespace Go.V
set_option linter.unusedSimpArgs false
set_option linter.unnecessarySimpa false
set_option linter.unusedVariables false
def offerW : ByteArray := ⟨#[111, 102, 102, 101, 114]⟩
instance (k : UInt8) : Decidable (kindR k) := by unfold kindR; infer_instance
end Go.V
namespace Go.V
open Go.Proofs
set_option maxRecDepth 100000
set_option maxHeartbeats 8000000
set_option linter.unusedSimpArgs false
set_option linter.unnecessarySimpa false
set_option linter.unusedVariables false
section use
variable {K : SV → List SB → Prop}
end use
attribute [local irreducible] rc C31 C32 C33
end Go.V
