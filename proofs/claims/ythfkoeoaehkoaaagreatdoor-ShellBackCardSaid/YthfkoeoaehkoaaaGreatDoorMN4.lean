/- A part of the proof layer, or functions of the given program in it: contracts and their proofs. -/
import Derived.Test.YthfkoeoaehkoaaaGreatDoorMN3
import Derived.Test.YthfkoeoaehkoaaaGreatDoorProg
import Derived.Shelf.Strings.OnBuilder
import Derived.Shelf.Strconv.Itoa4
import Derived.Shelf.LaysM
import Derived.Test.YthfkoeoaehkoaaaGreatDoorMS11
namespace Go.V
set_option linter.unusedSimpArgs false
set_option linter.unnecessarySimpa false
open Go.Proofs
def a5 : AS := qS [q 1 (.box (.t 0)), q 2 (.mv qf)] [1] (.seq (qS [q 7 (.call 9 [] []), q 8 (.not (.t 7)), q0 9 8, qF 10 (.ldA 5 (.t 1)) 9, qF 11 (.call 15 [none] [.t 10]) 9, qF 12 (.not (.t 11)) 9, q 13 (.pick (.t 9) qt (.t 12))] [1,13] (.cond (.t 13) (qS
 [q 14 (.call 9 [] []), q0 2 14] [2] .ret) .skip)) (qS [q 16 (.ldA 5 (.t 1)), qX 17 17 [.t 16], qX 16 18 [.t 17], q0 15 18, q 19 (.ext (.t 15) 0), q 20 (.ext (.t 15) 1), q0 3 19, q0 4 20] [1,3,4] (qS [q 22 (.ldA 5 (.t 1)), qX 18 23 [.t 22],
 q0 21 23, q 24 (.ext (.t 21) 0), q 25 (.ext (.t 21) 1), q0 5 24, q0 6 25] [3,4,5,6] (qS [q0 26 3, q0 27 5, q 28 (.bin .eql (.t 26) (.t 27)), q0 29 28, q1 30 4 29, q1 31 6 29, qT 32 (.bin .eql (.t 30) (.t 31)) 29, q 33 (.pick (.t 29) (.t 32)
 qf), q0 2 33] [2] .ret))))
def r5 : List RT := [.t 2]
def a6 : AS := qS [q 2 (.box (.t 0)), q 4 (.mv qf)] [1,2] (.seq (qS [q 13 (.call 9 [] []), q 14 (.not (.t 13)), q0 15 14, qF 16 (.ldA 5 (.t 2)) 15, qF 17 (.call 15 [none] [.t 16]) 15, qF 18 (.not (.t 17)) 15, q 19 (.pick (.t 15) qt (.t 18)), q0 20 19, q2
 21 1 20, qF 22 (.len .i (.t 21)) 20, qF 23 (.bin .gtr (.t 22) (qI 5000)) 20, q 24 (.pick (.t 20) qt (.t 23))] [1,2,24] (.cond (.t 24) (qS [q 25 (.call 9 [] []), q0 4 25] [4] .ret) .skip)) (qS [q 27 (.ldA 5 (.t 2)), qX 17 28 [.t 27], qX 16 29
 [.t 28], q0 26 29, q 30 (.ext (.t 26) 0), q 31 (.ext (.t 26) 1), q0 5 30, q0 6 31] [1,2,5,6] (.seq (qS [q0 32 6, q 33 (.bin .eql (.t 32) (qI 0))] [1,2,5,33] (.cond (.t 33) (qS [q0 35 5, qX 10 36 [.t 35], q0 34 36, q 37 (.ext (.t 34) 0), q 38
 (.ext (.t 34) 1), q 7 (.alc [qE, .nils, .int .u64 0, .int .u64 0, .nils]), q6 5 7 37, q0 8 38] [1,2,7,8] (.seq (.regD [q0 39 8, q 40 (.bin .neq (.t 39) (qI 0)), q0 41 40, qF 42 (.ldA 5 (.t 7)) 41, qF 43 (.call 13 [none] [.t 42]) 41, qF 44
 (.ldA 5 (.t 2)) 41, qF 45 (.call 12 [none, none] [.t 43, .t 44]) 41, qF 46 (.not (.t 45)) 41, q 47 (.pick (.t 41) qt (.t 46))] [.q 0, .q 1, .q 2, .q 3, .q 5, .e 4 [5], .e 6 [], .q 7, .q 8] [1,47]) (.cond (.t 47) (qS [q 4 (.mv qf)] [4] .ret)
 .skip))) .skip)) (qS [q0 49 1, qX 10 50 [.t 49], q0 48 50, q 51 (.ext (.t 48) 0), q 52 (.ext (.t 48) 1), q 9 (.alc [qE, .nils, .int .u64 0, .int .u64 0, .nils]), q6 5 9 51, q0 10 52] [1,9,10] (.seq (qS [q0 53 10, q 54 (.bin .neq (.t 53) (qI
 0))] [1,9,54] (.cond (.t 54) (qS [q 4 (.mv qt)] [4] .ret) .skip)) (qS [q 56 (.ldA 5 (.t 9)), qX 16 57 [.t 56], q0 55 57, q 58 (.ext (.t 55) 0), q 59 (.ext (.t 55) 1), q0 11 58, q0 12 59] [1,11,12] (qS [q0 60 12, q 61 (.bin .eql (.t 60) (qI
 0)), q0 62 61, q1 63 11 62, q1 64 1 62, qT 65 (.bin .eql (.t 63) (.t 64)) 62, q 66 (.pick (.t 62) (.t 65) qf), q0 4 66] [4] .ret)))))))
def r6 : List RT := [.t 4]
def r7 : List RT := [.t 4]
def a15 : AS := qS [q 1 (.box (.t 0)), q 2 (.mv qf)] [1] (.seq (qS [q3 4 1 1, q4 5 4, q 6 (.len .s (.t 5)), q 7 (.mv (qI 0))] [1,6,7] (.block 0 (.loop 1 [1,6,7] (qS [q 8 (.bin .lss (.t 7) (.t 6))] [1,6,7,8] (.seq (.cond (.t 8) .skip (.exit 0)) (.seq (.block
 1 (qS [q0 9 7, q0 3 9] [1,3,6,7] (qS [q3 10 1 1, q4 11 10, q0 12 3, q 13 (.ia 1 (.t 11) (.t 12)), q4 14 13, q 15 (.len .i (.t 14)), q 16 (.bin .gtr (.t 15) (qI 1000)), q0 17 16, q2 18 3 17, qF 19 (.bin .gtr (.t 18) (qI 100)) 17, q 20 (.pick
 (.t 17) qt (.t 19))] [1,6,7,20] (.cond (.t 20) (qS [q 2 (.mv qf)] [2] .ret) .skip)))) (.reg [q 21 (.bin .add (.t 7) (qI 1)), q0 7 21] [1,6,7]))))))) (qS [q3 22 4 1, q4 23 22, q 24 (.len .s (.t 23)), q 25 (.bin .leq (.t 24) (qI 500)), q0 26
 25, qT 27 (.fa 0 (.t 1)) 26, qT 28 (.ld (.t 27)) 26, qT 29 (.len .i (.t 28)) 26, qT 30 (.bin .leq (.t 29) (qI 1000)) 26, q 31 (.pick (.t 26) (.t 30) qf), q0 2 31] [2] .ret))
def r15 : List RT := [.t 2]
def a16 : AS := qS [q 1 (.box (.t 0)), q 2 (.mv (.c (qE))), q 3 (.mv (qI 0))] [1] (.seq (qS [q3 14 4 1, q4 15 14, q 16 (.len .s (.t 15)), q 17 (.bin .gtr (.t 16) (qI 1000)), q0 18 17, qF 19 (.fa 1 (.t 1)) 18, qF 20 (.ld (.t 19)) 18, qF 21 (.len .s (.t 20))
 18, qF 22 (.bin .gtr (.t 21) (qI 1000)) 18, q 23 (.pick (.t 18) qt (.t 22))] [1,23] (.cond (.t 23) (qS [q 2 (.mv (.c (qE))), q 3 (.mv (qI 1))] [2,3] .ret) .skip)) (qS [q3 25 0 1, q4 26 25, q3 27 4 1, q4 28 27, q 29 (.len .s (.t 28)), q 30
 (.bin .add (qI 3) (.t 29)), q 31 (.call 27 [none, none] [.t 26, .t 30]), q0 24 31, q 32 (.ext (.t 24) 0), q 33 (.ext (.t 24) 1), q0 4 32, q0 5 33] [1,4,5] (qS [q3 34 0 1, q4 35 34, q 36 (.bsl 16 .str 1 [(0, (.t 35))]), q0 6 36] [1,4,5,6]
 (.seq (.regD [q3 37 1 1, q4 38 37, q3 39 4 1, q4 40 39, q0 7 38, q0 8 40] [.q 0, .q 1, .q 2, .q 3, .q 4, .q 5] [1,4,5,6,7,8]) (.seq (qS [q0 41 4, q 42 (.s2b (.t 41)), q 43 (.len .s (.t 42)), q 44 (.mv (qI 0))] [1,5,6,7,8,42,43,44] (.block 0
 (.lift 6 none 16 .str (.lift 7 none 16 .str (.lift 8 none 8 (.int .i64) (.loop 1 [1,5,6,7,8,42,43,44] (qS [q 45 (.bin .lss (.t 44) (.t 43))] [1,5,6,7,8,42,43,44,45] (.seq (.cond (.t 45) .skip (.exit 0)) (.seq (.block 1 (qS [q 46 (.ia 1 (.t
 42) (.t 44)), q4 47 46, q0 10 47] [1,5,6,7,8,10,42,43,44] (.block 2 (qS [q0 49 10, q 50 (.bin .eql (.t 49) (.c (.int .u8 99))), q0 48 50] [1,5,6,7,8,10,42,43,44,48] (.cond (.t 48) (.reg [q0 51 6, q3 52 2 1, q4 53 52, q 54 (.call 38 [none,
 none] [.t 53, qI 10]), q 55 (.bsl 16 .str 1 [(0, (.t 54))]), q 56 (.app 16 .str (.t 51) (.t 55)), q0 6 56] [1,5,6,7,8,42,43,44]) (qS [q0 58 10, q 59 (.bin .eql (.t 58) (.c (.int .u8 115))), q0 57 59] [1,5,6,7,8,10,42,43,44,57] (.cond (.t 57)
 (.reg [q0 60 6, q3 61 3 1, q4 62 61, q 63 (.call 38 [none, none] [.t 62, qI 10]), q 64 (.bsl 16 .str 1 [(0, (.t 63))]), q 65 (.app 16 .str (.t 60) (.t 64)), q0 6 65] [1,5,6,7,8,42,43,44]) (qS [q0 67 10, q 68 (.bin .eql (.t 67) (.c (.int .u8
 105))), q0 69 68, q1 70 8 69, qT 71 (.len .s (.t 70)) 69, qT 72 (.bin .gtr (.t 71) (qI 0)) 69, q 73 (.pick (.t 69) (.t 72) qf), q0 66 73] [1,5,6,7,8,10,42,43,44,66] (.cond (.t 66) (.regD [q0 74 6, q0 75 8, q 76 (.ia 1 (.t 75) (qI 0)), q4 77
 76, q 78 (.call 39 [none, none] [.t 77, qI 10]), q 79 (.bsl 16 .str 1 [(0, (.t 78))]), q 80 (.app 16 .str (.t 74) (.t 79)), q0 81 8, q 82 (.slR 1 (.t 81) (some (qI 1)) none), q0 6 80, q0 8 82] [.q 0, .q 1, .q 2, .q 3, .q 7, .q 8, .e 4
 [0,7,8], .e 5 [0,7,8], .e 6 [7,8], .e 9 [7,8], .e 10 []] [1,5,6,7,8,42,43,44]) (qS [q0 84 10, q 85 (.bin .neq (.t 84) (.c (.int .u8 105))), q0 86 85, q1 87 7 86, qT 88 (.len .s (.t 87)) 86, qT 89 (.bin .gtr (.t 88) (qI 0)) 86, q 90 (.pick
 (.t 86) (.t 89) qf), q0 83 90] [1,5,6,7,8,42,43,44,83] (.cond (.t 83) (.regD [q0 91 6, q0 92 7, q 93 (.ia 1 (.t 92) (qI 0)), q4 94 93, qX 40 95 [.t 94], q 96 (.bsl 16 .str 1 [(0, (.t 95))]), q 97 (.app 16 .str (.t 91) (.t 96)), q0 98 7, q 99
 (.slR 1 (.t 98) (some (qI 1)) none), q0 6 97, q0 7 99] [.q 0, .q 1, .q 2, .q 3, .q 7, .q 8, .e 4 [0,7,8], .e 5 [0,7,8], .e 6 [7,8], .e 9 [7,8], .e 10 []] [1,5,6,7,8,42,43,44]) .skip))))))))))) (.reg [q 100 (.bin .add (.t 44) (qI 1)), q0 44
 100] [1,5,6,7,8,42,43,44])))))))))) (qS [q0 101 6, q 102 (.call 41 [(some (16, .str)), none] [.t 101, (.c (.str ⟨#[32]⟩))]), q0 11 102] [1,5,11] (qS [q0 104 11, qX 10 105 [.t 104], q0 103 105, q 106 (.ext (.t 103) 0), q 107 (.ext (.t 103)
 1), q 12 (.alc [qE, .nils, .int .u64 0, .int .u64 0, .nils]), q6 5 12 106, q0 13 107] [1,5,11,12,13] (.seq (qS [q0 108 5, q 109 (.not (.t 108)), q0 110 109, q2 111 13 110, qF 112 (.bin .neq (.t 111) (qI 0)) 110, q 113 (.pick (.t 110) qt (.t
 112)), q0 114 113, qF 115 (.fa 0 (.t 12)) 114, qF 116 (.ld (.t 115)) 114, qF 117 (.fa 0 (.t 1)) 114, qF 118 (.ld (.t 117)) 114, qF 119 (.bin .neq (.t 116) (.t 118)) 114, q 120 (.pick (.t 114) qt (.t 119)), q0 121 120, qF 122 (.fa 2 (.t 12))
 121, qF 123 (.ld (.t 122)) 121, qF 124 (.fa 2 (.t 1)) 121, qF 125 (.ld (.t 124)) 121, qF 126 (.bin .neq (.t 123) (.t 125)) 121, q 127 (.pick (.t 121) qt (.t 126)), q0 128 127, qF 129 (.fa 3 (.t 12)) 128, qF 130 (.ld (.t 129)) 128, qF 131
 (.fa 3 (.t 1)) 128, qF 132 (.ld (.t 131)) 128, qF 133 (.bin .neq (.t 130) (.t 132)) 128, q 134 (.pick (.t 128) qt (.t 133)), q0 135 134, qF 136 (.fa 1 (.t 12)) 135, qF 137 (.ld (.t 136)) 135, qF 138 (.fa 1 (.t 1)) 135, qF 139 (.ld (.t 138))
 135, qF 140 (.call 42 [none, none] [.t 137, .t 139]) 135, qF 141 (.not (.t 140)) 135, q 142 (.pick (.t 135) qt (.t 141)), q0 143 142, qF 144 (.fa 4 (.t 12)) 143, qF 145 (.ld (.t 144)) 143, qF 146 (.fa 4 (.t 1)) 143, qF 147 (.ld (.t 146))
 143, qF 148 (.call 43 [none, none] [.t 145, .t 147]) 143, qF 149 (.not (.t 148)) 143, q 150 (.pick (.t 143) qt (.t 149))] [11,150] (.cond (.t 150) (qS [q 2 (.mv (.c (qE))), q 3 (.mv (qI 1))] [2,3] .ret) .skip)) (qS [q0 151 11, q0 2 151, q 3
 (.mv (qI 0))] [2,3] .ret)))))))))
def r16 : List RT := [.t 2, .t 3]
def a17 : AS := qS [q 1 (.box (.t 0)), q 2 (.alc [qE, .nils, .int .u64 0, .int .u64 0, .nils])] [1,2] (.seq (.regT [q3 3 0 1, q4 4 3, q 5 (.bsl 16 .str 0 []), q3 6 1 1, q4 7 6, q 8 (.app 16 .str (.t 5) (.t 7)), q3 9 2 1, q4 10 9, q3 11 3 1, q4 12 11, q 13
 (.bsl 8 (.int .i64) 0 []), q3 14 4 1, q4 15 14, q 16 (.app 8 (.int .i64) (.t 13) (.t 15)), q 17 (.bld [qE, .nils, .int .u64 0, .int .u64 0, .nils] [(0, 1, (.t 4)), (1, 1, (.t 8)), (2, 1, (.t 10)), (3, 1, (.t 12)), (4, 1, (.t 16))]), q6 5 2
 17] (.q 0 (.q 1 (.q 3 (.q 4 (.q 6 (.q 7 (.q 8 (.q 9 (.q 11 (.q 12 (.e 2 [0,1,3,4,6,7,8,9,11,12] (.e 5 [0,1,6,7,8,9,11,12] (.e 10 [0,1,3,4,6,7,8,9,11,12] (.e 13 [0,1,6,7,8,9] (.q 14 (.e 15 [] .done .no)) .no) .no) (.e 10
 [0,1,3,4,6,7,8,9,11,12] (.e 5 [0,1,6,7,8,9,11,12] (.e 13 [0,1,6,7,8,9] (.q 14 (.e 15 [] .done .no)) .no) .no) .no)) (.e 10 [0,1,3,4,6,7,8,9,11,12] (.e 2 [0,1,3,4,6,7,8,9,11,12] (.e 5 [0,1,6,7,8,9,11,12] (.e 13 [0,1,6,7,8,9] (.q 14 (.e 15 []
 .done .no)) .no) .no) .no) .no)))))))))))) [2]) (.lift 2 (some 1) 16 .str (.lift 2 (some 4) 8 (.int .i64) .ret)))
def r17 : List RT := [.c 2 (some 5), .f 2]
def a37 : AS := qS [q 2 (.mv (.c (qE)))] [0] (qS [q0 3 0, qX 94 4 [.t 3], q0 2 4] [2] .ret)
def a40 : AS := qS [q 2 (.mv (.c (qE)))] [0] (.seq (qS [q0 3 0, q 4 (.bin .eql (.t 3) (.c (qE)))] [0,4] (.cond (.t 4) (qS [q 2 (.mv (.c (.str ⟨#[45]⟩)))] [2] .ret) .skip)) (qS [q0 5 0, qX 97 6 [.t 5], q0 2 6] [2] .ret))
def r40 : List RT := [.t 2]
def a42 : AS := qS [q 4 (.mv qf)] [0,1] (.seq (qS [q0 6 0, q 7 (.len .s (.t 6)), q0 8 1, q 9 (.len .s (.t 8)), q 10 (.bin .neq (.t 7) (.t 9))] [0,1,10] (.cond (.t 10) (qS [q 4 (.mv qf)] [4] .ret) .skip)) (.seq (qS [q0 11 0, q 12 (.len .s (.t 11)), q 13 (.mv
 (qI 0))] [0,1,12,13] (.block 0 (.loop 1 [0,1,12,13] (qS [q 14 (.bin .lss (.t 13) (.t 12))] [0,1,12,13,14] (.seq (.cond (.t 14) .skip (.exit 0)) (.seq (.block 1 (qS [q0 15 13, q0 5 15] [0,1,5,12,13] (.seq (.regD [q0 16 0, q0 17 5, q 18 (.ia 1
 (.t 16) (.t 17)), q4 19 18, q0 20 1, q0 21 5, q 22 (.ia 1 (.t 20) (.t 21)), q4 23 22, q 24 (.bin .neq (.t 19) (.t 23))] [.q 0, .q 1, .q 2, .q 3, .q 4, .q 5, .q 6, .q 7, .q 8] [0,1,12,13,24]) (.cond (.t 24) (qS [q 4 (.mv qf)] [4] .ret)
 .skip)))) (.reg [q 25 (.bin .add (.t 13) (qI 1)), q0 13 25] [0,1,12,13]))))))) (qS [q 4 (.mv qt)] [4] .ret)))
def r42 : List RT := [.t 4]
def a43 : AS := qS [q 4 (.mv qf)] [0,1] (.seq (qS [q0 6 0, q 7 (.len .s (.t 6)), q0 8 1, q 9 (.len .s (.t 8)), q 10 (.bin .neq (.t 7) (.t 9))] [0,1,10] (.cond (.t 10) (qS [q 4 (.mv qf)] [4] .ret) .skip)) (.seq (qS [q0 11 0, q 12 (.len .s (.t 11)), q 13 (.mv
 (qI 0))] [0,1,12,13] (.block 0 (.loop 1 [0,1,12,13] (qS [q 14 (.bin .lss (.t 13) (.t 12))] [0,1,12,13,14] (.seq (.cond (.t 14) .skip (.exit 0)) (.seq (.block 1 (qS [q0 15 13, q0 5 15] [0,1,5,12,13] (.seq (.regD [q0 16 0, q0 17 5, q 18 (.ia 1
 (.t 16) (.t 17)), q4 19 18, q0 20 1, q0 21 5, q 22 (.ia 1 (.t 20) (.t 21)), q4 23 22, q 24 (.bin .neq (.t 19) (.t 23))] [.q 0, .q 1, .q 2, .q 3, .q 4, .q 5, .q 6, .q 7, .q 8] [0,1,12,13,24]) (.cond (.t 24) (qS [q 4 (.mv qf)] [4] .ret)
 .skip)))) (.reg [q 25 (.bin .add (.t 13) (qI 1)), q0 13 25] [0,1,12,13]))))))) (qS [q 4 (.mv qt)] [4] .ret)))
def r43 : List RT := [.t 4]
def a44 : AS := qS [q 1 (.box (.t 0)), q 2 (.mv (.c (qE)))] [1] (qS [q3 8 0 1, q4 9 8, q0 3 9] [1,3] (qS [q 4 (.mv (qI 0)), q 5 (.mv (qI 0))] [1,3,4,5] (qS [q3 10 0 1, q4 11 10, qX 32 12 [.t 11], q0 6 12] [1,3,4,5,6] (.seq (qS [q0 13 6, q 14 (.rng (.t 13))]
 [1,3,4,5,6,14] (.block 0 (.loop 1 [1,3,4,5,6,14] (qS [q 15 (.nxt (.t 14)), q 16 (.ext (.t 15) 0)] [1,3,4,5,6,14,15,16] (.seq (.cond (.t 16) .skip (.exit 0)) (.block 1 (qS [q 17 (.ext (.t 15) 1), q0 7 17] [1,3,4,5,6,7,14] (qS [q0 18 6, q0 19
 7, q 20 (.ixS (.t 18) (.t 19))] [1,3,4,5,6,14,20] (.block 2 (qS [q 22 (.bin .eql (.t 20) (.c (.int .u8 99))), q0 21 22] [1,3,4,5,6,14,20,21] (.cond (.t 21) (.reg [q0 23 3, q 24 (.bin .add (.t 23) (.c (.str ⟨#[32]⟩))), q3 25 2 1, q4 26 25, qX
 100 27 [.t 26], q 28 (.bin .add (.t 24) (.t 27)), q0 3 28] [1,3,4,5,6,14]) (qS [q 30 (.bin .eql (.t 20) (.c (.int .u8 115))), q0 29 30] [1,3,4,5,6,14,20,29] (.cond (.t 29) (.reg [q0 31 3, q 32 (.bin .add (.t 31) (.c (.str ⟨#[32]⟩))), q3 33 3
 1, q4 34 33, qX 100 35 [.t 34], q 36 (.bin .add (.t 32) (.t 35)), q0 3 36] [1,3,4,5,6,14]) (.seq (qS [q 38 (.bin .eql (.t 20) (.c (.int .u8 107))), q0 37 38] [1,3,4,5,6,14,20,37] (.cond (.t 37) .skip (.reg [q 39 (.bin .eql (.t 20) (.c (.int
 .u8 110))), q0 37 39] [1,3,4,5,6,14,20,37]))) (.cond (.t 37) (.seq (qS [q0 40 4, q3 41 1 1, q4 42 41, q 43 (.len .s (.t 42)), q 44 (.bin .lss (.t 40) (.t 43))] [1,3,4,5,6,14,44] (.cond (.t 44) (.reg [q0 45 3, q 46 (.bin .add (.t 45) (.c
 (.str ⟨#[32]⟩))), q3 47 1 1, q4 48 47, q0 49 4, q 50 (.ia 1 (.t 48) (.t 49)), q4 51 50, qX 101 52 [.t 51], q 53 (.bin .add (.t 46) (.t 52)), q0 3 53] [1,3,4,5,6,14]) .skip)) (.reg [q0 54 4, q 55 (.bin .add (.t 54) (qI 1)), q0 4 55]
 [1,3,4,5,6,14])) (qS [q 57 (.bin .eql (.t 20) (.c (.int .u8 105))), q0 56 57] [1,3,4,5,6,14,20,56] (.cond (.t 56) (.seq (qS [q0 58 5, q3 59 4 1, q4 60 59, q 61 (.len .s (.t 60)), q 62 (.bin .lss (.t 58) (.t 61))] [1,3,4,5,6,14,62] (.cond (.t
 62) (.reg [q0 63 3, q 64 (.bin .add (.t 63) (.c (.str ⟨#[32]⟩))), q3 65 4 1, q4 66 65, q0 67 5, q 68 (.ia 1 (.t 66) (.t 67)), q4 69 68, qX 102 70 [.t 69], q 71 (.bin .add (.t 64) (.t 70)), q0 3 71] [1,3,4,5,6,14]) .skip)) (.reg [q0 72 5, q
 73 (.bin .add (.t 72) (qI 1)), q0 5 73] [1,3,4,5,6,14])) (qS [q 75 (.bin .eql (.t 20) (.c (.int .u8 97))), q0 74 75] [1,3,4,5,6,14,74] (.cond (.t 74) (.block 3 (.loop 2 [1,3,4,5,6,14] (.seq (qS [q0 76 5, q3 77 4 1, q4 78 77, q 79 (.len .s
 (.t 78)), q 80 (.bin .lss (.t 76) (.t 79)), q0 81 80, q1 82 3 81, qT 83 (.len .i (.t 82)) 81, qT 84 (.bin .lss (.t 83) (qI 2000)) 81, q 85 (.pick (.t 81) (.t 84) qf)] [1,3,4,5,6,14,85] (.cond (.t 85) .skip (.exit 3))) (.seq (.block 4 (.reg
 [q0 88 3, q 89 (.bin .add (.t 88) (.c (.str ⟨#[32]⟩))), q3 90 4 1, q4 91 90, q0 92 5, q 93 (.ia 1 (.t 91) (.t 92)), q4 94 93, qX 102 95 [.t 94], q 96 (.bin .add (.t 89) (.t 95)), q0 3 96] [1,3,4,5,6,14])) (.reg [q0 86 5, q 87 (.bin .add (.t
 86) (qI 1)), q0 5 87] [1,3,4,5,6,14]))))) .skip))))))))))))))))))) (qS [q0 97 3, q0 2 97] [2] .ret)))))
theorem ok6 : okF Tryz.prog 6 a6 r6 2 = true := by decide +kernel
theorem ok15 : okF Tryz.prog 15 a15 r15 1 = true := by decide +kernel
theorem ok16 : okF Tryz.prog 16 a16 r16 1 = true := by decide +kernel
theorem ok17 : okF Tryz.prog 17 a17 r17 1 = true := by decide +kernel
theorem ok40 : okF Tryz.prog 40 a40 r40 1 = true := by decide +kernel
theorem ok42 : okF Tryz.prog 42 a42 r42 2 = true := by decide +kernel
theorem ok43 : okF Tryz.prog 43 a43 r43 2 = true := by decide +kernel
end Go.V
namespace Go.Proofs
set_option linter.unusedSimpArgs false
set_option linter.unnecessarySimpa false
open Go.Shelf
def Tryz.jn_ren : Go.Shelf.Ren := ⟨fun | 156 => 41 | 165 => 98 | 166 => 99 | 169 => 70 | 240 => 150 | 241 => 177 | 276 => 234 | 277 => 265 | n => n, fun | 31 => 23 | 9 => 9 | 3 => 3 | 4 => 4 | 0 => 0 | 20 => 20 | 72 => 141 | 76 => 182 | 70 => 139 | 37 => 89 | 75 => 134 | 127 => 259 | 164 => 373 | 5 => 5 | 80 => 61 | n => n, fun | n => n⟩
theorem Tryz.jn : Go.Proofs.Lays.n156 Tryz.prog Tryz.jn_ren := {
 mixed := by kernel_rfl
 f156 := Tryz.func41.trans (congrArg some (by kernel_rfl))
 f165 := Tryz.func98.trans (congrArg some (by kernel_rfl))
 f166 := Tryz.func99.trans (congrArg some (by kernel_rfl))
 f169 := Tryz.func70.trans (congrArg some (by kernel_rfl))
 f240 := Tryz.func150.trans (congrArg some (by kernel_rfl))
 f241 := Tryz.func177.trans (congrArg some (by kernel_rfl))
 f276 := Tryz.func234.trans (congrArg some (by kernel_rfl))
 f277 := Tryz.func265.trans (congrArg some (by kernel_rfl))
 t0 := Tryz.underlying0
 a0 := Tryz.isAgg0
 z0 := Tryz.sizeOf0
 v0 := Tryz.zeroValue0
 t3 := Tryz.underlying3
 a3 := Tryz.isAgg3
 z3 := Tryz.sizeOf3
 v3 := Tryz.zeroValue3
 t4 := Tryz.underlying4
 a4 := Tryz.isAgg4
 z4 := Tryz.sizeOf4
 v4 := Tryz.zeroValue4
 t9 := Tryz.underlying9
 a9 := Tryz.isAgg9
 z9 := Tryz.sizeOf9
 v9 := Tryz.zeroValue9
 t20 := Tryz.underlying20
 a20 := Tryz.isAgg20
 z20 := Tryz.sizeOf20
 v20 := Tryz.zeroValue20
 t31 := Tryz.underlying23
 a31 := Tryz.isAgg23
 z31 := Tryz.sizeOf23
 v31 := Tryz.zeroValue23
 t37 := Tryz.underlying89
 a37 := Tryz.isAgg89
 z37 := Tryz.sizeOf89
 v37 := Tryz.zeroValue89
 t70 := Tryz.underlying139
 a70 := Tryz.isAgg139
 z70 := Tryz.sizeOf139
 v70 := Tryz.zeroValue139
 t72 := Tryz.underlying141
 a72 := Tryz.isAgg141
 z72 := Tryz.sizeOf141
 v72 := Tryz.zeroValue141
 t75 := Tryz.underlying134
 a75 := Tryz.isAgg134
 z75 := Tryz.sizeOf134
 v75 := Tryz.zeroValue134
 t76 := Tryz.underlying182
 a76 := Tryz.isAgg182
 z76 := Tryz.sizeOf182
 v76 := Tryz.zeroValue182
 t127 := Tryz.underlying259
 a127 := Tryz.isAgg259
 z127 := Tryz.sizeOf259
 v127 := Tryz.zeroValue259
 t164 := Tryz.underlying373
 a164 := Tryz.isAgg373
 z164 := Tryz.sizeOf373
 v164 := Tryz.zeroValue373 }
def Tryz.itoa_ren : Go.Shelf.Ren := ⟨fun | 171 => 37 | 243 => 94 | 246 => 96 | 283 => 173 | 284 => 174 | 285 => 175 | 286 => 176 | 129 => 261 | 317 => 260 | 318 => 262 | 319 => 263 | 320 => 264 | 337 => 313 | 338 => 314 | n => n, fun | 3 => 3 | 9 => 9 | 2 => 2 | 4 => 4 | 171 => 295 | 0 => 0 | 53 => 24 | 37 => 89 | 5 => 5 | 173 => 298 | 212 => 400 | 51 => 310 | 20 => 20 | 213 => 401 | 46 => 144 | 232 => 484 | 233 => 485 | n => n, fun | 17 => 0 | 18 => 6 | 19 => 7 | n => n⟩
theorem Tryz.itoa : Go.Proofs.LaysM.n171 Tryz.prog Tryz.itoa_ren := {
 mixed := by kernel_rfl
 f129 := Tryz.func261.trans (congrArg some (by kernel_rfl))
 f171 := Tryz.func37.trans (congrArg some (by kernel_rfl))
 f243 := Tryz.func94.trans (congrArg some (by kernel_rfl))
 f246 := Tryz.func96.trans (congrArg some (by kernel_rfl))
 f283 := Tryz.func173.trans (congrArg some (by kernel_rfl))
 f284 := Tryz.func174.trans (congrArg some (by kernel_rfl))
 f285 := Tryz.func175.trans (congrArg some (by kernel_rfl))
 f286 := Tryz.func176.trans (congrArg some (by kernel_rfl))
 f317 := Tryz.func260.trans (congrArg some (by kernel_rfl))
 f318 := Tryz.func262.trans (congrArg some (by kernel_rfl))
 f319 := Tryz.func263.trans (congrArg some (by kernel_rfl))
 f320 := Tryz.func264.trans (congrArg some (by kernel_rfl))
 f337 := Tryz.func313.trans (congrArg some (by kernel_rfl))
 f338 := Tryz.func314.trans (congrArg some (by kernel_rfl))
 t0 := Tryz.underlying0
 a0 := Tryz.isAgg0
 z0 := Tryz.sizeOf0
 v0 := Tryz.zeroValue0
 t2 := Tryz.underlying2
 a2 := Tryz.isAgg2
 z2 := Tryz.sizeOf2
 v2 := Tryz.zeroValue2
 t3 := Tryz.underlying3
 a3 := Tryz.isAgg3
 z3 := Tryz.sizeOf3
 v3 := Tryz.zeroValue3
 t4 := Tryz.underlying4
 a4 := Tryz.isAgg4
 z4 := Tryz.sizeOf4
 v4 := Tryz.zeroValue4
 t5 := Tryz.underlying5
 a5 := Tryz.isAgg5
 z5 := Tryz.sizeOf5
 v5 := Tryz.zeroValue5
 t9 := Tryz.underlying9
 a9 := Tryz.isAgg9
 z9 := Tryz.sizeOf9
 v9 := Tryz.zeroValue9
 t20 := Tryz.underlying20
 a20 := Tryz.isAgg20
 z20 := Tryz.sizeOf20
 v20 := Tryz.zeroValue20
 t37 := Tryz.underlying89
 a37 := Tryz.isAgg89
 z37 := Tryz.sizeOf89
 v37 := Tryz.zeroValue89
 t46 := Tryz.underlying144
 a46 := Tryz.isAgg144
 z46 := Tryz.sizeOf144
 v46 := Tryz.zeroValue144
 t51 := Tryz.underlying310
 a51 := Tryz.isAgg310
 z51 := Tryz.sizeOf310
 v51 := Tryz.zeroValue310
 t53 := Tryz.underlying24
 a53 := Tryz.isAgg24
 z53 := Tryz.sizeOf24
 v53 := Tryz.zeroValue24
 t171 := Tryz.underlying295
 a171 := Tryz.isAgg295
 z171 := Tryz.sizeOf295
 v171 := Tryz.zeroValue295
 t173 := Tryz.underlying298
 a173 := Tryz.isAgg298
 z173 := Tryz.sizeOf298
 v173 := Tryz.zeroValue298
 t212 := Tryz.underlying400
 a212 := Tryz.isAgg400
 z212 := Tryz.sizeOf400
 v212 := Tryz.zeroValue400
 t213 := Tryz.underlying401
 a213 := Tryz.isAgg401
 z213 := Tryz.sizeOf401
 t232 := Tryz.underlying484
 a232 := Tryz.isAgg484
 z232 := Tryz.sizeOf484
 v232 := Tryz.zeroValue484
 t233 := Tryz.underlying485
 a233 := Tryz.isAgg485
 z233 := Tryz.sizeOf485
 v233 := Tryz.zeroValue485
 g17 := by kernel_rfl
 g18 := by kernel_rfl
 g19 := by kernel_rfl
 i0 := by kernel_rfl
 i2 := by kernel_rfl
 i3 := by kernel_rfl
 i4 := by kernel_rfl
 i5 := by kernel_rfl
 i9 := by kernel_rfl
 i20 := by kernel_rfl
 i37 := by kernel_rfl
 i46 := by kernel_rfl
 i51 := by kernel_rfl
 i53 := by kernel_rfl
 i171 := by kernel_rfl
 i173 := by kernel_rfl
 i212 := by kernel_rfl
 i232 := by kernel_rfl
 i233 := by kernel_rfl
 m17 := by kernel_rfl
 m18 := by kernel_rfl
 m19 := by kernel_rfl }
end Go.Proofs
namespace Go.V
open Go.Proofs Go.Shelf Go.RowKit
set_option maxRecDepth 100000
set_option maxHeartbeats 8000000
set_option linter.unusedSimpArgs false
set_option linter.unnecessarySimpa false
set_option linter.unusedVariables false
attribute [local irreducible] rc
/-! ### lists alike, in the package -/
def C42 : Contract := fun args hp K => match args, hp with
 | [.sl p 16 .str xs, .sl q 16 .str ys], [] => K (.bool (decide ((xs : List ByteArray) = ys))) []
 | _, _ => False
def Le42 (p q : Bool) (xs ys : List ByteArray) : LoopAnn := { G := Nat, I := fun i => ⟨[(0, .sl p 16 .str xs), (1, .sl q 16 .str ys), (12, .int .i64 xs.length), (13, .int .i64 i)], []⟩, R := fun _ i => i ≤ xs.length ∧ xs.take i = ys.take i, μ := fun i => xs.length - i }
theorem Le42_I {p q} {xs ys : List ByteArray} (i : Nat) : (Le42 p q xs ys).I i = ⟨[(0, .sl p 16 .str xs), (1, .sl q 16 .str ys), (12, .int .i64 xs.length), (13, .int .i64 i)], []⟩ := rfl
theorem s42 : Sound Tryz.prog 42 C42 := by
 refine sound_of_okF ok42 .nil ?_
 intro args hp K h
 unfold C42 at h
 split at h
 ·rename_i p xs q ys
  have hmx := maxLen_val
  refine ⟨by simp, [(1, Le42 p q xs ys)], ?_⟩
  simp (maxSteps:=9^9) only [a42, r42, go_sem, eq_self, and_self, Int.natCast_pos, Int.le_refl, Nat.le_refl, Int.natCast_nonneg, Int.ofNat_lt, Int.ofNat_le, Int.reduceLT, Int.reduceLE, Int.reduceEq, Int.reduceNe, Int.reduceAdd, Int.reduceSub, Int.reduceMul, Int.reduceToNat, Int.reduceNeg, Nat.reduceEqDiff, Nat.reduceLeDiff, Nat.reduceSub, Nat.reduceMul, Nat.reduceLT, Nat.reduceBEq, Nat.reduceAdd, Nat.reduceDiv, Nat.reduceMod]
  have hf : ¬ (xs : List ByteArray) = ys → K (.bool false) [] := fun hne => by rw [decide_eq_false hne] at h; exact h
  have ht : (xs : List ByteArray) = ys → K (.bool true) [] := fun e => by rw [decide_eq_true e] at h; exact h
  rintro _ _ m hm _ _ m2 hm2 c3 hc3
  refine swn hc3 (fun h0 => hf (fun e => h0 (by rw [hm, hm2, e]))) (fun h0 => ?_)
  have hl1 : xs.length = ys.length := by omega
  rintro _ _ _ rfl
  refine loop_intro (A := Le42 p q xs ys) (0 : Nat) ?_ ⟨by simp, by simp⟩ ?_
  ·simp (maxSteps:=9^9) only [Le42_I, go_sem, eq_self, and_self, Int.natCast_pos, Int.le_refl, Nat.le_refl, Int.natCast_nonneg, Int.ofNat_lt, Int.ofNat_le, Int.reduceLT, Int.reduceLE, Int.reduceEq, Int.reduceNe, Int.reduceAdd, Int.reduceSub, Int.reduceMul, Int.reduceToNat, Int.reduceNeg, Nat.reduceEqDiff, Nat.reduceLeDiff, Nat.reduceSub, Nat.reduceMul, Nat.reduceLT, Nat.reduceBEq, Nat.reduceAdd, Nat.reduceDiv, Nat.reduceMod]
   rfl
  ·rintro (i : Nat) (⟨g1, g2⟩ : i ≤ xs.length ∧ (xs : List ByteArray).take i = (ys : List ByteArray).take i)
   simp (maxSteps:=9^9) only [Le42_I, go_sem, eq_self, and_self, Int.natCast_pos, Int.le_refl, Nat.le_refl, Int.natCast_nonneg, Int.ofNat_lt, Int.ofNat_le, Int.reduceLT, Int.reduceLE, Int.reduceEq, Int.reduceNe, Int.reduceAdd, Int.reduceSub, Int.reduceMul, Int.reduceToNat, Int.reduceNeg, Nat.reduceEqDiff, Nat.reduceLeDiff, Nat.reduceSub, Nat.reduceMul, Nat.reduceLT, Nat.reduceBEq, Nat.reduceAdd, Nat.reduceDiv, Nat.reduceMod]
   intro c5 hc5
   refine swd hc5 (fun h2 => ?_) (fun h2 => ?_)
   ·refine nd_intro h2 (nd_intro (by omega) ?_)
    intro c6 hc6
    refine swn hc6 (fun h3 => hf (fun e => h3 (by rw [e]))) (fun h3 => ?_)
    rintro _ _ m5 hm5
    rw [w64 (by omega)] at hm5
    rw [hm5, show (i : Int) + 1 = ((i + 1 : Nat) : Int) by omega]
    exact lpE_intro (A := Le42 p q xs ys) (i + 1 : Nat) rfl ⟨h2, take_next (t := .str) h2 (by omega) g2 h3⟩ (by show xs.length - (i + 1) < xs.length - i; omega)
   ·refine ht ?_
    rw [List.take_of_length_le (by omega), List.take_of_length_le (by omega)] at g2
    exact g2
 ·exact h.elim
def C43 : Contract := fun args hp K => match args, hp with
 | [.sl p 8 (.int .i64) xs, .sl q 8 (.int .i64) ys], [] => K (.bool (decide ((xs : List Int) = ys))) []
 | _, _ => False
def Le43 (p q : Bool) (xs ys : List Int) : LoopAnn := { G := Nat, I := fun i => ⟨[(0, .sl p 8 (.int .i64) xs), (1, .sl q 8 (.int .i64) ys), (12, .int .i64 xs.length), (13, .int .i64 i)], []⟩, R := fun _ i => i ≤ xs.length ∧ xs.take i = ys.take i, μ := fun i => xs.length - i }
theorem Le43_I {p q} {xs ys : List Int} (i : Nat) : (Le43 p q xs ys).I i = ⟨[(0, .sl p 8 (.int .i64) xs), (1, .sl q 8 (.int .i64) ys), (12, .int .i64 xs.length), (13, .int .i64 i)], []⟩ := rfl
theorem s43 : Sound Tryz.prog 43 C43 := by
 refine sound_of_okF ok43 .nil ?_
 intro args hp K h
 unfold C43 at h
 split at h
 ·rename_i p xs q ys
  have hmx := maxLen_val
  refine ⟨by simp, [(1, Le43 p q xs ys)], ?_⟩
  simp (maxSteps:=9^9) only [a43, r43, go_sem, eq_self, and_self, Int.natCast_pos, Int.le_refl, Nat.le_refl, Int.natCast_nonneg, Int.ofNat_lt, Int.ofNat_le, Int.reduceLT, Int.reduceLE, Int.reduceEq, Int.reduceNe, Int.reduceAdd, Int.reduceSub, Int.reduceMul, Int.reduceToNat, Int.reduceNeg, Nat.reduceEqDiff, Nat.reduceLeDiff, Nat.reduceSub, Nat.reduceMul, Nat.reduceLT, Nat.reduceBEq, Nat.reduceAdd, Nat.reduceDiv, Nat.reduceMod]
  have hf : ¬ (xs : List Int) = ys → K (.bool false) [] := fun hne => by rw [decide_eq_false hne] at h; exact h
  have ht : (xs : List Int) = ys → K (.bool true) [] := fun e => by rw [decide_eq_true e] at h; exact h
  rintro _ _ m hm _ _ m2 hm2 c3 hc3
  refine swn hc3 (fun h0 => hf (fun e => h0 (by rw [hm, hm2, e]))) (fun h0 => ?_)
  have hl1 : xs.length = ys.length := by omega
  rintro _ _ _ rfl
  refine loop_intro (A := Le43 p q xs ys) (0 : Nat) ?_ ⟨by simp, by simp⟩ ?_
  ·simp (maxSteps:=9^9) only [Le43_I, go_sem, eq_self, and_self, Int.natCast_pos, Int.le_refl, Nat.le_refl, Int.natCast_nonneg, Int.ofNat_lt, Int.ofNat_le, Int.reduceLT, Int.reduceLE, Int.reduceEq, Int.reduceNe, Int.reduceAdd, Int.reduceSub, Int.reduceMul, Int.reduceToNat, Int.reduceNeg, Nat.reduceEqDiff, Nat.reduceLeDiff, Nat.reduceSub, Nat.reduceMul, Nat.reduceLT, Nat.reduceBEq, Nat.reduceAdd, Nat.reduceDiv, Nat.reduceMod]
   rfl
  ·rintro (i : Nat) (⟨g1, g2⟩ : i ≤ xs.length ∧ (xs : List Int).take i = (ys : List Int).take i)
   simp (maxSteps:=9^9) only [Le43_I, go_sem, eq_self, and_self, Int.natCast_pos, Int.le_refl, Nat.le_refl, Int.natCast_nonneg, Int.ofNat_lt, Int.ofNat_le, Int.reduceLT, Int.reduceLE, Int.reduceEq, Int.reduceNe, Int.reduceAdd, Int.reduceSub, Int.reduceMul, Int.reduceToNat, Int.reduceNeg, Nat.reduceEqDiff, Nat.reduceLeDiff, Nat.reduceSub, Nat.reduceMul, Nat.reduceLT, Nat.reduceBEq, Nat.reduceAdd, Nat.reduceDiv, Nat.reduceMod]
   intro c5 hc5
   refine swd hc5 (fun h2 => ?_) (fun h2 => ?_)
   ·refine nd_intro h2 (nd_intro (by omega) ?_)
    intro c6 hc6
    refine swn hc6 (fun h3 => hf (fun e => h3 (by rw [e]))) (fun h3 => ?_)
    rintro _ _ m5 hm5
    rw [w64 (by omega)] at hm5
    rw [hm5, show (i : Int) + 1 = ((i + 1 : Nat) : Int) by omega]
    exact lpE_intro (A := Le43 p q xs ys) (i + 1 : Nat) rfl ⟨h2, take_next (t := .int .i64) h2 (by omega) g2 h3⟩ (by show xs.length - (i + 1) < xs.length - i; omega)
   ·refine ht ?_
    rw [List.take_of_length_le (by omega), List.take_of_length_le (by omega)] at g2
    exact g2
 ·exact h.elim
/-! ### numbers and keys as words -/
def C40 : Contract := fun args hp K => match args, hp with
 | [.str s], [] => s.size ≤ 100000 ∧ K (.str (hexW s)) []
 | _, _ => False
theorem s40 : Sound Tryz.prog 40 C40 := by
 refine sound_of_okF ok40 (.cons s97 (callable_of_okF ok97) .nil) ?_
 intro args hp K h
 unfold C40 at h
 split at h
 ·rename_i s
  obtain ⟨hs, h⟩ := h
  refine ⟨by simp, [], ?_⟩
  unfold hexW at h
  simp (maxSteps:=9^9) only [a40, r40, C97, go_sem, eq_self, and_self, Int.natCast_pos, Int.le_refl, Nat.le_refl, Int.natCast_nonneg, Int.ofNat_lt, Int.ofNat_le, Int.reduceLT, Int.reduceLE, Int.reduceEq, Int.reduceNe, Int.reduceAdd, Int.reduceSub, Int.reduceMul, Int.reduceToNat, Int.reduceNeg, Nat.reduceEqDiff, Nat.reduceLeDiff, Nat.reduceSub, Nat.reduceMul, Nat.reduceLT, Nat.reduceBEq, Nat.reduceAdd, Nat.reduceDiv, Nat.reduceMod]
  intro c hc
  refine swd9 hc (fun e => ?_) (fun e => ?_)
  ·rw [if_pos e] at h
   exact h
  ·rw [if_neg e] at h
   exact ⟨hs, h⟩
 ·exact h.elim
def C101 : Contract := fun args hp K => match args, hp with
 | [.str s], [] => s.size ≤ 100000 ∧ K (.str (hexW s)) []
 | _, _ => False
def C100 : Contract := fun args hp K => match args, hp with
 | [.int .u64 n], [] => (utoaB n.toNat).size ≤ maxLen ∧ K (.str (utoaB n.toNat)) []
 | _, _ => False
def C102 : Contract := fun args hp K => match args, hp with
 | [.int .i64 n], [] => (itoaB n).size ≤ maxLen ∧ K (.str (itoaB n)) []
 | _, _ => False
theorem jn_extra : Builder.Extra Tryz.prog Tryz.jn_ren where
 sizeBuilder := by kernel_rfl
 liesBuilder := by kernel_rfl
 t5 := Tryz.underlying5
 a5 := Tryz.isAgg5
 z5 := Tryz.sizeOf5
 v5 := Tryz.zeroValue5
 infoByte := by kernel_rfl
 cellsByte := by kernel_rfl
 sizeByte := by kernel_rfl
 neB5 := by decide
theorem join_lib : ∀ ws : List ByteArray, bsOf (Lib.join (ws.map (·.data.toList)) [32]) = joinB ws
 | [] => rfl
 | w :: r => by
  rw [List.map_cons, Lib.join_cons]
  have key : ∀ (r : List ByteArray) (x : ByteArray), bsOf (x.data.toList ++ Lib.joinTail [32] (r.map (·.data.toList))) = r.foldl addW x := by
   intro r
   induction r with
   | nil => intro x; simp [Lib.joinTail, bs_back]
   | cons y r ih =>
    intro x
    have e : x.data.toList ++ Lib.joinTail [32] ((y :: r).map (·.data.toList)) = (addW x y).data.toList ++ Lib.joinTail [32] (r.map (·.data.toList)) := by
     simp [Lib.joinTail, addW, blankB, ByteArray.data_append]
    rw [e, ih]
    rfl
  exact key r w
theorem rdL_strs {w : World} {F : Nat → Prop} : ∀ (xs : List ByteArray) (cs : List Value), rdL (rd w F .str) xs cs → cs = xs.map Value.string
 | [], cs, h => by simpa [rdL] using h
 | x :: xs, cs, h => by
  obtain ⟨c1, c2, rfl, h1, h2⟩ := h
  simp only [rd] at h1
  rw [h1.1, rdL_strs xs c2 h2]
  rfl
def C41 : Contract := fun args hp K => match args, hp with
 | [.sl p 16 .str ws, .str sep], [] => sep = blankB ∧ ws ≠ [] ∧ (joinB ws).size ≤ 1000000 ∧ K (.str (joinB ws)) []
 | _, _ => False
theorem s41 : Sound Tryz.prog 41 C41 := by
 refine sound_plain ?_
 intro args hp K h E vs hg hd
 unfold C41 at h
 split at h
 ·rename_i p ws sep
  obtain ⟨rfl, hne, hsz, h⟩ := h
  simp only [denL] at hd
  obtain ⟨v, r, rfl, d1, v2, r2, rfl, d2, rfl⟩ := hd
  simp only [den] at d1 d2
  obtain ⟨rfl, _⟩ := d2
  rcases d1 with ⟨e, _⟩ | ⟨b, off, cap, cur, T, fr, cs, rfl, h2, h3, h4, h5, h6, h7, h8⟩
  ·exact absurd e hne
  ·have hm := maxLen_val
   have hlt : b < E.w.heap.size := (Array.getElem?_eq_some_iff.1 h3).1
   have hjl : (Lib.join (ws.map (·.data.toList)) blankB.data.toList).length ≤ 140737488355328 := by
    have := bsOf_size (Lib.join (ws.map (·.data.toList)) [32])
    rw [join_lib] at this
    have e : blankB.data.toList = [32] := rfl
    rw [e]
    omega
   refine (Any.strings_Join Tryz.jn jn_extra b off cap ws blankB E.w ?_ hlt (by omega) h4 hjl).mono ?_
   ·intro j x hj
    have hcs := rdL_strs ws cs h8
    have hlen : j < ws.length := (List.getElem?_eq_some_iff.1 hj).1
    have h9 : ((cur.toList.drop off).take (ws.length * 1))[j]? = some (Value.string x) := by
     have h7' : (cur.toList.drop off).take (ws.length * 1) = cs := h7
     rw [h7', hcs, List.getElem?_map, hj]
     rfl
    rw [Nat.mul_one, List.getElem?_take, if_pos hlen, List.getElem?_drop] at h9
    simp [World.cell?, h3, ← Array.getElem?_toList, h9]
   ·rintro e w' ⟨rfl, hb⟩
    refine ⟨_, _, rfl, Chg.below hb, h, fun E' => ?_⟩
    simp only [den]
    have e := join_lib ws
    have e1 : blankB.data.toList = [32] := rfl
    rw [e1]
    exact ⟨congrArg Value.string e, by omega⟩
 ·exact h.elim
theorem s41_c : Callable Tryz.prog 41 := ⟨_, Tryz.func41, rfl, by decide⟩
end Go.V
namespace Go.V
set_option linter.unusedSimpArgs false
set_option linter.unnecessarySimpa false
set_option linter.unusedVariables false
open Go.Lib (decDigits itoa)
structure cmdOk (c : Cmd) : Prop where
 w : c.word.size ≤ 1000
 k : ∀ k ∈ c.keys, k.size ≤ 1000
 kl : c.keys.length ≤ 101
 nl : c.ints.length ≤ 500
 cl : c.client ≤ 18446744073709551615
 se : c.serial ≤ 18446744073709551615
 n : ∀ x ∈ c.ints, inR .i64 x
theorem numI_in {l : List UInt8} {v : Int} (h : numI l = some v) : inR .i64 v := by
 show (-9223372036854775808 : Int) ≤ v ∧ v ≤ 9223372036854775807
 unfold numI at h
 split at h
 ·obtain ⟨n, hn, h⟩ := Option.bind_eq_some_iff.1 h
  split at h
  ·cases h
  ·cases h; omega
 ·obtain ⟨n, hn, h⟩ := Option.bind_eq_some_iff.1 h
  split at h
  ·cases h
  ·cases h; omega
structure cmdSo (c : Cmd) : Prop where
 k : ∀ k ∈ c.keys, k.size ≤ 1000
 cl : c.client ≤ 18446744073709551615
 se : c.serial ≤ 18446744073709551615
 n : ∀ x ∈ c.ints, inR .i64 x
theorem stepC_ok {k : UInt8} {w : ByteArray} {c d : Cmd} (h : stepC k w c = some d) (ho : cmdSo c) : cmdSo d ∧ d.keys.length ≤ c.keys.length + 1 ∧ d.ints.length ≤ c.ints.length + 1 := by
 unfold stepC at h
 split at h
 ·obtain ⟨n, hn, rfl⟩ := Option.map_eq_some_iff.1 h
  exact ⟨⟨ho.k, (parse_natF hn).2, ho.se, ho.n⟩, by simp, by simp⟩
 split at h
 ·obtain ⟨n, hn, rfl⟩ := Option.map_eq_some_iff.1 h
  exact ⟨⟨ho.k, ho.cl, (parse_natF hn).2, ho.n⟩, by simp, by simp⟩
 split at h
 ·obtain ⟨n, hn, rfl⟩ := Option.map_eq_some_iff.1 h
  refine ⟨⟨ho.k, ho.cl, ho.se, fun x hx => ?_⟩, by simp, by simp⟩
  rcases List.mem_append.1 hx with hx | hx
  ·exact ho.n x hx
  ·rw [List.mem_singleton.1 hx]; exact numI_in hn
 split at h
 ·cases h
  refine ⟨⟨fun x hx => ?_, ho.cl, ho.se, ho.n⟩, by simp, by simp⟩
  rcases List.mem_append.1 hx with hx | hx
  ·exact ho.k x hx
  ·rw [List.mem_singleton.1 hx]; decide
 split at h
 ·rename_i l hl
  split at h
  ·rename_i hk
   cases h
   refine ⟨⟨fun x hx => ?_, ho.cl, ho.se, ho.n⟩, by simp, by simp⟩
   rcases List.mem_append.1 hx with hx | hx
   ·exact ho.k x hx
   ·rw [List.mem_singleton.1 hx]
    rw [keyOk_eq, Bool.and_eq_true, decide_eq_true_eq, decide_eq_true_eq] at hk
    omega
  ·cases h
 ·cases h
theorem goC_ok : ∀ (ks : List UInt8) (ws : List ByteArray) (c d : Cmd), goC ks ws c = some d → cmdSo c → cmdSo d ∧ d.keys.length ≤ c.keys.length + ks.length ∧ d.ints.length ≤ c.ints.length + ks.length
 | [], ws, c, d, h, ho => by
  have : c = d := by cases ws <;> simpa [goC] using h
  subst this
  exact ⟨ho, by simp, by simp⟩
 | k :: ks, [], c, d, h, ho => by
  have : c = d := by simpa [goC] using h
  subst this
  exact ⟨ho, by omega, by omega⟩
 | k :: ks, w :: ws, c, d, h, ho => by
  rw [goC] at h
  cases hs : stepC k w c with
  | none => rw [hs] at h; cases h
  | some c' =>
   rw [hs] at h
   obtain ⟨h1, h2, h3⟩ := stepC_ok hs ho
   obtain ⟨h4, h5, h6⟩ := goC_ok ks ws c' d h h1
   refine ⟨h4, ?_, ?_⟩ <;> (simp only [List.length_cons]; omega)
theorem read_ok {s : ByteArray} {d : Cmd} (h : parseC s = .ok d) : cmdOk d := by
 obtain ⟨_, _, h8⟩ := read_text h
 obtain ⟨hsz, w0, ws, ks, hw, hk, hl, hg, hd⟩ := parseC_ok h
 obtain ⟨h1, h2, h3⟩ := goC_ok ks ws _ d hg ⟨by simp, by simp, by simp, by simp⟩
 have h4 := shape_len _ _ _ hk
 simp only [List.length_nil] at h2 h3
 exact ⟨by rw [hd]; omega, h1.k, by omega, by omega, h1.cl, h1.se, h1.n⟩
/-! ### sizes -/
theorem hexW_size {x : ByteArray} (h : x.size ≤ 1000) : (hexW x).size ≤ 2000 := by
 unfold hexW
 split
 ·decide
 ·unfold hexB
  rw [bsOf_size, hexL_len, size_list]
  omega
theorem utoaB_size {n : Nat} (h : n ≤ 18446744073709551615) : (utoaB n).size ≤ 20 := by
 unfold utoaB
 rw [bsOf_size]
 exact dec_len 19 n (by omega)
theorem itoaB_size {n : Int} (h : inR .i64 n) : (itoaB n).size ≤ 20 := by
 have h1 : (-9223372036854775808 : Int) ≤ n ∧ n ≤ 9223372036854775807 := h
 unfold itoaB
 rw [bsOf_size]
 unfold itoa
 split
 ·have := dec_len 18 n.natAbs (by omega)
  simp only [List.length_cons]
  omega
 ·have := dec_len 18 n.toNat (by omega)
  omega
theorem addW_le {s w : ByteArray} {a : Nat} (h1 : s.size ≤ a) (h2 : w.size ≤ 2000) : (addW s w).size ≤ a + 2001 := by
 rw [addW_size]
 omega
end Go.V
namespace Go.V
open Go.Proofs
set_option maxRecDepth 100000
set_option maxHeartbeats 8000000
set_option linter.unusedSimpArgs false
set_option linter.unnecessarySimpa false
set_option linter.unusedVariables false
attribute [local irreducible] rc
/-! ### few, theirs -/
def C15 : Contract := fun args hp K => match args, hp with
 | [.agg [.str w, .sl p 16 .str ks, .int .u64 c, .int .u64 s, .sl q 8 (.int .i64) ns]], [] => ∀ b : Bool, (b = true → (∀ k ∈ (ks : List ByteArray), k.size ≤ 1000) ∧ ks.length ≤ 101 ∧ ns.length ≤ 500 ∧ w.size ≤ 1000) → K (.bool b) []
 | _, _ => False
def L15 (w : ByteArray) (p q : Bool) (ks : List ByteArray) (c s : Int) (ns : List Int) : LoopAnn := {
 G := Nat
 I := fun i => ⟨[(1, .ptr 0 0), (6, .int .i64 ks.length), (7, .int .i64 i)], [.struct [.str w, .sl p 16 .str ks, .int .u64 c, .int .u64 s, .sl q 8 (.int .i64) ns]]⟩
 R := fun _ i => i ≤ ks.length ∧ (∀ k ∈ ks.take i, k.size ≤ 1000) ∧ i ≤ 101
 μ := fun i => ks.length - i }
theorem L15_I {w p q ks c s ns} (i : Nat) : (L15 w p q ks c s ns).I i = ⟨[(1, .ptr 0 0), (6, .int .i64 ks.length), (7, .int .i64 i)], [.struct [.str w, .sl p 16 .str ks, .int .u64 c, .int .u64 s, .sl q 8 (.int .i64) ns]]⟩ := rfl
theorem s15 : Sound Tryz.prog 15 C15 := by
 refine sound_of_okF ok15 .nil ?_
 intro args hp K h
 unfold C15 at h
 split at h
 ·rename_i w p ks c s q ns
  refine ⟨by simp, [(1, L15 w p q ks c s ns)], ?_⟩
  have hmx := maxLen_val
  simp (maxSteps:=9^9) only [a15, r15, go_sem, eq_self, and_self, Int.natCast_pos, Int.le_refl, Nat.le_refl, Int.natCast_nonneg, Int.ofNat_lt, Int.ofNat_le, Int.reduceLT, Int.reduceLE, Int.reduceEq, Int.reduceNe, Int.reduceAdd, Int.reduceSub, Int.reduceMul, Int.reduceToNat, Int.reduceNeg, Nat.reduceEqDiff, Nat.reduceLeDiff, Nat.reduceSub, Nat.reduceMul, Nat.reduceLT, Nat.reduceBEq, Nat.reduceAdd, Nat.reduceDiv, Nat.reduceMod]
  rintro _ _ m rfl
  refine loop_intro (A := L15 w p q ks c s ns) (0 : Nat) ?_ ⟨Nat.zero_le _, by simp, Nat.zero_le _⟩ ?_
  ·simp (maxSteps:=9^9) only [L15_I, go_sem, eq_self, and_self, Int.natCast_pos, Int.le_refl, Nat.le_refl, Int.natCast_nonneg, Int.ofNat_lt, Int.ofNat_le, Int.reduceLT, Int.reduceLE, Int.reduceEq, Int.reduceNe, Int.reduceAdd, Int.reduceSub, Int.reduceMul, Int.reduceToNat, Int.reduceNeg, Nat.reduceEqDiff, Nat.reduceLeDiff, Nat.reduceSub, Nat.reduceMul, Nat.reduceLT, Nat.reduceBEq, Nat.reduceAdd, Nat.reduceDiv, Nat.reduceMod]
   rfl
  rintro (i : Nat) (⟨g1, g2, g3⟩ : i ≤ ks.length ∧ (∀ k ∈ (ks : List ByteArray).take i, ByteArray.size k ≤ 1000) ∧ i ≤ 101)
  simp (maxSteps:=9^9) only [L15_I, go_sem, eq_self, and_self, Int.natCast_pos, Int.le_refl, Nat.le_refl, Int.natCast_nonneg, Int.ofNat_lt, Int.ofNat_le, Int.reduceLT, Int.reduceLE, Int.reduceEq, Int.reduceNe, Int.reduceAdd, Int.reduceSub, Int.reduceMul, Int.reduceToNat, Int.reduceNeg, Nat.reduceEqDiff, Nat.reduceLeDiff, Nat.reduceSub, Nat.reduceMul, Nat.reduceLT, Nat.reduceBEq, Nat.reduceAdd, Nat.reduceDiv, Nat.reduceMod]
  intro c5 hc5
  refine swd9 hc5 (fun h2 => ?_) (fun h2 => ?_)
  ·refine nd_intro h2 ?_
   rintro _ _ rfl c6 hc6
   refine swd9 hc6 (fun h3 => h false (by simp)) (fun h3 => ?_)
   intro c7 hc7
   refine swd9 hc7 (fun h4 => h false (by simp)) (fun h4 => ?_)
   intro _ _ m5 hm5
   rw [w64 (by omega)] at hm5
   rw [hm5, show (i : Int) + 1 = ((i + 1 : Nat) : Int) by omega]
   refine lpE_intro (A := L15 w p q ks c s ns) (i + 1 : Nat) rfl ⟨h2, fun k hk => ?_, by omega⟩ (by show ks.length - (i + 1) < ks.length - i; omega)
   rw [← take_elt (t := .str) h2] at hk
   rcases List.mem_append.1 hk with hk | hk
   ·exact g2 k hk
   ·rw [List.mem_singleton.1 hk]
    omega
  ·have g4 : ∀ k ∈ (ks : List ByteArray), ByteArray.size k ≤ 1000 := by
    rw [List.take_of_length_le (by omega)] at g2
    exact g2
   rintro _ _ _ rfl c6 hc6
   refine swd9 hc6 (fun h3 => ?_) (fun h3 => h false (by simp))
   rintro _ _ rfl c7 hc7
   refine h c7 (fun e => ?_)
   rw [hc7] at e
   have := of_decide_eq_true e
   exact ⟨g4, by omega, by omega, by omega⟩
 ·exact h.elim
def C17 : Contract := fun args hp K => match args, hp with
 | [.agg [.str w, .sl p 16 .str ks, .int .u64 c, .int .u64 s, .sl q 8 (.int .i64) ns]], [] => ks.length ≤ 100000 ∧ ns.length ≤ 100000 ∧ K (.agg [.str w, .sl true 16 .str ks, .int .u64 c, .int .u64 s, .sl true 8 (.int .i64) ns]) []
 | _, _ => False
theorem s17 : Sound Tryz.prog 17 C17 := by
 refine sound_of_okF ok17 .nil ?_
 intro args hp K h
 unfold C17 at h
 split at h
 ·rename_i w p ks c s q ns
  refine ⟨by simp, [], ?_⟩
  have hmx := maxLen_val
  simp (maxSteps:=9^9) only [a17, r17, go_sem, eq_self, and_self, Int.natCast_pos, Int.le_refl, Nat.le_refl, Int.natCast_nonneg, Int.ofNat_lt, Int.ofNat_le, Int.reduceLT, Int.reduceLE, Int.reduceEq, Int.reduceNe, Int.reduceAdd, Int.reduceSub, Int.reduceMul, Int.reduceToNat, Int.reduceNeg, Nat.reduceEqDiff, Nat.reduceLeDiff, Nat.reduceSub, Nat.reduceMul, Nat.reduceLT, Nat.reduceBEq, Nat.reduceAdd, Nat.reduceDiv, Nat.reduceMod]
  exact ⟨id, fun _ => ⟨id, fun _ => h.2.2⟩⟩
 ·exact h.elim
end Go.V
namespace Go.V
open Go.Proofs
set_option maxRecDepth 100000
set_option maxHeartbeats 8000000
set_option linter.unusedSimpArgs false
set_option linter.unnecessarySimpa false
set_option linter.unusedVariables false
attribute [local irreducible] rc
/-! ### Raw: the document's text of a command -/
theorem drop_elt {t : Ty} {xs : List t.den} {i : Nat} (h : i < xs.length) : xs.drop i = elt t xs i :: xs.drop (i + 1) := by
 rw [List.drop_eq_getElem_cons h]
 congr 1
 unfold elt
 simp [List.getD_eq_getElem?_getD, h]
def C44 : Contract := fun args hp K => match args, hp with
 | [.agg [.str w, .sl p 16 .str ks, .int .u64 cl, .int .u64 se, .sl q 8 (.int .i64) ns]], [] => ∃ c : Cmd, w = c.word ∧ ks = c.keys ∧ cl = c.client ∧ se = c.serial ∧ ns = c.ints ∧ cmdOk c ∧ ((rawText c).size ≤ 100000 → K (.str (rawText c)) [])
 | _, _ => False
section use
variable {K : SV → List SB → Prop}
end use
attribute [local irreducible] C32 C100 C101 C102
end Go.V
namespace Go.V
open Go.Proofs
set_option maxRecDepth 100000
set_option maxHeartbeats 8000000
set_option linter.unusedSimpArgs false
set_option linter.unnecessarySimpa false
set_option linter.unusedVariables false
attribute [local irreducible] rc
/-! ### both Prints -/
theorem print_iff (c : Cmd) (t : ByteArray) : printC c = some t ↔ t = prText c ∧ parseC (prText c) = .ok c := by
 constructor
 ·intro h
  have h1 := printC_some h
  have h2 : t = rawText c := by
   unfold printC at h
   split at h
   ·split at h
    ·exact (Option.some.inj h).symm
    ·cases h
   ·cases h
  subst h2
  have h3 := (print_same c).2.1 h1
  rw [h3]
  exact ⟨rfl, h1⟩
 ·rintro ⟨rfl, h⟩
  have h1 := (print_same c).1 h
  unfold printC
  rw [h1, h]
  simp
theorem print_none {c : Cmd} (h : ¬ parseC (prText c) = .ok c) : printC c = none := by
 cases e : printC c with
 | none => rfl
 | some t => exact absurd ((print_iff c t).1 e).2 h
theorem kinds_all {w : ByteArray} {m : Nat} (h : kindsF w m ≠ none) (n : Nat) : (kindsF w n).isSome = true := by
 rcases shape_cases w with rfl | ⟨_, h2⟩ | ⟨l, _, h2, _, _, _⟩
 ·rw [kinds_offer]; rfl
 ·exact absurd (h2 m) h
 ·rw [h2]; rfl
theorem cmd_eq (d c : Cmd) : decide (d.word = c.word ∧ (d.client : Int) = c.client ∧ (d.serial : Int) = c.serial ∧ (d.keys : List ByteArray) = c.keys ∧ (d.ints : List Int) = c.ints) = decide (d = c) := by
 rw [decide_eq_decide]
 constructor
 ·rintro ⟨h1, h2, h3, h4, h5⟩
  cases d
  cases c
  simp only at h1 h2 h3 h4 h5
  subst h1 h4 h5
  have h2' := Int.ofNat.inj h2
  have h3' := Int.ofNat.inj h3
  subst h2' h3'
  rfl
 ·rintro rfl
  exact ⟨rfl, rfl, rfl, rfl, rfl⟩
def CPrint : Contract := fun args hp K => match args, hp with
 | [.agg [.str w, .sl p 16 .str ks, .int .u64 cl, .int .u64 se, .sl q 8 (.int .i64) ns]], [] => ∃ c : Cmd, w = c.word ∧ ks = c.keys ∧ cl = c.client ∧ se = c.serial ∧ ns = c.ints ∧ cmdOk c ∧ (printC c = none → K (.tup [.str ByteArray.empty, .int .i64 1]) []) ∧ (∀ t, printC c = some t → K (.tup [.str t, .int .i64 0]) [])
 | _, _ => False
section use
variable {K : SV → List SB → Prop}
theorem usePp {s : ByteArray} (hs : s.size ≤ 1000000) (h1 : ∀ e, parseC s = .error e → K (.tup [zeroC, .int .i64 e]) []) (h2 : ∀ c, parseC s = .ok c → K (.tup [cmdV c, .int .i64 0]) []) : CParse [.str s] [] K := ⟨hs, h1, h2⟩
theorem use12d {d c : Cmd} {p q : Bool} (h : K (.bool (decide (d = c))) []) : C12 [.agg [.str d.word, .sl true 16 .str d.keys, .int .u64 d.client, .int .u64 d.serial, .sl true 8 (.int .i64) d.ints], .agg [.str c.word, .sl p 16 .str c.keys, .int .u64 c.client, .int .u64 c.serial, .sl q 8 (.int .i64) c.ints]] [] K := .inr ⟨_, _, rfl, .inr ⟨_, _, rfl, .inr ⟨_, _, rfl, .inr ⟨_, _, rfl, by
 have e := cmd_eq d c
 show K (.bool (decide (d.word = c.word ∧ (d.client : Int) = c.client ∧ (d.serial : Int) = c.serial ∧ (d.keys : List ByteArray) = c.keys ∧ (d.ints : List Int) = c.ints))) []
 rw [e]
 exact h⟩⟩⟩⟩
end use
theorem errPp {s : ByteArray} {e : Int} (h : parseC s = .error e) : e = 4 ∨ e = 2 := by
 unfold parseC at h
 split at h
 ·cases h; exact .inl rfl
 ·split at h
  ·cases h; exact .inr rfl
  ·split at h
   ·split at h
    ·cases h
    ·cases h; exact .inr rfl
   ·cases h; exact .inr rfl
attribute [local irreducible] C44 CParse C12
end Go.V
