/- A part of the proof layer, or functions of the given program in it: contracts and their proofs. -/
import Derived.Test.YtbcmjkfdeikkhaaGreatMN4
import Derived.Test.YtbcmjkfdeikkhaaGreatProg
namespace Go.V
set_option linter.unusedSimpArgs false
set_option linter.unnecessarySimpa false
open Go.Proofs
def a3 : AS := qS [q 3 (.box (.t 0)), q 4 (.box (.t 1)), q 6 (.mv qf)] [2,3,4] (.seq (qS [q 16 (.call 6 [] []), q 17 (.not (.t 16)), q0 18 17, qF 19 (.ldA 5 (.t 4)) 18, qF 20 (.ldA 2 (.t 3)) 18, qF 21 (.call 7 [none, none] [.t 19, .t 20]) 18, qF 22 (.not
 (.t 21)) 18, q 23 (.pick (.t 18) qt (.t 22))] [2,3,4,23] (.cond (.t 23) (qS [q 24 (.call 6 [] []), q0 6 24] [6] .ret) .skip)) (qS [q3 26 0 4, q4 27 26, q3 28 2 4, q4 29 28, q3 30 3 4, q4 31 30, q3 32 4 4, q4 33 32, q3 34 1 4, q4 35 34, q 36
 (.call 8 [none, (some (56, qD)), (some (16, .str)), (some (16, qP)), none, (some (56, qD))] [(.c (.str ⟨#[109,101]⟩)), .t 27, .t 29, .t 31, .t 33, .t 35]), q0 25 36, q 37 (.ext (.t 25) 0), q 38 (.ext (.t 25) 1), q0 7 37, q0 8 38] [2,3,7,8]
 (.seq (.regD [q0 39 8, q5 40 39, q3 41 1 40, q4 42 41, q5 43 42, q3 44 0 43, q4 45 44, q 46 (.len .s (.t 45)), q0 47 8, q5 48 47, q3 49 4 48, q4 50 49, q 51 (.len .s (.t 50)), q0 9 46, q0 10 51] [.q 0, .q 1, .q 2, .q 3, .q 4, .q 5, .q 6, .q
 7, .q 8, .q 9, .q 10, .q 11, .q 12, .q 13, .q 14] [2,3,7,9,10]) (qS [q 53 (.ldA 2 (.t 3)), qX 10 54 [.t 53], q0 55 7, q0 56 2, q 57 (.call 9 [none, none, none] [.t 54, .t 55, .t 56]), q0 52 57, q 58 (.ext (.t 52) 0), q 59 (.ext (.t 52) 1), q
 11 (.alc [.bool false, .bool false, .int .i64 0, .int .i64 0, .nils]), q6 5 11 58, q0 12 59] [7,9,10,11,12] (qS [q0 60 12, q 61 (.bin .eql (.t 60) (qI 0)), q0 62 61, qT 63 (.fa 0 (.t 11)) 62, qT 64 (.ld (.t 63)) 62, q1 65 64 62, qF 66 (.fa 1
 (.t 11)) 65, qF 67 (.ld (.t 66)) 65, qT 68 (.pick (.t 65) qt (.t 67)) 62, q 69 (.pick (.t 62) (.t 68) qf), q0 13 69] [7,9,10,11,12,13] (.seq (qS [q0 70 12, q 71 (.bin .eql (.t 70) (qI 0)), q0 72 71, qT 73 (.fa 0 (.t 11)) 72, qT 74 (.ld (.t
 73)) 72, qT 75 (.fa 2 (.t 11)) 72, qT 76 (.ld (.t 75)) 72, qT 77 (.bin .neq (.t 76) (qI 0)) 72, qT 78 (.binB false (.t 74) (.t 77)) 72, q 79 (.pick (.t 72) (.t 78) qf), q0 80 79, qF 81 (.fa 0 (.t 11)) 80, qF 82 (.ld (.t 81)) 80, q2 83 82 80,
 qT 84 (.fa 1 (.t 11)) 83, qT 85 (.ld (.t 84)) 83, qF 86 (.pick (.t 83) (.t 85) qf) 80, q 87 (.pick (.t 80) qt (.t 86))] [7,9,10,11,12,13,87] (.cond (.t 87) (qS [q 6 (.mv qf)] [6] .ret) .skip)) (qS [q0 88 9, q0 14 88] [7,9,10,11,12,13,14]
 (.seq (qS [q0 89 13] [7,9,10,11,12,13,14,89] (.cond (.t 89) (.reg [q0 90 9, q 91 (.bin .sub (.t 90) (qI 1)), q0 14 91] [7,10,11,12,13,14]) .skip)) (qS [q0 92 10, q0 15 92] [7,10,11,12,13,14,15] (.seq (qS [q3 93 1 11, q4 94 93]
 [7,10,11,12,13,14,15,94] (.cond (.t 94) (.reg [q0 95 10, q 96 (.bin .add (.t 95) (qI 1)), q0 15 96] [7,11,12,13,14,15]) .skip)) (qS [q0 97 7, q5 98 97, q3 99 1 98, q4 100 99, qX 11 101 [.t 100], q0 102 14, q 103 (.bin .eql (.t 101) (.t
 102)), q0 104 103, q1 105 7 104, qT 106 (.nck (.t 105)) 104, qT 107 (.fa 4 (.t 106)) 104, qT 108 (.ld (.t 107)) 104, qT 109 (.len .s (.t 108)) 104, q1 110 15 104, qT 111 (.bin .eql (.t 109) (.t 110)) 104, q 112 (.pick (.t 104) (.t 111) qf),
 q0 113 112, q1 114 13 113, qT 115 (.not (.t 114)) 113, q1 116 115 113, q2 117 7 116, qF 118 (.nck (.t 117)) 116, qF 119 (.fa 3 (.t 118)) 116, qF 120 (.ld (.t 119)) 116, qF 121 (.bin .eql (.t 120) (qI 0)) 116, qT 122 (.pick (.t 116) qt (.t
 121)) 113, q 123 (.pick (.t 113) (.t 122) qf), q0 124 123, q1 125 12 124, qT 126 (.bin .neq (.t 125) (qI 0)) 124, q1 127 126 124, qF 128 (.fa 3 (.t 11)) 127, qF 129 (.ld (.t 128)) 127, qF 130 (.bin .leq (.t 129) (qI 500)) 127, qT 131 (.pick
 (.t 127) qt (.t 130)) 124, q 132 (.pick (.t 124) (.t 131) qf), q0 6 132] [6] .ret)))))))))))
def r3 : List RT := [.t 6]
def a4 : AS := qS [q 4 (.box (.t 0)), q 5 (.box (.t 1)), q 8 (.mv qf)] [2,3,4,5] (.seq (qS [q 16 (.call 6 [] []), q 17 (.not (.t 16)), q0 18 17, qF 19 (.ldA 5 (.t 5)) 18, qF 20 (.ldA 2 (.t 4)) 18, qF 21 (.call 7 [none, none] [.t 19, .t 20]) 18, qF 22 (.not
 (.t 21)) 18, q 23 (.pick (.t 18) qt (.t 22))] [2,3,4,5,23] (.cond (.t 23) (qS [q 24 (.call 6 [] []), q0 8 24] [8] .ret) .skip)) (qS [q3 26 0 5, q4 27 26, q3 28 2 5, q4 29 28, q3 30 3 5, q4 31 30, q3 32 4 5, q4 33 32, q3 34 1 5, q4 35 34, q
 36 (.call 8 [none, (some (56, qD)), (some (16, .str)), (some (16, qP)), none, (some (56, qD))] [(.c (.str ⟨#[109,101]⟩)), .t 27, .t 29, .t 31, .t 33, .t 35]), q0 25 36, q 37 (.ext (.t 25) 0), q 38 (.ext (.t 25) 1), q0 9 37, q0 10 38]
 [2,3,4,9,10] (.seq (qS [q0 39 3, q 40 (.bin .rem (.t 39) (.c (.int .u8 12))), q 41 (.mv (.c (.int .u8 0)))] [2,4,9,10,40,41] (.block 0 (.lift 9 (some 4) 56 qD (.lift 10 (some 4) 56 qD (.loop 1 [2,4,9,10,40,41] (qS [q 42 (.bin .lss (.t 41)
 (.t 40))] [2,4,9,10,40,41,42] (.seq (.cond (.t 42) .skip (.exit 0)) (.seq (.block 1 (qS [q 44 (.ldA 2 (.t 4)), qX 10 45 [.t 44], q0 46 9, q0 47 2, q 48 (.call 9 [none, none, none] [.t 45, .t 46, .t 47]), q0 43 48, q 49 (.ext (.t 43) 0), q 50
 (.ext (.t 43) 1), q 11 (.alc [.bool false, .bool false, .int .i64 0, .int .i64 0, .nils]), q6 5 11 49, q0 12 50] [2,4,9,10,11,12,40,41] (qS [q 52 (.ldA 2 (.t 4)), q0 53 10, q0 54 2, q 55 (.call 12 [none, none, none] [.t 52, .t 53, .t 54]),
 q0 51 55, q 56 (.ext (.t 51) 0), q 57 (.ext (.t 51) 1), q 58 (.ext (.t 51) 2), q 14 (.alc [.bool false, .bool false, .int .i64 0, .int .i64 0, .nils]), q0 13 56, q6 5 14 57, q0 15 58] [2,4,9,11,12,13,14,15,40,41] (qS [q0 59 13, q0 10 59]
 [2,4,9,10,11,12,14,15,40,41] (.seq (.regD [q0 60 12, q0 61 15, q 62 (.bin .neq (.t 60) (.t 61)), q0 63 62, qF 64 (.ldA 5 (.t 11)) 63, qF 65 (.call 14 [none] [.t 64]) 63, qF 66 (.ldA 5 (.t 14)) 63, qF 67 (.call 13 [none, none] [.t 65, .t 66])
 63, qF 68 (.not (.t 67)) 63, q 69 (.pick (.t 63) qt (.t 68)), q0 70 69, q2 71 9 70, q2 72 10 70, qF 73 (.call 15 [none, none] [.t 71, .t 72]) 70, qF 74 (.not (.t 73)) 70, q 75 (.pick (.t 70) qt (.t 74))] [.q 0, .q 1, .q 2, .q 3, .q 4, .q 6,
 .e 5 [6], .e 7 [], .q 8, .q 9, .q 10, .q 11, .q 12, .e 13 [], .q 14, .q 15] [2,4,9,10,40,41,75]) (.cond (.t 75) (qS [q 8 (.mv qf)] [8] .ret) .skip)))))) (.reg [q 76 (.bin .add (.t 41) (.c (.int .u8 1))), q0 41 76] [2,4,9,10,40,41])))))))))
 (qS [q 8 (.mv qt)] [8] .ret))))
def r4 : List RT := [.t 8]
def a5 : AS := qS [q 3 (.box (.t 0)), q 4 (.box (.t 1)), q 6 (.mv qf)] [2,3,4] (.seq (qS [q 21 (.call 6 [] []), q 22 (.not (.t 21)), q0 23 22, qF 24 (.ldA 5 (.t 4)) 23, qF 25 (.ldA 2 (.t 3)) 23, qF 26 (.call 7 [none, none] [.t 24, .t 25]) 23, qF 27 (.not
 (.t 26)) 23, q 28 (.pick (.t 23) qt (.t 27))] [2,3,4,28] (.cond (.t 28) (qS [q 29 (.call 6 [] []), q0 6 29] [6] .ret) .skip)) (qS [q3 31 0 4, q4 32 31, q3 33 2 4, q4 34 33, q3 35 3 4, q4 36 35, q3 37 4 4, q4 38 37, q3 39 1 4, q4 40 39, q 41
 (.call 8 [none, (some (56, qD)), (some (16, .str)), (some (16, qP)), none, (some (56, qD))] [(.c (.str ⟨#[109,101]⟩)), .t 32, .t 34, .t 36, .t 38, .t 40]), q0 30 41, q 42 (.ext (.t 30) 0), q 43 (.ext (.t 30) 1), q0 7 42, q0 8 43] [2,3,7] (qS
 [q0 45 7, qX 16 46 [.t 45], q0 44 46, q 47 (.ext (.t 44) 0), q 48 (.ext (.t 44) 1), q0 9 47, q0 10 48] [2,3,7,9,10] (.seq (qS [q0 49 10, q 50 (.bin .neq (.t 49) (qI 0))] [2,3,7,9,50] (.cond (.t 50) (qS [q 6 (.mv qt)] [6] .ret) .skip)) (qS
 [q0 52 9, q 53 (.call 17 [(some (1, .byte))] [.t 52]), q0 51 53, q 54 (.ext (.t 51) 0), q 55 (.ext (.t 51) 1), q0 11 54, q0 12 55] [2,3,7,11,12] (.seq (qS [q0 56 12, q 57 (.bin .neq (.t 56) (qI 0))] [2,3,7,11,57] (.cond (.t 57) (qS [q 6 (.mv
 qf)] [6] .ret) .skip)) (qS [q 59 (.ldA 2 (.t 3)), qX 10 60 [.t 59], q0 61 7, q0 62 2, q 63 (.call 9 [none, none, none] [.t 60, .t 61, .t 62]), q0 58 63, q 64 (.ext (.t 58) 0), q 65 (.ext (.t 58) 1), q 13 (.alc [.bool false, .bool false, .int
 .i64 0, .int .i64 0, .nils]), q6 5 13 64, q0 14 65] [2,3,7,11,13,14] (qS [q 67 (.ldA 2 (.t 3)), qX 10 68 [.t 67], q0 69 11, q0 70 2, q 71 (.call 9 [none, none, none] [.t 68, .t 69, .t 70]), q0 66 71, q 72 (.ext (.t 66) 0), q 73 (.ext (.t 66)
 1), q 15 (.alc [.bool false, .bool false, .int .i64 0, .int .i64 0, .nils]), q6 5 15 72, q0 16 73] [7,11,13,14,15,16] (qS [q0 75 7, qX 16 76 [.t 75], q0 74 76, q 77 (.ext (.t 74) 0), q 78 (.ext (.t 74) 1), q0 17 77, q0 18 78]
 [11,13,14,15,16,17] (qS [q0 80 11, qX 16 81 [.t 80], q0 79 81, q 82 (.ext (.t 79) 0), q 83 (.ext (.t 79) 1), q0 19 82, q0 20 83] [13,14,15,16,17,19] (.seq (.regD [q 84 (.ldA 5 (.t 13)), qX 14 85 [.t 84], q 86 (.ldA 5 (.t 15)), qX 14 87 [.t
 86], q 88 (.call 13 [none, none] [.t 85, .t 87]), q0 89 88, q1 90 14 89, q1 91 16 89, qT 92 (.bin .eql (.t 90) (.t 91)) 89, q 93 (.pick (.t 89) (.t 92) qf), q0 94 93, q1 95 17 94, qT 96 (.b2s (.t 95)) 94, q1 97 19 94, qT 98 (.b2s (.t 97))
 94, qT 99 (.bin .eql (.t 96) (.t 98)) 94, q 100 (.pick (.t 94) (.t 99) qf), q0 6 100] [.q 0, .q 2, .e 1 [2], .e 3 [], .e 4 [], .q 5, .q 6, .q 7, .q 8, .q 9, .q 10, .q 11, .q 12, .q 13, .q 14, .q 15, .q 16, .q 17] [6]) .ret)))))))))))
def r5 : List RT := [.t 6]
def a7 : AS := qS [q 2 (.box (.t 0)), q 3 (.box (.t 1)), q 4 (.mv qf)] [2,3] (qS [q 5 (.mv (qI 0))] [2,3,5] (.seq (qS [q3 9 0 2, q4 10 9, q 11 (.len .s (.t 10)), q 12 (.mv (qI 0))] [2,3,5,11,12] (.block 0 (.loop 1 [2,3,5,11,12] (qS [q 13 (.bin .lss (.t 12)
 (.t 11))] [2,3,5,11,12,13] (.seq (.cond (.t 13) .skip (.exit 0)) (.seq (.block 1 (qS [q0 14 12, q0 6 14] [2,3,5,6,11,12] (.regD [q0 15 5, q3 16 0 2, q4 17 16, q0 18 6, q 19 (.ia 4 (.t 17) (.t 18)), q3 20 3 19, q4 21 20, q 22 (.len .s (.t
 21)), q 23 (.bin .add (.t 15) (.t 22)), q3 24 0 2, q4 25 24, q0 26 6, q 27 (.ia 4 (.t 25) (.t 26)), q3 28 0 27, q4 29 28, q 30 (.len .i (.t 29)), q 31 (.bin .add (.t 23) (.t 30)), q 32 (.bin .add (.t 31) (qI 1)), q0 5 32] [.q 0, .q 1, .q 2,
 .q 3, .q 4, .q 5, .q 6, .q 7, .q 8, .q 9, .q 10, .q 11, .q 12, .q 13, .q 14, .q 15, .q 16, .q 17, .e 18 []] [2,3,5,11,12]))) (.reg [q 33 (.bin .add (.t 12) (qI 1)), q0 12 33] [2,3,5,11,12]))))))) (.seq (qS [q3 34 1 2, q4 35 34, q 36 (.len .s
 (.t 35)), q 37 (.mv (qI 0))] [2,3,5,36,37] (.block 2 (.loop 2 [2,3,5,36,37] (qS [q 38 (.bin .lss (.t 37) (.t 36))] [2,3,5,36,37,38] (.seq (.cond (.t 38) .skip (.exit 2)) (.seq (.block 3 (qS [q0 39 37, q0 7 39] [2,3,5,7,36,37] (.regD [q0 40
 5, q3 41 1 2, q4 42 41, q0 43 7, q 44 (.ia 4 (.t 42) (.t 43)), q3 45 3 44, q4 46 45, q 47 (.len .s (.t 46)), q 48 (.bin .add (.t 40) (.t 47)), q3 49 1 2, q4 50 49, q0 51 7, q 52 (.ia 4 (.t 50) (.t 51)), q3 53 0 52, q4 54 53, q 55 (.len .i
 (.t 54)), q 56 (.bin .add (.t 48) (.t 55)), q 57 (.bin .add (.t 56) (qI 1)), q0 5 57] [.q 0, .q 1, .q 2, .q 3, .q 4, .q 5, .q 6, .q 7, .q 8, .q 9, .q 10, .q 11, .q 12, .q 13, .q 14, .q 15, .q 16, .q 17, .e 18 []] [2,3,5,36,37]))) (.reg [q 58
 (.bin .add (.t 37) (qI 1)), q0 37 58] [2,3,5,36,37]))))))) (.seq (qS [q3 59 2 2, q4 60 59, q 61 (.len .s (.t 60)), q 62 (.mv (qI 0))] [2,3,5,61,62] (.block 4 (.loop 3 [2,3,5,61,62] (qS [q 63 (.bin .lss (.t 62) (.t 61))] [2,3,5,61,62,63]
 (.seq (.cond (.t 63) .skip (.exit 4)) (.seq (.block 5 (qS [q0 64 62, q0 8 64] [2,3,5,8,61,62] (.reg [q0 65 5, q3 66 2 2, q4 67 66, q0 68 8, q 69 (.ia 1 (.t 67) (.t 68)), q4 70 69, q 71 (.len .i (.t 70)), q 72 (.bin .add (.t 65) (.t 71)), q
 73 (.bin .add (.t 72) (qI 1)), q0 5 73] [2,3,5,61,62]))) (.reg [q 74 (.bin .add (.t 62) (qI 1)), q0 62 74] [2,3,5,61,62]))))))) (qS [q0 75 5, q 76 (.bin .lss (.t 75) (qI 10000)), q0 77 76, qT 78 (.fa 3 (.t 2)) 77, qT 79 (.ld (.t 78)) 77, qT
 80 (.len .s (.t 79)) 77, qT 81 (.bin .lss (.t 80) (qI 300)) 77, q 82 (.pick (.t 77) (.t 81) qf), q0 83 82, qT 84 (.ldA 2 (.t 3)) 83, qT 85 (.call 21 [none] [.t 84]) 83, q 86 (.pick (.t 83) (.t 85) qf), q0 4 86] [4] .ret)))))
def r7 : List RT := [.t 4]
def a12 : AS := qS [q 3 (.box (.t 0)), q 6 (.mv (.c (.nilp))), q 7 (.alc [.bool false, .bool false, .int .i64 0, .int .i64 0, .nils]), q 8 (.mv (qI 0))] [1,2,3,7] (.seq (.seq (.regD [q0 17 1, q5 18 17, q3 19 3 18, q4 20 19, q0 21 1, q5 22 21, q3 23 1 22, q4
 24 23, q5 25 24, q3 26 0 25, q4 27 26, q 28 (.len .s (.t 27)), q0 29 1, q5 30 29, q3 31 4 30, q4 32 31, q 33 (.call 36 [none, none, (some (56, qD))] [.t 20, .t 28, .t 32]), q 34 (.not (.t 33)), q0 35 34, qF 36 (.ldA 2 (.t 3)) 35, qF 37
 (.call 37 [none] [.t 36]) 35, qF 38 (.not (.t 37)) 35, q 39 (.pick (.t 35) qt (.t 38)), q0 40 39, q2 41 2 40, qF 42 (.bin .lss (.t 41) (qI 0)) 40, q 43 (.pick (.t 40) qt (.t 42))] [.q 0, .q 1, .q 2, .q 3, .q 4, .q 5, .q 6, .q 7, .q 8, .q 9,
 .q 10, .q 11, .q 12, .q 13, .q 14, .q 15, .e 16 [], .q 17, .q 18, .q 19, .e 20 [], .q 21, .q 22, .q 23, .q 24, .q 25, .q 26] [1,2,3,7,43]) (.cond (.t 43) (qS [q0 44 1, q 45 (.bld [.bool false, .bool false, .int .i64 0, .int .i64 0, .nils]
 []), q0 6 44, q6 5 7 45, q 8 (.mv (qI 1))] [6,7,8] (.lift 6 (some 4) 56 qD (.lift 6 (some 4) 56 qD .ret))) .skip)) (.seq (qS [q0 46 1, q5 47 46, q3 48 1 47, q4 49 48, q5 50 49, q3 51 0 50, q4 52 51, q 53 (.len .s (.t 52)), q 54 (.bin .eql
 (.t 53) (qI 0))] [1,2,3,7,54] (.cond (.t 54) (qS [q0 55 1, q 56 (.bld [.bool false, .bool false, .int .i64 0, .int .i64 0, .nils] []), q0 6 55, q6 5 7 56, q 8 (.mv (qI 5))] [6,7,8] (.lift 6 (some 4) 56 qD (.lift 6 (some 4) 56 qD .ret)))
 .skip)) (qS [q0 57 1, qX 38 58 [.t 57], q0 9 58] [1,2,3,7,9] (.seq (.regT [q 60 (.ldA 2 (.t 3)), q0 61 9, q5 62 61, q3 63 0 62, q4 64 63, qX 40 65 [.t 64], q0 66 9, q5 67 66, q3 68 1 67, q4 69 68, q5 70 69, q3 71 0 70, q4 72 71, q 73 (.ia 4
 (.t 72) (qI 0)), q 74 (.ldA 4 (.t 73)), q0 75 2, q 76 (.call 39 [none, none, none, none] [.t 60, .t 65, .t 74, .t 75]), q0 59 76, q 77 (.ext (.t 59) 0), q 78 (.ext (.t 59) 1), q 10 (.alc [.arr 8 (.int .i64) (List.replicate 8 (Ty.dflt (.int
 .i64))), .nils, .nils, .nils, .int .i64 0]), q6 12 10 77, q0 11 78] (.q 0 (.q 1 (.q 2 (.q 3 (.q 4 (.q 6 (.q 7 (.q 8 (.q 9 (.q 10 (.q 11 (.q 12 (.q 13 (.q 14 (.q 15 (.e 5 [0,6,7,8,9,10,11,12,13,14,15] (.e 16 [] (.q 17 (.q 18 (.q 19 (.e 20
 [0,1,2,3,4,6,7,8,9,10,11,12,13,14,15,17,18,19] (.e 21 [19] (.q 22 .done) .no) .no)))) (.e 20 [0,1,2,3,4,6,7,8,9,10,11,12,13,14,15] (.e 16 [] (.q 17 (.q 18 (.q 19 (.e 21 [19] (.q 22 .done) .no)))) .no) .no)) (.e 20
 [0,1,2,3,4,6,7,8,9,10,11,12,13,14,15] (.e 5 [0,6,7,8,9,10,11,12,13,14,15] (.e 16 [] (.q 17 (.q 18 (.q 19 (.e 21 [19] (.q 22 .done) .no)))) .no) .no) .no))))))))))))))))) [1,7,9,10,11]) (.seq (qS [q0 79 11, q 80 (.bin .eql (.t 79) (qI 0))]
 [1,7,9,10,11,80] (.cond (.t 80) (qS [q0 81 9, q5 82 81, q3 83 1 82, q4 84 83, qX 41 85 [.t 84]] [1,7,9,10] (qS [q0 86 9, q5 87 86, q3 88 3 87, ⟨none, .st 1 (.t 88) (qI 0), none⟩] [1,7,9,10] (.seq (.regD [q0 89 9, q5 90 89, q3 91 0 90, q4 92
 91, q3 93 8 10, q4 94 93, q 95 (.call 27 [none, (some (16, qP))] [.t 92, .t 94])] [.q 0, .q 1, .q 2, .q 3, .q 4, .q 5, .e 6 []] [1,7,9,10]) (.seq (qS [q3 96 9 10, q4 97 96, q 98 (.len .s (.t 97)), q 99 (.mv (qI 0))] [1,7,9,10,98,99] (.block
 0 (.lift 1 (some 4) 56 qD (.lift 9 (some 4) 56 qD (.loop 1 [1,7,9,10,98,99] (qS [q 100 (.bin .lss (.t 99) (.t 98))] [1,7,9,10,98,99,100] (.seq (.cond (.t 100) .skip (.exit 0)) (.seq (.block 1 (qS [q0 101 99, q0 12 101] [1,7,9,10,12,98,99]
 (.seq (.regD [q0 103 9, q5 104 103, q3 105 2 104, q4 106 105, q3 107 9 10, q4 108 107, q0 109 12, q 110 (.ia 3 (.t 108) (.t 109)), q3 111 0 110, q4 112 111, q3 113 9 10, q4 114 113, q0 115 12, q 116 (.ia 3 (.t 114) (.t 115)), q3 117 1 116,
 q4 118 117, q3 119 9 10, q4 120 119, q0 121 12, q 122 (.ia 3 (.t 120) (.t 121)), q3 123 2 122, q4 124 123, q 125 (.bsl 8 (.int .i64) 1 [(0, (.t 124))]), q 126 (.call 25 [none, none, none, (some (8, (.int .i64)))] [.t 106, .t 112, .t 118, .t
 125]), q0 102 126, q 127 (.ext (.t 102) 0), q 128 (.ext (.t 102) 1), q0 13 127, q0 14 128] [.q 0, .q 1, .q 2, .q 3, .q 4, .q 5, .q 6, .q 7, .q 8, .q 9, .q 10, .q 11, .q 12, .q 13, .q 14, .q 15, .q 16, .q 17, .q 18, .q 19, .q 20, .q 21, .e 22
 [0,1,2,3,4,5,6,7,8,9,10,11,12,13,14,15], .e 23 [], .q 24, .q 25, .q 26, .q 27, .q 28] [1,7,9,10,14,98,99]) (qS [q0 129 14, q 130 (.bin .neq (.t 129) (qI 0))] [1,7,9,10,98,99,130] (.cond (.t 130) (qS [q0 131 1, q 132 (.bld [.bool false, .bool
 false, .int .i64 0, .int .i64 0, .nils] []), q0 6 131, q6 5 7 132, q 8 (.mv (qI 8))] [6,7,8] (.lift 6 (some 4) 56 qD (.lift 6 (some 4) 56 qD .ret))) .skip))))) (.reg [q 133 (.bin .add (.t 99) (qI 1)), q0 99 133] [1,7,9,10,98,99])))))))))
 (.seq (.regD [q0 134 9, q3 135 11 10, q4 136 135, q3 137 10 10, q4 138 137, q 139 (.bld [.bool false, .bool false, .int .i64 0, .int .i64 0, .nils] [(0, 1, qt), (3, 1, (.t 136)), (4, 1, (.t 138))]), q0 6 134, q6 5 7 139, q 8 (.mv (qI 0))]
 [.q 0, .q 1, .q 2, .q 3, .q 4, .q 5, .q 6, .e 7 [], .q 8] [6,7,8]) (.lift 6 (some 4) 56 qD (.lift 6 (some 4) 56 qD .ret))))))) .skip)) (qS [q0 140 9, q5 141 140, q3 142 3 141, q4 143 142, q 144 (.bin .add (.t 143) (qI 1)), q5 145 140, q3 146
 3 145, q6 1 146 144] [1,7,9,10,11] (.seq (qS [q0 147 9, q5 148 147, q3 149 3 148, q4 150 149, q 151 (.bin .lss (.t 150) (qI 3))] [1,7,9,10,11,151] (.cond (.t 151) (.seq (.regD [q0 152 9, q0 153 11, q3 154 11 10, q4 155 154, q 156 (.bld
 [.bool false, .bool false, .int .i64 0, .int .i64 0, .nils] [(2, 1, (.t 153)), (3, 1, (.t 155))]), q0 6 152, q6 5 7 156, q 8 (.mv (qI 0))] [.q 0, .q 1, .q 2, .q 3, .q 4, .q 5, .e 6 [], .q 7] [6,7,8]) (.lift 6 (some 4) 56 qD (.lift 6 (some 4)
 56 qD .ret))) .skip)) (.seq (qS [q0 157 9, q5 158 157, q3 159 4 158, q4 160 159, q 161 (.len .s (.t 160)), q 162 (.bin .geq (.t 161) (qI 8))] [1,7,9,10,11,162] (.cond (.t 162) (qS [q0 163 1, q 164 (.bld [.bool false, .bool false, .int .i64
 0, .int .i64 0, .nils] []), q0 6 163, q6 5 7 164, q 8 (.mv (qI 8))] [6,7,8] (.lift 6 (some 4) 56 qD (.lift 6 (some 4) 56 qD .ret))) .skip)) (qS [q0 166 9, q5 167 166, q3 168 1 167, q4 169 168, qX 41 170 [.t 169], q0 165 170, q 171 (.ext (.t
 165) 0), q 172 (.ext (.t 165) 1), q 15 (.alc [qE, .int .u64 0, .int .i64 0, .nils]), q6 4 15 171, q0 16 172] [7,9,10,11,15] (.seq (.regD [q0 173 9, q0 174 9, q5 175 174, q3 176 4 175, q4 177 176, q 178 (.ldA 4 (.t 15)), q 179 (.bsl 56 qD 1
 [(0, (.t 178))]), q 180 (.app 56 qD (.t 177) (.t 179)), q5 181 173, q3 182 4 181, q6 1 182 180] [.q 0, .q 1, .q 2, .q 3, .q 4, .q 5, .e 6 [0,1,2,3,4], .e 7 [0], .q 8, .q 9, .e 10 []] [7,9,10,11]) (qS [q0 183 9, q5 184 183, q3 185 3 184,
 ⟨none, .st 1 (.t 185) (qI 0), none⟩] [7,9,10,11] (.seq (.regD [q0 186 9, q0 187 11, q3 188 11 10, q4 189 188, q 190 (.bld [.bool false, .bool false, .int .i64 0, .int .i64 0, .nils] [(1, 1, qt), (2, 1, (.t 187)), (3, 1, (.t 189))]), q0 6
 186, q6 5 7 190, q 8 (.mv (qI 0))] [.q 0, .q 1, .q 2, .q 3, .q 4, .q 5, .e 6 [], .q 7] [6,7,8]) (.lift 6 (some 4) 56 qD (.lift 6 (some 4) 56 qD .ret))))))))))))))
def r12 : List RT := [.t 6, .c 7 (some 5), .t 8, .f 6]
def a13 : AS := qS [q 2 (.box (.t 0)), q 3 (.box (.t 1)), q 4 (.mv qf)] [2,3] (qS [q3 5 0 2, q4 6 5, q3 7 0 3, q4 8 7, q 9 (.binB false (.t 6) (.t 8)), q0 10 9, qT 11 (.fa 1 (.t 2)) 10, qT 12 (.ld (.t 11)) 10, qT 13 (.fa 1 (.t 3)) 10, qT 14 (.ld (.t 13))
 10, qT 15 (.binB false (.t 12) (.t 14)) 10, q 16 (.pick (.t 10) (.t 15) qf), q0 17 16, qT 18 (.fa 2 (.t 2)) 17, qT 19 (.ld (.t 18)) 17, qT 20 (.fa 2 (.t 3)) 17, qT 21 (.ld (.t 20)) 17, qT 22 (.bin .eql (.t 19) (.t 21)) 17, q 23 (.pick (.t
 17) (.t 22) qf), q0 24 23, qT 25 (.fa 3 (.t 2)) 24, qT 26 (.ld (.t 25)) 24, qT 27 (.fa 3 (.t 3)) 24, qT 28 (.ld (.t 27)) 24, qT 29 (.bin .eql (.t 26) (.t 28)) 24, q 30 (.pick (.t 24) (.t 29) qf), q0 31 30, qT 32 (.fa 4 (.t 2)) 31, qT 33 (.ld
 (.t 32)) 31, qT 34 (.fa 4 (.t 3)) 31, qT 35 (.ld (.t 34)) 31, qT 36 (.call 42 [none, none] [.t 33, .t 35]) 31, q 37 (.pick (.t 31) (.t 36) qf), q0 4 37] [4] .ret)
def r13 : List RT := [.t 4]
def a14 : AS := qS [q 1 (.box (.t 0)), q 2 (.alc [.bool false, .bool false, .int .i64 0, .int .i64 0, .nils])] [1,2] (.seq (.regD [q3 3 0 1, q4 4 3, q3 5 1 1, q4 6 5, q3 7 2 1, q4 8 7, q3 9 3 1, q4 10 9, q3 11 4 1, q4 12 11, qX 43 13 [.t 12], q 14 (.bld
 [.bool false, .bool false, .int .i64 0, .int .i64 0, .nils] [(0, 1, (.t 4)), (1, 1, (.t 6)), (2, 1, (.t 8)), (3, 1, (.t 10)), (4, 1, (.t 13))]), q6 5 2 14] [.q 0, .q 1, .q 2, .q 3, .q 4, .q 5, .q 6, .q 7, .q 8, .q 9, .e 10 [0,1,2,3,4,5,6,7],
 .q 11, .e 12 []] [2]) .ret)
def r14 : List RT := [.c 2 (some 5), .f 2]
def a15 : AS := qS [q 4 (.mv qf)] [0,1] (.seq (.seq (.regD [q0 10 0, q 11 (.eqn false .p (.t 10) (.c (.nilp))), q0 12 11, q2 13 0 12, qF 14 (.call 44 [none] [.t 13]) 12, q2 15 1 12, qF 16 (.nck (.t 15)) 12, qF 17 (.fa 2 (.t 16)) 12, qF 18 (.ld (.t 17)) 12,
 qF 19 (.nck (.t 18)) 12, qF 20 (.fa 0 (.t 19)) 12, qF 21 (.ld (.t 20)) 12, qF 22 (.bin .neq (.t 14) (.t 21)) 12, q 23 (.pick (.t 12) qt (.t 22)), q0 24 23, q2 25 0 24, qF 26 (.nck (.t 25)) 24, qF 27 (.fa 3 (.t 26)) 24, qF 28 (.ld (.t 27))
 24, q2 29 1 24, qF 30 (.nck (.t 29)) 24, qF 31 (.fa 3 (.t 30)) 24, qF 32 (.ld (.t 31)) 24, qF 33 (.bin .neq (.t 28) (.t 32)) 24, q 34 (.pick (.t 24) qt (.t 33)), q0 35 34, q2 36 0 35, qF 37 (.nck (.t 36)) 35, qF 38 (.fa 4 (.t 37)) 35, qF 39
 (.ld (.t 38)) 35, q2 40 1 35, qF 41 (.nck (.t 40)) 35, qF 42 (.fa 4 (.t 41)) 35, qF 43 (.ld (.t 42)) 35, qF 44 (.call 45 [(some (56, qD)), (some (56, qD))] [.t 39, .t 43]) 35, qF 45 (.not (.t 44)) 35, q 46 (.pick (.t 35) qt (.t 45)), q0 47
 46, q2 48 0 47, qF 49 (.nck (.t 48)) 47, qF 50 (.fa 1 (.t 49)) 47, qF 51 (.ld (.t 50)) 47, qF 52 (.call 46 [none] [.t 51]) 47, q2 53 1 47, qF 54 (.nck (.t 53)) 47, qF 55 (.fa 1 (.t 54)) 47, qF 56 (.ld (.t 55)) 47, qF 57 (.nck (.t 56)) 47, qF
 58 (.fa 0 (.t 57)) 47, qF 59 (.ld (.t 58)) 47, qF 60 (.call 45 [(some (56, qD)), (some (56, qD))] [.t 52, .t 59]) 47, qF 61 (.not (.t 60)) 47, q 62 (.pick (.t 47) qt (.t 61))] [.q 0, .q 1, .q 2, .q 3, .q 5, .q 6, .q 7, .q 8, .q 9, .q 10, .q
 11, .e 4 [5,6,7,8,9,10,11], .q 12, .q 13, .q 14, .q 15, .q 16, .q 17, .q 18, .q 19, .q 20, .q 21, .q 22, .q 23, .q 24, .q 25, .q 26, .q 27, .q 28, .q 29, .q 30, .q 31, .q 32, .q 33, .e 34 [], .q 35, .q 36, .q 37, .q 38, .q 39, .q 40, .q 41,
 .q 43, .q 44, .q 45, .q 46, .q 47, .q 48, .q 49, .e 42 [43,44,45,46,47,48,49], .e 50 [], .q 51, .q 52] [0,1,62]) (.cond (.t 62) (qS [q 4 (.mv qf)] [4] .ret) .skip)) (qS [q0 63 0, q5 64 63, q3 65 2 64, q4 66 65, qX 47 67 [.t 66], q0 5 67]
 [0,1,5] (qS [q 6 (.mv (.c (.nils)))] [0,1,5,6] (.seq (qS [q0 68 5, q 69 (.len .s (.t 68)), q 70 (.mv (qI 0))] [0,1,5,6,69,70] (.block 0 (.lift 6 none 72 (.pair .str qD) (.lift 0 (some 4) 56 qD (.lift 1 (some 4) 56 qD (.loop 1 [0,1,5,6,69,70]
 (qS [q 71 (.bin .lss (.t 70) (.t 69))] [0,1,5,6,69,70,71] (.seq (.cond (.t 71) .skip (.exit 0)) (.seq (.block 1 (qS [q0 72 70, q0 7 72] [0,1,5,6,7,69,70] (.regD [q0 73 6, q0 74 5, q0 75 7, q 76 (.ia 5 (.t 74) (.t 75)), q3 77 0 76, q4 78 77,
 q0 79 5, q0 80 7, q 81 (.ia 5 (.t 79) (.t 80)), q3 82 1 81, q 83 (.ldA 4 (.t 82)), q 84 (.bld [qE, qE, .int .u64 0, .int .i64 0, .nils] [(0, 1, (.t 78)), (1, 4, (.t 83))]), q 85 (.bsl 72 (.pair .str qD) 1 [(0, (.t 84))]), q 86 (.app 72
 (.pair .str qD) (.t 73) (.t 85)), q0 6 86] [.q 0, .q 1, .q 2, .q 3, .q 4, .q 5, .q 6, .q 7, .q 8, .q 9, .q 10, .q 11, .e 12 [0], .e 13 [], .e 14 []] [0,1,5,6,69,70]))) (.reg [q 87 (.bin .add (.t 70) (qI 1)), q0 70 87]
 [0,1,5,6,69,70])))))))))) (qS [q0 88 1, q5 89 88, q3 90 2 89, q4 91 90, qX 48 92 [.t 91], q0 8 92] [0,1,6,8] (.seq (qS [q0 93 8, q 94 (.len .s (.t 93)), q 95 (.mv (qI 0))] [0,1,6,8,94,95] (.block 2 (.lift 0 (some 4) 56 qD (.lift 1 (some 4)
 56 qD (.loop 2 [0,1,6,8,94,95] (qS [q 96 (.bin .lss (.t 95) (.t 94))] [0,1,6,8,94,95,96] (.seq (.cond (.t 96) .skip (.exit 2)) (.seq (.block 3 (qS [q0 97 95, q0 9 97] [0,1,6,8,9,94,95] (.seq (.regD [q0 98 0, q5 99 98, q3 100 2 99, q4 101
 100, q0 102 8, q0 103 9, q 104 (.ia 1 (.t 102) (.t 103)), q4 105 104, q 106 (.call 49 [none, none] [.t 101, .t 105]), q0 107 1, q5 108 107, q3 109 2 108, q4 110 109, q0 111 8, q0 112 9, q 113 (.ia 1 (.t 111) (.t 112)), q4 114 113, q 115
 (.call 50 [none, none] [.t 110, .t 114]), q 116 (.bin .neq (.t 106) (.t 115))] [.q 0, .q 1, .q 2, .q 3, .q 4, .q 5, .q 6, .q 7, .q 9, .q 10, .q 11, .q 12, .q 13, .q 14, .q 15, .q 16, .e 8 [9,10,11,12,13,14,15,16], .e 17 [], .q 18]
 [0,1,6,8,94,95,116]) (.cond (.t 116) (qS [q 4 (.mv qf)] [4] .ret) .skip)))) (.reg [q 117 (.bin .add (.t 95) (qI 1)), q0 95 117] [0,1,6,8,94,95]))))))))) (.seq (.regD [q0 118 6, q0 119 1, q5 120 119, q3 121 2 120, q4 122 121, q5 123 122, q3
 124 1 123, q4 125 124, q 126 (.call 51 [(some (72, (.pair .str qD))), (some (72, (.pair .str qD)))] [.t 118, .t 125]), q0 127 126, q1 128 0 127, qT 129 (.nck (.t 128)) 127, qT 130 (.fa 0 (.t 129)) 127, qT 131 (.ld (.t 130)) 127, qT 132
 (.call 20 [none] [.t 131]) 127, q1 133 1 127, qT 134 (.nck (.t 133)) 127, qT 135 (.fa 0 (.t 134)) 127, qT 136 (.ld (.t 135)) 127, qT 137 (.call 40 [none] [.t 136]) 127, qT 138 (.eqR false 8 (.t 132) (.t 137)) 127, q 139 (.pick (.t 127) (.t
 138) qf), q0 140 139, q1 141 0 140, qT 142 (.nck (.t 141)) 140, qT 143 (.fa 0 (.t 142)) 140, qT 144 (.ld (.t 143)) 140, qT 145 (.call 52 [none] [.t 144]) 140, q1 146 1 140, qT 147 (.nck (.t 146)) 140, qT 148 (.fa 0 (.t 147)) 140, qT 149 (.ld
 (.t 148)) 140, qT 150 (.nck (.t 149)) 140, qT 151 (.fa 9 (.t 150)) 140, qT 152 (.ld (.t 151)) 140, qT 153 (.bin .eql (.t 145) (.t 152)) 140, q 154 (.pick (.t 140) (.t 153) qf), q0 155 154, q1 156 0 155, qT 157 (.nck (.t 156)) 155, qT 158
 (.fa 0 (.t 157)) 155, qT 159 (.ld (.t 158)) 155, qT 160 (.call 53 [none] [.t 159]) 155, q1 161 1 155, qT 162 (.nck (.t 161)) 155, qT 163 (.fa 0 (.t 162)) 155, qT 164 (.ld (.t 163)) 155, qT 165 (.nck (.t 164)) 155, qT 166 (.fa 0 (.t 165))
 155, qT 167 (.ldA 8 (.t 166)) 155, qT 168 (.eqR false 8 (.t 160) (.t 167)) 155, q 169 (.pick (.t 155) (.t 168) qf), q0 170 169, q1 171 0 170, qT 172 (.call 54 [none] [.t 171]) 170, q1 173 1 170, qT 174 (.call 55 [none] [.t 173]) 170, qT 175
 (.binB false (.t 172) (.t 174)) 170, q 176 (.pick (.t 170) (.t 175) qf), q0 4 176] [.q 0, .q 1, .q 2, .q 3, .q 4, .q 5, .q 6, .q 7, .e 8 [], .q 9, .q 10, .q 11, .q 12, .q 13, .q 15, .q 16, .q 17, .q 18, .e 14 [15,16,17,18], .e 19 [], .q 20,
 .q 21, .q 22, .q 23, .q 24, .q 25, .q 26, .q 28, .q 29, .q 30, .q 31, .q 32, .q 33, .q 34, .e 27 [28,29,30,31,32,33,34], .q 35, .q 36, .q 37, .q 38, .q 39, .q 40, .q 41, .q 43, .q 44, .q 45, .q 46, .q 47, .q 48, .q 49, .e 42
 [43,44,45,46,47,48,49], .q 50, .q 51, .q 52, .q 53, .q 55, .e 54 [55], .e 56 [], .q 57, .q 58, .q 59] [4]) .ret)))))))
def r15 : List RT := [.t 4]
def a38 : AS := qS [q 2 (.mv (.c (.nilp)))] [0] (.seq (.regT [q0 3 0, q5 4 3, q3 5 0 4, q4 6 5, qX 99 7 [.t 6], q0 8 0, q5 9 8, q3 10 1 9, q4 11 10, q5 12 11, q3 13 0 12, q4 14 13, q 15 (.call 28 [(some (56, qD))] [.t 14]), q 16 (.bld [.nils] [(0, 1, (.t
 15))]), q 17 (.box (.t 16)), q0 18 0, q5 19 18, q3 20 2 19, q4 21 20, qX 100 22 [.t 21], q0 23 0, q5 24 23, q3 25 3 24, q4 26 25, q0 27 0, q5 28 27, q3 29 4 28, q4 30 29, q 31 (.call 28 [(some (56, qD))] [.t 30]), q 32 (.bld [.nilp, .nilp,
 .nilp, .int .i64 0, .nils] [(0, 1, (.t 7)), (1, 1, (.t 17)), (2, 1, (.t 22)), (3, 1, (.t 26)), (4, 1, (.t 31))]), q 33 (.box (.t 32)), q0 2 33] (.q 0 (.q 1 (.q 2 (.q 3 (.q 5 (.q 6 (.q 7 (.q 8 (.q 9 (.q 10 (.q 11 (.q 15 (.q 16 (.q 17 (.q 18
 (.q 20 (.q 21 (.q 22 (.q 23 (.q 24 (.q 25 (.q 26 (.q 27 (.e 4 [5,6,7,8,9,10,11,15,16,17,18,20,21,22,23,24,25,26,27] (.e 12 [15,16,17,18,20,21,22,23,24,25,26,27] (.q 13 (.e 14 [15,16,17,18,20,21,22,23,24,25,26,27] (.e 19
 [20,21,22,23,24,25,26,27,13] (.e 28 [20,21,22,23,13] (.q 29 (.e 30 [] (.q 31 .done) .no)) .no) .no) (.e 19 [20,21,22,23,24,25,26,27,13] (.e 14 [15,16,17,18,20,21,22,23,24,25,26,27] (.e 28 [20,21,22,23,13] (.q 29 (.e 30 [] (.q 31 .done) .no))
 .no) (.e 28 [20,21,22,23,13] (.e 14 [15,16,17,18,20,21,22,23,24,25,26,27] (.q 29 (.e 30 [] (.q 31 .done) .no)) .no) .no)) .no))) .no) .no)))))))))))))))))))))))) [2]) (.lift 2 (some 4) 56 qD .ret))
def r38 : List RT := [.t 2]
def a39 : AS := qS [q 4 (.box (.t 0)), q 5 (.box (.t 1)), q 6 (.box (.t 2)), q 8 (.alc [.arr 8 (.int .i64) (List.replicate 8 (Ty.dflt (.int .i64))), .nils, .nils, .nils, .int .i64 0]), q 9 (.mv (qI 0))] [3,4,5,6,8] (.seq (qS [q 13 (.ldA 2 (.t 4)), qX 37 14
 [.t 13], q 15 (.not (.t 14)), q0 16 15, qF 17 (.ldA 4 (.t 6)) 16, qF 18 (.call 77 [none] [.t 17]) 16, qF 19 (.not (.t 18)) 16, q 20 (.pick (.t 16) qt (.t 19)), q0 21 20, q2 22 3 21, qF 23 (.bin .lss (.t 22) (qI 0)) 21, q 24 (.pick (.t 21) qt
 (.t 23))] [3,4,5,6,8,24] (.cond (.t 24) (qS [q 25 (.bld [.arr 8 (.int .i64) (List.replicate 8 (Ty.dflt (.int .i64))), .nils, .nils, .nils, .int .i64 0] []), q6 12 8 25, q 9 (.mv (qI 1))] [8,9] .ret) .skip)) (qS [q 26 (.ldA 2 (.t 4)), q 27
 (.ldA 4 (.t 6)), q0 28 3, q 29 (.bld [.nils, .nils, qE, .int .u64 0, .int .i64 0, .nils, .int .i64 0, .int .i64 0, .nils, .arr 8 (.int .i64) (List.replicate 8 (Ty.dflt (.int .i64))), .nils, .nils, .nils, .int .i64 0] [(0, 2, (.t 26)), (2, 4,
 (.t 27)), (6, 1, (.t 28))]), q 30 (.box (.t 29)), q0 10 30] [4,5,8,10] (qS [q0 31 10, q 32 (.ldA 8 (.t 5)), q5 33 31, q3 34 9 33, q3 35 0 34, q6 8 35 32] [4,8,10] (.seq (.block 0 (.lift 10 (some 0) 16 .str (.lift 10 (some 1) 16 qP (.lift 10
 (some 5) 8 (.int .i64) (.lift 10 (some 8) 8 (.int .i64) (.lift 10 (some 17) 16 qP (.lift 10 (some 18) 32 (.pair .str qP) (.lift 10 (some 19) 48 (.pair .str (.pair .bool (.pair (.int .i64) qP))) (.loop 1 [4,8,10] (.seq (.seq (.regD [q0 36 10,
 q5 37 36, q3 38 7 37, q4 39 38, q3 40 1 4, q4 41 40, q 42 (.len .s (.t 41)), q 43 (.bin .lss (.t 39) (.t 42))] [.q 0, .q 1, .q 2, .q 3, .q 4, .q 5, .q 6, .q 7] [4,8,10,43]) (.cond (.t 43) .skip (.exit 0))) (.block 1 (.seq (qS [q0 44 10, q5
 45 44, q3 46 9 45, q3 47 11 46, q4 48 47, q 49 (.bin .eql (.t 48) (qI 500))] [4,8,10,49] (.cond (.t 49) (qS [q 50 (.bld [.arr 8 (.int .i64) (List.replicate 8 (Ty.dflt (.int .i64))), .nils, .nils, .nils, .int .i64 0] [(11, 1, (qI 500))]), q6
 12 8 50, q 9 (.mv (qI 11))] [8,9] .ret) .skip)) (qS [q0 51 10, q5 52 51, q3 53 9 52, q3 54 11 53, q4 55 54, q 56 (.bin .add (.t 55) (qI 1)), q5 57 51, q3 58 9 57, q3 59 11 58, q6 1 59 56] [4,8,10] (qS [q0 61 10, qX 101 62 [.t 61], q0 60 62,
 q 63 (.ext (.t 60) 0), q 64 (.ext (.t 60) 1), q0 11 63, q0 12 64] [4,8,10,11,12] (.seq (qS [q0 65 12, q 66 (.bin .neq (.t 65) (qI 0))] [4,8,10,11,12,66] (.cond (.t 66) (qS [q0 67 10, q5 68 67, q3 69 9 68, q3 70 11 69, q4 71 70, q 72 (.bld
 [.arr 8 (.int .i64) (List.replicate 8 (Ty.dflt (.int .i64))), .nils, .nils, .nils, .int .i64 0] [(11, 1, (.t 71))]), q0 73 12, q6 12 8 72, q0 9 73] [8,9] .ret) .skip)) (qS [q0 74 11, q 75 (.not (.t 74))] [4,8,10,75] (.cond (.t 75) (.exit 0)
 .skip))))))))))))))))) (qS [q0 76 10, q5 77 76, q3 78 9 77, q 79 (.ldA 12 (.t 78)), q6 12 8 79, q 9 (.mv (qI 0))] [8,9] .ret)))))
def r39 : List RT := [.c 8 (some 12), .t 9, .f 8]
def a40 : AS := qS [q 2 (.alc [.arr 8 (.int .i64) (List.replicate 8 (Ty.dflt (.int .i64)))])] [0,2] (qS [q0 5 0, q5 6 5, q3 7 0 6, q 8 (.ldA 8 (.t 7)), q 3 (.alc [.arr 8 (.int .i64) (List.replicate 8 (Ty.dflt (.int .i64)))]), q6 8 3 8] [0,2,3] (.seq (qS [q0
 9 0, q5 10 9, q3 11 8 10, q4 12 11, q 13 (.len .s (.t 12)), q 14 (.mv (qI 0))] [0,2,3,13,14] (.block 0 (.lift 0 (some 8) 16 qP (.loop 1 [0,2,3,13,14] (qS [q 15 (.bin .lss (.t 14) (.t 13))] [0,2,3,13,14,15] (.seq (.cond (.t 15) .skip (.exit
 0)) (.seq (.block 1 (qS [q0 16 14, q0 4 16] [0,2,3,4,13,14] (.regD [q0 17 0, q5 18 17, q3 19 8 18, q4 20 19, q0 21 4, q 22 (.ia 2 (.t 20) (.t 21)), q3 23 0 22, q4 24 23, q0 25 0, q5 26 25, q3 27 8 26, q4 28 27, q0 29 4, q 30 (.ia 2 (.t 28)
 (.t 29)), q3 31 1 30, q4 32 31, q 33 (.iaA 8 1 (.t 3) (.t 24)), q6 1 33 32] [.q 0, .q 1, .q 2, .q 3, .q 4, .q 5, .q 6, .q 7, .q 8, .q 9, .q 10, .q 11, .q 12, .q 13, .q 14, .q 15, .q 16, .e 17 []] [0,2,3,13,14]))) (.reg [q 34 (.bin .add (.t
 14) (qI 1)), q0 14 34] [0,2,3,13,14])))))))) (qS [q 35 (.ldA 8 (.t 3)), q6 8 2 35] [2] .ret)))
def r40 : List RT := [.c 2 (some 8)]
def a41 : AS := qS [q 2 (.alc [qE, .int .u64 0, .int .i64 0, .nils]), q 3 (.mv qf)] [0,2] (.seq (qS [q0 5 0, q5 6 5, q3 7 0 6, q4 8 7, q 9 (.len .s (.t 8)), q 10 (.bin .eql (.t 9) (qI 0))] [0,2,10] (.cond (.t 10) (qS [q 11 (.bld [qE, .int .u64 0, .int .i64
 0, .nils] []), q6 4 2 11, q 3 (.mv qf)] [2,3] .ret) .skip)) (qS [q0 12 0, q5 13 12, q3 14 0 13, q4 15 14, q 16 (.ia 4 (.t 15) (qI 0)), q 17 (.ldA 4 (.t 16)), q 4 (.alc [qE, .int .u64 0, .int .i64 0, .nils]), q6 4 4 17] [0,2,4] (qS [q0 18 0,
 q 19 (.bsl 56 qD 0 []), q0 20 0, q5 21 20, q3 22 0 21, q4 23 22, q 24 (.slR 4 (.t 23) (some (qI 1)) none), q 25 (.app 56 qD (.t 19) (.t 24)), q5 26 18, q3 27 0 26, q6 1 27 25] [2,4] (qS [q 28 (.ldA 4 (.t 4)), q6 4 2 28, q 3 (.mv qt)] [2,3]
 .ret))))
def r41 : List RT := [.c 2 (some 4), .t 3, .w 1 0 0]
def a42 : AS := qS [q 4 (.mv qf)] [0,1] (.seq (qS [q0 6 0, q 7 (.len .s (.t 6)), q0 8 1, q 9 (.len .s (.t 8)), q 10 (.bin .neq (.t 7) (.t 9))] [0,1,10] (.cond (.t 10) (qS [q 4 (.mv qf)] [4] .ret) .skip)) (.seq (qS [q0 11 0, q 12 (.len .s (.t 11)), q 13 (.mv
 (qI 0))] [0,1,12,13] (.block 0 (.loop 1 [0,1,12,13] (qS [q 14 (.bin .lss (.t 13) (.t 12))] [0,1,12,13,14] (.seq (.cond (.t 14) .skip (.exit 0)) (.seq (.block 1 (qS [q0 15 13, q0 5 15] [0,1,5,12,13] (.seq (.regD [q0 16 0, q0 17 5, q 18 (.ia 5
 (.t 16) (.t 17)), q 19 (.ldA 5 (.t 18)), q0 20 1, q0 21 5, q 22 (.ia 5 (.t 20) (.t 21)), q 23 (.ldA 5 (.t 22)), q 24 (.eqS true [.str, .bool, .int .i64, .int .i64, .int .i64] (.t 19) (.t 23))] [.q 0, .q 1, .q 2, .q 3, .q 4, .q 5, .q 6, .q 7,
 .q 8] [0,1,12,13,24]) (.cond (.t 24) (qS [q 4 (.mv qf)] [4] .ret) .skip)))) (.reg [q 25 (.bin .add (.t 13) (qI 1)), q0 13 25] [0,1,12,13]))))))) (qS [q 4 (.mv qt)] [4] .ret)))
def r42 : List RT := [.t 4]
def a43 : AS := qS [q 2 (.mv (.c (.nils)))] [0] (qS [q 3 (.mv (.c (.nils)))] [0,3] (.seq (qS [q0 5 0, q 6 (.len .s (.t 5)), q 7 (.mv (qI 0))] [0,3,6,7] (.block 0 (.lift 3 none 48 (.pair .str (.pair .bool (.pair (.int .i64) qP))) (.loop 1 [0,3,6,7] (qS [q 8
 (.bin .lss (.t 7) (.t 6))] [0,3,6,7,8] (.seq (.cond (.t 8) .skip (.exit 0)) (.seq (.block 1 (qS [q0 9 7, q0 4 9] [0,3,4,6,7] (.reg [q0 10 3, q0 11 0, q0 12 4, q 13 (.ia 5 (.t 11) (.t 12)), q 14 (.ldA 5 (.t 13)), q 15 (.bsl 48 (.pair .str
 (.pair .bool (.pair (.int .i64) qP))) 1 [(0, (.t 14))]), q 16 (.app 48 (.pair .str (.pair .bool (.pair (.int .i64) qP))) (.t 10) (.t 15)), q0 3 16] [0,3,6,7]))) (.reg [q 17 (.bin .add (.t 7) (qI 1)), q0 7 17] [0,3,6,7])))))))) (qS [q0 18 3,
 q0 2 18] [2] (.lift 2 none 48 (.pair .str (.pair .bool (.pair (.int .i64) qP))) .ret))))
def r43 : List RT := [.t 2]
def a45 : AS := qS [q 4 (.mv qf)] [0,1] (.seq (qS [q0 6 0, q 7 (.len .s (.t 6)), q0 8 1, q 9 (.len .s (.t 8)), q 10 (.bin .neq (.t 7) (.t 9))] [0,1,10] (.cond (.t 10) (qS [q 4 (.mv qf)] [4] .ret) .skip)) (.seq (qS [q0 11 0, q 12 (.len .s (.t 11)), q 13 (.mv
 (qI 0))] [0,1,12,13] (.block 0 (.loop 1 [0,1,12,13] (qS [q 14 (.bin .lss (.t 13) (.t 12))] [0,1,12,13,14] (.seq (.cond (.t 14) .skip (.exit 0)) (.seq (.block 1 (qS [q0 15 13, q0 5 15] [0,1,5,12,13] (.seq (.regD [q0 16 0, q0 17 5, q 18 (.ia 4
 (.t 16) (.t 17)), q 19 (.ldA 4 (.t 18)), q0 20 1, q0 21 5, q 22 (.ia 4 (.t 20) (.t 21)), q 23 (.ldA 4 (.t 22)), q 24 (.call 103 [none, none] [.t 19, .t 23]), q 25 (.not (.t 24))] [.q 0, .q 1, .q 2, .q 3, .q 4, .q 5, .q 6, .q 7, .e 8 [], .q
 9] [0,1,12,13,25]) (.cond (.t 25) (qS [q 4 (.mv qf)] [4] .ret) .skip)))) (.reg [q 26 (.bin .add (.t 13) (qI 1)), q0 13 26] [0,1,12,13]))))))) (qS [q 4 (.mv qt)] [4] .ret)))
def r45 : List RT := [.t 4]
def a46 : AS := qS [q 2 (.mv (.c (.nils)))] [0] (.seq (qS [q0 3 0, q 4 (.eqn false .p (.t 3) (.c (.nilp)))] [0,4] (.cond (.t 4) (qS [q 2 (.mv (.c (.nils)))] [2] (.lift 2 none 56 qD .ret)) .skip)) (qS [q0 5 0, q5 6 5, q3 7 0 6, q4 8 7, q 9 (.call 92 [(some
 (56, qD))] [.t 8]), q0 2 9] [2] (.lift 2 none 56 qD .ret)))
def r46 : List RT := [.t 2]
def a51 : AS := qS [q 4 (.mv qf)] [0,1] (.seq (qS [q0 6 0, q 7 (.len .s (.t 6)), q0 8 1, q 9 (.len .s (.t 8)), q 10 (.bin .neq (.t 7) (.t 9))] [0,1,10] (.cond (.t 10) (qS [q 4 (.mv qf)] [4] .ret) .skip)) (.seq (qS [q0 11 0, q 12 (.len .s (.t 11)), q 13 (.mv
 (qI 0))] [0,1,12,13] (.block 0 (.loop 1 [0,1,12,13] (qS [q 14 (.bin .lss (.t 13) (.t 12))] [0,1,12,13,14] (.seq (.cond (.t 14) .skip (.exit 0)) (.seq (.block 1 (qS [q0 15 13, q0 5 15] [0,1,5,12,13] (.seq (.regD [q0 16 0, q0 17 5, q 18 (.ia 5
 (.t 16) (.t 17)), q3 19 0 18, q4 20 19, q0 21 1, q0 22 5, q 23 (.ia 5 (.t 21) (.t 22)), q3 24 0 23, q4 25 24, q 26 (.bin .neq (.t 20) (.t 25)), q0 27 26, q2 28 0 27, q2 29 5 27, qF 30 (.ia 5 (.t 28) (.t 29)) 27, qF 31 (.fa 1 (.t 30)) 27, qF
 32 (.ldA 4 (.t 31)) 27, q2 33 1 27, q2 34 5 27, qF 35 (.ia 5 (.t 33) (.t 34)) 27, qF 36 (.fa 1 (.t 35)) 27, qF 37 (.ldA 4 (.t 36)) 27, qF 38 (.call 103 [none, none] [.t 32, .t 37]) 27, qF 39 (.not (.t 38)) 27, q 40 (.pick (.t 27) qt (.t
 39))] [.q 0, .q 1, .q 2, .q 3, .q 4, .q 5, .q 6, .q 7, .q 8, .q 9, .q 10, .q 11, .q 12, .q 13, .q 14, .q 15, .q 16, .q 17, .q 18, .q 19, .q 20, .q 21, .e 22 [], .q 23, .q 24] [0,1,12,13,40]) (.cond (.t 40) (qS [q 4 (.mv qf)] [4] .ret)
 .skip)))) (.reg [q 41 (.bin .add (.t 13) (qI 1)), q0 13 41] [0,1,12,13]))))))) (qS [q 4 (.mv qt)] [4] .ret)))
def r51 : List RT := [.t 4]
def a53 : AS := qS [q 2 (.alc [.arr 8 (.int .i64) (List.replicate 8 (Ty.dflt (.int .i64)))])] [0,2] (.seq (qS [q0 3 0, q 4 (.eqn false .p (.t 3) (.c (.nilp)))] [0,2,4] (.cond (.t 4) (qS [q 5 (.bldA [.int .i64 0, .int .i64 0, .int .i64 0, .int .i64 0, .int
 .i64 0, .int .i64 0, .int .i64 0, .int .i64 0] 8 (.int .i64) []), q6 8 2 5] [2] .ret) .skip)) (qS [q0 6 0, q5 7 6, q3 8 0 7, q 9 (.ldA 8 (.t 8)), q6 8 2 9] [2] .ret))
def r53 : List RT := [.c 2 (some 8)]
def a99 : AS := qS [q 2 (.mv (.c (.nilp)))] [0] (.seq (.regD [q0 3 0, q5 4 3, q3 5 0 4, q 6 (.ldA 8 (.t 5)), q 7 (.bsl 16 qP 0 []), q0 8 0, q5 9 8, q3 10 8 9, q4 11 10, q 12 (.app 16 qP (.t 7) (.t 11)), q0 13 0, q5 14 13, q3 15 9 14, q4 16 15, q 17 (.bld
 [.arr 8 (.int .i64) (List.replicate 8 (Ty.dflt (.int .i64))), .nils, .int .u64 0] [(0, 8, (.t 6)), (8, 1, (.t 12)), (9, 1, (.t 16))]), q 18 (.box (.t 17)), q0 2 18] [.q 0, .q 1, .q 2, .q 3, .q 5, .q 6, .q 7, .q 8, .q 10, .q 11, .q 12, .q 13,
 .e 4 [0,1,2,3,5,6,7,8,10,11,12,13], .e 9 [0,1,2,3,10,11,12,13], .q 14, .e 15 [], .q 16] [2]) (.lift 2 (some 8) 16 qP .ret))
def r99 : List RT := [.t 2]
def a100 : AS := qS [q 2 (.mv (.c (.nilp)))] [0] (.seq (.regD [q0 5 0, q5 6 5, q3 7 0 6, q4 8 7, q 9 (.bsl 24 (.pair .str (.int .u64)) 0 []), q0 10 0, q5 11 10, q3 12 2 11, q4 13 12, q 14 (.app 24 (.pair .str (.int .u64)) (.t 9) (.t 13)), q 15 (.bld [qE,
 .nils, .nils] [(0, 1, (.t 8)), (2, 1, (.t 14))]), q 16 (.box (.t 15)), q0 3 16] [.q 0, .q 1, .q 2, .q 3, .q 5, .q 6, .q 7, .q 8, .e 4 [0,1,2,3,5,6,7,8], .e 9 [0,1,2,3], .q 10, .e 11 [], .q 12] [0,3]) (.seq (qS [q0 17 0, q5 18 17, q3 19 1 18,
 q4 20 19, q 21 (.len .s (.t 20)), q 22 (.mv (qI 0))] [0,3,21,22] (.block 0 (.lift 0 (some 1) 72 (.pair .str qD) (.lift 0 (some 2) 24 (.pair .str (.int .u64)) (.lift 3 (some 1) 72 (.pair .str qD) (.lift 3 (some 2) 24 (.pair .str (.int .u64))
 (.loop 1 [0,3,21,22] (qS [q 23 (.bin .lss (.t 22) (.t 21))] [0,3,21,22,23] (.seq (.cond (.t 23) .skip (.exit 0)) (.seq (.block 1 (qS [q0 24 22, q0 4 24] [0,3,4,21,22] (.regD [q0 25 3, q0 26 3, q5 27 26, q3 28 1 27, q4 29 28, q0 30 0, q5 31
 30, q3 32 1 31, q4 33 32, q0 34 4, q 35 (.ia 5 (.t 33) (.t 34)), q3 36 0 35, q4 37 36, q0 38 0, q5 39 38, q3 40 1 39, q4 41 40, q0 42 4, q 43 (.ia 5 (.t 41) (.t 42)), q3 44 1 43, q 45 (.ldA 4 (.t 44)), qX 78 46 [.t 45], q 47 (.bld [qE, qE,
 .int .u64 0, .int .i64 0, .nils] [(0, 1, (.t 37)), (1, 4, (.t 46))]), q 48 (.bsl 72 (.pair .str qD) 1 [(0, (.t 47))]), q 49 (.app 72 (.pair .str qD) (.t 29) (.t 48)), q5 50 25, q3 51 1 50, q6 1 51 49] [.q 0, .q 1, .q 2, .q 3, .q 4, .q 5, .q
 6, .q 7, .q 8, .q 9, .q 10, .q 11, .q 12, .q 13, .q 14, .q 15, .q 16, .q 17, .q 18, .q 19, .q 20, .e 21 [0,1,2,3,4,5,6,7,8,9,10,11,12], .q 22, .e 23 [0,1,2,3,4], .e 24 [0], .q 25, .q 26, .e 27 []] [0,3,21,22]))) (.reg [q 52 (.bin .add (.t
 22) (qI 1)), q0 22 52] [0,3,21,22]))))))))))) (qS [q0 53 3, q0 2 53] [2] (.lift 2 (some 1) 72 (.pair .str qD) (.lift 2 (some 2) 24 (.pair .str (.int .u64)) .ret)))))
def r100 : List RT := [.t 2]
def a101 : AS := qS [q 2 (.mv qf), q 3 (.mv (qI 0))] [0] (.seq (.regD [q0 9 0, q5 10 9, q3 11 0 10, q3 12 1 11, q4 13 12, q0 14 0, q5 15 14, q3 16 7 15, q4 17 16, q 18 (.ia 2 (.t 13) (.t 17)), q 19 (.ldA 2 (.t 18)), q 4 (.alc [.int .i64 0, .int .i64 0]), q6
 2 4 19] [.q 0, .q 1, .q 2, .q 3, .q 4, .q 5, .q 6, .q 7, .q 8, .q 9, .q 10, .e 11 [0,1,2,3,4,5,6,7,8,9,10], .e 12 []] [0,4]) (qS [q0 20 0, q5 21 20, q3 22 7 21, q4 23 22, q 24 (.bin .add (.t 23) (qI 1)), q5 25 20, q3 26 7 25, q6 1 26 24]
 [0,4] (qS [q3 28 0 4, q4 29 28, qX 125 30 [.t 29], q0 27 30, q 31 (.ext (.t 27) 0), q 32 (.ext (.t 27) 1), q0 5 31, q0 6 32] [0,4,5,6] (.seq (qS [q0 33 0, q5 34 33, q3 35 8 34, q4 36 35, q 37 (.len .s (.t 36)), q0 38 5, q 39 (.bin .lss (.t
 37) (.t 38)), q0 40 39, q2 41 0 40, qF 42 (.nck (.t 41)) 40, qF 43 (.fa 8 (.t 42)) 40, qF 44 (.ld (.t 43)) 40, qF 45 (.len .s (.t 44)) 40, q2 46 5 40, qF 47 (.bin .sub (.t 45) (.t 46)) 40, q2 48 6 40, qF 49 (.bin .add (.t 47) (.t 48)) 40, qF
 50 (.bin .gtr (.t 49) (qI 16)) 40, q 51 (.pick (.t 40) qt (.t 50))] [0,4,5,6,51] (.cond (.t 51) (qS [q 2 (.mv qf), q 3 (.mv (qI 10))] [2,3] .ret) .skip)) (qS [q 7 (.mv (qI 0)), q 8 (.mv (qI 0))] [0,4,5,6,7,8] (.seq (qS [q0 52 5, q 53 (.bin
 .eql (.t 52) (qI 2))] [0,4,5,6,7,8,53] (.cond (.t 53) (.reg [q0 54 0, qX 126 55 [.t 54], q0 8 55] [0,4,5,6,7,8]) .skip)) (.seq (qS [q0 56 5, q 57 (.bin .geq (.t 56) (qI 1))] [0,4,6,7,8,57] (.cond (.t 57) (.reg [q0 58 0, qX 126 59 [.t 58], q0
 7 59] [0,4,6,7,8]) .skip)) (.seq (qS [q3 60 0 4, q4 61 60] [0,4,6,7,8,61] (.block 0 (qS [q 72 (.bin .eql (.t 61) (qI 0)), q0 71 72] [0,4,6,7,8,61,71] (.cond (.t 71) (qS [q 2 (.mv qf), q 3 (.mv (qI 0))] [2,3] .ret) (qS [q 74 (.bin .eql (.t
 61) (qI 21)), q0 73 74] [0,4,6,7,8,61,73] (.cond (.t 73) (qS [q 2 (.mv qf), q 3 (.mv (qI 12))] [2,3] .ret) (qS [q 76 (.bin .eql (.t 61) (qI 3)), q0 75 76] [0,4,6,7,8,61,75] (.cond (.t 75) (.seq (.regD [q0 77 0, q3 78 1 4, q4 79 78, q0 80 7,
 q5 81 77, q3 82 9 81, q3 83 0 82, q 84 (.iaA 8 1 (.t 83) (.t 79)), q6 1 84 80] [.q 0, .q 1, .q 2, .q 3, .q 4, .q 5, .q 6, .q 7, .e 8 []] [0,4,7]) (.regD [q0 85 0, q0 86 0, q5 87 86, q3 88 9 87, q3 89 8 88, q4 90 89, q3 91 1 4, q4 92 91, q0
 93 7, q 94 (.bld [.int .i64 0, .int .i64 0] [(0, 1, (.t 92)), (1, 1, (.t 93))]), q 95 (.bsl 16 qP 1 [(0, (.t 94))]), q 96 (.app 16 qP (.t 90) (.t 95)), q5 97 85, q3 98 9 97, q3 99 8 98, q6 1 99 96] [.q 0, .q 1, .q 2, .q 3, .q 4, .q 5, .q 6,
 .q 7, .q 8, .q 9, .e 10 [0,1,2,3,4,5], .e 11 [0], .q 12, .q 13, .q 14, .e 15 []] [])) (qS [q 101 (.bin .eql (.t 61) (qI 12)), q0 100 101] [0,4,6,7,8,61,100] (.cond (.t 100) (qS [q0 102 0, q0 103 7, q 104 (.call 127 [none, none] [.t 102, .t
 103])] [0,7] (.reg [q0 105 0, q0 106 7, q 107 (.call 127 [none, none] [.t 105, .t 106])] [])) (qS [q 109 (.bin .eql (.t 61) (qI 14)), q0 108 109] [0,4,6,7,8,61,108] (.cond (.t 108) (qS [q0 110 0, q0 111 8, q 112 (.call 127 [none, none] [.t
 110, .t 111])] [0,7] (.reg [q0 113 0, q0 114 7, q 115 (.call 127 [none, none] [.t 113, .t 114])] [])) (qS [q 117 (.bin .eql (.t 61) (qI 15)), q0 116 117] [0,4,6,7,8,61,116] (.cond (.t 116) (.reg [q0 118 0, q3 119 1 4, q4 120 119, q5 121 118,
 q3 122 7 121, q6 1 122 120] []) (qS [q 124 (.bin .eql (.t 61) (qI 16)), q0 123 124] [0,4,6,7,8,61,123] (.cond (.t 123) (qS [q0 125 7, q 126 (.bin .eql (.t 125) (qI 0))] [0,4,126] (.cond (.t 126) (.reg [q0 127 0, q3 128 1 4, q4 129 128, q5
 130 127, q3 131 7 130, q6 1 131 129] []) .skip)) (.seq (qS [q 133 (.bin .eql (.t 61) (qI 17)), q0 132 133] [0,4,6,7,8,61,132] (.cond (.t 132) .skip (qS [q 134 (.bin .eql (.t 61) (qI 18)), q0 132 134] [0,4,6,7,8,61,132] (.cond (.t 132) .skip
 (qS [q 135 (.bin .eql (.t 61) (qI 19)), q0 132 135] [0,4,6,7,8,61,132] (.cond (.t 132) .skip (.reg [q 136 (.bin .eql (.t 61) (qI 20)), q0 132 136] [0,4,6,7,8,132]))))))) (.cond (.t 132) (qS [q0 137 0, q 138 (.ldA 2 (.t 4)), q0 139 7, q0 140
 8, q 141 (.call 128 [none, none, none, none] [.t 137, .t 138, .t 139, .t 140]), q 142 (.ext (.t 141) 0), q 143 (.ext (.t 141) 1), q0 2 142, q0 3 143] [2,3] .ret) (qS [q0 62 6, q 63 (.bin .eql (.t 62) (qI 1))] [0,4,7,8,63] (.cond (.t 63)
 (.reg [q0 64 0, q0 65 0, q 66 (.ldA 2 (.t 4)), q0 67 7, q0 68 8, q 69 (.call 129 [none, none, none, none] [.t 65, .t 66, .t 67, .t 68]), q 70 (.call 127 [none, none] [.t 64, .t 69])] []) .skip)))))))))))))))))))) (qS [q 2 (.mv qt), q 3 (.mv
 (qI 0))] [2,3] .ret)))))))))
def r101 : List RT := [.t 2, .t 3, .w 1 0 8, .w 2 0 17, .w 3 0 18, .w 4 0 19]
def a103 : AS := qS [q 2 (.box (.t 0)), q 3 (.box (.t 1)), q 4 (.mv qf)] [2,3] (qS [q3 5 0 2, q4 6 5, q3 7 0 3, q4 8 7, q 9 (.bin .eql (.t 6) (.t 8)), q0 10 9, qT 11 (.fa 1 (.t 2)) 10, qT 12 (.ld (.t 11)) 10, qT 13 (.fa 1 (.t 3)) 10, qT 14 (.ld (.t 13)) 10,
 qT 15 (.bin .eql (.t 12) (.t 14)) 10, q 16 (.pick (.t 10) (.t 15) qf), q0 17 16, qT 18 (.fa 2 (.t 2)) 17, qT 19 (.ld (.t 18)) 17, qT 20 (.fa 2 (.t 3)) 17, qT 21 (.ld (.t 20)) 17, qT 22 (.bin .eql (.t 19) (.t 21)) 17, q 23 (.pick (.t 17) (.t
 22) qf), q0 24 23, qT 25 (.fa 3 (.t 2)) 24, qT 26 (.ld (.t 25)) 24, qT 27 (.fa 3 (.t 3)) 24, qT 28 (.ld (.t 27)) 24, qT 29 (.call 130 [(some (8, (.int .i64))), (some (8, (.int .i64)))] [.t 26, .t 28]) 24, q 30 (.pick (.t 24) (.t 29) qf), q0
 4 30] [4] .ret)
def r103 : List RT := [.t 4]
def a125 : AS := qS [q 2 (.mv (qI 0)), q 3 (.mv (qI 0))] [0] (.seq (qS [q0 4 0] [4] (.block 0 (.seq (qS [q 6 (.bin .eql (.t 4) (qI 1)), q0 5 6] [4,5] (.cond (.t 5) .skip (qS [q 7 (.bin .eql (.t 4) (qI 2)), q0 5 7] [4,5] (.cond (.t 5) .skip (qS [q 8 (.bin
 .eql (.t 4) (qI 4)), q0 5 8] [4,5] (.cond (.t 5) .skip (qS [q 9 (.bin .eql (.t 4) (qI 5)), q0 5 9] [4,5] (.cond (.t 5) .skip (qS [q 10 (.bin .eql (.t 4) (qI 22)), q0 5 10] [4,5] (.cond (.t 5) .skip (.reg [q 11 (.bin .eql (.t 4) (qI 23)), q0
 5 11] [4,5]))))))))))) (.cond (.t 5) (qS [q 2 (.mv (qI 0)), q 3 (.mv (qI 1))] [2,3] .ret) (.seq (qS [q 13 (.bin .eql (.t 4) (qI 3)), q0 12 13] [4,12] (.cond (.t 12) .skip (qS [q 14 (.bin .eql (.t 4) (qI 13)), q0 12 14] [4,12] (.cond (.t 12)
 .skip (.reg [q 15 (.bin .eql (.t 4) (qI 16)), q0 12 15] [4,12]))))) (.cond (.t 12) (qS [q 2 (.mv (qI 1)), q 3 (.mv (qI 0))] [2,3] .ret) (.seq (qS [q 17 (.bin .eql (.t 4) (qI 6)), q0 16 17] [4,16] (.cond (.t 16) .skip (qS [q 18 (.bin .eql (.t
 4) (qI 7)), q0 16 18] [4,16] (.cond (.t 16) .skip (qS [q 19 (.bin .eql (.t 4) (qI 8)), q0 16 19] [4,16] (.cond (.t 16) .skip (qS [q 20 (.bin .eql (.t 4) (qI 9)), q0 16 20] [4,16] (.cond (.t 16) .skip (.reg [q 21 (.bin .eql (.t 4) (qI 10)),
 q0 16 21] [4,16]))))))))) (.cond (.t 16) (qS [q 2 (.mv (qI 2)), q 3 (.mv (qI 1))] [2,3] .ret) (qS [q 23 (.bin .eql (.t 4) (qI 11)), q0 22 23] [4,22] (.cond (.t 22) (qS [q 2 (.mv (qI 1)), q 3 (.mv (qI 1))] [2,3] .ret) (qS [q 25 (.bin .eql (.t
 4) (qI 12)), q0 24 25] [4,24] (.cond (.t 24) (qS [q 2 (.mv (qI 1)), q 3 (.mv (qI 2))] [2,3] .ret) (qS [q 27 (.bin .eql (.t 4) (qI 14)), q0 26 27] [4,26] (.cond (.t 26) (qS [q 2 (.mv (qI 2)), q 3 (.mv (qI 2))] [2,3] .ret) (.seq (qS [q 29
 (.bin .eql (.t 4) (qI 17)), q0 28 29] [4,28] (.cond (.t 28) .skip (qS [q 30 (.bin .eql (.t 4) (qI 18)), q0 28 30] [4,28] (.cond (.t 28) .skip (.reg [q 31 (.bin .eql (.t 4) (qI 19)), q0 28 31] [28]))))) (.cond (.t 28) (qS [q 2 (.mv (qI 2)), q
 3 (.mv (qI 0))] [2,3] .ret) .skip)))))))))))))))) (qS [q 2 (.mv (qI 0)), q 3 (.mv (qI 0))] [2,3] .ret))
def r125 : List RT := [.t 2, .t 3]
def a126 : AS := qS [q 2 (.mv (qI 0))] [0] (qS [q0 5 0, q5 6 5, q3 7 8 6, q4 8 7, q 9 (.len .s (.t 8)), q 10 (.bin .sub (.t 9) (qI 1)), q0 3 10] [0,3] (qS [q0 11 0, q5 12 11, q3 13 8 12, q4 14 13, q0 15 3, q 16 (.ia 1 (.t 14) (.t 15)), q4 17 16, q0 4 17]
 [0,3,4] (qS [q0 18 0, q 19 (.bsl 8 (.int .i64) 0 []), q0 20 0, q5 21 20, q3 22 8 21, q4 23 22, q0 24 3, q 25 (.slR 1 (.t 23) none (some (.t 24))), q 26 (.app 8 (.int .i64) (.t 19) (.t 25)), q5 27 18, q3 28 8 27, q6 1 28 26] [4] (qS [q0 29 4,
 q0 2 29] [2] .ret))))
def r126 : List RT := [.t 2, .w 1 0 8, .w 2 0 17, .w 3 0 18, .w 4 0 19]
def a127 : AS := .reg [q0 4 0, q0 5 0, q5 6 5, q3 7 8 6, q4 8 7, q0 9 1, q 10 (.bsl 8 (.int .i64) 1 [(0, (.t 9))]), q 11 (.app 8 (.int .i64) (.t 8) (.t 10)), q5 12 4, q3 13 8 12, q6 1 13 11] []
def r127 : List RT := [.w 1 0 8, .w 2 0 17, .w 3 0 18, .w 4 0 19]
def a128 : AS := qS [q 5 (.box (.t 1)), q 8 (.mv qf), q 9 (.mv (qI 0))] [0,2,3,5] (.seq (qS [q3 12 0 5, q4 13 12] [0,2,3,5,13] (.block 0 (.seq (qS [q 15 (.bin .eql (.t 13) (qI 17)), q0 14 15] [0,2,3,5,13,14] (.cond (.t 14) .skip (.reg [q 16 (.bin .eql (.t
 13) (qI 18)), q0 14 16] [0,2,3,5,13,14]))) (.cond (.t 14) (qS [q0 17 0, q5 18 17, q3 19 2 18, q3 20 0 19, q4 21 20, q0 10 21] [0,2,3,5,10] (.seq (qS [q3 22 0 5, q4 23 22, q 24 (.bin .eql (.t 23) (qI 17))] [0,2,3,5,10,24] (.cond (.t 24)
 (.regD [q0 25 0, q5 26 25, q3 27 0 26, q3 28 0 27, q4 29 28, q3 30 1 5, q4 31 30, q 32 (.ia 1 (.t 29) (.t 31)), q4 33 32, q0 10 33] [.q 0, .q 1, .q 2, .q 3, .q 4, .q 5, .q 6, .q 7, .q 8, .q 9] [0,2,3,10]) .skip)) (.seq (qS [q0 34 10, q 35
 (.bin .eql (.t 34) (.c (qE)))] [0,2,3,10,35] (.cond (.t 35) (qS [q 8 (.mv qt), q 9 (.mv (qI 0))] [8,9] .ret) .skip)) (.seq (qS [q0 36 0, q5 37 36, q3 38 9 37, q3 39 9 38, q4 40 39, q 41 (.len .s (.t 40)), q 42 (.bin .geq (.t 41) (qI 4))]
 [0,2,3,10,42] (.cond (.t 42) (qS [q 8 (.mv qf), q 9 (.mv (qI 12))] [8,9] .ret) .skip)) (.reg [q0 43 0, q0 44 0, q5 45 44, q3 46 9 45, q3 47 9 46, q4 48 47, q0 49 10, q0 50 2, q0 51 3, q 52 (.bld [qE, .int .i64 0, .int .i64 0] [(0, 1, (.t
 49)), (1, 1, (.t 50)), (2, 1, (.t 51))]), q 53 (.bsl 32 (.pair .str qP) 1 [(0, (.t 52))]), q 54 (.app 32 (.pair .str qP) (.t 48) (.t 53)), q5 55 43, q3 56 9 55, q3 57 9 56, q6 1 57 54] []))))) (qS [q 59 (.bin .eql (.t 13) (qI 19)), q0 58 59]
 [0,2,3,5,13,58] (.cond (.t 58) (qS [q0 60 0, q5 61 60, q3 62 6 61, q4 63 62, q 64 (.cv .u64 (.t 63)), q0 65 2, q 66 (.cv .u64 (.t 65)), q 67 (.bin .add (.t 64) (.t 66)), q0 11 67] [0,2,3,5,11] (.seq (qS [q0 68 2, q 69 (.bin .lss (.t 68) (qI
 0)), q0 70 69, q2 71 11 70, qF 72 (.bin .geq (.t 71) (.c (.int .u64 9223372036854775808))) 70, q 73 (.pick (.t 70) qt (.t 72)), q0 74 73, q2 75 3 74, qF 76 (.bin .lss (.t 75) (qI 1)) 74, q 77 (.pick (.t 74) qt (.t 76))] [0,3,5,11,77] (.cond
 (.t 77) (qS [q 8 (.mv qf), q 9 (.mv (qI 12))] [8,9] .ret) .skip)) (.regD [q0 78 0, q0 79 0, q5 80 79, q3 81 9 80, q3 82 10 81, q4 83 82, q0 84 0, q5 85 84, q3 86 0 85, q3 87 0 86, q4 88 87, q3 89 1 5, q4 90 89, q 91 (.ia 1 (.t 88) (.t 90)),
 q4 92 91, q0 93 11, q 94 (.cv .i64 (.t 93)), q0 95 3, q0 96 0, q5 97 96, q3 98 2 97, q3 99 2 98, q4 100 99, q 101 (.bld [qE, .bool false, .int .i64 0, .int .i64 0, .int .i64 0] [(0, 1, (.t 92)), (1, 1, qf), (2, 1, (.t 94)), (3, 1, (.t 95)),
 (4, 1, (.t 100))]), q 102 (.bsl 48 (.pair .str (.pair .bool (.pair (.int .i64) qP))) 1 [(0, (.t 101))]), q 103 (.app 48 (.pair .str (.pair .bool (.pair (.int .i64) qP))) (.t 83) (.t 102)), q5 104 78, q3 105 9 104, q3 106 10 105, q6 1 106
 103] [.q 0, .q 1, .q 2, .q 3, .q 4, .q 5, .q 6, .q 7, .q 8, .q 9, .q 10, .q 11, .q 12, .q 13, .q 14, .q 15, .q 16, .q 17, .q 18, .q 19, .q 20, .q 21, .q 22, .q 23, .e 24 [0,1,2,3,4,5], .e 25 [0], .q 26, .q 27, .q 28, .e 29 []] []))) (qS [q
 108 (.bin .eql (.t 13) (qI 20)), q0 107 108] [0,5,107] (.cond (.t 107) (.regD [q0 109 0, q0 110 0, q5 111 110, q3 112 9 111, q3 113 10 112, q4 114 113, q0 115 0, q5 116 115, q3 117 0 116, q3 118 0 117, q4 119 118, q3 120 1 5, q4 121 120, q
 122 (.ia 1 (.t 119) (.t 121)), q4 123 122, q 124 (.bld [qE, .bool false, .int .i64 0, .int .i64 0, .int .i64 0] [(0, 1, (.t 123)), (1, 1, qt)]), q 125 (.bsl 48 (.pair .str (.pair .bool (.pair (.int .i64) qP))) 1 [(0, (.t 124))]), q 126 (.app
 48 (.pair .str (.pair .bool (.pair (.int .i64) qP))) (.t 114) (.t 125)), q5 127 109, q3 128 9 127, q3 129 10 128, q6 1 129 126] [.q 0, .q 1, .q 2, .q 3, .q 4, .q 5, .q 6, .q 7, .q 8, .q 9, .q 10, .q 11, .q 12, .q 13, .q 14, .q 15, .e 16
 [0,1,2,3,4,5], .e 17 [0], .q 18, .q 19, .q 20, .e 21 []] []) .skip)))))))) (qS [q 8 (.mv qt), q 9 (.mv (qI 0))] [8,9] .ret))
def r128 : List RT := [.t 8, .t 9, .w 1 0 8, .w 2 0 17, .w 3 0 18, .w 4 0 19]
def a129 : AS := qS [q 5 (.box (.t 1)), q 8 (.mv (qI 0))] [0,2,3,5] (.seq (qS [q3 9 0 5, q4 10 9] [0,2,3,5,10] (.block 0 (qS [q 12 (.bin .eql (.t 10) (qI 1)), q0 11 12] [0,2,3,5,10,11] (.cond (.t 11) (qS [q3 13 1 5, q4 14 13, q0 8 14] [8] .ret) (qS [q 16
 (.bin .eql (.t 10) (qI 2)), q0 15 16] [0,2,3,5,10,15] (.cond (.t 15) (.seq (.regD [q0 17 0, q3 18 1 5, q4 19 18, q5 20 17, q3 21 9 20, q3 22 0 21, q 23 (.iaA 8 1 (.t 22) (.t 19)), q4 24 23, q0 8 24] [.q 0, .q 1, .q 2, .q 3, .q 4, .q 5, .q 6,
 .q 7, .q 8] [8]) .ret) (qS [q 26 (.bin .eql (.t 10) (qI 4)), q0 25 26] [0,2,3,5,10,25] (.cond (.t 25) (.seq (.regD [q3 27 1 5, q4 28 27, q0 29 0, q5 30 29, q3 31 2 30, q3 32 3 31, q4 33 32, q 34 (.len .s (.t 33)), q 35 (.bin .lss (.t 28) (.t
 34))] [.q 0, .q 1, .q 2, .q 3, .q 4, .q 5, .q 6, .q 7, .q 8] [0,5,35]) (.cond (.t 35) (.seq (.regD [q0 36 0, q5 37 36, q3 38 2 37, q3 39 3 38, q4 40 39, q3 41 1 5, q4 42 41, q 43 (.ia 1 (.t 40) (.t 42)), q4 44 43, q0 8 44] [.q 0, .q 1, .q 2,
 .q 3, .q 4, .q 5, .q 6, .q 7, .q 8, .q 9] [8]) .ret) .skip)) (qS [q 46 (.bin .eql (.t 10) (qI 5)), q0 45 46] [0,2,3,10,45] (.cond (.t 45) (qS [q0 47 0, q5 48 47, q3 49 2 48, q3 50 2 49, q4 51 50, q0 8 51] [8] .ret) (qS [q 53 (.bin .eql (.t
 10) (qI 6)), q0 52 53] [0,2,3,10,52] (.cond (.t 52) (qS [q0 54 2, q0 55 3, q 56 (.bin .add (.t 54) (.t 55)), q0 8 56] [8] .ret) (qS [q 58 (.bin .eql (.t 10) (qI 7)), q0 57 58] [0,2,3,10,57] (.cond (.t 57) (qS [q0 59 2, q0 60 3, q 61 (.bin
 .sub (.t 59) (.t 60)), q0 8 61] [8] .ret) (qS [q 63 (.bin .eql (.t 10) (qI 8)), q0 62 63] [0,2,3,10,62] (.cond (.t 62) (qS [q0 64 2, q0 65 3, q 66 (.bin .mul (.t 64) (.t 65)), q0 8 66] [8] .ret) (qS [q 68 (.bin .eql (.t 10) (qI 9)), q0 67
 68] [0,2,3,10,67] (.cond (.t 67) (qS [q0 69 2, q0 70 3, q 71 (.bin .lss (.t 69) (.t 70)), qX 134 72 [.t 71], q0 8 72] [8] .ret) (qS [q 74 (.bin .eql (.t 10) (qI 10)), q0 73 74] [0,2,3,10,73] (.cond (.t 73) (qS [q0 75 2, q0 76 3, q 77 (.bin
 .eql (.t 75) (.t 76)), qX 134 78 [.t 77], q0 8 78] [8] .ret) (qS [q 80 (.bin .eql (.t 10) (qI 11)), q0 79 80] [0,2,10,79] (.cond (.t 79) (qS [q0 81 2, q 82 (.bin .eql (.t 81) (qI 0)), qX 134 83 [.t 82], q0 8 83] [8] .ret) (qS [q 85 (.bin
 .eql (.t 10) (qI 22)), q0 84 85] [0,10,84] (.cond (.t 84) (qS [q0 86 0, q5 87 86, q3 88 6 87, q4 89 88, q0 8 89] [8] .ret) (qS [q 91 (.bin .eql (.t 10) (qI 23)), q0 90 91] [0,90] (.cond (.t 90) (qS [q0 92 0, q5 93 92, q3 94 2 93, q3 95 1 94,
 q4 96 95, q 97 (.cv .i64 (.t 96)), q0 8 97] [8] .ret) .skip)))))))))))))))))))))))))) (qS [q 8 (.mv (qI 0))] [8] .ret))
def r129 : List RT := [.t 8]
def a130 : AS := qS [q 4 (.mv qf)] [0,1] (.seq (qS [q0 6 0, q 7 (.len .s (.t 6)), q0 8 1, q 9 (.len .s (.t 8)), q 10 (.bin .neq (.t 7) (.t 9))] [0,1,10] (.cond (.t 10) (qS [q 4 (.mv qf)] [4] .ret) .skip)) (.seq (qS [q0 11 0, q 12 (.len .s (.t 11)), q 13 (.mv
 (qI 0))] [0,1,12,13] (.block 0 (.loop 1 [0,1,12,13] (qS [q 14 (.bin .lss (.t 13) (.t 12))] [0,1,12,13,14] (.seq (.cond (.t 14) .skip (.exit 0)) (.seq (.block 1 (qS [q0 15 13, q0 5 15] [0,1,5,12,13] (.seq (.regD [q0 16 0, q0 17 5, q 18 (.ia 1
 (.t 16) (.t 17)), q4 19 18, q0 20 1, q0 21 5, q 22 (.ia 1 (.t 20) (.t 21)), q4 23 22, q 24 (.bin .neq (.t 19) (.t 23))] [.q 0, .q 1, .q 2, .q 3, .q 4, .q 5, .q 6, .q 7, .q 8] [0,1,12,13,24]) (.cond (.t 24) (qS [q 4 (.mv qf)] [4] .ret)
 .skip)))) (.reg [q 25 (.bin .add (.t 13) (qI 1)), q0 13 25] [0,1,12,13]))))))) (qS [q 4 (.mv qt)] [4] .ret)))
def r130 : List RT := [.t 4]
def a134 : AS := qS [q 2 (.mv (qI 0))] [0] (.seq (qS [q0 3 0] [3] (.cond (.t 3) (qS [q 2 (.mv (qI 1))] [2] .ret) .skip)) (qS [q 2 (.mv (qI 0))] [2] .ret))
def r134 : List RT := [.t 2]
theorem ok4 : okF Tryz.prog 4 a4 r4 4 = true := by decide +kernel
theorem ok7 : okF Tryz.prog 7 a7 r7 2 = true := by decide +kernel
theorem ok12 : okF Tryz.prog 12 a12 r12 3 = true := by decide +kernel
theorem ok13 : okF Tryz.prog 13 a13 r13 2 = true := by decide +kernel
theorem ok14 : okF Tryz.prog 14 a14 r14 1 = true := by decide +kernel
theorem ok15 : okF Tryz.prog 15 a15 r15 2 = true := by decide +kernel
theorem ok38 : okF Tryz.prog 38 a38 r38 1 = true := by decide +kernel
theorem ok39 : okF Tryz.prog 39 a39 r39 4 = true := by decide +kernel
theorem ok40 : okF Tryz.prog 40 a40 r40 1 = true := by decide +kernel
theorem ok41 : okF Tryz.prog 41 a41 r41 1 = true := by decide +kernel
theorem ok42 : okF Tryz.prog 42 a42 r42 2 = true := by decide +kernel
theorem ok43 : okF Tryz.prog 43 a43 r43 1 = true := by decide +kernel
theorem ok45 : okF Tryz.prog 45 a45 r45 2 = true := by decide +kernel
theorem ok46 : okF Tryz.prog 46 a46 r46 1 = true := by decide +kernel
theorem ok51 : okF Tryz.prog 51 a51 r51 2 = true := by decide +kernel
theorem ok53 : okF Tryz.prog 53 a53 r53 1 = true := by decide +kernel
theorem ok99 : okF Tryz.prog 99 a99 r99 1 = true := by decide +kernel
theorem ok100 : okF Tryz.prog 100 a100 r100 1 = true := by decide +kernel
theorem ok101 : okF Tryz.prog 101 a101 r101 1 = true := by decide +kernel
theorem ok103 : okF Tryz.prog 103 a103 r103 2 = true := by decide +kernel
theorem ok125 : okF Tryz.prog 125 a125 r125 1 = true := by decide +kernel
theorem ok126 : okF Tryz.prog 126 a126 r126 1 = true := by decide +kernel
theorem ok127 : okF Tryz.prog 127 a127 r127 2 = true := by decide +kernel
theorem ok128 : okF Tryz.prog 128 a128 r128 4 = true := by decide +kernel
theorem ok129 : okF Tryz.prog 129 a129 r129 4 = true := by decide +kernel
theorem ok130 : okF Tryz.prog 130 a130 r130 2 = true := by decide +kernel
theorem ok134 : okF Tryz.prog 134 a134 r134 1 = true := by decide +kernel
end Go.V
