/- A part of the proof layer, or functions of the given program in it: contracts and their proofs. -/
import Derived.Test.YtmjjlpcielgjnaaGreatX1
import Derived.Test.YtmjjlpcielgjnaaGreatProg
namespace Go.V
set_option linter.unusedSimpArgs false
set_option linter.unnecessarySimpa false
open Go.Proofs
def a3 : AS := qS [q 1 (.box (.t 0)), q 2 (.mv qf)] [1] (.seq (qS [q 12 (.call 4 [] []), q 13 (.not (.t 12)), q0 14 13, qF 15 (.ldA 11 (.t 1)) 14, qF 16 (.bsl 152 (.pair (.int .i64) (.pair (.int .u64) (.pair (.int .u64) (.pair .str (.pair .str (.pair (.int
 .i64) (.pair (.int .i64) (.pair (.int .i64) (.pair (.sl 8 (.int .i64)) (.pair (.sl 16 .str) (.sl 16 qP))))))))))) 1 [(0, (.t 15))]) 14, qF 17 (.call 5 [none] [.t 16]) 14, qF 18 (.not (.t 17)) 14, q 19 (.pick (.t 14) qt (.t 18))] [1,19]
 (.cond (.t 19) (qS [q 20 (.call 4 [] []), q0 2 20] [2] .ret) .skip)) (qS [q 22 (.call 6 [none, none] [(.c (.nilp)), qI 1]), q0 21 22, q 23 (.ext (.t 21) 0), q 24 (.ext (.t 21) 1), q0 3 23, q0 4 24] [1,3,4] (qS [q 25 (.bld [.nilp, .nilp,
 .nilp, .nilp, .int .i64 0, .bool false] []), q 26 (.box (.t 25)), q0 5 26] [1,3,4,5] (qS [q0 28 5, q 29 (.ldA 11 (.t 1)), q 30 (.call 7 [none, none] [.t 28, .t 29]), q0 27 30, q 31 (.ext (.t 27) 0), q 32 (.ext (.t 27) 1), q0 6 31, q0 7 32]
 [1,3,4,5,7] (.seq (.regD [q0 34 5, q5 35 34, q3 36 1 35, q4 37 36, q3 38 3 1, q4 39 38, q 40 (.call 8 [none, none] [.t 37, .t 39]), q0 33 40, q 41 (.ext (.t 33) 0), q 42 (.ext (.t 33) 1), q0 8 41, q0 9 42] [.q 0, .q 1, .q 2, .q 3, .q 4, .q
 5, .e 6 [], .q 7, .q 8, .q 9, .q 10, .q 11] [1,3,4,5,7,8,9]) (qS [q0 43 5, q5 44 43, q3 45 1 44, q4 46 45, qX 9 47 [.t 46], q 10 (.alc [.nils, .nils, .nils, .nils]), q6 4 10 47] [1,3,4,5,7,8,9,10] (qS [q3 48 0 1, q4 49 48, q 50 (.bin .lss
 (.t 49) (qI 1)), q0 51 50, qF 52 (.fa 0 (.t 1)) 51, qF 53 (.ld (.t 52)) 51, qF 54 (.bin .gtr (.t 53) (qI 10)) 51, q 55 (.pick (.t 51) qt (.t 54)), q0 56 55, q2 57 7 56, qF 58 (.bin .eql (.t 57) (qI 1)) 56, q 59 (.pick (.t 56) qt (.t 58)), q0
 11 59] [1,3,4,5,8,9,10,11] (.seq (.regD [q0 60 3, q 61 (.eqn false .p (.t 60) (.c (.nilp))), q0 62 61, q1 63 4 62, qT 64 (.bin .eql (.t 63) (qI 1)) 62, q 65 (.pick (.t 62) (.t 64) qf), q0 66 65, q1 67 11 66, q 68 (.pick (.t 66) (.t 67) qf),
 q0 69 68, q1 70 8 69, qT 71 (.eqn false .p (.t 70) (.c (.nilp))) 69, q 72 (.pick (.t 69) (.t 71) qf), q0 73 72, q1 74 9 73, qT 75 (.bin .eql (.t 74) (qI 1)) 73, q 76 (.pick (.t 73) (.t 75) qf), q0 77 76, q1 78 5 77, qT 79 (.nck (.t 78)) 77,
 qT 80 (.fa 1 (.t 79)) 77, qT 81 (.ld (.t 80)) 77, qT 82 (.call 10 [none] [.t 81]) 77, qT 83 (.len .s (.t 82)) 77, qT 84 (.bin .eql (.t 83) (qI 0)) 77, q 85 (.pick (.t 77) (.t 84) qf), q0 86 85, q1 87 5 86, qT 88 (.nck (.t 87)) 86, qT 89 (.fa
 1 (.t 88)) 86, qT 90 (.ld (.t 89)) 86, qT 91 (.call 11 [none] [.t 90]) 86, qT 92 (.bin .eql (.t 91) (qI 0)) 86, q 93 (.pick (.t 86) (.t 92) qf), q0 94 93, q1 95 5 94, qT 96 (.nck (.t 95)) 94, qT 97 (.fa 1 (.t 96)) 94, qT 98 (.ld (.t 97)) 94,
 qT 99 (.call 13 [none] [.t 98]) 94, qT 100 (.bld [.nils, .nils] []) 94, qT 101 (.call 12 [none, none] [.t 99, .t 100]) 94, q 102 (.pick (.t 94) (.t 101) qf), q0 103 102, q1 104 5 103, qT 105 (.nck (.t 104)) 103, qT 106 (.fa 1 (.t 105)) 103,
 qT 107 (.ld (.t 106)) 103, qT 108 (.call 14 [none] [.t 107]) 103, qT 109 (.len .s (.t 108)) 103, qT 110 (.bin .eql (.t 109) (qI 0)) 103, q 111 (.pick (.t 103) (.t 110) qf), q0 112 111, q1 113 5 112, qT 114 (.nck (.t 113)) 112, qT 115 (.fa 1
 (.t 114)) 112, qT 116 (.ld (.t 115)) 112, qT 117 (.fa 1 (.t 1)) 112, qT 118 (.ld (.t 117)) 112, qT 119 (.call 15 [none, none] [.t 116, .t 118]) 112, qT 120 (.len .s (.t 119)) 112, qT 121 (.bin .eql (.t 120) (qI 0)) 112, q 122 (.pick (.t 112)
 (.t 121) qf), q0 123 122, q1 124 5 123, qT 125 (.nck (.t 124)) 123, qT 126 (.fa 1 (.t 125)) 123, qT 127 (.ld (.t 126)) 123, qT 128 (.call 16 [none] [.t 127]) 123, qT 129 (.len .s (.t 128)) 123, qT 130 (.bin .eql (.t 129) (qI 0)) 123, q 131
 (.pick (.t 123) (.t 130) qf), q0 132 131, q1 133 5 132, qT 134 (.nck (.t 133)) 132, qT 135 (.fa 1 (.t 134)) 132, qT 136 (.ld (.t 135)) 132, qT 137 (.call 17 [none] [.t 136]) 132, qT 138 (.len .s (.t 137)) 132, qT 139 (.bin .eql (.t 138) (qI
 0)) 132, q 140 (.pick (.t 132) (.t 139) qf), q0 141 140, qT 142 (.fa 1 (.t 10)) 141, qT 143 (.ld (.t 142)) 141, qT 144 (.len .s (.t 143)) 141, qT 145 (.bin .eql (.t 144) (qI 0)) 141, q 146 (.pick (.t 141) (.t 145) qf), q0 2 146] [.q 0, .q 1,
 .q 2, .q 3, .q 4, .q 5, .q 6, .q 7, .q 8, .q 9, .q 10, .q 11, .q 12, .q 13, .q 14, .q 15, .q 16, .q 17, .q 18, .q 19, .q 20, .q 21, .e 22 [], .q 23, .q 24, .q 25, .q 26, .q 27, .q 28, .q 29, .q 30, .e 31 [], .q 32, .q 33, .q 34, .q 35, .q
 36, .q 37, .q 38, .q 40, .e 39 [40], .e 41 [], .q 42, .q 43, .q 44, .q 45, .q 46, .q 47, .e 48 [], .q 49, .q 50, .q 51, .q 52, .q 53, .q 54, .q 55, .q 56, .q 57, .q 58, .e 59 [], .q 60, .q 61, .q 62, .q 63, .q 64, .q 65, .q 66, .q 67, .e 68
 [], .q 69, .q 70, .q 71, .q 72, .q 73, .q 74, .q 75, .q 76, .e 77 [], .q 78, .q 79, .q 80, .q 81, .q 82, .q 83, .q 84, .q 85, .q 86, .q 87] [2]) .ret))))))))
def r3 : List RT := [.t 2]
def a5 : AS := qS [q 2 (.mv qf)] [0] (qS [q 3 (.mv (.c (.nils)))] [0,3] (.seq (qS [q0 10 0, q 11 (.len .s (.t 10)), q 12 (.mv (qI 0))] [0,3,11,12] (.block 0 (.lift 3 none 16 .str (.loop 1 [0,3,11,12] (qS [q 13 (.bin .lss (.t 12) (.t 11))] [0,3,11,12,13]
 (.seq (.cond (.t 13) .skip (.exit 0)) (.seq (.block 1 (qS [q0 14 12, q0 4 14] [0,3,4,11,12] (qS [q0 15 0, q0 16 4, q 17 (.ia 11 (.t 15) (.t 16)), q 18 (.ldA 11 (.t 17)), q 5 (.alc [.int .i64 0, .int .u64 0, .int .u64 0, qE, qE, .int .i64 0,
 .int .i64 0, .int .i64 0, .nils, .nils, .nils]), q6 11 5 18] [0,3,4,5,11,12] (.seq (.regD [q0 19 3, q3 20 3 5, q4 21 20, q 22 (.bsl 16 .str 1 [(0, (.t 21))]), q 23 (.app 16 .str (.t 19) (.t 22)), q3 24 9 5, q3 25 0 24, q4 26 25, q 27 (.app
 16 .str (.t 23) (.t 26)), q0 3 27] [.q 0, .q 1, .q 2, .q 5, .q 6, .q 7, .e 3 [0,5,6,7], .e 4 [5,6,7], .e 8 [], .e 9 []] [0,3,4,5,11,12]) (qS [q0 28 4, q 29 (.bin .geq (.t 28) (qI 80)), q0 30 29, qF 31 (.fa 8 (.t 5)) 30, qF 32 (.ld (.t 31))
 30, qF 33 (.len .s (.t 32)) 30, qF 34 (.bin .gtr (.t 33) (qI 100)) 30, q 35 (.pick (.t 30) qt (.t 34)), q0 36 35, qF 37 (.fa 3 (.t 5)) 36, qF 38 (.ld (.t 37)) 36, qF 39 (.len .i (.t 38)) 36, qF 40 (.bin .gtr (.t 39) (qI 1000)) 36, q 41
 (.pick (.t 36) qt (.t 40)), q0 42 41, qF 43 (.fa 4 (.t 5)) 42, qF 44 (.ld (.t 43)) 42, qF 45 (.len .i (.t 44)) 42, qF 46 (.bin .gtr (.t 45) (qI 1000)) 42, q 47 (.pick (.t 42) qt (.t 46)), q0 48 47, qF 49 (.fa 9 (.t 5)) 48, qF 50 (.ldA 2 (.t
 49)) 48, qF 51 (.call 20 [none] [.t 50]) 48, qF 52 (.not (.t 51)) 48, q 53 (.pick (.t 48) qt (.t 52)), q0 54 53, q2 55 3 54, qF 56 (.len .s (.t 55)) 54, qF 57 (.bin .gtr (.t 56) (qI 400)) 54, q 58 (.pick (.t 54) qt (.t 57))] [0,3,11,12,58]
 (.cond (.t 58) (qS [q 2 (.mv qf)] [2] .ret) .skip)))))) (.reg [q 59 (.bin .add (.t 12) (qI 1)), q0 12 59] [0,3,11,12])))))))) (qS [q 6 (.mv (qI 0))] [3,6] (.seq (qS [q0 60 3, q 61 (.len .s (.t 60)), q 62 (.mv (qI 0))] [3,6,61,62] (.block 2
 (.loop 2 [3,6,61,62] (qS [q 63 (.bin .lss (.t 62) (.t 61))] [3,6,61,62,63] (.seq (.cond (.t 63) .skip (.exit 2)) (.seq (.block 3 (qS [q0 64 62, q0 7 64] [3,6,7,61,62] (qS [q 8 (.mv qt)] [3,6,7,8,61,62] (.seq (qS [q0 65 7, q 66 (.mv (qI 0))]
 [3,6,7,8,61,62,65,66] (.block 4 (.loop 3 [3,6,7,8,61,62,65,66] (qS [q 67 (.bin .lss (.t 66) (.t 65))] [3,6,7,8,61,62,65,66,67] (.seq (.cond (.t 67) .skip (.exit 4)) (.seq (.block 5 (qS [q0 68 66, q0 9 68] [3,6,7,8,9,61,62,65,66] (.regD [q0
 69 8, q0 70 69, q1 71 3 70, q1 72 9 70, qT 73 (.ia 1 (.t 71) (.t 72)) 70, qT 74 (.ld (.t 73)) 70, q1 75 3 70, q1 76 7 70, qT 77 (.ia 1 (.t 75) (.t 76)) 70, qT 78 (.ld (.t 77)) 70, qT 79 (.bin .neq (.t 74) (.t 78)) 70, q 80 (.pick (.t 70) (.t
 79) qf), q0 8 80] [.q 0, .q 1, .q 2, .q 3, .q 4, .q 5, .q 6, .q 7, .q 8, .q 9, .q 10, .q 11, .e 12 []] [3,6,7,8,61,62,65,66]))) (.reg [q 81 (.bin .add (.t 66) (qI 1)), q0 66 81] [3,6,7,8,61,62,65,66]))))))) (qS [q0 82 8] [3,6,61,62,82]
 (.cond (.t 82) (.reg [q0 83 6, q 84 (.bin .add (.t 83) (qI 1)), q0 6 84] [3,6,61,62]) .skip)))))) (.reg [q 85 (.bin .add (.t 62) (qI 1)), q0 62 85] [3,6,61,62]))))))) (qS [q0 86 6, q 87 (.bin .leq (.t 86) (qI 12)), q0 2 87] [2] .ret)))))
def r5 : List RT := [.t 2]
def a7 : AS := qS [q 3 (.box (.t 1)), q 4 (.mv (.c (qE))), q 5 (.mv (qI 0))] [0,3] (.seq (qS [q3 18 0 3, q4 19 18] [0,3,19] (.block 0 (qS [q 21 (.bin .eql (.t 19) (qI 1)), q0 20 21] [0,3,19,20] (.cond (.t 20) (.seq (.regD [q0 23 0, q5 24 23, q3 25 1 24, q4
 26 25, q3 27 1 3, q4 28 27, q3 29 2 3, q4 30 29, q3 31 3 3, q4 32 31, q3 33 5 3, q4 34 33, q3 35 8 3, q4 36 35, q 37 (.call 19 [none, none, none, none, none, none] [.t 26, .t 28, .t 30, .t 32, .t 34, .t 36]), q0 22 37, q 38 (.ext (.t 22) 0),
 q 39 (.ext (.t 22) 1), q0 6 38, q0 7 39] [.q 0, .q 1, .q 2, .q 3, .q 4, .q 5, .q 6, .q 7, .q 8, .q 9, .q 10, .q 11, .q 12, .q 13, .e 14 [], .q 15, .q 16, .q 17, .q 18, .q 19] [6,7]) (qS [q0 40 6, qX 35 41 [.t 40], q0 42 7, q0 4 41, q0 5 42]
 [4,5] .ret)) (qS [q 44 (.bin .eql (.t 19) (qI 2)), q0 43 44] [0,3,19,43] (.cond (.t 43) (.seq (.regT [q0 46 0, q5 47 46, q3 48 1 47, q4 49 48, q3 50 3 3, q4 51 50, q 52 (.call 36 [none, none] [.t 49, .t 51]), q0 45 52, q 53 (.ext (.t 45) 0),
 q 54 (.ext (.t 45) 1), q 8 (.alc [.bool false, .bool false, .int .i64 0, .int .i64 0, .nils]), q6 5 8 53, q0 9 54] (.q 0 (.q 1 (.q 2 (.q 3 (.q 4 (.q 5 (.e 6 [] (.q 7 (.q 8 (.q 9 (.e 10 [0,1,2,3,4,5,7,8,9] (.e 11 [9] (.q 12 .done) .no)
 .no)))) (.e 10 [0,1,2,3,4,5] (.e 6 [] (.q 7 (.q 8 (.q 9 (.e 11 [9] (.q 12 .done) .no)))) .no) .no)))))))) [8,9]) (qS [q 55 (.ldA 5 (.t 8)), qX 38 56 [.t 55], qX 37 57 [.t 56], q0 58 9, q0 4 57, q0 5 58] [4,5] .ret)) (qS [q 60 (.bin .eql (.t
 19) (qI 3)), q0 59 60] [0,3,19,59] (.cond (.t 59) (.seq (.regD [q0 61 0, q5 62 61, q3 63 1 62, q4 64 63, q3 65 3 3, q4 66 65, q 67 (.call 39 [none, none] [.t 64, .t 66]), q 68 (.ext (.t 67) 0), q 69 (.ext (.t 67) 1), q0 4 68, q0 5 69] [.q 0,
 .q 1, .q 2, .q 3, .q 4, .q 5, .e 6 [], .q 7, .q 8, .q 9, .q 10] [4,5]) .ret) (qS [q 71 (.bin .eql (.t 19) (qI 4)), q0 70 71] [0,3,19,70] (.cond (.t 70) (.seq (.regD [q0 73 0, q5 74 73, q3 75 1 74, q4 76 75, q3 77 5 3, q4 78 77, q 79 (.call
 40 [none, none] [.t 76, .t 78]), q0 72 79, q 80 (.ext (.t 72) 0), q 81 (.ext (.t 72) 1), q0 10 80, q0 11 81] [.q 0, .q 1, .q 2, .q 3, .q 4, .q 5, .e 6 [], .q 7, .q 8, .q 9, .q 10, .q 11] [10,11]) (qS [q0 82 10, qX 41 83 [.t 82], q0 84 11, q0
 4 83, q0 5 84] [4,5] .ret)) (qS [q 86 (.bin .eql (.t 19) (qI 5)), q0 85 86] [0,3,19,85] (.cond (.t 85) (qS [q0 88 0, q5 89 88, q3 90 1 89, q4 91 90, qX 42 92 [.t 91], q0 87 92, q 93 (.ext (.t 87) 0), q 94 (.ext (.t 87) 1), q 12 (.alc [qE,
 qE, .int .i64 0, .int .i64 0, .int .i64 0]), q6 5 12 93, q0 13 94] [12,13] (.seq (.regD [q3 95 0 12, q4 96 95, q 97 (.bin .add (.t 96) (.c (.str ⟨#[47]⟩))), q3 98 1 12, q4 99 98, q 100 (.bin .add (.t 97) (.t 99)), q3 101 2 12, q4 102 101, qX
 41 103 [.t 102], q 104 (.bin .add (.t 100) (.t 103)), q3 105 3 12, q4 106 105, qX 41 107 [.t 106], q 108 (.bin .add (.t 104) (.t 107)), q3 109 4 12, q4 110 109, qX 41 111 [.t 110], q 112 (.bin .add (.t 108) (.t 111)), q0 113 13, q0 4 112, q0
 5 113] [.q 0, .q 1, .q 2, .q 3, .q 4, .q 5, .q 6, .q 7, .q 10, .q 11, .q 14, .q 15, .q 18, .e 8 [0,1,2,3,4,5,10,11,14,15,18], .q 9, .e 12 [0,1,2,3,4,5,14,15,18,9], .q 13, .e 16 [0,1,2,3,4,5,18,9,13], .q 17, .q 19, .q 20] [4,5]) .ret)) (qS [q
 115 (.bin .eql (.t 19) (qI 6)), q0 114 115] [0,3,19,114] (.cond (.t 114) (.seq (.regD [q0 116 0, q5 117 116, q3 118 1 117, q4 119 118, q3 120 3 3, q4 121 120, q3 122 4 3, q4 123 122, q3 124 6 3, q4 125 124, q3 126 7 3, q4 127 126, q3 128 5
 3, q4 129 128, q 130 (.bld [qE, qE, .int .i64 0, .int .i64 0, .int .i64 0] [(0, 1, (.t 121)), (1, 1, (.t 123)), (2, 1, (.t 125)), (3, 1, (.t 127)), (4, 1, (.t 129))]), q 131 (.call 43 [none, none] [.t 119, .t 130]), q 4 (.mv (.c (qE))), q0 5
 131] [.q 0, .q 1, .q 2, .q 3, .q 4, .q 5, .q 6, .q 7, .q 8, .q 9, .q 10, .q 11, .q 12, .q 13, .q 14, .e 15 [], .q 16, .q 17] [4,5]) .ret) (qS [q 133 (.bin .eql (.t 19) (qI 7)), q0 132 133] [0,3,19,132] (.cond (.t 132) (.seq (.regD [q0 135 0,
 q5 136 135, q3 137 1 136, q4 138 137, q3 139 3 3, q4 140 139, q3 141 4 3, q4 142 141, q 143 (.call 44 [none, none, none] [.t 138, .t 140, .t 142]), q0 134 143, q 144 (.ext (.t 134) 0), q 145 (.ext (.t 134) 1), q0 14 144, q0 15 145] [.q 0, .q
 1, .q 2, .q 3, .q 4, .q 5, .q 6, .q 7, .e 8 [], .q 9, .q 10, .q 11, .q 12, .q 13] [14,15]) (qS [q0 146 14, qX 35 147 [.t 146], q0 148 15, q0 4 147, q0 5 148] [4,5] .ret)) (qS [q 150 (.bin .eql (.t 19) (qI 8)), q0 149 150] [0,3,19,149] (.cond
 (.t 149) (.seq (.regD [q0 152 0, q5 153 152, q3 154 1 153, q4 155 154, q3 156 3 3, q4 157 156, q 158 (.call 45 [none, none] [.t 155, .t 157]), q0 151 158, q 159 (.ext (.t 151) 0), q 160 (.ext (.t 151) 1), q0 16 159, q0 17 160] [.q 0, .q 1,
 .q 2, .q 3, .q 4, .q 5, .e 6 [], .q 7, .q 8, .q 9, .q 10, .q 11] [16,17]) (qS [q0 161 16, qX 41 162 [.t 161], q0 163 17, q0 4 162, q0 5 163] [4,5] .ret)) (qS [q 165 (.bin .eql (.t 19) (qI 9)), q0 164 165] [0,3,19,164] (.cond (.t 164) (qS [q0
 166 0, q5 167 166, q3 168 1 167, q4 169 168, qX 46 170 [.t 169], q 4 (.mv (.c (qE))), q0 5 170] [4,5] .ret) (qS [q 172 (.bin .eql (.t 19) (qI 10)), q0 171 172] [0,3,171] (.cond (.t 171) (.seq (.regD [q0 173 0, q5 174 173, q3 175 1 174, q4
 176 175, q3 177 9 3, q 178 (.ldA 2 (.t 177)), qX 48 179 [.t 178], q 180 (.call 47 [none, none] [.t 176, .t 179]), q 4 (.mv (.c (qE))), q0 5 180] [.q 0, .q 1, .q 2, .q 3, .q 4, .q 5, .e 6 [0,1,2,3], .e 7 [], .q 8, .q 9] [4,5]) .ret)
 .skip)))))))))))))))))))))) (qS [q 4 (.mv (.c (qE))), q 5 (.mv (qI 0))] [4,5] .ret))
def r7 : List RT := [.t 4, .t 5]
def a20 : AS := qS [q 1 (.box (.t 0)), q 2 (.mv qf)] [1] (.seq (qS [q3 4 0 1, q4 5 4, q 6 (.len .s (.t 5)), q 7 (.mv (qI 0))] [1,6,7] (.block 0 (.loop 1 [1,6,7] (qS [q 8 (.bin .lss (.t 7) (.t 6))] [1,6,7,8] (.seq (.cond (.t 8) .skip (.exit 0)) (.seq (.block
 1 (qS [q0 9 7, q0 3 9] [1,3,6,7] (qS [q3 10 0 1, q4 11 10, q0 12 3, q 13 (.ia 1 (.t 11) (.t 12)), q4 14 13, q 15 (.len .i (.t 14)), q 16 (.bin .gtr (.t 15) (qI 1000)), q0 17 16, q2 18 3 17, qF 19 (.bin .gtr (.t 18) (qI 50)) 17, q 20 (.pick
 (.t 17) qt (.t 19))] [1,6,7,20] (.cond (.t 20) (qS [q 2 (.mv qf)] [2] .ret) .skip)))) (.reg [q 21 (.bin .add (.t 7) (qI 1)), q0 7 21] [1,6,7]))))))) (qS [q3 22 1 1, q4 23 22, q 24 (.len .s (.t 23)), q 25 (.bin .leq (.t 24) (qI 1000)), q0 2
 25] [2] .ret))
def r20 : List RT := [.t 2]
def a48 : AS := qS [q 1 (.box (.t 0)), q 2 (.alc [.nils, .nils])] [1,2] (qS [q 5 (.bsl 16 .str 0 []), q3 6 0 1, q4 7 6, q 8 (.app 16 .str (.t 5) (.t 7)), q 9 (.bld [.nils, .nils] [(0, 1, (.t 8))]), q 3 (.alc [.nils, .nils]), q6 2 3 9] [1,2,3] (.seq (qS [q3
 10 1 1, q4 11 10, q 12 (.len .s (.t 11)), q 13 (.mv (qI 0))] [1,2,3,12,13] (.block 0 (.lift 2 (some 0) 16 .str (.lift 2 (some 1) 16 qP (.lift 3 (some 0) 16 .str (.lift 3 (some 1) 16 qP (.loop 1 [1,2,3,12,13] (qS [q 14 (.bin .lss (.t 13) (.t
 12))] [1,2,3,12,13,14] (.seq (.cond (.t 14) .skip (.exit 0)) (.seq (.block 1 (qS [q0 15 13, q0 4 15] [1,2,3,4,12,13] (.regD [q3 16 1 3, q4 17 16, q3 18 1 1, q4 19 18, q0 20 4, q 21 (.ia 2 (.t 19) (.t 20)), q 22 (.ldA 2 (.t 21)), q 23 (.bsl
 16 qP 1 [(0, (.t 22))]), q 24 (.app 16 qP (.t 17) (.t 23)), q3 25 1 3, q6 1 25 24] [.q 0, .q 1, .q 2, .q 3, .q 4, .q 5, .q 6, .e 7 [0,1], .e 8 [], .q 9, .e 10 []] [1,2,3,12,13]))) (.reg [q 26 (.bin .add (.t 13) (qI 1)), q0 13 26]
 [1,2,3,12,13]))))))))))) (qS [q 27 (.ldA 2 (.t 3)), q6 2 2 27] [2] (.lift 2 (some 0) 16 .str (.lift 2 (some 1) 16 qP .ret)))))
def r48 : List RT := [.c 2 (some 2), .f 2]
theorem ok3 : okF Tryz.prog 3 a3 r3 1 = true := by decide +kernel
theorem ok5 : okF Tryz.prog 5 a5 r5 1 = true := by decide +kernel
theorem ok7 : okF Tryz.prog 7 a7 r7 2 = true := by decide +kernel
theorem ok20 : okF Tryz.prog 20 a20 r20 1 = true := by decide +kernel
theorem ok48 : okF Tryz.prog 48 a48 r48 1 = true := by decide +kernel
end Go.V
namespace Go.V
open Go.Proofs
set_option maxRecDepth 100000
set_option linter.unusedSimpArgs false
set_option linter.unnecessarySimpa false
set_option linter.unusedVariables false
def Rn : Run := runF XT 10000 100
theorem rn_sound (f : Nat) : Sound Tryz.prog f (CX Rn f) := runF_sound XT_ok 10000 100 f
theorem rn6 : Rn 6 [.nilp, .int .i64 1] [] = some [(.tup [.nilp, .int .i64 1], [])] := by kernel_rfl
def C6 : Contract := fun args hp K => match args, hp with
 | [.nilp, .int .i64 1], [] => K (.tup [.nilp, .int .i64 1]) []
 | _, _ => False
theorem s6 : Sound Tryz.prog 6 C6 := by
 intro args hp K h
 unfold C6 at h
 split at h
 ·exact rn_sound 6 _ _ K ⟨_, rn6, by simpa using h⟩
 ·exact h.elim
theorem rn8 (x : SV) : Rn 8 [.nilp, x] [] = some [(.tup [.nilp, .int .i64 1], [])] := by kernel_rfl
def C8 : Contract := fun args hp K => match args, hp with
 | [.nilp, x], [] => K (.tup [.nilp, .int .i64 1]) []
 | _, _ => False
theorem s8 : Sound Tryz.prog 8 C8 := by
 intro args hp K h
 unfold C8 at h
 split at h
 ·exact rn_sound 8 _ _ K ⟨_, rn8 _, by simpa using h⟩
 ·exact h.elim
theorem rn9 : Rn 9 [.nilp] [] = some [(.agg [.nils, .nils, .nils, .nils], [])] := by kernel_rfl
def C9 : Contract := fun args hp K => match args, hp with
 | [.nilp], [] => K (.agg [.nils, .nils, .nils, .nils]) []
 | _, _ => False
theorem s9 : Sound Tryz.prog 9 C9 := by
 intro args hp K h
 unfold C9 at h
 split at h
 ·exact rn_sound 9 _ _ K ⟨_, rn9, by simpa using h⟩
 ·exact h.elim
theorem rn10 : Rn 10 [.nilp] [] = some [(.nils, [])] := by kernel_rfl
def C10 : Contract := fun args hp K => match args, hp with
 | [.nilp], [] => K (.nils) []
 | _, _ => False
theorem s10 : Sound Tryz.prog 10 C10 := by
 intro args hp K h
 unfold C10 at h
 split at h
 ·exact rn_sound 10 _ _ K ⟨_, rn10, by simpa using h⟩
 ·exact h.elim
theorem rn11 : Rn 11 [.nilp] [] = some [(.int .i64 0, [])] := by kernel_rfl
def C11 : Contract := fun args hp K => match args, hp with
 | [.nilp], [] => K (.int .i64 0) []
 | _, _ => False
theorem s11 : Sound Tryz.prog 11 C11 := by
 intro args hp K h
 unfold C11 at h
 split at h
 ·exact rn_sound 11 _ _ K ⟨_, rn11, by simpa using h⟩
 ·exact h.elim
theorem rn13 : Rn 13 [.nilp] [] = some [(.agg [.nils, .nils], [])] := by kernel_rfl
def C13 : Contract := fun args hp K => match args, hp with
 | [.nilp], [] => K (.agg [.nils, .nils]) []
 | _, _ => False
theorem s13 : Sound Tryz.prog 13 C13 := by
 intro args hp K h
 unfold C13 at h
 split at h
 ·exact rn_sound 13 _ _ K ⟨_, rn13, by simpa using h⟩
 ·exact h.elim
theorem rn14 : Rn 14 [.nilp] [] = some [(.nils, [])] := by kernel_rfl
def C14 : Contract := fun args hp K => match args, hp with
 | [.nilp], [] => K (.nils) []
 | _, _ => False
theorem s14 : Sound Tryz.prog 14 C14 := by
 intro args hp K h
 unfold C14 at h
 split at h
 ·exact rn_sound 14 _ _ K ⟨_, rn14, by simpa using h⟩
 ·exact h.elim
theorem rn15 (x : SV) : Rn 15 [.nilp, x] [] = some [(.nils, [])] := by kernel_rfl
def C15 : Contract := fun args hp K => match args, hp with
 | [.nilp, x], [] => K (.nils) []
 | _, _ => False
theorem s15 : Sound Tryz.prog 15 C15 := by
 intro args hp K h
 unfold C15 at h
 split at h
 ·exact rn_sound 15 _ _ K ⟨_, rn15 _, by simpa using h⟩
 ·exact h.elim
theorem rn16 : Rn 16 [.nilp] [] = some [(.nils, [])] := by kernel_rfl
def C16 : Contract := fun args hp K => match args, hp with
 | [.nilp], [] => K (.nils) []
 | _, _ => False
theorem s16 : Sound Tryz.prog 16 C16 := by
 intro args hp K h
 unfold C16 at h
 split at h
 ·exact rn_sound 16 _ _ K ⟨_, rn16, by simpa using h⟩
 ·exact h.elim
theorem rn17 : Rn 17 [.nilp] [] = some [(.nils, [])] := by kernel_rfl
def C17 : Contract := fun args hp K => match args, hp with
 | [.nilp], [] => K (.nils) []
 | _, _ => False
theorem s17 : Sound Tryz.prog 17 C17 := by
 intro args hp K h
 unfold C17 at h
 split at h
 ·exact rn_sound 17 _ _ K ⟨_, rn17, by simpa using h⟩
 ·exact h.elim
theorem rn19 (x y z u v : SV) : Rn 19 [.nilp, x, y, z, u, v] [] = some [(.tup [.bool false, .int .i64 1], [])] := by kernel_rfl
def C19 : Contract := fun args hp K => match args, hp with
 | [.nilp, x, y, z, u, v], [] => K (.tup [.bool false, .int .i64 1]) []
 | _, _ => False
theorem s19 : Sound Tryz.prog 19 C19 := by
 intro args hp K h
 unfold C19 at h
 split at h
 ·exact rn_sound 19 _ _ K ⟨_, rn19 _ _ _ _ _, by simpa using h⟩
 ·exact h.elim
theorem rn36 (x : SV) : Rn 36 [.nilp, x] [] = some [(.tup [.agg [.bool false, .bool false, .int .i64 0, .int .i64 0, .nils], .int .i64 1], [])] := by kernel_rfl
def C36 : Contract := fun args hp K => match args, hp with
 | [.nilp, x], [] => K (.tup [.agg [.bool false, .bool false, .int .i64 0, .int .i64 0, .nils], .int .i64 1]) []
 | _, _ => False
theorem s36 : Sound Tryz.prog 36 C36 := by
 intro args hp K h
 unfold C36 at h
 split at h
 ·exact rn_sound 36 _ _ K ⟨_, rn36 _, by simpa using h⟩
 ·exact h.elim
theorem rn39 (x : SV) : Rn 39 [.nilp, x] [] = some [(.tup [.str ByteArray.empty, .int .i64 1], [])] := by kernel_rfl
def C39 : Contract := fun args hp K => match args, hp with
 | [.nilp, x], [] => K (.tup [.str ByteArray.empty, .int .i64 1]) []
 | _, _ => False
theorem s39 : Sound Tryz.prog 39 C39 := by
 intro args hp K h
 unfold C39 at h
 split at h
 ·exact rn_sound 39 _ _ K ⟨_, rn39 _, by simpa using h⟩
 ·exact h.elim
theorem rn40 (x : SV) : Rn 40 [.nilp, x] [] = some [(.tup [.int .i64 0, .int .i64 1], [])] := by kernel_rfl
def C40 : Contract := fun args hp K => match args, hp with
 | [.nilp, x], [] => K (.tup [.int .i64 0, .int .i64 1]) []
 | _, _ => False
theorem s40 : Sound Tryz.prog 40 C40 := by
 intro args hp K h
 unfold C40 at h
 split at h
 ·exact rn_sound 40 _ _ K ⟨_, rn40 _, by simpa using h⟩
 ·exact h.elim
theorem rn42 : Rn 42 [.nilp] [] = some [(.tup [.agg [.str ByteArray.empty, .str ByteArray.empty, .int .i64 0, .int .i64 0, .int .i64 0], .int .i64 1], [])] := by kernel_rfl
def C42 : Contract := fun args hp K => match args, hp with
 | [.nilp], [] => K (.tup [.agg [.str ByteArray.empty, .str ByteArray.empty, .int .i64 0, .int .i64 0, .int .i64 0], .int .i64 1]) []
 | _, _ => False
theorem s42 : Sound Tryz.prog 42 C42 := by
 intro args hp K h
 unfold C42 at h
 split at h
 ·exact rn_sound 42 _ _ K ⟨_, rn42, by simpa using h⟩
 ·exact h.elim
theorem rn43 (x y z u v : SV) : Rn 43 [.nilp, .agg [x, y, z, u, v]] [] = some [(.int .i64 1, [])] := by kernel_rfl
def C43 : Contract := fun args hp K => match args, hp with
 | [.nilp, .agg [x, y, z, u, v]], [] => K (.int .i64 1) []
 | _, _ => False
theorem s43 : Sound Tryz.prog 43 C43 := by
 intro args hp K h
 unfold C43 at h
 split at h
 ·exact rn_sound 43 _ _ K ⟨_, rn43 _ _ _ _ _, by simpa using h⟩
 ·exact h.elim
theorem rn44 (x y : SV) : Rn 44 [.nilp, x, y] [] = some [(.tup [.bool false, .int .i64 1], [])] := by kernel_rfl
def C44 : Contract := fun args hp K => match args, hp with
 | [.nilp, x, y], [] => K (.tup [.bool false, .int .i64 1]) []
 | _, _ => False
theorem s44 : Sound Tryz.prog 44 C44 := by
 intro args hp K h
 unfold C44 at h
 split at h
 ·exact rn_sound 44 _ _ K ⟨_, rn44 _ _, by simpa using h⟩
 ·exact h.elim
theorem rn45 (x : SV) : Rn 45 [.nilp, x] [] = some [(.tup [.int .i64 0, .int .i64 1], [])] := by kernel_rfl
def C45 : Contract := fun args hp K => match args, hp with
 | [.nilp, x], [] => K (.tup [.int .i64 0, .int .i64 1]) []
 | _, _ => False
theorem s45 : Sound Tryz.prog 45 C45 := by
 intro args hp K h
 unfold C45 at h
 split at h
 ·exact rn_sound 45 _ _ K ⟨_, rn45 _, by simpa using h⟩
 ·exact h.elim
theorem rn46 : Rn 46 [.nilp] [] = some [(.int .i64 1, [])] := by kernel_rfl
def C46 : Contract := fun args hp K => match args, hp with
 | [.nilp], [] => K (.int .i64 1) []
 | _, _ => False
theorem s46 : Sound Tryz.prog 46 C46 := by
 intro args hp K h
 unfold C46 at h
 split at h
 ·exact rn_sound 46 _ _ K ⟨_, rn46, by simpa using h⟩
 ·exact h.elim
theorem rn47 (x y : SV) : Rn 47 [.nilp, .agg [x, y]] [] = some [(.int .i64 1, [])] := by kernel_rfl
def C47 : Contract := fun args hp K => match args, hp with
 | [.nilp, .agg [x, y]], [] => K (.int .i64 1) []
 | _, _ => False
theorem s47 : Sound Tryz.prog 47 C47 := by
 intro args hp K h
 unfold C47 at h
 split at h
 ·exact rn_sound 47 _ _ K ⟨_, rn47 _ _, by simpa using h⟩
 ·exact h.elim
theorem rn35 : Rn 35 [.bool false] [] = some [(.str ⟨#[110, 111]⟩, [])] := by kernel_rfl
def C35 : Contract := fun args hp K => match args, hp with
 | [.bool false], [] => K (.str ⟨#[110, 111]⟩) []
 | _, _ => False
theorem s35 : Sound Tryz.prog 35 C35 := by
 intro args hp K h
 unfold C35 at h
 split at h
 ·exact rn_sound 35 _ _ K ⟨_, rn35, by simpa using h⟩
 ·exact h.elim
theorem rn41 : Rn 41 [.int .i64 0] [] = some [(.str ⟨#[0, 0, 0, 0, 0, 0, 0, 0]⟩, [])] := by kernel_rfl
def C41 : Contract := fun args hp K => match args, hp with
 | [.int .i64 0], [] => K (.str ⟨#[0, 0, 0, 0, 0, 0, 0, 0]⟩) []
 | _, _ => False
theorem s41 : Sound Tryz.prog 41 C41 := by
 intro args hp K h
 unfold C41 at h
 split at h
 ·exact rn_sound 41 _ _ K ⟨_, rn41, by simpa using h⟩
 ·exact h.elim
theorem rn12 : Rn 12 [.agg [.nils, .nils], .agg [.nils, .nils]] [] = some [(.bool true, [])] := by kernel_rfl
def C12 : Contract := fun args hp K => match args, hp with
 | [.agg [.nils, .nils], .agg [.nils, .nils]], [] => K (.bool true) []
 | _, _ => False
theorem s12 : Sound Tryz.prog 12 C12 := by
 intro args hp K h
 unfold C12 at h
 split at h
 ·exact rn_sound 12 _ _ K ⟨_, rn12, by simpa using h⟩
 ·exact h.elim
theorem rn38 : Rn 38 [.agg [.bool false, .bool false, .int .i64 0, .int .i64 0, .nils]] [] = some [(.agg [.bool false, .bool false, .int .i64 0, .int .i64 0, .nils], [])] := by kernel_rfl
def C38 : Contract := fun args hp K => match args, hp with
 | [.agg [.bool false, .bool false, .int .i64 0, .int .i64 0, .nils]], [] => K (.agg [.bool false, .bool false, .int .i64 0, .int .i64 0, .nils]) []
 | _, _ => False
theorem s38 : Sound Tryz.prog 38 C38 := by
 intro args hp K h
 unfold C38 at h
 split at h
 ·exact rn_sound 38 _ _ K ⟨_, rn38, by simpa using h⟩
 ·exact h.elim
theorem rn37 : Rn 37 [.agg [.bool false, .bool false, .int .i64 0, .int .i64 0, .nils]] [] = some [(.str ⟨#[110, 111, 110, 111, 0, 0, 0, 0, 0, 0, 0, 0, 0, 0, 0, 0, 0, 0, 0, 0, 0, 0, 0, 0, 0, 0, 0, 0]⟩, [])] := by kernel_rfl
def C37 : Contract := fun args hp K => match args, hp with
 | [.agg [.bool false, .bool false, .int .i64 0, .int .i64 0, .nils]], [] => K (.str ⟨#[110, 111, 110, 111, 0, 0, 0, 0, 0, 0, 0, 0, 0, 0, 0, 0, 0, 0, 0, 0, 0, 0, 0, 0, 0, 0, 0, 0]⟩) []
 | _, _ => False
theorem s37 : Sound Tryz.prog 37 C37 := by
 intro args hp K h
 unfold C37 at h
 split at h
 ·exact rn_sound 37 _ _ K ⟨_, rn37, by simpa using h⟩
 ·exact h.elim
end Go.V
namespace Go.V
open Go.Proofs
set_option maxRecDepth 100000
set_option linter.unusedSimpArgs false
set_option linter.unnecessarySimpa false
set_option linter.unusedVariables false
attribute [local irreducible] rc
theorem swd {p : Prop} [inst : Decidable p] {A B : Bool → Prop} (h1 : p → A true) (h2 : ¬ p → B false) : ∀ c : Bool, c = decide p → sw c (A c) (B c) := by
 rintro c rfl
 by_cases hp : p
 ·rw [decide_eq_true hp]; exact h1 hp
 ·rw [decide_eq_false hp]; exact h2 hp
abbrev EvI : Ty := .pair (.int .i64) (.int .i64)
abbrev OpT : Ty := .pair (.int .i64) (.pair (.int .u64) (.pair (.int .u64) (.pair .str (.pair .str (.pair (.int .i64) (.pair (.int .i64) (.pair (.int .i64) (.pair (.sl 8 (.int .i64)) (.pair (.sl 16 .str) (.sl 16 (.pair (.int .i64) (.int .i64))))))))))))
def A20 (ns : List ByteArray) (cd : List EvI.den) : LoopAnn := {
 G := Nat
 I := fun i => ⟨[(1, .ptr 0 0), (6, .int .i64 ns.length), (7, .int .i64 i)], [.struct [.sl true 16 .str ns, .sl true 16 (.pair (.int .i64) (.int .i64)) cd]]⟩
 R := fun _ i => i ≤ ns.length
 μ := fun i => ns.length - i }
theorem I20 (ns cd) (i : Nat) : (A20 ns cd).I i = ⟨[(1, .ptr 0 0), (6, .int .i64 ns.length), (7, .int .i64 i)], [.struct [.sl true 16 .str ns, .sl true 16 (.pair (.int .i64) (.int .i64)) cd]]⟩ := rfl
def C20 : Contract := fun args hp K => match args, hp with
 | [.agg [.sl true 16 .str ns, .sl true 16 (.pair (.int .i64) (.int .i64)) cd]], [] => ∀ b : Bool, K (.bool b) []
 | _, _ => False
theorem s20 : Sound Tryz.prog 20 C20 := by
 refine sound_of_okF ok20 .nil ?_
 intro args hp K h
 unfold C20 at h
 split at h
 ·rename_i ns cd
  refine ⟨by simp, [(1, A20 ns cd)], ?_⟩
  simp (maxSteps:=9^9) only [a20, r20, go_sem, eq_self, and_self, Int.natCast_pos, Int.le_refl, Nat.le_refl, Int.natCast_nonneg, Int.ofNat_lt, Int.ofNat_le, Int.reduceLT, Int.reduceLE, Int.reduceEq, Int.reduceNe, Int.reduceAdd, Int.reduceSub, Int.reduceMul, Int.reduceToNat, Int.reduceNeg, Nat.reduceEqDiff, Nat.reduceLeDiff, Nat.reduceSub, Nat.reduceMul, Nat.reduceLT, Nat.reduceBEq, Nat.reduceAdd, Nat.reduceDiv, Nat.reduceMod]
  rintro _ _ m rfl
  refine loop_intro (A := A20 ns cd) (0 : Nat) ?_ (Nat.zero_le _) ?_
  ·simp (maxSteps:=9^9) only [I20, go_sem, eq_self, and_self, Int.natCast_pos, Int.le_refl, Nat.le_refl, Int.natCast_nonneg, Int.ofNat_lt, Int.ofNat_le, Int.reduceLT, Int.reduceLE, Int.reduceEq, Int.reduceNe, Int.reduceAdd, Int.reduceSub, Int.reduceMul, Int.reduceToNat, Int.reduceNeg, Nat.reduceEqDiff, Nat.reduceLeDiff, Nat.reduceSub, Nat.reduceMul, Nat.reduceLT, Nat.reduceBEq, Nat.reduceAdd, Nat.reduceDiv, Nat.reduceMod]
   rfl
  rintro (i : Nat) (hi : i ≤ ns.length)
  simp (maxSteps:=9^9) only [I20, go_sem, eq_self, and_self, Int.natCast_pos, Int.le_refl, Nat.le_refl, Int.natCast_nonneg, Int.ofNat_lt, Int.ofNat_le, Int.reduceLT, Int.reduceLE, Int.reduceEq, Int.reduceNe, Int.reduceAdd, Int.reduceSub, Int.reduceMul, Int.reduceToNat, Int.reduceNeg, Nat.reduceEqDiff, Nat.reduceLeDiff, Nat.reduceSub, Nat.reduceMul, Nat.reduceLT, Nat.reduceBEq, Nat.reduceAdd, Nat.reduceDiv, Nat.reduceMod]
  have hm := maxLen_val
  refine swd (fun hc => ?_) (fun hc => ?_)
  ·have hlt : i < ns.length := by omega
   refine nd_intro hlt ?_
   rintro _ m1 rfl
   refine swd (fun _ => h false) (fun _ => swd (fun _ => h false) (fun _ => ?_))
   rintro _ _ m hm3
   rw [w64 (by omega)] at hm3
   subst hm3
   refine lpE_intro (A := A20 ns cd) (i + 1 : Nat) ?_ hlt ?_
   ·simp (maxSteps:=9^9) only [I20, go_sem, eq_self, and_self, Int.natCast_pos, Int.le_refl, Nat.le_refl, Int.natCast_nonneg, Int.ofNat_lt, Int.ofNat_le, Int.reduceLT, Int.reduceLE, Int.reduceEq, Int.reduceNe, Int.reduceAdd, Int.reduceSub, Int.reduceMul, Int.reduceToNat, Int.reduceNeg, Nat.reduceEqDiff, Nat.reduceLeDiff, Nat.reduceSub, Nat.reduceMul, Nat.reduceLT, Nat.reduceBEq, Nat.reduceAdd, Nat.reduceDiv, Nat.reduceMod]
    rfl
   ·show ns.length - (i + 1) < ns.length - i
    omega
  ·rintro _ _ m rfl c rfl
   exact h _
 ·exact h.elim
def L48 (ns : List ByteArray) (cd : List EvI.den) : LoopAnn := { G := Nat, I := fun i => ⟨[(1, .ptr 0 0), (2, .ptr 1 0), (3, .ptr 4 0), (12, .int .i64 cd.length), (13, .int .i64 i)], [.struct [.sl true 16 .str ns, .sl true 16 (.pair (.int .i64) (.int .i64)) cd], .struct [.own 2, .own 3], .row true 16 .str [], .row true 16 (.pair (.int .i64) (.int .i64)) [], .struct [.own 5, .own 6], .row true 16 .str ns, .row true 16 (.pair (.int .i64) (.int .i64)) (cd.take i)]⟩, R := fun _ i => i ≤ cd.length, μ := fun i => cd.length - i }
theorem L48_I {ns cd} (i : Nat) : (L48 ns cd).I i = ⟨[(1, .ptr 0 0), (2, .ptr 1 0), (3, .ptr 4 0), (12, .int .i64 cd.length), (13, .int .i64 i)], [.struct [.sl true 16 .str ns, .sl true 16 (.pair (.int .i64) (.int .i64)) cd], .struct [.own 2, .own 3], .row true 16 .str [], .row true 16 (.pair (.int .i64) (.int .i64)) [], .struct [.own 5, .own 6], .row true 16 .str ns, .row true 16 (.pair (.int .i64) (.int .i64)) (cd.take i)]⟩ := rfl
def C48 : Contract := fun args hp K => match args, hp with
 | [.agg [.sl true 16 .str ns, .sl true 16 (.pair (.int .i64) (.int .i64)) cd]], [] => K (.agg [.sl true 16 .str ns, .sl true 16 (.pair (.int .i64) (.int .i64)) cd]) []
 | _, _ => False
theorem s48 : Sound Tryz.prog 48 C48 := by
 refine sound_of_okF ok48 .nil ?_
 intro args hp K h
 unfold C48 at h
 split at h
 ·rename_i ns cd
  have hmx := maxLen_val
  refine ⟨by simp, [(1, L48 ns cd)], ?_⟩
  simp (maxSteps:=9^9) only [a48, r48, go_sem, eq_self, and_self, Int.natCast_pos, Int.le_refl, Nat.le_refl, Int.natCast_nonneg, Int.ofNat_lt, Int.ofNat_le, Int.reduceLT, Int.reduceLE, Int.reduceEq, Int.reduceNe, Int.reduceAdd, Int.reduceSub, Int.reduceMul, Int.reduceToNat, Int.reduceNeg, Nat.reduceEqDiff, Nat.reduceLeDiff, Nat.reduceSub, Nat.reduceMul, Nat.reduceLT, Nat.reduceBEq, Nat.reduceAdd, Nat.reduceDiv, Nat.reduceMod]
  refine ⟨fun h9 => h9, fun hl => ?_⟩
  rintro hl1 hl2 m rfl
  have hl2' : (cd : List EvI.den).length * 16 ≤ 140737488355328 := hl2
  refine loop_intro (A := L48 ns cd) (0 : Nat) ?_ (Nat.zero_le _) ?_
  ·simp (maxSteps:=9^9) only [L48_I, go_sem, eq_self, and_self, Int.natCast_pos, Int.le_refl, Nat.le_refl, Int.natCast_nonneg, Int.ofNat_lt, Int.ofNat_le, Int.reduceLT, Int.reduceLE, Int.reduceEq, Int.reduceNe, Int.reduceAdd, Int.reduceSub, Int.reduceMul, Int.reduceToNat, Int.reduceNeg, Nat.reduceEqDiff, Nat.reduceLeDiff, Nat.reduceSub, Nat.reduceMul, Nat.reduceLT, Nat.reduceBEq, Nat.reduceAdd, Nat.reduceDiv, Nat.reduceMod]
   rfl
  ·intro (i : Nat) (hi : i ≤ (cd : List EvI.den).length)
   simp (maxSteps:=9^9) only [L48_I, go_sem, eq_self, and_self, Int.natCast_pos, Int.le_refl, Nat.le_refl, Int.natCast_nonneg, Int.ofNat_lt, Int.ofNat_le, Int.reduceLT, Int.reduceLE, Int.reduceEq, Int.reduceNe, Int.reduceAdd, Int.reduceSub, Int.reduceMul, Int.reduceToNat, Int.reduceNeg, Nat.reduceEqDiff, Nat.reduceLeDiff, Nat.reduceSub, Nat.reduceMul, Nat.reduceLT, Nat.reduceBEq, Nat.reduceAdd, Nat.reduceDiv, Nat.reduceMod]
   rintro c rfl
   refine sw_intro (fun hc => ?_) (fun hc => ?_) <;> simp only [decide_eq_true_eq, decide_eq_false_iff_not] at hc
   ·have hc' : i < (cd : List EvI.den).length := by omega
    refine nd_intro hc' ⟨fun h9 => by rw [List.length_take]; omega, fun h9 => ?_⟩
    rintro _ _ m hm
    rw [w64 (by omega)] at hm
    subst hm
    refine lpE_intro (A := L48 ns cd) (i + 1 : Nat) ?_ (by show i + 1 ≤ cd.length; omega) (by show cd.length - (i + 1) < cd.length - i; omega)
    have e := take_elt (t := EvI) hc'
    simp (maxSteps:=9^9) only [L48_I, ← e, go_sem, eq_self, and_self, Int.natCast_pos, Int.le_refl, Nat.le_refl, Int.natCast_nonneg, Int.ofNat_lt, Int.ofNat_le, Int.reduceLT, Int.reduceLE, Int.reduceEq, Int.reduceNe, Int.reduceAdd, Int.reduceSub, Int.reduceMul, Int.reduceToNat, Int.reduceNeg, Nat.reduceEqDiff, Nat.reduceLeDiff, Nat.reduceSub, Nat.reduceMul, Nat.reduceLT, Nat.reduceBEq, Nat.reduceAdd, Nat.reduceDiv, Nat.reduceMod]
    rfl
   ·rw [List.take_of_length_le (by omega)]
    exact h
 ·exact h.elim
def C7 : Contract := fun args hp K => ∃ (k c s : Int) (key name : ByteArray) (n due per : Int) (az : List Int) (ns : List ByteArray) (cd : List EvI.den),
 args = [.ptr 0 0, .agg [.int .i64 k, .int .u64 c, .int .u64 s, .str key, .str name, .int .i64 n, .int .i64 due, .int .i64 per, .sl true 8 (.int .i64) az, .sl true 16 .str ns, .sl true 16 (.pair (.int .i64) (.int .i64)) cd]] ∧
 hp = [.struct [.nilp, .nilp, .nilp, .nilp, .int .i64 0, .bool false]] ∧
 ∀ (t : ByteArray) (e : Int), (1 ≤ k ∧ k ≤ 10 → e = 1) → K (.tup [.str t, .int .i64 e]) [.struct [.nilp, .nilp, .nilp, .nilp, .int .i64 0, .bool false]]
theorem s7 : Sound Tryz.prog 7 C7 := by
 refine sound_of_okF ok7 (.cons s19 (callable_of_okF xk19) (.cons s35 (callable_of_okF xk35) (.cons s36 (callable_of_okF xk36) (.cons s37 (callable_of_okF xk37) (.cons s38 (callable_of_okF xk38) (.cons s39 (callable_of_okF xk39) (.cons s40 (callable_of_okF xk40) (.cons s41 (callable_of_okF xk41) (.cons s42 (callable_of_okF xk42) (.cons s43 (callable_of_okF xk43) (.cons s44 (callable_of_okF xk44) (.cons s45 (callable_of_okF xk45) (.cons s46 (callable_of_okF xk46) (.cons s47 (callable_of_okF xk47) (.cons s48 (callable_of_okF ok48) .nil))))))))))))))) ?_
 rintro args hp K ⟨k, c, s, key, name, n, due, per, az, ns, cd, rfl, rfl, h⟩
 refine ⟨by simp, [], ?_⟩
 simp (maxSteps:=9^9) only [a7, r7, C19, C35, C36, C37, C38, C39, C40, C41, C42, C43, C44, C45, C46, C47, C48, go_sem, eq_self, and_self, Int.natCast_pos, Int.le_refl, Nat.le_refl, Int.natCast_nonneg, Int.ofNat_lt, Int.ofNat_le, Int.reduceLT, Int.reduceLE, Int.reduceEq, Int.reduceNe, Int.reduceAdd, Int.reduceSub, Int.reduceMul, Int.reduceToNat, Int.reduceNeg, Nat.reduceEqDiff, Nat.reduceLeDiff, Nat.reduceSub, Nat.reduceMul, Nat.reduceLT, Nat.reduceBEq, Nat.reduceAdd, Nat.reduceDiv, Nat.reduceMod]
 refine swd (fun _ => h _ _ fun _ => rfl) (fun n1 => swd (fun _ => h _ _ fun _ => rfl) (fun n2 => swd (fun _ => h _ _ fun _ => rfl) (fun n3 => swd (fun _ => h _ _ fun _ => rfl) (fun n4 => swd (fun _ => ?_) (fun n5 => ?_)))))
 ·repeat' (first | exact h _ _ (fun _ => rfl) | rfl | (rintro _ rfl) | (refine And.intro ?_ ?_) | (simp [ByteArray.size_append, ByteArray.size_empty, maxLen]; done) | (simp [ByteArray.size, maxLen]; done))
 ·refine swd (fun _ => h _ _ fun _ => rfl) (fun n6 => swd (fun _ => h _ _ fun _ => rfl) (fun n7 => swd (fun _ => h _ _ fun _ => rfl) (fun n8 => swd (fun _ => h _ _ fun _ => rfl) (fun n9 => swd (fun _ => ?_) (fun n10 => ?_)))))
  ·exact h _ _ (fun _ => rfl)
  ·exact h _ _ (fun hk => by omega)
end Go.V
namespace Go.V
open Go.Proofs
set_option maxRecDepth 100000
set_option maxHeartbeats 2000000
set_option linter.unusedSimpArgs false
set_option linter.unnecessarySimpa false
set_option linter.unusedVariables false
attribute [local irreducible] rc
abbrev opNs (o : OpT.den) : List ByteArray := o.2.2.2.2.2.2.2.2.2.1
structure G5 where
 keys : List ByteArray
 i : Nat
 n : Int
 j : Nat
 b : Bool
 k : Nat
def A5 (xs : List OpT.den) : LoopAnn := {
 G := G5
 I := fun g => ⟨[(0, .own 0), (3, .own 1), (11, .int .i64 xs.length), (12, .int .i64 g.i)], [.row false 152 (.pair (.int .i64) (.pair (.int .u64) (.pair (.int .u64) (.pair .str (.pair .str (.pair (.int .i64) (.pair (.int .i64) (.pair (.int .i64) (.pair (.sl 8 (.int .i64)) (.pair (.sl 16 .str) (.sl 16 (.pair (.int .i64) (.int .i64))))))))))))) xs, .row true 16 .str g.keys]⟩
 R := fun _ g => g.i ≤ xs.length ∧ g.keys.length ≤ 400 ∧ (g.i = 0 → g.keys = [])
 μ := fun g => xs.length - g.i }
theorem I5 (xs) (g : G5) : (A5 xs).I g = ⟨[(0, .own 0), (3, .own 1), (11, .int .i64 xs.length), (12, .int .i64 g.i)], [.row false 152 (.pair (.int .i64) (.pair (.int .u64) (.pair (.int .u64) (.pair .str (.pair .str (.pair (.int .i64) (.pair (.int .i64) (.pair (.int .i64) (.pair (.sl 8 (.int .i64)) (.pair (.sl 16 .str) (.sl 16 (.pair (.int .i64) (.int .i64))))))))))))) xs, .row true 16 .str g.keys]⟩ := rfl
def B5 (xs : List OpT.den) : LoopAnn := {
 G := G5
 I := fun g => ⟨[(3, .own 1), (6, .int .i64 g.n), (61, .int .i64 g.keys.length), (62, .int .i64 g.i)], [.row false 152 (.pair (.int .i64) (.pair (.int .u64) (.pair (.int .u64) (.pair .str (.pair .str (.pair (.int .i64) (.pair (.int .i64) (.pair (.int .i64) (.pair (.sl 8 (.int .i64)) (.pair (.sl 16 .str) (.sl 16 (.pair (.int .i64) (.int .i64))))))))))))) xs, .row true 16 .str g.keys]⟩
 R := fun _ g => g.i ≤ g.keys.length ∧ g.keys.length ≤ 400
 μ := fun g => g.keys.length - g.i }
theorem J5 (xs) (g : G5) : (B5 xs).I g = ⟨[(3, .own 1), (6, .int .i64 g.n), (61, .int .i64 g.keys.length), (62, .int .i64 g.i)], [.row false 152 (.pair (.int .i64) (.pair (.int .u64) (.pair (.int .u64) (.pair .str (.pair .str (.pair (.int .i64) (.pair (.int .i64) (.pair (.int .i64) (.pair (.sl 8 (.int .i64)) (.pair (.sl 16 .str) (.sl 16 (.pair (.int .i64) (.int .i64))))))))))))) xs, .row true 16 .str g.keys]⟩ := rfl
def D5 (xs : List OpT.den) : LoopAnn := {
 G := G5
 I := fun g => ⟨[(3, .own 1), (6, .int .i64 g.n), (7, .int .i64 g.i), (8, .bool g.b), (61, .int .i64 g.keys.length), (62, .int .i64 g.i), (65, .int .i64 g.i), (66, .int .i64 g.k)], [.row false 152 (.pair (.int .i64) (.pair (.int .u64) (.pair (.int .u64) (.pair .str (.pair .str (.pair (.int .i64) (.pair (.int .i64) (.pair (.int .i64) (.pair (.sl 8 (.int .i64)) (.pair (.sl 16 .str) (.sl 16 (.pair (.int .i64) (.int .i64))))))))))))) xs, .row true 16 .str g.keys]⟩
 R := fun g0 g => g.k ≤ g.i ∧ g.i < g.keys.length ∧ g.i = g0.i ∧ g.keys = g0.keys ∧ g.n = g0.n
 μ := fun g => g.i - g.k }
theorem K5 (xs) (g : G5) : (D5 xs).I g = ⟨[(3, .own 1), (6, .int .i64 g.n), (7, .int .i64 g.i), (8, .bool g.b), (61, .int .i64 g.keys.length), (62, .int .i64 g.i), (65, .int .i64 g.i), (66, .int .i64 g.k)], [.row false 152 (.pair (.int .i64) (.pair (.int .u64) (.pair (.int .u64) (.pair .str (.pair .str (.pair (.int .i64) (.pair (.int .i64) (.pair (.int .i64) (.pair (.sl 8 (.int .i64)) (.pair (.sl 16 .str) (.sl 16 (.pair (.int .i64) (.int .i64))))))))))))) xs, .row true 16 .str g.keys]⟩ := rfl
def C5 : Contract := fun args hp K => ∃ xs : List OpT.den, args = [.own 0] ∧ hp = [.row false 152 (.pair (.int .i64) (.pair (.int .u64) (.pair (.int .u64) (.pair .str (.pair .str (.pair (.int .i64) (.pair (.int .i64) (.pair (.int .i64) (.pair (.sl 8 (.int .i64)) (.pair (.sl 16 .str) (.sl 16 (.pair (.int .i64) (.int .i64))))))))))))) xs] ∧ xs.length ≤ 1 ∧ (∀ o ∈ xs, (opNs o).length * 16 ≤ 140737488351232) ∧ ∀ b : Bool, K (.bool b) [.row false 152 (.pair (.int .i64) (.pair (.int .u64) (.pair (.int .u64) (.pair .str (.pair .str (.pair (.int .i64) (.pair (.int .i64) (.pair (.int .i64) (.pair (.sl 8 (.int .i64)) (.pair (.sl 16 .str) (.sl 16 (.pair (.int .i64) (.int .i64))))))))))))) xs]
theorem use20 {K : SV → List SB → Prop} {ns : List ByteArray} {cd : List EvI.den} (h : ∀ b : Bool, K (.bool b) []) : C20 [.agg [.sl true 16 .str ns, .sl true 16 (.pair (.int .i64) (.int .i64)) cd]] [] K := h
theorem s5 : Sound Tryz.prog 5 C5 := by
 refine sound_of_okF ok5 (.cons s20 (callable_of_okF ok20) .nil) ?_
 rintro args hp K ⟨xs, rfl, rfl, hx1, hx, h⟩
 refine ⟨by simp, [(1, A5 xs), (2, B5 xs), (3, D5 xs)], ?_⟩
 simp (maxSteps:=9^9) only [a5, r5, go_sem, eq_self, and_self, Int.natCast_pos, Int.le_refl, Nat.le_refl, Int.natCast_nonneg, Int.ofNat_lt, Int.ofNat_le, Int.reduceLT, Int.reduceLE, Int.reduceEq, Int.reduceNe, Int.reduceAdd, Int.reduceSub, Int.reduceMul, Int.reduceToNat, Int.reduceNeg, Nat.reduceEqDiff, Nat.reduceLeDiff, Nat.reduceSub, Nat.reduceMul, Nat.reduceLT, Nat.reduceBEq, Nat.reduceAdd, Nat.reduceDiv, Nat.reduceMod]
 rintro _ _ m rfl
 refine loop_intro (A := A5 xs) (⟨[], 0, 0, 0, false, 0⟩ : G5) ?_ ⟨Nat.zero_le _, by simp, fun _ => rfl⟩ ?_
 ·simp (maxSteps:=9^9) only [I5, go_sem, eq_self, and_self, Int.natCast_pos, Int.le_refl, Nat.le_refl, Int.natCast_nonneg, Int.ofNat_lt, Int.ofNat_le, Int.reduceLT, Int.reduceLE, Int.reduceEq, Int.reduceNe, Int.reduceAdd, Int.reduceSub, Int.reduceMul, Int.reduceToNat, Int.reduceNeg, Nat.reduceEqDiff, Nat.reduceLeDiff, Nat.reduceSub, Nat.reduceMul, Nat.reduceLT, Nat.reduceBEq, Nat.reduceAdd, Nat.reduceDiv, Nat.reduceMod]
  rfl
 rintro ⟨keys, i, n, j, b, k⟩ ⟨hi, hk, hk0⟩
 change i ≤ xs.length at hi
 change i = 0 → keys = [] at hk0
 change keys.length ≤ 400 at hk
 simp (maxSteps:=9^9) only [I5, go_sem, eq_self, and_self, Int.natCast_pos, Int.le_refl, Nat.le_refl, Int.natCast_nonneg, Int.ofNat_lt, Int.ofNat_le, Int.reduceLT, Int.reduceLE, Int.reduceEq, Int.reduceNe, Int.reduceAdd, Int.reduceSub, Int.reduceMul, Int.reduceToNat, Int.reduceNeg, Nat.reduceEqDiff, Nat.reduceLeDiff, Nat.reduceSub, Nat.reduceMul, Nat.reduceLT, Nat.reduceBEq, Nat.reduceAdd, Nat.reduceDiv, Nat.reduceMod]
 have hm := maxLen_val
 refine swd (fun hc => ?_) (fun hc => ?_)
 ·have hmem : elt OpT xs i ∈ xs := List.mem_of_getElem? (elt_get hc)
  have hn := hx _ hmem
  clear hmem
  generalize elt OpT xs i = o at hn ⊢
  refine nd_intro hc ⟨fun h1 => by omega, fun h1 => ⟨fun h2 h3 => ?_, fun h2 => ?_⟩⟩
  ·rw [List.length_append, List.length_singleton]
   have : (opNs o).length = o.2.2.2.2.2.2.2.2.2.1.length := rfl
   have h00 := hk0 (by omega)
   subst h00
   simp only [List.length_nil]
   omega
  generalize hks : keys ++ [o.2.2.2.1] ++ o.2.2.2.2.2.2.2.2.2.1 = ks
  refine swd (fun _ => h false) (fun n80 => ?_)
  rintro _ _ m1 rfl
  refine swd (fun _ => h false) (fun _ => ?_)
  rintro _ m2 rfl
  refine swd (fun _ => h false) (fun _ => ?_)
  rintro _ m3 rfl
  refine swd (fun _ => h false) (fun _ => ?_)
  refine use20 (fun bb => ?_)
  simp (maxSteps:=9^9) only [go_sem, eq_self, and_self, Int.natCast_pos, Int.le_refl, Nat.le_refl, Int.natCast_nonneg, Int.ofNat_lt, Int.ofNat_le, Int.reduceLT, Int.reduceLE, Int.reduceEq, Int.reduceNe, Int.reduceAdd, Int.reduceSub, Int.reduceMul, Int.reduceToNat, Int.reduceNeg, Nat.reduceEqDiff, Nat.reduceLeDiff, Nat.reduceSub, Nat.reduceMul, Nat.reduceLT, Nat.reduceBEq, Nat.reduceAdd, Nat.reduceDiv, Nat.reduceMod]
  clear hks h2 h1
  cases bb
  ·simp (maxSteps:=9^9) only [go_sem, eq_self, and_self, Int.natCast_pos, Int.le_refl, Nat.le_refl, Int.natCast_nonneg, Int.ofNat_lt, Int.ofNat_le, Int.reduceLT, Int.reduceLE, Int.reduceEq, Int.reduceNe, Int.reduceAdd, Int.reduceSub, Int.reduceMul, Int.reduceToNat, Int.reduceNeg, Nat.reduceEqDiff, Nat.reduceLeDiff, Nat.reduceSub, Nat.reduceMul, Nat.reduceLT, Nat.reduceBEq, Nat.reduceAdd, Nat.reduceDiv, Nat.reduceMod]
   exact h false
  simp (maxSteps:=9^9) only [go_sem, eq_self, and_self, Int.natCast_pos, Int.le_refl, Nat.le_refl, Int.natCast_nonneg, Int.ofNat_lt, Int.ofNat_le, Int.reduceLT, Int.reduceLE, Int.reduceEq, Int.reduceNe, Int.reduceAdd, Int.reduceSub, Int.reduceMul, Int.reduceToNat, Int.reduceNeg, Nat.reduceEqDiff, Nat.reduceLeDiff, Nat.reduceSub, Nat.reduceMul, Nat.reduceLT, Nat.reduceBEq, Nat.reduceAdd, Nat.reduceDiv, Nat.reduceMod]
  rintro _ _ m rfl
  refine swd (fun _ => h false) (fun hk4 => ?_)
  rintro _ _ m hm3
  rw [w64 (by omega)] at hm3
  subst hm3
  refine lpE_intro (A := A5 xs) (⟨ks, i + 1, 0, 0, false, 0⟩ : G5) ?_ ⟨hc, by show ks.length ≤ 400; omega, fun e => absurd (show i + 1 = 0 from e) (by omega)⟩ ?_
  ·simp (maxSteps:=9^9) only [I5, go_sem, eq_self, and_self, Int.natCast_pos, Int.le_refl, Nat.le_refl, Int.natCast_nonneg, Int.ofNat_lt, Int.ofNat_le, Int.reduceLT, Int.reduceLE, Int.reduceEq, Int.reduceNe, Int.reduceAdd, Int.reduceSub, Int.reduceMul, Int.reduceToNat, Int.reduceNeg, Nat.reduceEqDiff, Nat.reduceLeDiff, Nat.reduceSub, Nat.reduceMul, Nat.reduceLT, Nat.reduceBEq, Nat.reduceAdd, Nat.reduceDiv, Nat.reduceMod]
   rfl
  ·show xs.length - (i + 1) < xs.length - i
   omega
 ·clear hc hi hk0
  rintro _ _ m rfl
  refine loop_intro (A := B5 xs) (⟨keys, 0, 0, 0, false, 0⟩ : G5) ?_ ⟨Nat.zero_le _, hk⟩ ?_
  ·simp (maxSteps:=9^9) only [J5, go_sem, eq_self, and_self, Int.natCast_pos, Int.le_refl, Nat.le_refl, Int.natCast_nonneg, Int.ofNat_lt, Int.ofNat_le, Int.reduceLT, Int.reduceLE, Int.reduceEq, Int.reduceNe, Int.reduceAdd, Int.reduceSub, Int.reduceMul, Int.reduceToNat, Int.reduceNeg, Nat.reduceEqDiff, Nat.reduceLeDiff, Nat.reduceSub, Nat.reduceMul, Nat.reduceLT, Nat.reduceBEq, Nat.reduceAdd, Nat.reduceDiv, Nat.reduceMod]
   rfl
  clear hk
  clear i n j b k
  rintro ⟨ks, i, n, j, b, k⟩ ⟨hi, hk⟩
  change i ≤ ks.length at hi
  change ks.length ≤ 400 at hk
  simp (maxSteps:=9^9) only [J5, go_sem, eq_self, and_self, Int.natCast_pos, Int.le_refl, Nat.le_refl, Int.natCast_nonneg, Int.ofNat_lt, Int.ofNat_le, Int.reduceLT, Int.reduceLE, Int.reduceEq, Int.reduceNe, Int.reduceAdd, Int.reduceSub, Int.reduceMul, Int.reduceToNat, Int.reduceNeg, Nat.reduceEqDiff, Nat.reduceLeDiff, Nat.reduceSub, Nat.reduceMul, Nat.reduceLT, Nat.reduceBEq, Nat.reduceAdd, Nat.reduceDiv, Nat.reduceMod]
  refine swd (fun hc => ?_) (fun hc => ?_)
  ·refine loop_intro (A := D5 xs) (⟨ks, i, n, 0, true, 0⟩ : G5) ?_ ⟨Nat.zero_le _, (by show i < ks.length; omega), rfl, rfl, rfl⟩ ?_
   ·simp (maxSteps:=9^9) only [K5, go_sem, eq_self, and_self, Int.natCast_pos, Int.le_refl, Nat.le_refl, Int.natCast_nonneg, Int.ofNat_lt, Int.ofNat_le, Int.reduceLT, Int.reduceLE, Int.reduceEq, Int.reduceNe, Int.reduceAdd, Int.reduceSub, Int.reduceMul, Int.reduceToNat, Int.reduceNeg, Nat.reduceEqDiff, Nat.reduceLeDiff, Nat.reduceSub, Nat.reduceMul, Nat.reduceLT, Nat.reduceBEq, Nat.reduceAdd, Nat.reduceDiv, Nat.reduceMod]
    rfl
   rintro ⟨ks', i', n', j', b', k'⟩ ⟨h1, h2, h3, h4, h5⟩
   change k' ≤ i' at h1
   change i' < ks'.length at h2
   change i' = i at h3
   change ks' = ks at h4
   change n' = n at h5
   subst h3 h4 h5
   simp (maxSteps:=9^9) only [K5, go_sem, eq_self, and_self, Int.natCast_pos, Int.le_refl, Nat.le_refl, Int.natCast_nonneg, Int.ofNat_lt, Int.ofNat_le, Int.reduceLT, Int.reduceLE, Int.reduceEq, Int.reduceNe, Int.reduceAdd, Int.reduceSub, Int.reduceMul, Int.reduceToNat, Int.reduceNeg, Nat.reduceEqDiff, Nat.reduceLeDiff, Nat.reduceSub, Nat.reduceMul, Nat.reduceLT, Nat.reduceBEq, Nat.reduceAdd, Nat.reduceDiv, Nat.reduceMod]
   refine swd (fun hc3 => ?_) (fun hc3 => ?_)
   ·have next : ∀ c : Bool, lpE (D5 xs) 1 [3, 6, 7, 8, 61, 62, 65, 66] (⟨ks', i', n', 0, true, 0⟩ : G5) (⟨ks', i', n', j', b', k'⟩ : G5)
      ⟨[(3, .own 1), (6, .int .i64 n'), (7, .int .i64 i'), (8, .bool c), (61, .int .i64 ks'.length), (62, .int .i64 i'), (65, .int .i64 i'), (66, .int .i64 ((k' + 1 : Nat) : Int))], [.row false 152 OpT xs, .row true 16 .str ks']⟩ := fun c => by
     refine lpE_intro (A := D5 xs) (⟨ks', i', n', 0, c, k' + 1⟩ : G5) ?_ ⟨hc3, h2, rfl, rfl, rfl⟩ ?_
     ·simp (maxSteps:=9^9) only [K5, go_sem, eq_self, and_self, Int.natCast_pos, Int.le_refl, Nat.le_refl, Int.natCast_nonneg, Int.ofNat_lt, Int.ofNat_le, Int.reduceLT, Int.reduceLE, Int.reduceEq, Int.reduceNe, Int.reduceAdd, Int.reduceSub, Int.reduceMul, Int.reduceToNat, Int.reduceNeg, Nat.reduceEqDiff, Nat.reduceLeDiff, Nat.reduceSub, Nat.reduceMul, Nat.reduceLT, Nat.reduceBEq, Nat.reduceAdd, Nat.reduceDiv, Nat.reduceMod]
     ·show i' - (k' + 1) < i' - k'
      omega
    refine sw_intro (fun _ => nd_intro (by omega) (nd_intro h2 ?_)) (fun _ => ?_)
    ·rintro c - _ _ m hm3
     rw [w64 (by omega)] at hm3
     subst hm3
     exact next c
    ·rintro _ _ m hm3
     rw [w64 (by omega)] at hm3
     subst hm3
     exact next false
   ·have next : ∀ q : Int, lpE (B5 xs) 1 [3, 6, 61, 62] (⟨keys, 0, 0, 0, false, 0⟩ : G5) (⟨ks', i', n', j, b, k⟩ : G5)
      ⟨[(3, .own 1), (6, .int .i64 q), (61, .int .i64 ks'.length), (62, .int .i64 ((i' + 1 : Nat) : Int))], [.row false 152 OpT xs, .row true 16 .str ks']⟩ := fun q => by
     refine lpE_intro (A := B5 xs) (⟨ks', i' + 1, q, 0, false, 0⟩ : G5) ?_ ⟨h2, hk⟩ ?_
     ·simp (maxSteps:=9^9) only [J5, go_sem, eq_self, and_self, Int.natCast_pos, Int.le_refl, Nat.le_refl, Int.natCast_nonneg, Int.ofNat_lt, Int.ofNat_le, Int.reduceLT, Int.reduceLE, Int.reduceEq, Int.reduceNe, Int.reduceAdd, Int.reduceSub, Int.reduceMul, Int.reduceToNat, Int.reduceNeg, Nat.reduceEqDiff, Nat.reduceLeDiff, Nat.reduceSub, Nat.reduceMul, Nat.reduceLT, Nat.reduceBEq, Nat.reduceAdd, Nat.reduceDiv, Nat.reduceMod]
     ·show ks'.length - (i' + 1) < ks'.length - i'
      omega
    refine sw_intro (fun _ => ?_) (fun _ => ?_)
    ·rintro _ _ q - _ _ m hm3
     rw [w64 (by omega)] at hm3
     subst hm3
     exact next q
    ·rintro _ _ m hm3
     rw [w64 (by omega)] at hm3
     subst hm3
     exact next n'
  ·intro c _
   exact h c
end Go.V
