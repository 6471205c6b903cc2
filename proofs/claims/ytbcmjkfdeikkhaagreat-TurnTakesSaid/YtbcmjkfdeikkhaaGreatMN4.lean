/- A part of the proof layer, or functions of the given program in it: contracts and their proofs. -/
import Derived.Test.YtbcmjkfdeikkhaaGreatMN3
import Derived.Test.YtbcmjkfdeikkhaaGreatProg
import Derived.Test.YtbcmjkfdeikkhaaGreatMA43
namespace Go.V
set_option linter.unusedSimpArgs false
set_option linter.unnecessarySimpa false
open Go.Proofs
def a6 : AS := qS [q 0 (.mv qf)] [] (qS [q 6 (.call 18 [none] [(.c (.str ⟨#[97]⟩))]), q0 5 6, q 7 (.ext (.t 5) 0), q 8 (.ext (.t 5) 1), q0 1 7, q0 2 8] [1] (.seq (qS [q0 9 1, q 10 (.eqn false .p (.t 9) (.c (.nilp))), q0 11 10, q2 12 1 11, qF 13 (.nck (.t
 12)) 11, qF 14 (.fa 1 (.t 13)) 11, qF 15 (.ld (.t 14)) 11, qF 16 (.bldF [qE, .int .u64 0, .int .i64 0, .nils] [(2, 1, (qI 4))]) 11, qF 17 (.call 19 [none, none] [.t 15, .t 16]) 11, qF 18 (.bin .neq (.t 17) (qI 0)) 11, q 19 (.pick (.t 11) qt
 (.t 18))] [1,19] (.cond (.t 19) (qS [q 0 (.mv qf)] [0] .ret) .skip)) (qS [q 21 (.bldF [.int .i64 0, .int .i64 0] [(0, 1, (qI 5))]), q 22 (.bldF [.int .i64 0, .int .i64 0] [(0, 1, (qI 3))]), q 23 (.bsl 16 qP 2 [(0, (.t 21)), (1, (.t 22))]), q
 24 (.bldF [.nils, .nils] [(1, 1, (.t 23))]), q0 25 1, q 26 (.call 9 [none, none, none] [.t 24, .t 25, qI 0]), q0 20 26, q 27 (.ext (.t 20) 0), q 28 (.ext (.t 20) 1), q 3 (.alc [.bool false, .bool false, .int .i64 0, .int .i64 0, .nils]), q6
 5 3 27, q0 4 28] [1,3,4] (qS [q0 29 4, q 30 (.bin .eql (.t 29) (qI 0)), q0 31 30, qT 32 (.fa 0 (.t 3)) 31, qT 33 (.ld (.t 32)) 31, q 34 (.pick (.t 31) (.t 33) qf), q0 35 34, q1 36 1 35, qT 37 (.nck (.t 36)) 35, qT 38 (.fa 0 (.t 37)) 35, qT
 39 (.ld (.t 38)) 35, qT 40 (.call 20 [none] [.t 39]) 35, qT 41 (.ixA 8 (.t 40) (qI 0)) 35, qT 42 (.bin .eql (.t 41) (qI 4)) 35, q 43 (.pick (.t 35) (.t 42) qf), q0 44 43, q1 45 1 44, qT 46 (.nck (.t 45)) 44, qT 47 (.fa 1 (.t 46)) 44, qT 48
 (.ld (.t 47)) 44, qT 49 (.call 11 [none] [.t 48]) 44, qT 50 (.bin .eql (.t 49) (qI 0)) 44, q 51 (.pick (.t 44) (.t 50) qf), q0 0 51] [0] .ret))))
def r6 : List RT := [.t 0]
def a21 : AS := qS [q 1 (.box (.t 0)), q 2 (.mv qf)] [1] (.seq (qS [q3 4 0 1, q4 5 4, q 6 (.len .s (.t 5)), q 7 (.mv (qI 0))] [1,6,7] (.block 0 (.loop 1 [1,6,7] (qS [q 8 (.bin .lss (.t 7) (.t 6))] [1,6,7,8] (.seq (.cond (.t 8) .skip (.exit 0)) (.seq (.block
 1 (qS [q0 9 7, q0 3 9] [1,3,6,7] (qS [q3 10 0 1, q4 11 10, q0 12 3, q 13 (.ia 1 (.t 11) (.t 12)), q4 14 13, q 15 (.len .i (.t 14)), q 16 (.bin .gtr (.t 15) (qI 1000)), q0 17 16, q2 18 3 17, qF 19 (.bin .gtr (.t 18) (qI 50)) 17, q 20 (.pick
 (.t 17) qt (.t 19))] [1,6,7,20] (.cond (.t 20) (qS [q 2 (.mv qf)] [2] .ret) .skip)))) (.reg [q 21 (.bin .add (.t 7) (qI 1)), q0 7 21] [1,6,7]))))))) (qS [q3 22 1 1, q4 23 22, q 24 (.len .s (.t 23)), q 25 (.bin .leq (.t 24) (qI 1000)), q0 2
 25] [2] .ret))
def r21 : List RT := [.t 2]
def a9 : AS := qS [q 3 (.box (.t 0)), q 6 (.alc [.bool false, .bool false, .int .i64 0, .int .i64 0, .nils]), q 7 (.mv (qI 0))] [1,2,3,6] (.seq (qS [q0 20 1, q 21 (.eqn false .p (.t 20) (.c (.nilp)))] [1,2,3,6,21] (.cond (.t 21) (qS [q 22 (.bld [.bool
 false, .bool false, .int .i64 0, .int .i64 0, .nils] []), q6 5 6 22, q 7 (.mv (qI 1))] [6,7] .ret) .skip)) (.seq (qS [q0 24 1, qX 16 25 [.t 24], q0 23 25, q 26 (.ext (.t 23) 0), q 27 (.ext (.t 23) 1), q0 8 26, q0 9 27] [1,2,3,6,9] (qS [q0 28
 9, q 29 (.bin .neq (.t 28) (qI 0)), q0 30 29, qF 31 (.ldA 2 (.t 3)) 30, qF 32 (.call 29 [none] [.t 31]) 30, qF 33 (.not (.t 32)) 30, q 34 (.pick (.t 30) qt (.t 33)), q0 35 34, q2 36 2 35, qF 37 (.bin .lss (.t 36) (qI 0)) 35, q 38 (.pick (.t
 35) qt (.t 37))] [1,2,3,6,38] (.cond (.t 38) (qS [q 39 (.bld [.bool false, .bool false, .int .i64 0, .int .i64 0, .nils] []), q6 5 6 39, q 7 (.mv (qI 1))] [6,7] .ret) .skip))) (qS [q0 41 1, q5 42 41, q3 43 1 42, q4 44 43, qX 30 45 [.t 44],
 q0 40 45, q 46 (.ext (.t 40) 0), q 47 (.ext (.t 40) 1), q 10 (.alc [qE, .int .u64 0, .int .i64 0, .nils]), q6 4 10 46, q0 11 47] [1,2,3,6,10,11] (.seq (qS [q0 48 11, q 49 (.not (.t 48))] [1,2,3,6,10,49] (.cond (.t 49) (qS [q 50 (.bld [.bool
 false, .bool false, .int .i64 0, .int .i64 0, .nils] []), q6 5 6 50, q 7 (.mv (qI 5))] [6,7] .ret) .skip)) (.seq (.frz 10 (.regT [q 52 (.ldA 2 (.t 3)), q0 53 1, q5 54 53, q3 55 0 54, q4 56 55, qX 20 57 [.t 56], q 58 (.ldA 4 (.t 10)), q0 59
 2, q 60 (.call 31 [none, none, none, none] [.t 52, .t 57, .t 58, .t 59]), q0 51 60, q 61 (.ext (.t 51) 0), q 62 (.ext (.t 51) 1), q 12 (.alc [.arr 8 (.int .i64) (List.replicate 8 (Ty.dflt (.int .i64))), .nils, .nils, .nils, .int .i64 0]), q6
 12 12 61, q0 13 62] (.q 0 (.q 1 (.q 2 (.q 3 (.q 4 (.q 6 (.q 7 (.e 5 [0,6,7] (.e 8 [] (.q 9 (.q 10 (.q 11 (.e 12 [0,1,2,3,4,6,7,9,10,11] (.e 13 [11] (.q 14 .done) .no) .no)))) (.e 12 [0,1,2,3,4,6,7] (.e 8 [] (.q 9 (.q 10 (.q 11 (.e 13 [11]
 (.q 14 .done) .no)))) .no) .no)) (.e 12 [0,1,2,3,4,6,7] (.e 5 [0,6,7] (.e 8 [] (.q 9 (.q 10 (.q 11 (.e 13 [11] (.q 14 .done) .no)))) .no) .no) .no))))))))) [1,6,12,13])) (.seq (qS [q0 63 13, q 64 (.bin .neq (.t 63) (qI 0))] [1,6,12,13,64]
 (.cond (.t 64) (qS [q0 65 1, q0 66 13, q3 67 11 12, q4 68 67, q 69 (.bld [.bool false, .bool false, .int .i64 0, .int .i64 0, .nils] [(2, 1, (.t 66)), (3, 1, (.t 68))]), q 70 (.call 32 [none, none] [.t 65, .t 69]), q 71 (.ext (.t 70) 0), q
 72 (.ext (.t 70) 1), q6 5 6 71, q0 7 72] [6,7] .ret) .skip)) (qS [q0 74 1, q5 75 74, q3 76 2 75, q4 77 76, qX 34 78 [.t 77], q 79 (.call 33 [(some (1, .byte))] [.t 78]), q0 73 79, q 80 (.ext (.t 73) 0), q 81 (.ext (.t 73) 1), q0 14 80, q0 15
 81] [1,6,12,14] (.seq (qS [q3 82 9 12, q4 83 82, q 84 (.len .s (.t 83)), q 85 (.mv (qI 0))] [1,6,12,14,83,84,85] (.block 0 (.lift 1 (some 4) 56 qD (.lift 14 (some 1) 72 (.pair .str qD) (.loop 1 [1,6,12,14,83,84,85] (qS [q 86 (.bin .lss (.t
 85) (.t 84))] [1,6,12,14,83,84,85,86] (.seq (.cond (.t 86) .skip (.exit 0)) (.seq (.block 1 (qS [q 87 (.ia 3 (.t 83) (.t 85)), q 88 (.ldA 3 (.t 87)), q 17 (.alc [qE, .int .i64 0, .int .i64 0]), q6 3 17 88] [1,6,12,14,17,83,84,85] (qS [q0 90
 14, q3 91 0 17, q4 92 91, q3 93 1 17, q4 94 93, q3 95 2 17, q4 96 95, q 97 (.bsl 8 (.int .i64) 1 [(0, (.t 96))]), q 98 (.call 24 [none, none, none, (some (8, (.int .i64)))] [.t 90, .t 92, .t 94, .t 97]), q0 89 98, q 99 (.ext (.t 89) 0), q
 100 (.ext (.t 89) 1), q0 18 99, q0 19 100] [1,6,12,14,19,83,84,85] (qS [q0 101 19, q 102 (.bin .neq (.t 101) (qI 0))] [1,6,12,14,83,84,85,102] (.cond (.t 102) (qS [q 103 (.bld [.bool false, .bool false, .int .i64 0, .int .i64 0, .nils] []),
 q6 5 6 103, q 7 (.mv (qI 8))] [6,7] .ret) .skip))))) (.reg [q 104 (.bin .add (.t 85) (qI 1)), q0 85 104] [1,6,12,14,83,84,85]))))))))) (qS [q0 105 1, q5 106 105, q3 107 1 106, q4 108 107, qX 35 109 [.t 108]] [1,6,12,14] (qS [q0 110 1, q0 111
 1, q0 112 14, q5 113 110, q3 114 2 113, q6 1 114 112, q5 115 111, q3 116 3 115, ⟨none, .st 1 (.t 116) (qI 0), none⟩] [1,6,12] (.seq (.regD [q0 117 1, q5 118 117, q3 119 0 118, q4 120 119, q3 121 8 12, q4 122 121, q 123 (.call 26 [none, (some
 (16, qP))] [.t 120, .t 122])] [.q 0, .q 1, .q 2, .q 3, .q 4, .q 5, .e 6 []] [6,12]) (qS [q3 124 11 12, q4 125 124, q3 126 10 12, q4 127 126, q 128 (.bld [.bool false, .bool false, .int .i64 0, .int .i64 0, .nils] [(0, 1, qt), (3, 1, (.t
 125)), (4, 1, (.t 127))]), q6 5 6 128, q 7 (.mv (qI 0))] [6,7] .ret))))))))))))
def r9 : List RT := [.c 6 (some 5), .t 7]
def a10 : AS := qS [q 1 (.box (.t 0)), q 2 (.alc [.nils, .nils])] [1,2] (qS [q 5 (.bsl 16 .str 0 []), q3 6 0 1, q4 7 6, q 8 (.app 16 .str (.t 5) (.t 7)), q 9 (.bld [.nils, .nils] [(0, 1, (.t 8))]), q 3 (.alc [.nils, .nils]), q6 2 3 9] [1,2,3] (.seq (qS [q3
 10 1 1, q4 11 10, q 12 (.len .s (.t 11)), q 13 (.mv (qI 0))] [1,2,3,12,13] (.block 0 (.lift 2 (some 0) 16 .str (.lift 2 (some 1) 16 qP (.lift 3 (some 0) 16 .str (.lift 3 (some 1) 16 qP (.loop 1 [1,2,3,12,13] (qS [q 14 (.bin .lss (.t 13) (.t
 12))] [1,2,3,12,13,14] (.seq (.cond (.t 14) .skip (.exit 0)) (.seq (.block 1 (qS [q0 15 13, q0 4 15] [1,2,3,4,12,13] (.regD [q3 16 1 3, q4 17 16, q3 18 1 1, q4 19 18, q0 20 4, q 21 (.ia 2 (.t 19) (.t 20)), q 22 (.ldA 2 (.t 21)), q 23 (.bsl
 16 qP 1 [(0, (.t 22))]), q 24 (.app 16 qP (.t 17) (.t 23)), q3 25 1 3, q6 1 25 24] [.q 0, .q 1, .q 2, .q 3, .q 4, .q 5, .q 6, .e 7 [0,1], .e 8 [], .q 9, .e 10 []] [1,2,3,12,13]))) (.reg [q 26 (.bin .add (.t 13) (qI 1)), q0 13 26]
 [1,2,3,12,13]))))))))))) (qS [q 27 (.ldA 2 (.t 3)), q6 2 2 27] [2] (.lift 2 (some 0) 16 .str (.lift 2 (some 1) 16 qP .ret)))))
def r10 : List RT := [.c 2 (some 2), .f 2]
def a37 : AS := qS [q 1 (.box (.t 0)), q 2 (.mv qf)] [1] (.seq (qS [q3 8 0 1, q4 9 8, q 10 (.len .s (.t 9)), q 11 (.bin .gtr (.t 10) (qI 8)), q0 12 11, qF 13 (.fa 1 (.t 1)) 12, qF 14 (.ld (.t 13)) 12, qF 15 (.len .s (.t 14)) 12, qF 16 (.bin .gtr (.t 15) (qI
 200)) 12, q 17 (.pick (.t 12) qt (.t 16))] [1,17] (.cond (.t 17) (qS [q 2 (.mv qf)] [2] .ret) .skip)) (.seq (qS [q3 18 0 1, q4 19 18, q 20 (.len .s (.t 19)), q 21 (.mv (qI 0))] [1,20,21] (.block 0 (.loop 1 [1,20,21] (qS [q 22 (.bin .lss (.t
 21) (.t 20))] [1,20,21,22] (.seq (.cond (.t 22) .skip (.exit 0)) (.seq (.block 1 (qS [q0 23 21, q0 3 23] [1,3,20,21] (qS [q3 24 0 1, q4 25 24, q0 26 3, q 27 (.ia 1 (.t 25) (.t 26)), q4 28 27, qX 82 29 [.t 28], q 30 (.not (.t 29))]
 [1,20,21,30] (.cond (.t 30) (qS [q 2 (.mv qf)] [2] .ret) .skip)))) (.reg [q 31 (.bin .add (.t 21) (qI 1)), q0 21 31] [1,20,21]))))))) (.seq (qS [q3 32 1 1, q4 33 32, q 34 (.len .s (.t 33)), q 35 (.mv (qI 0))] [1,34,35] (.block 2 (.loop 2
 [1,34,35] (qS [q 36 (.bin .lss (.t 35) (.t 34))] [1,34,35,36] (.seq (.cond (.t 36) .skip (.exit 2)) (.seq (.block 3 (qS [q0 37 35, q0 4 37] [1,4,34,35] (qS [q3 39 1 1, q4 40 39, q0 41 4, q 42 (.ia 2 (.t 40) (.t 41)), q3 43 0 42, q4 44 43, qX
 98 45 [.t 44], q0 38 45, q 46 (.ext (.t 38) 0), q 47 (.ext (.t 38) 1), q0 5 46, q0 6 47] [1,4,5,6,34,35] (qS [q3 48 1 1, q4 49 48, q 50 (.len .s (.t 49)), q3 51 0 1, q4 52 51, q 53 (.len .s (.t 52)), q 54 (.bin .sub (.t 53) (qI 1)), q 55
 (.bsl 8 (.int .i64) 6 [(0, (qI 0)), (1, (qI 9223372036854775807)), (2, (qI 7)), (3, (qI 3)), (4, (.t 50)), (5, (.t 54))]), q0 56 6, q 57 (.ia 1 (.t 55) (.t 56)), q4 58 57, q0 7 58] [1,4,5,6,7,34,35] (qS [q0 59 5, q 60 (.bin .eql (.t 59) (.c
 (qE))), q0 61 60, q2 62 6 61, qF 63 (.bin .neq (.t 62) (qI 1)) 61, q2 64 63 61, qT 65 (.fa 1 (.t 1)) 64, qT 66 (.ld (.t 65)) 64, q1 67 4 64, qT 68 (.ia 2 (.t 66) (.t 67)) 64, qT 69 (.fa 1 (.t 68)) 64, qT 70 (.ld (.t 69)) 64, qT 71 (.bin .lss
 (.t 70) (qI 0)) 64, q1 72 71 64, qF 73 (.fa 1 (.t 1)) 72, qF 74 (.ld (.t 73)) 72, q2 75 4 72, qF 76 (.ia 2 (.t 74) (.t 75)) 72, qF 77 (.fa 1 (.t 76)) 72, qF 78 (.ld (.t 77)) 72, q2 79 7 72, qF 80 (.bin .gtr (.t 78) (.t 79)) 72, qT 81 (.pick
 (.t 72) qt (.t 80)) 64, qF 82 (.pick (.t 64) (.t 81) qf) 61, q 83 (.pick (.t 61) qt (.t 82))] [1,34,35,83] (.cond (.t 83) (qS [q 2 (.mv qf)] [2] .ret) .skip)))))) (.reg [q 84 (.bin .add (.t 35) (qI 1)), q0 35 84] [1,34,35]))))))) (qS [q 2
 (.mv qt)] [2] .ret))))
def r37 : List RT := [.t 2]
def a20 : AS := qS [q 2 (.alc [.arr 8 (.int .i64) (List.replicate 8 (Ty.dflt (.int .i64)))])] [0,2] (.seq (qS [q0 6 0, q 7 (.eqn false .p (.t 6) (.c (.nilp)))] [0,2,7] (.cond (.t 7) (qS [q 8 (.bldA [.int .i64 0, .int .i64 0, .int .i64 0, .int .i64 0, .int
 .i64 0, .int .i64 0, .int .i64 0, .int .i64 0] 8 (.int .i64) []), q6 8 2 8] [2] .ret) .skip)) (qS [q0 9 0, q5 10 9, q3 11 0 10, q 12 (.ldA 8 (.t 11)), q 3 (.alc [.arr 8 (.int .i64) (List.replicate 8 (Ty.dflt (.int .i64)))]), q6 8 3 12]
 [0,2,3] (.seq (qS [q0 13 0, q5 14 13, q3 15 8 14, q4 16 15, q 17 (.len .s (.t 16)), q 18 (.mv (qI 0))] [2,3,16,17,18] (.block 0 (.loop 1 [2,3,16,17,18] (qS [q 19 (.bin .lss (.t 18) (.t 17))] [2,3,16,17,18,19] (.seq (.cond (.t 19) .skip
 (.exit 0)) (.seq (.block 1 (qS [q 20 (.ia 2 (.t 16) (.t 18)), q 21 (.ldA 2 (.t 20)), q 5 (.alc [.int .i64 0, .int .i64 0]), q6 2 5 21] [2,3,5,16,17,18] (.reg [q3 22 0 5, q4 23 22, q3 24 1 5, q4 25 24, q 26 (.iaA 8 1 (.t 3) (.t 23)), q6 1 26
 25] [2,3,16,17,18]))) (.reg [q 27 (.bin .add (.t 18) (qI 1)), q0 18 27] [2,3,16,17,18]))))))) (qS [q 28 (.ldA 8 (.t 3)), q6 8 2 28] [2] .ret))))
def r20 : List RT := [.c 2 (some 8)]
def a29 : AS := qS [q 1 (.box (.t 0)), q 2 (.mv qf)] [1] (.seq (qS [q3 10 0 1, q4 11 10, q 12 (.len .s (.t 11)), q 13 (.bin .gtr (.t 12) (qI 8)), q0 14 13, qF 15 (.fa 1 (.t 1)) 14, qF 16 (.ld (.t 15)) 14, qF 17 (.len .s (.t 16)) 14, qF 18 (.bin .gtr (.t 17)
 (qI 200)) 14, q 19 (.pick (.t 14) qt (.t 18))] [1,19] (.cond (.t 19) (qS [q 2 (.mv qf)] [2] .ret) .skip)) (.seq (qS [q3 20 0 1, q4 21 20, q 22 (.len .s (.t 21)), q 23 (.mv (qI 0))] [1,21,22,23] (.block 0 (.loop 1 [1,21,22,23] (qS [q 24 (.bin
 .lss (.t 23) (.t 22))] [1,21,22,23,24] (.seq (.cond (.t 24) .skip (.exit 0)) (.seq (.block 1 (qS [q 25 (.ia 1 (.t 21) (.t 23)), q4 26 25, q0 4 26] [1,4,21,22,23] (qS [q0 27 4, qX 80 28 [.t 27], q 29 (.not (.t 28))] [1,21,22,23,29] (.cond (.t
 29) (qS [q 2 (.mv qf)] [2] .ret) .skip)))) (.reg [q 30 (.bin .add (.t 23) (qI 1)), q0 23 30] [1,21,22,23]))))))) (.seq (qS [q3 31 1 1, q4 32 31, q 33 (.len .s (.t 32)), q 34 (.mv (qI 0))] [1,32,33,34] (.block 2 (.loop 2 [1,32,33,34] (qS [q
 35 (.bin .lss (.t 34) (.t 33))] [1,32,33,34,35] (.seq (.cond (.t 35) .skip (.exit 2)) (.seq (.block 3 (qS [q 36 (.ia 2 (.t 32) (.t 34)), q 37 (.ldA 2 (.t 36)), q 6 (.alc [.int .i64 0, .int .i64 0]), q6 2 6 37] [1,6,32,33,34] (qS [q3 39 0 6,
 q4 40 39, qX 89 41 [.t 40], q0 38 41, q 42 (.ext (.t 38) 0), q 43 (.ext (.t 38) 1), q 44 (.ext (.t 38) 2), q0 7 42, q0 8 43, q0 9 44] [1,6,8,9,32,33,34] (.seq (.regD [q0 45 9, q 46 (.not (.t 45)), q0 47 46, q2 48 8 47, qF 49 (.bin .neq (.t
 48) (qI 1)) 47, q2 50 49 47, qT 51 (.fa 1 (.t 6)) 50, qT 52 (.ld (.t 51)) 50, qT 53 (.bin .lss (.t 52) (qI 0)) 50, q1 54 53 50, qF 55 (.fa 1 (.t 6)) 54, qF 56 (.ld (.t 55)) 54, qF 57 (.ldA 2 (.t 1)) 54, q2 58 8 54, qF 59 (.call 90 [none,
 none] [.t 57, .t 58]) 54, qF 60 (.bin .geq (.t 56) (.t 59)) 54, qT 61 (.pick (.t 54) qt (.t 60)) 50, qF 62 (.pick (.t 50) (.t 61) qf) 47, q 63 (.pick (.t 47) qt (.t 62))] [.q 0, .q 1, .q 2, .q 3, .q 4, .q 5, .q 6, .q 7, .q 8, .q 9, .q 10, .q
 11, .q 12, .q 13, .e 14 [10,11], .q 15, .q 16, .q 17, .q 18] [1,32,33,34,63]) (.cond (.t 63) (qS [q 2 (.mv qf)] [2] .ret) .skip))))) (.reg [q 64 (.bin .add (.t 34) (qI 1)), q0 34 64] [1,32,33,34]))))))) (qS [q 2 (.mv qt)] [2] .ret))))
def r29 : List RT := [.t 2]
def a30 : AS := qS [q 2 (.alc [qE, .int .u64 0, .int .i64 0, .nils]), q 3 (.mv qf)] [0,2] (.seq (qS [q0 4 0, qX 11 5 [.t 4], q 6 (.bin .eql (.t 5) (qI 0))] [0,2,6] (.cond (.t 6) (qS [q 7 (.bld [qE, .int .u64 0, .int .i64 0, .nils] []), q6 4 2 7, q 3 (.mv
 qf)] [2,3] .ret) .skip)) (qS [q0 8 0, q5 9 8, q3 10 0 9, q4 11 10, q 12 (.ia 4 (.t 11) (qI 0)), q 13 (.ldA 4 (.t 12)), qX 75 14 [.t 13], q6 4 2 14, q 3 (.mv qt)] [2,3] .ret))
def r30 : List RT := [.c 2 (some 4), .t 3]
def a31 : AS := qS [q 4 (.box (.t 0)), q 5 (.box (.t 1)), q 6 (.box (.t 2)), q 8 (.alc [.arr 8 (.int .i64) (List.replicate 8 (Ty.dflt (.int .i64))), .nils, .nils, .nils, .int .i64 0]), q 9 (.mv (qI 0))] [3,4,5,6,8] (.seq (qS [q 12 (.ldA 2 (.t 4)), qX 29 13
 [.t 12], q 14 (.not (.t 13)), q0 15 14, qF 16 (.ldA 4 (.t 6)) 15, qF 17 (.call 74 [none] [.t 16]) 15, qF 18 (.not (.t 17)) 15, q 19 (.pick (.t 15) qt (.t 18)), q0 20 19, q2 21 3 20, qF 22 (.bin .lss (.t 21) (qI 0)) 20, q 23 (.pick (.t 20) qt
 (.t 22))] [3,4,5,6,8,23] (.cond (.t 23) (qS [q 24 (.bld [.arr 8 (.int .i64) (List.replicate 8 (Ty.dflt (.int .i64))), .nils, .nils, .nils, .int .i64 0] []), q6 12 8 24, q 9 (.mv (qI 1))] [8,9] .ret) .skip)) (qS [q 25 (.ldA 2 (.t 4)), q 26
 (.ldA 4 (.t 6)), q0 27 3, q 28 (.bld [.nils, .nils, qE, .int .u64 0, .int .i64 0, .nils, .int .i64 0, .int .i64 0, .nils, .arr 8 (.int .i64) (List.replicate 8 (Ty.dflt (.int .i64))), .nils, .nils, .nils, .int .i64 0, .int .i64 0, .bool
 false] [(0, 2, (.t 25)), (2, 4, (.t 26)), (6, 1, (.t 27))]), q 29 (.box (.t 28)), q0 10 29] [4,5,8,10] (.lift 10 (some 0) 16 .str (.lift 10 (some 1) 16 qP (.lift 10 (some 5) 8 (.int .i64) (.frz 10 (qS [q0 30 10, q 31 (.ldA 8 (.t 5)), q5 32
 30, q3 33 9 32, q3 34 0 33, q6 8 34 31] [4,8,10] (.seq (.block 0 (.lift 10 (some 0) 16 .str (.lift 10 (some 1) 16 qP (.lift 10 (some 5) 8 (.int .i64) (.lift 10 (some 8) 8 (.int .i64) (.lift 10 (some 17) 16 qP (.lift 10 (some 18) 32 (.pair
 .str qP) (.lift 10 (some 19) 48 (.pair .str (.pair .bool (.pair (.int .i64) qP))) (.loop 1 [4,8,10] (.seq (.seq (.regD [q0 35 10, q5 36 35, q3 37 22 36, q4 38 37, q 39 (.not (.t 38)), q0 40 39, q1 41 10 40, qT 42 (.nck (.t 41)) 40, qT 43
 (.fa 7 (.t 42)) 40, qT 44 (.ld (.t 43)) 40, qT 45 (.fa 1 (.t 4)) 40, qT 46 (.ld (.t 45)) 40, qT 47 (.len .s (.t 46)) 40, qT 48 (.bin .lss (.t 44) (.t 47)) 40, q 49 (.pick (.t 40) (.t 48) qf)] [.q 0, .q 1, .q 2, .q 3, .q 4, .q 5, .q 6, .q 7,
 .q 8, .q 9, .q 10, .q 11, .q 12, .q 13, .q 14] [4,8,10,49]) (.cond (.t 49) .skip (.exit 0))) (.block 1 (.seq (qS [q0 50 10, q5 51 50, q3 52 9 51, q3 53 11 52, q4 54 53, q 55 (.bin .eql (.t 54) (qI 500))] [4,8,10,55] (.cond (.t 55) (qS [q 56
 (.bld [.arr 8 (.int .i64) (List.replicate 8 (Ty.dflt (.int .i64))), .nils, .nils, .nils, .int .i64 0] [(11, 1, (qI 500))]), q6 12 8 56, q 9 (.mv (qI 11))] [8,9] .ret) .skip)) (qS [q0 57 10, q5 58 57, q3 59 9 58, q3 60 11 59, q4 61 60, q 62
 (.bin .add (.t 61) (qI 1)), q5 63 57, q3 64 9 63, q3 65 11 64, q6 1 65 62] [4,8,10] (.seq (.regD [q3 66 1 4, q4 67 66, q0 68 10, q5 69 68, q3 70 7 69, q4 71 70, q 72 (.ia 2 (.t 67) (.t 71)), q 73 (.ldA 2 (.t 72)), q 11 (.alc [.int .i64 0,
 .int .i64 0]), q6 2 11 73] [.q 0, .q 1, .q 2, .q 3, .q 4, .q 5, .q 6, .q 7, .e 8 [0,1,2,3,4,5,6,7], .e 9 []] [4,8,10,11]) (qS [q0 74 10, q5 75 74, q3 76 7 75, q4 77 76, q 78 (.bin .add (.t 77) (qI 1)), q5 79 74, q3 80 7 79, q6 1 80 78]
 [4,8,10,11] (qS [q0 81 10, q 82 (.ldA 2 (.t 11)), q 83 (.call 91 [none, none] [.t 81, .t 82])] [4,8,10] (qS [q0 84 10, q5 85 84, q3 86 21 85, q4 87 86, q 88 (.bin .neq (.t 87) (qI 0))] [4,8,10,88] (.cond (.t 88) (.seq (.regD [q0 89 10, q5 90
 89, q3 91 9 90, q3 92 11 91, q4 93 92, q 94 (.bld [.arr 8 (.int .i64) (List.replicate 8 (Ty.dflt (.int .i64))), .nils, .nils, .nils, .int .i64 0] [(11, 1, (.t 93))]), q0 95 10, q5 96 95, q3 97 21 96, q4 98 97, q6 12 8 94, q0 9 98] [.q 0, .q
 1, .q 2, .q 3, .q 4, .q 5, .q 6, .q 7, .q 8, .q 9, .e 10 [6,7,8,9], .q 11] [8,9]) .ret) .skip)))))))))))))))))) (qS [q0 99 10, q5 100 99, q3 101 9 100, q 102 (.ldA 12 (.t 101)), q6 12 8 102, q 9 (.mv (qI 0))] [8,9] .ret)))))))))
def r31 : List RT := [.c 8 (some 12), .t 9, .f 8]
def a32 : AS := qS [q 3 (.box (.t 1)), q 4 (.alc [.bool false, .bool false, .int .i64 0, .int .i64 0, .nils]), q 5 (.mv (qI 0))] [0,3,4] (.seq (qS [q0 8 0, q5 9 8, q3 10 3 9, q4 11 10, q 12 (.bin .add (.t 11) (qI 1)), q 13 (.bin .lss (.t 12) (qI 3))]
 [0,3,4,13] (.cond (.t 13) (qS [q0 14 0, q5 15 14, q3 16 3 15, q4 17 16, q 18 (.bin .add (.t 17) (qI 1)), q5 19 14, q3 20 3 19, q6 1 20 18] [0,3,4] (qS [q 21 (.ldA 5 (.t 3)), q6 5 4 21, q 5 (.mv (qI 0))] [0,4,5] (.lift 0 (some 4) 56 qD
 .ret))) .skip)) (.seq (qS [q0 22 0, q5 23 22, q3 24 4 23, q4 25 24, q 26 (.len .s (.t 25)), q 27 (.bin .geq (.t 26) (qI 8))] [0,3,4,27] (.cond (.t 27) (qS [q 28 (.bld [.bool false, .bool false, .int .i64 0, .int .i64 0, .nils] []), q6 5 4
 28, q 5 (.mv (qI 8))] [0,4,5] (.lift 0 (some 4) 56 qD .ret)) .skip)) (qS [q0 30 0, q5 31 30, q3 32 1 31, q4 33 32, qX 35 34 [.t 33], q0 29 34, q 35 (.ext (.t 29) 0), q 36 (.ext (.t 29) 1), q 6 (.alc [qE, .int .u64 0, .int .i64 0, .nils]), q6
 4 6 35, q0 7 36] [0,3,4,6] (.seq (.regT [q0 37 0, q0 38 0, q0 39 0, q5 40 39, q3 41 4 40, q4 42 41, q 43 (.call 92 [(some (56, qD))] [.t 42]), q 44 (.ldA 4 (.t 6)), q 45 (.bsl 56 qD 1 [(0, (.t 44))]), q 46 (.app 56 qD (.t 43) (.t 45)), q5 47
 37, q3 48 4 47, q6 1 48 46, q5 49 38, q3 50 3 49, ⟨none, .st 1 (.t 50) (qI 0), none⟩] (.q 0 (.q 1 (.q 2 (.q 3 (.q 4 (.q 5 (.q 7 (.e 6 [0,1,7] (.e 8 [0,1,2,3,4,5] (.e 9 [0,1] (.q 10 (.q 11 (.e 12 [1] (.q 13 (.q 14 (.e 15 [] .done .no)))
 .no))) .no) .no) (.e 8 [0,1,2,3,4,5] (.e 6 [0,1,7] (.e 9 [0,1] (.q 10 (.q 11 (.e 12 [1] (.q 13 (.q 14 (.e 15 [] .done .no))) .no))) .no) .no) .no))))))))) [0,3,4]) (qS [q3 51 1 3, ⟨none, .st 1 (.t 51) qt, none⟩] [0,3,4] (qS [q 52 (.ldA 5 (.t
 3)), q6 5 4 52, q 5 (.mv (qI 0))] [0,4,5] (.lift 0 (some 4) 56 qD .ret)))))))
def r32 : List RT := [.c 4 (some 5), .t 5, .f 0]
def a35 : AS := qS [q 2 (.alc [qE, .int .u64 0, .int .i64 0, .nils]), q 3 (.mv qf)] [0,2] (qS [q0 7 0, qX 30 8 [.t 7], q0 6 8, q 9 (.ext (.t 6) 0), q 10 (.ext (.t 6) 1), q 4 (.alc [qE, .int .u64 0, .int .i64 0, .nils]), q6 4 4 9, q0 5 10] [0,2,4,5] (.seq
 (qS [q0 11 5] [0,2,4,5,11] (.cond (.t 11) (.reg [q0 12 0, q0 13 0, q5 14 13, q3 15 0 14, q4 16 15, q 17 (.slR 4 (.t 16) (some (qI 1)) none), q5 18 12, q3 19 0 18, q6 1 19 17] [2,4,5]) .skip)) (qS [q 20 (.ldA 4 (.t 4)), q0 21 5, q6 4 2 20, q0
 3 21] [2,3] .ret)))
def r35 : List RT := [.c 2 (some 4), .t 3]
def a98 : AS := qS [q 2 (.mv (.c (qE))), q 3 (.mv (qI 0))] [0] (.seq (qS [q0 4 0] [4] (.block 0 (qS [q 6 (.bin .eql (.t 4) (qI 0)), q0 5 6] [4,5] (.cond (.t 5) (qS [q 2 (.mv (.c (.str ⟨#[104,97,108,116]⟩))), q 3 (.mv (qI 0))] [2,3] .ret) (qS [q 8 (.bin .eql
 (.t 4) (qI 1)), q0 7 8] [4,7] (.cond (.t 7) (qS [q 2 (.mv (.c (.str ⟨#[112,117,115,104]⟩))), q 3 (.mv (qI 1))] [2,3] .ret) (qS [q 10 (.bin .eql (.t 4) (qI 2)), q0 9 10] [4,9] (.cond (.t 9) (qS [q 2 (.mv (.c (.str ⟨#[108,111,97,100]⟩))), q 3
 (.mv (qI 2))] [2,3] .ret) (qS [q 12 (.bin .eql (.t 4) (qI 3)), q0 11 12] [4,11] (.cond (.t 11) (qS [q 2 (.mv (.c (.str ⟨#[115,116,111,114,101]⟩))), q 3 (.mv (qI 2))] [2,3] .ret) (qS [q 14 (.bin .eql (.t 4) (qI 4)), q0 13 14] [4,13] (.cond
 (.t 13) (qS [q 2 (.mv (.c (.str ⟨#[97,114,103]⟩))), q 3 (.mv (qI 3))] [2,3] .ret) (qS [q 16 (.bin .eql (.t 4) (qI 5)), q0 15 16] [4,15] (.cond (.t 15) (qS [q 2 (.mv (.c (.str ⟨#[107,105,110,100]⟩))), q 3 (.mv (qI 0))] [2,3] .ret) (qS [q 18
 (.bin .eql (.t 4) (qI 6)), q0 17 18] [4,17] (.cond (.t 17) (qS [q 2 (.mv (.c (.str ⟨#[97,100,100]⟩))), q 3 (.mv (qI 0))] [2,3] .ret) (qS [q 20 (.bin .eql (.t 4) (qI 7)), q0 19 20] [4,19] (.cond (.t 19) (qS [q 2 (.mv (.c (.str
 ⟨#[115,117,98]⟩))), q 3 (.mv (qI 0))] [2,3] .ret) (qS [q 22 (.bin .eql (.t 4) (qI 8)), q0 21 22] [4,21] (.cond (.t 21) (qS [q 2 (.mv (.c (.str ⟨#[109,117,108]⟩))), q 3 (.mv (qI 0))] [2,3] .ret) (qS [q 24 (.bin .eql (.t 4) (qI 9)), q0 23 24]
 [4,23] (.cond (.t 23) (qS [q 2 (.mv (.c (.str ⟨#[108,101,115,115]⟩))), q 3 (.mv (qI 0))] [2,3] .ret) (qS [q 26 (.bin .eql (.t 4) (qI 10)), q0 25 26] [4,25] (.cond (.t 25) (qS [q 2 (.mv (.c (.str ⟨#[101,113,117,97,108]⟩))), q 3 (.mv (qI 0))]
 [2,3] .ret) (qS [q 28 (.bin .eql (.t 4) (qI 11)), q0 27 28] [4,27] (.cond (.t 27) (qS [q 2 (.mv (.c (.str ⟨#[110,111,116]⟩))), q 3 (.mv (qI 0))] [2,3] .ret) (qS [q 30 (.bin .eql (.t 4) (qI 12)), q0 29 30] [4,29] (.cond (.t 29) (qS [q 2 (.mv
 (.c (.str ⟨#[100,117,112]⟩))), q 3 (.mv (qI 0))] [2,3] .ret) (qS [q 32 (.bin .eql (.t 4) (qI 13)), q0 31 32] [4,31] (.cond (.t 31) (qS [q 2 (.mv (.c (.str ⟨#[100,114,111,112]⟩))), q 3 (.mv (qI 0))] [2,3] .ret) (qS [q 34 (.bin .eql (.t 4) (qI
 14)), q0 33 34] [4,33] (.cond (.t 33) (qS [q 2 (.mv (.c (.str ⟨#[115,119,97,112]⟩))), q 3 (.mv (qI 0))] [2,3] .ret) (qS [q 36 (.bin .eql (.t 4) (qI 15)), q0 35 36] [4,35] (.cond (.t 35) (qS [q 2 (.mv (.c (.str ⟨#[106,117,109,112]⟩))), q 3
 (.mv (qI 4))] [2,3] .ret) (qS [q 38 (.bin .eql (.t 4) (qI 16)), q0 37 38] [4,37] (.cond (.t 37) (qS [q 2 (.mv (.c (.str ⟨#[106,117,109,112,122]⟩))), q 3 (.mv (qI 4))] [2,3] .ret) (qS [q 40 (.bin .eql (.t 4) (qI 17)), q0 39 40] [4,39] (.cond
 (.t 39) (qS [q 2 (.mv (.c (.str ⟨#[115,101,110,100]⟩))), q 3 (.mv (qI 5))] [2,3] .ret) (qS [q 42 (.bin .eql (.t 4) (qI 18)), q0 41 42] [4,41] (.cond (.t 41) (qS [q 2 (.mv (.c (.str ⟨#[114,101,112,108,121]⟩))), q 3 (.mv (qI 0))] [2,3] .ret)
 (qS [q 44 (.bin .eql (.t 4) (qI 19)), q0 43 44] [4,43] (.cond (.t 43) (qS [q 2 (.mv (.c (.str ⟨#[114,101,109,105,110,100]⟩))), q 3 (.mv (qI 5))] [2,3] .ret) (qS [q 46 (.bin .eql (.t 4) (qI 20)), q0 45 46] [4,45] (.cond (.t 45) (qS [q 2 (.mv
 (.c (.str ⟨#[99,97,110,99,101,108]⟩))), q 3 (.mv (qI 5))] [2,3] .ret) (qS [q 48 (.bin .eql (.t 4) (qI 21)), q0 47 48] [4,47] (.cond (.t 47) (qS [q 2 (.mv (.c (.str ⟨#[102,97,105,108]⟩))), q 3 (.mv (qI 0))] [2,3] .ret) (qS [q 50 (.bin .eql
 (.t 4) (qI 22)), q0 49 50] [4,49] (.cond (.t 49) (qS [q 2 (.mv (.c (.str ⟨#[110,111,119]⟩))), q 3 (.mv (qI 0))] [2,3] .ret) (qS [q 52 (.bin .eql (.t 4) (qI 23)), q0 51 52] [51] (.cond (.t 51) (qS [q 2 (.mv (.c (.str
 ⟨#[115,101,114,105,97,108]⟩))), q 3 (.mv (qI 0))] [2,3] .ret) .skip)))))))))))))))))))))))))))))))))))))))))))))))))) (qS [q 2 (.mv (.c (qE))), q 3 (.mv (qI 0))] [2,3] .ret))
def r98 : List RT := [.t 2, .t 3]
def a89 : AS := qS [q 2 (.mv (.c (qE))), q 3 (.mv (qI 0)), q 4 (.mv qf)] [0] (qS [q 6 (.bld [qE, .int .i64 0] [(0, 1, (.c (.str ⟨#[104,97,108,116]⟩))), (1, 1, (qI 0))]), q 7 (.bld [qE, .int .i64 0] [(0, 1, (.c (.str ⟨#[112,117,115,104]⟩))), (1, 1, (qI
 1))]), q 8 (.bld [qE, .int .i64 0] [(0, 1, (.c (.str ⟨#[108,111,97,100]⟩))), (1, 1, (qI 2))]), q 9 (.bld [qE, .int .i64 0] [(0, 1, (.c (.str ⟨#[115,116,111,114,101]⟩))), (1, 1, (qI 2))]), q 10 (.bld [qE, .int .i64 0] [(0, 1, (.c (.str
 ⟨#[97,114,103]⟩))), (1, 1, (qI 3))]), q 11 (.bld [qE, .int .i64 0] [(0, 1, (.c (.str ⟨#[107,105,110,100]⟩))), (1, 1, (qI 0))]), q 12 (.bld [qE, .int .i64 0] [(0, 1, (.c (.str ⟨#[97,100,100]⟩))), (1, 1, (qI 0))]), q 13 (.bld [qE, .int .i64 0]
 [(0, 1, (.c (.str ⟨#[115,117,98]⟩))), (1, 1, (qI 0))]), q 14 (.bld [qE, .int .i64 0] [(0, 1, (.c (.str ⟨#[109,117,108]⟩))), (1, 1, (qI 0))]), q 15 (.bld [qE, .int .i64 0] [(0, 1, (.c (.str ⟨#[108,101,115,115]⟩))), (1, 1, (qI 0))]), q 16
 (.bld [qE, .int .i64 0] [(0, 1, (.c (.str ⟨#[101,113,117,97,108]⟩))), (1, 1, (qI 0))]), q 17 (.bld [qE, .int .i64 0] [(0, 1, (.c (.str ⟨#[110,111,116]⟩))), (1, 1, (qI 0))]), q 18 (.bld [qE, .int .i64 0] [(0, 1, (.c (.str ⟨#[100,117,112]⟩))),
 (1, 1, (qI 0))]), q 19 (.bld [qE, .int .i64 0] [(0, 1, (.c (.str ⟨#[100,114,111,112]⟩))), (1, 1, (qI 0))]), q 20 (.bld [qE, .int .i64 0] [(0, 1, (.c (.str ⟨#[115,119,97,112]⟩))), (1, 1, (qI 0))]), q 21 (.bld [qE, .int .i64 0] [(0, 1, (.c
 (.str ⟨#[106,117,109,112]⟩))), (1, 1, (qI 4))]), q 22 (.bld [qE, .int .i64 0] [(0, 1, (.c (.str ⟨#[106,117,109,112,122]⟩))), (1, 1, (qI 4))]), q 23 (.bld [qE, .int .i64 0] [(0, 1, (.c (.str ⟨#[115,101,110,100]⟩))), (1, 1, (qI 5))]), q 24
 (.bld [qE, .int .i64 0] [(0, 1, (.c (.str ⟨#[114,101,112,108,121]⟩))), (1, 1, (qI 0))]), q 25 (.bld [qE, .int .i64 0] [(0, 1, (.c (.str ⟨#[114,101,109,105,110,100]⟩))), (1, 1, (qI 5))]), q 26 (.bld [qE, .int .i64 0] [(0, 1, (.c (.str
 ⟨#[99,97,110,99,101,108]⟩))), (1, 1, (qI 5))]), q 27 (.bld [qE, .int .i64 0] [(0, 1, (.c (.str ⟨#[102,97,105,108]⟩))), (1, 1, (qI 0))]), q 28 (.bld [qE, .int .i64 0] [(0, 1, (.c (.str ⟨#[110,111,119]⟩))), (1, 1, (qI 0))]), q 29 (.bld [qE,
 .int .i64 0] [(0, 1, (.c (.str ⟨#[115,101,114,105,97,108]⟩))), (1, 1, (qI 0))]), q 30 (.bldA [qE, .int .i64 0, qE, .int .i64 0, qE, .int .i64 0, qE, .int .i64 0, qE, .int .i64 0, qE, .int .i64 0, qE, .int .i64 0, qE, .int .i64 0, qE, .int
 .i64 0, qE, .int .i64 0, qE, .int .i64 0, qE, .int .i64 0, qE, .int .i64 0, qE, .int .i64 0, qE, .int .i64 0, qE, .int .i64 0, qE, .int .i64 0, qE, .int .i64 0, qE, .int .i64 0, qE, .int .i64 0, qE, .int .i64 0, qE, .int .i64 0, qE, .int
 .i64 0, qE, .int .i64 0] 24 (.pair .str (.int .i64)) [(0, 2, (.t 6)), (2, 2, (.t 7)), (4, 2, (.t 8)), (6, 2, (.t 9)), (8, 2, (.t 10)), (10, 2, (.t 11)), (12, 2, (.t 12)), (14, 2, (.t 13)), (16, 2, (.t 14)), (18, 2, (.t 15)), (20, 2, (.t
 16)), (22, 2, (.t 17)), (24, 2, (.t 18)), (26, 2, (.t 19)), (28, 2, (.t 20)), (30, 2, (.t 21)), (32, 2, (.t 22)), (34, 2, (.t 23)), (36, 2, (.t 24)), (38, 2, (.t 25)), (40, 2, (.t 26)), (42, 2, (.t 27)), (44, 2, (.t 28)), (46, 2, (.t 29))]),
 q 5 (.alc [.arr 24 (.pair .str (.int .i64)) (List.replicate 24 (Ty.dflt (.pair .str (.int .i64))))]), q6 48 5 30] [0,5] (.seq (qS [q0 31 0, q 32 (.bin .lss (.t 31) (qI 0)), q0 33 32, q2 34 0 33, qF 35 (.bin .geq (.t 34) (qI 24)) 33, q 36
 (.pick (.t 33) qt (.t 35))] [0,5,36] (.cond (.t 36) (qS [q 2 (.mv (.c (qE))), q 3 (.mv (qI 0)), q 4 (.mv qf)] [2,3,4] .ret) .skip)) (.seq (.regD [q0 37 0, q 38 (.iaA 24 2 (.t 5) (.t 37)), q3 39 0 38, q4 40 39, q0 41 0, q 42 (.iaA 24 2 (.t 5)
 (.t 41)), q3 43 1 42, q4 44 43, q0 2 40, q0 3 44, q 4 (.mv qt)] [.q 0, .q 1, .q 2, .q 3, .q 4, .q 5, .q 6, .q 7, .q 8, .q 9, .q 10] [2,3,4]) .ret)))
def r89 : List RT := [.t 2, .t 3, .t 4]
def a90 : AS := qS [q 2 (.box (.t 0)), q 4 (.mv (qI 0))] [1,2] (.seq (qS [q0 5 1] [2,5] (.block 0 (qS [q 7 (.bin .eql (.t 5) (qI 2)), q0 6 7] [2,5,6] (.cond (.t 6) (qS [q 4 (.mv (qI 8))] [4] .ret) (qS [q 9 (.bin .eql (.t 5) (qI 3)), q0 8 9] [2,5,8] (.cond
 (.t 8) (qS [q 4 (.mv (qI 4))] [4] .ret) (qS [q 11 (.bin .eql (.t 5) (qI 4)), q0 10 11] [2,5,10] (.cond (.t 10) (qS [q3 12 1 2, q4 13 12, q 14 (.len .s (.t 13)), q 15 (.bin .add (.t 14) (qI 1)), q0 4 15] [4] .ret) (qS [q 17 (.bin .eql (.t 5)
 (qI 5)), q0 16 17] [2,16] (.cond (.t 16) (qS [q3 18 0 2, q4 19 18, q 20 (.len .s (.t 19)), q0 4 20] [4] .ret) .skip)))))))))) (qS [q 4 (.mv (qI 1))] [4] .ret))
def r90 : List RT := [.t 4]
def a91 : AS := qS [q 3 (.box (.t 1))] [0,3] (qS [q3 10 0 3, q4 11 10] [0,3,11] (.block 0 (qS [q 16 (.bin .eql (.t 11) (qI 0)), q0 15 16] [0,3,11,15] (.cond (.t 15) (.reg [q0 17 0, q5 18 17, q3 19 22 18, ⟨none, .st 1 (.t 19) qt, none⟩] []) (qS [q 21 (.bin
 .eql (.t 11) (qI 1)), q0 20 21] [0,3,11,20] (.cond (.t 20) (.reg [q0 22 0, q3 23 1 3, q4 24 23, q 25 (.bsl 8 (.int .i64) 1 [(0, (.t 24))]), q 26 (.call 115 [none, (some (8, (.int .i64)))] [.t 22, .t 25])] []) (qS [q 28 (.bin .eql (.t 11) (qI
 2)), q0 27 28] [0,3,11,27] (.cond (.t 27) (.regD [q0 29 0, q0 30 0, q3 31 1 3, q4 32 31, q5 33 30, q3 34 9 33, q3 35 0 34, q 36 (.iaA 8 1 (.t 35) (.t 32)), q4 37 36, q 38 (.bsl 8 (.int .i64) 1 [(0, (.t 37))]), q 39 (.call 115 [none, (some
 (8, (.int .i64)))] [.t 29, .t 38])] [.q 0, .q 1, .q 2, .q 3, .q 4, .q 5, .q 6, .q 7, .q 8, .e 9 [0], .e 10 []] []) (qS [q 41 (.bin .eql (.t 11) (qI 3)), q0 40 41] [0,3,11,40] (.cond (.t 40) (qS [q0 42 0, qX 116 43 [.t 42], q0 4 43] [0,3,4]
 (qS [q0 44 0, q5 45 44, q3 46 21 45, q4 47 46, q 48 (.bin .eql (.t 47) (qI 0))] [0,3,4,48] (.cond (.t 48) (.seq (.regD [q0 49 0, q3 50 1 3, q4 51 50, q0 52 4, q5 53 49, q3 54 9 53, q3 55 0 54, q 56 (.iaA 8 1 (.t 55) (.t 51)), q6 1 56 52] [.q
 0, .q 1, .q 2, .q 3, .q 4, .q 5, .q 6, .q 7, .e 8 []] [0,3,4]) (.regD [q0 57 0, q0 58 0, q5 59 58, q3 60 9 59, q3 61 8 60, q4 62 61, q3 63 1 3, q4 64 63, q0 65 4, q 66 (.bld [.int .i64 0, .int .i64 0] [(0, 1, (.t 64)), (1, 1, (.t 65))]), q
 67 (.bsl 16 qP 1 [(0, (.t 66))]), q 68 (.app 16 qP (.t 62) (.t 67)), q5 69 57, q3 70 9 69, q3 71 8 70, q6 1 71 68] [.q 0, .q 1, .q 2, .q 3, .q 4, .q 5, .q 6, .q 7, .q 8, .q 9, .e 10 [0,1,2,3,4,5], .e 11 [0], .q 12, .q 13, .q 14, .e 15 []]
 [])) .skip))) (qS [q 73 (.bin .eql (.t 11) (qI 4)), q0 72 73] [0,3,11,72] (.cond (.t 72) (qS [q 5 (.mv (qI 0))] [0,3,5] (.seq (.seq (.regD [q3 74 1 3, q4 75 74, q0 76 0, q5 77 76, q3 78 2 77, q3 79 3 78, q4 80 79, q 81 (.len .s (.t 80)), q
 82 (.bin .lss (.t 75) (.t 81))] [.q 0, .q 1, .q 2, .q 3, .q 4, .q 5, .q 6, .q 7, .q 8] [0,3,5,82]) (.cond (.t 82) (.regD [q0 83 0, q5 84 83, q3 85 2 84, q3 86 3 85, q4 87 86, q3 88 1 3, q4 89 88, q 90 (.ia 1 (.t 87) (.t 89)), q4 91 90, q0 5
 91] [.q 0, .q 1, .q 2, .q 3, .q 4, .q 5, .q 6, .q 7, .q 8, .q 9] [0,5]) .skip)) (.reg [q0 92 0, q0 93 5, q 94 (.bsl 8 (.int .i64) 1 [(0, (.t 93))]), q 95 (.call 115 [none, (some (8, (.int .i64)))] [.t 92, .t 94])] []))) (qS [q 97 (.bin .eql
 (.t 11) (qI 5)), q0 96 97] [0,3,11,96] (.cond (.t 96) (.reg [q0 98 0, q0 99 0, q5 100 99, q3 101 2 100, q3 102 2 101, q4 103 102, q 104 (.bsl 8 (.int .i64) 1 [(0, (.t 103))]), q 105 (.call 115 [none, (some (8, (.int .i64)))] [.t 98, .t
 104])] []) (.seq (qS [q 107 (.bin .eql (.t 11) (qI 6)), q0 106 107] [0,3,11,106] (.cond (.t 106) .skip (qS [q 108 (.bin .eql (.t 11) (qI 7)), q0 106 108] [0,3,11,106] (.cond (.t 106) .skip (qS [q 109 (.bin .eql (.t 11) (qI 8)), q0 106 109]
 [0,3,11,106] (.cond (.t 106) .skip (qS [q 110 (.bin .eql (.t 11) (qI 9)), q0 106 110] [0,3,11,106] (.cond (.t 106) .skip (.reg [q 111 (.bin .eql (.t 11) (qI 10)), q0 106 111] [0,3,11,106]))))))))) (.cond (.t 106) (.reg [q0 112 0, q3 113 0 3,
 q4 114 113, q0 115 0, q 116 (.call 117 [none, none] [.t 114, .t 115]), q 117 (.bsl 8 (.int .i64) 1 [(0, (.t 116))]), q 118 (.call 115 [none, (some (8, (.int .i64)))] [.t 112, .t 117])] []) (qS [q 120 (.bin .eql (.t 11) (qI 11)), q0 119 120]
 [0,3,11,119] (.cond (.t 119) (.reg [q0 121 0, q0 122 0, qX 116 123 [.t 122], q 124 (.bin .eql (.t 123) (qI 0)), qX 118 125 [.t 124], q 126 (.bsl 8 (.int .i64) 1 [(0, (.t 125))]), q 127 (.call 115 [none, (some (8, (.int .i64)))] [.t 121, .t
 126])] []) (qS [q 129 (.bin .eql (.t 11) (qI 12)), q0 128 129] [0,3,11,128] (.cond (.t 128) (qS [q0 130 0, qX 116 131 [.t 130], q0 6 131] [0,6] (.reg [q0 132 0, q0 133 6, q0 134 6, q 135 (.bsl 8 (.int .i64) 2 [(0, (.t 133)), (1, (.t 134))]),
 q 136 (.call 115 [none, (some (8, (.int .i64)))] [.t 132, .t 135])] [])) (qS [q 138 (.bin .eql (.t 11) (qI 13)), q0 137 138] [0,3,11,137] (.cond (.t 137) (.reg [q0 139 0, qX 116 140 [.t 139]] []) (qS [q 142 (.bin .eql (.t 11) (qI 14)), q0
 141 142] [0,3,11,141] (.cond (.t 141) (qS [q0 144 0, qX 119 145 [.t 144], q0 143 145, q 146 (.ext (.t 143) 0), q 147 (.ext (.t 143) 1), q0 7 146, q0 8 147] [0,7,8] (.reg [q0 148 0, q0 149 8, q0 150 7, q 151 (.bsl 8 (.int .i64) 2 [(0, (.t
 149)), (1, (.t 150))]), q 152 (.call 115 [none, (some (8, (.int .i64)))] [.t 148, .t 151])] [])) (qS [q 154 (.bin .eql (.t 11) (qI 15)), q0 153 154] [0,3,11,153] (.cond (.t 153) (.reg [q0 155 0, q3 156 1 3, q4 157 156, q5 158 155, q3 159 7
 158, q6 1 159 157] []) (qS [q 161 (.bin .eql (.t 11) (qI 16)), q0 160 161] [0,3,11,160] (.cond (.t 160) (qS [q0 162 0, qX 116 163 [.t 162], q0 9 163] [0,3,9] (qS [q0 164 9, q 165 (.bin .eql (.t 164) (qI 0)), q0 166 165, q1 167 0 166, qT 168
 (.nck (.t 167)) 166, qT 169 (.fa 21 (.t 168)) 166, qT 170 (.ld (.t 169)) 166, qT 171 (.bin .eql (.t 170) (qI 0)) 166, q 172 (.pick (.t 166) (.t 171) qf)] [0,3,172] (.cond (.t 172) (.reg [q0 173 0, q3 174 1 3, q4 175 174, q5 176 173, q3 177 7
 176, q6 1 177 175] []) .skip))) (qS [q 179 (.bin .eql (.t 11) (qI 21)), q0 178 179] [0,3,11,178] (.cond (.t 178) (.reg [q0 180 0, q 181 (.call 120 [none, none] [.t 180, qt])] []) (qS [q 183 (.bin .eql (.t 11) (qI 22)), q0 182 183]
 [0,3,11,182] (.cond (.t 182) (.reg [q0 184 0, q0 185 0, q5 186 185, q3 187 6 186, q4 188 187, q 189 (.bsl 8 (.int .i64) 1 [(0, (.t 188))]), q 190 (.call 115 [none, (some (8, (.int .i64)))] [.t 184, .t 189])] []) (qS [q 192 (.bin .eql (.t 11)
 (qI 23)), q0 191 192] [0,3,191] (.cond (.t 191) (.reg [q0 193 0, q0 194 0, q5 195 194, q3 196 2 195, q3 197 1 196, q4 198 197, q 199 (.cv .i64 (.t 198)), q 200 (.bsl 8 (.int .i64) 1 [(0, (.t 199))]), q 201 (.call 115 [none, (some (8, (.int
 .i64)))] [.t 193, .t 200])] []) (.reg [q0 12 0, q 13 (.ldA 2 (.t 3)), q 14 (.call 121 [none, none] [.t 12, .t 13])] [])))))))))))))))))))))))))))))))))))
def r91 : List RT := [.w 1 0 8, .w 2 0 17, .w 3 0 18, .w 4 0 19]
def a92 : AS := qS [q 2 (.mv (.c (.nils)))] [0] (qS [q 3 (.mv (.c (.nils)))] [0,3] (.seq (qS [q0 6 0, q 7 (.len .s (.t 6)), q 8 (.mv (qI 0))] [3,6,7,8] (.block 0 (.lift 3 none 56 qD (.loop 1 [3,6,7,8] (qS [q 9 (.bin .lss (.t 8) (.t 7))] [3,6,7,8,9] (.seq
 (.cond (.t 9) .skip (.exit 0)) (.seq (.block 1 (qS [q 10 (.ia 4 (.t 6) (.t 8)), q 11 (.ldA 4 (.t 10)), q 5 (.alc [qE, .int .u64 0, .int .i64 0, .nils]), q6 4 5 11] [3,5,6,7,8] (.reg [q0 12 3, q 13 (.ldA 4 (.t 5)), qX 75 14 [.t 13], q 15
 (.bsl 56 qD 1 [(0, (.t 14))]), q 16 (.app 56 qD (.t 12) (.t 15)), q0 3 16] [3,6,7,8]))) (.reg [q 17 (.bin .add (.t 8) (qI 1)), q0 8 17] [3,6,7,8])))))))) (qS [q0 18 3, q0 2 18] [2] (.lift 2 none 56 qD .ret))))
def r92 : List RT := [.t 2]
def a115 : AS := .seq (qS [q0 4 0, q5 5 4, q3 6 21 5, q4 7 6, q 8 (.bin .neq (.t 7) (qI 0))] [0,1,8] (.cond (.t 8) .ret .skip)) (.seq (qS [q0 9 0, q5 10 9, q3 11 8 10, q4 12 11, q 13 (.len .s (.t 12)), q0 14 1, q 15 (.len .s (.t 14)), q 16 (.bin .add (.t 13)
 (.t 15)), q 17 (.bin .gtr (.t 16) (qI 16))] [0,1,17] (.cond (.t 17) (qS [q0 18 0, q5 19 18, q3 20 21 19, ⟨none, .st 1 (.t 20) (qI 10), none⟩] [] .ret) .skip)) (.reg [q0 21 0, q0 22 0, q5 23 22, q3 24 8 23, q4 25 24, q0 26 1, q 27 (.app 8
 (.int .i64) (.t 25) (.t 26)), q5 28 21, q3 29 8 28, q6 1 29 27] []))
def r115 : List RT := [.w 1 0 8, .w 2 0 17, .w 3 0 18, .w 4 0 19]
def a116 : AS := qS [q 2 (.mv (qI 0))] [0] (.seq (qS [q0 4 0, q5 5 4, q3 6 21 5, q4 7 6, q 8 (.bin .neq (.t 7) (qI 0))] [0,8] (.cond (.t 8) (qS [q 2 (.mv (qI 0))] [2] .ret) .skip)) (.seq (qS [q0 9 0, q5 10 9, q3 11 8 10, q4 12 11, q 13 (.len .s (.t 12)), q
 14 (.bin .eql (.t 13) (qI 0))] [0,14] (.cond (.t 14) (qS [q0 15 0, q5 16 15, q3 17 21 16, ⟨none, .st 1 (.t 17) (qI 10), none⟩] [] (qS [q 2 (.mv (qI 0))] [2] .ret)) .skip)) (.seq (.regD [q0 18 0, q5 19 18, q3 20 8 19, q4 21 20, q0 22 0, q5 23
 22, q3 24 8 23, q4 25 24, q 26 (.len .s (.t 25)), q 27 (.bin .sub (.t 26) (qI 1)), q 28 (.ia 1 (.t 21) (.t 27)), q4 29 28, q0 3 29] [.q 0, .q 1, .q 2, .q 3, .q 4, .q 5, .q 6, .q 7, .q 8, .q 9, .q 10, .q 11, .q 12] [0,3]) (.seq (.regD [q0 30
 0, q0 31 0, q5 32 31, q3 33 8 32, q4 34 33, q0 35 0, q5 36 35, q3 37 8 36, q4 38 37, q 39 (.len .s (.t 38)), q 40 (.bin .sub (.t 39) (qI 1)), q 41 (.slR 1 (.t 34) none (some (.t 40))), q5 42 30, q3 43 8 42, q6 1 43 41] [.q 0, .q 1, .q 2, .q
 3, .q 4, .q 5, .q 6, .q 7, .q 8, .q 9, .q 10, .q 11, .q 12, .q 13, .e 14 []] [3]) (qS [q0 44 3, q0 2 44] [2] .ret)))))
def r116 : List RT := [.t 2, .w 1 0 8, .w 2 0 17, .w 3 0 18, .w 4 0 19]
def a117 : AS := qS [q 4 (.mv (qI 0))] [0,1] (qS [q0 8 1, qX 119 9 [.t 8], q0 7 9, q 10 (.ext (.t 7) 0), q 11 (.ext (.t 7) 1), q0 5 10, q0 6 11] [0,5,6] (.seq (qS [q0 12 0] [5,6,12] (.block 0 (qS [q 14 (.bin .eql (.t 12) (qI 6)), q0 13 14] [5,6,12,13] (.cond
 (.t 13) (qS [q0 15 5, q0 16 6, q 17 (.bin .add (.t 15) (.t 16)), q0 4 17] [4] .ret) (qS [q 19 (.bin .eql (.t 12) (qI 7)), q0 18 19] [5,6,12,18] (.cond (.t 18) (qS [q0 20 5, q0 21 6, q 22 (.bin .sub (.t 20) (.t 21)), q0 4 22] [4] .ret) (qS [q
 24 (.bin .eql (.t 12) (qI 8)), q0 23 24] [5,6,12,23] (.cond (.t 23) (qS [q0 25 5, q0 26 6, q 27 (.bin .mul (.t 25) (.t 26)), q0 4 27] [4] .ret) (qS [q 29 (.bin .eql (.t 12) (qI 9)), q0 28 29] [5,6,28] (.cond (.t 28) (qS [q0 30 5, q0 31 6, q
 32 (.bin .lss (.t 30) (.t 31)), qX 118 33 [.t 32], q0 4 33] [4] .ret) .skip)))))))))) (qS [q0 34 5, q0 35 6, q 36 (.bin .eql (.t 34) (.t 35)), qX 118 37 [.t 36], q0 4 37] [4] .ret)))
def r117 : List RT := [.t 4, .w 1 0 8, .w 2 0 17, .w 3 0 18, .w 4 0 19]
def a118 : AS := qS [q 2 (.mv (qI 0))] [0] (.seq (qS [q0 3 0] [3] (.cond (.t 3) (qS [q 2 (.mv (qI 1))] [2] .ret) .skip)) (qS [q 2 (.mv (qI 0))] [2] .ret))
def r118 : List RT := [.t 2]
def a119 : AS := qS [q 2 (.mv (qI 0)), q 3 (.mv (qI 0))] [0] (qS [q0 5 0, qX 116 6 [.t 5], q0 4 6] [0,4] (qS [q0 7 0, qX 116 8 [.t 7], q0 9 4, q0 2 8, q0 3 9] [2,3] .ret))
def r119 : List RT := [.t 2, .t 3, .w 1 0 8, .w 2 0 17, .w 3 0 18, .w 4 0 19]
def a120 : AS := qS [q 4 (.mv qf)] [0,1] (.seq (qS [q0 5 1, q0 6 5, q1 7 0 6, qT 8 (.nck (.t 7)) 6, qT 9 (.fa 21 (.t 8)) 6, qT 10 (.ld (.t 9)) 6, qT 11 (.bin .eql (.t 10) (qI 0)) 6, q 12 (.pick (.t 6) (.t 11) qf)] [0,12] (.cond (.t 12) (.reg [q0 13 0, q5 14
 13, q3 15 21 14, ⟨none, .st 1 (.t 15) (qI 12), none⟩] [0]) .skip)) (qS [q0 16 0, q5 17 16, q3 18 21 17, q4 19 18, q 20 (.bin .neq (.t 19) (qI 0)), q0 4 20] [4] .ret))
def r120 : List RT := [.t 4]
def a121 : AS := qS [q 3 (.box (.t 1))] [0,3] (qS [q3 10 0 3, q4 11 10] [0,3,11] (.block 0 (.seq (qS [q 13 (.bin .eql (.t 11) (qI 17)), q0 12 13] [0,3,11,12] (.cond (.t 12) .skip (.reg [q 14 (.bin .eql (.t 11) (qI 18)), q0 12 14] [0,3,11,12]))) (.cond (.t
 12) (qS [q0 16 0, qX 119 17 [.t 16], q0 15 17, q 18 (.ext (.t 15) 0), q 19 (.ext (.t 15) 1), q0 4 18, q0 5 19] [0,3,4,5] (qS [q0 20 0, q5 21 20, q3 22 2 21, q3 23 0 22, q4 24 23, q0 6 24] [0,3,4,5,6] (.seq (qS [q3 25 0 3, q4 26 25, q 27
 (.bin .eql (.t 26) (qI 17))] [0,3,4,5,6,27] (.cond (.t 27) (.regD [q0 28 0, q5 29 28, q3 30 0 29, q3 31 0 30, q4 32 31, q3 33 1 3, q4 34 33, q 35 (.ia 1 (.t 32) (.t 34)), q4 36 35, q0 6 36] [.q 0, .q 1, .q 2, .q 3, .q 4, .q 5, .q 6, .q 7, .q
 8, .q 9] [0,4,5,6]) .skip)) (.seq (qS [q0 37 6, q 38 (.bin .eql (.t 37) (.c (qE))), q0 39 38, q2 40 0 39, q2 41 0 39, qF 42 (.nck (.t 41)) 39, qF 43 (.fa 9 (.t 42)) 39, qF 44 (.fa 9 (.t 43)) 39, qF 45 (.ld (.t 44)) 39, qF 46 (.len .s (.t
 45)) 39, qF 47 (.bin .geq (.t 46) (qI 4)) 39, qF 48 (.call 120 [none, none] [.t 40, .t 47]) 39, q 49 (.pick (.t 39) qt (.t 48))] [0,4,5,6,49] (.cond (.t 49) .ret .skip)) (.reg [q0 50 0, q0 51 0, q5 52 51, q3 53 9 52, q3 54 9 53, q4 55 54, q0
 56 6, q0 57 4, q0 58 5, q 59 (.bld [qE, .int .i64 0, .int .i64 0] [(0, 1, (.t 56)), (1, 1, (.t 57)), (2, 1, (.t 58))]), q 60 (.bsl 32 (.pair .str qP) 1 [(0, (.t 59))]), q 61 (.app 32 (.pair .str qP) (.t 55) (.t 60)), q5 62 50, q3 63 9 62, q3
 64 9 63, q6 1 64 61] []))))) (qS [q 66 (.bin .eql (.t 11) (qI 19)), q0 65 66] [0,3,11,65] (.cond (.t 65) (qS [q0 68 0, qX 119 69 [.t 68], q0 67 69, q 70 (.ext (.t 67) 0), q 71 (.ext (.t 67) 1), q0 7 70, q0 8 71] [0,3,7,8] (qS [q0 72 0, q5 73
 72, q3 74 6 73, q4 75 74, q0 76 7, q 77 (.bin .add (.t 75) (.t 76)), q0 9 77] [0,3,7,8,9] (qS [q0 78 0, q0 79 7, q 80 (.bin .lss (.t 79) (qI 0)), q0 81 80, q2 82 9 81, qF 83 (.bin .lss (.t 82) (qI 0)) 81, q 84 (.pick (.t 81) qt (.t 83)), q0
 85 84, q2 86 8 85, qF 87 (.bin .lss (.t 86) (qI 1)) 85, q 88 (.pick (.t 85) qt (.t 87)), q 89 (.call 120 [none, none] [.t 78, .t 88]), q 90 (.not (.t 89))] [0,3,8,9,90] (.cond (.t 90) (.regD [q0 91 0, q0 92 0, q5 93 92, q3 94 9 93, q3 95 10
 94, q4 96 95, q0 97 0, q5 98 97, q3 99 0 98, q3 100 0 99, q4 101 100, q3 102 1 3, q4 103 102, q 104 (.ia 1 (.t 101) (.t 103)), q4 105 104, q0 106 9, q0 107 8, q0 108 0, q5 109 108, q3 110 2 109, q3 111 2 110, q4 112 111, q 113 (.bld [qE,
 .bool false, .int .i64 0, .int .i64 0, .int .i64 0] [(0, 1, (.t 105)), (1, 1, qf), (2, 1, (.t 106)), (3, 1, (.t 107)), (4, 1, (.t 112))]), q 114 (.bsl 48 (.pair .str (.pair .bool (.pair (.int .i64) qP))) 1 [(0, (.t 113))]), q 115 (.app 48
 (.pair .str (.pair .bool (.pair (.int .i64) qP))) (.t 96) (.t 114)), q5 116 91, q3 117 9 116, q3 118 10 117, q6 1 118 115] [.q 0, .q 1, .q 2, .q 3, .q 4, .q 5, .q 6, .q 7, .q 8, .q 9, .q 10, .q 11, .q 12, .q 13, .q 14, .q 15, .q 16, .q 17,
 .q 18, .q 19, .q 20, .q 21, .q 22, .e 23 [0,1,2,3,4,5], .e 24 [0], .q 25, .q 26, .q 27, .e 28 []] []) .skip)))) (qS [q 120 (.bin .eql (.t 11) (qI 20)), q0 119 120] [0,3,119] (.cond (.t 119) (.regD [q0 121 0, q0 122 0, q5 123 122, q3 124 9
 123, q3 125 10 124, q4 126 125, q0 127 0, q5 128 127, q3 129 0 128, q3 130 0 129, q4 131 130, q3 132 1 3, q4 133 132, q 134 (.ia 1 (.t 131) (.t 133)), q4 135 134, q 136 (.bld [qE, .bool false, .int .i64 0, .int .i64 0, .int .i64 0] [(0, 1,
 (.t 135)), (1, 1, qt)]), q 137 (.bsl 48 (.pair .str (.pair .bool (.pair (.int .i64) qP))) 1 [(0, (.t 136))]), q 138 (.app 48 (.pair .str (.pair .bool (.pair (.int .i64) qP))) (.t 126) (.t 137)), q5 139 121, q3 140 9 139, q3 141 10 140, q6 1
 141 138] [.q 0, .q 1, .q 2, .q 3, .q 4, .q 5, .q 6, .q 7, .q 8, .q 9, .q 10, .q 11, .q 12, .q 13, .q 14, .q 15, .e 16 [0,1,2,3,4,5], .e 17 [0], .q 18, .q 19, .q 20, .e 21 []] []) .skip))))))))
def r121 : List RT := [.w 1 0 8, .w 2 0 17, .w 3 0 18, .w 4 0 19]
theorem ok6 : okF Tryz.prog 6 a6 r6 0 = true := by decide +kernel
theorem ok21 : okF Tryz.prog 21 a21 r21 1 = true := by decide +kernel
theorem ok9 : okF Tryz.prog 9 a9 r9 3 = true := by decide +kernel
theorem ok10 : okF Tryz.prog 10 a10 r10 1 = true := by decide +kernel
theorem ok37 : okF Tryz.prog 37 a37 r37 1 = true := by decide +kernel
theorem ok20 : okF Tryz.prog 20 a20 r20 1 = true := by decide +kernel
theorem ok29 : okF Tryz.prog 29 a29 r29 1 = true := by decide +kernel
theorem ok30 : okF Tryz.prog 30 a30 r30 1 = true := by decide +kernel
theorem ok31 : okF Tryz.prog 31 a31 r31 4 = true := by decide +kernel
theorem ok32 : okF Tryz.prog 32 a32 r32 2 = true := by decide +kernel
theorem ok35 : okF Tryz.prog 35 a35 r35 1 = true := by decide +kernel
theorem ok98 : okF Tryz.prog 98 a98 r98 1 = true := by decide +kernel
theorem ok89 : okF Tryz.prog 89 a89 r89 1 = true := by decide +kernel
theorem ok90 : okF Tryz.prog 90 a90 r90 2 = true := by decide +kernel
theorem ok91 : okF Tryz.prog 91 a91 r91 2 = true := by decide +kernel
theorem ok92 : okF Tryz.prog 92 a92 r92 1 = true := by decide +kernel
theorem ok115 : okF Tryz.prog 115 a115 r115 2 = true := by decide +kernel
theorem ok116 : okF Tryz.prog 116 a116 r116 1 = true := by decide +kernel
theorem ok117 : okF Tryz.prog 117 a117 r117 2 = true := by decide +kernel
theorem ok118 : okF Tryz.prog 118 a118 r118 1 = true := by decide +kernel
theorem ok119 : okF Tryz.prog 119 a119 r119 1 = true := by decide +kernel
theorem ok120 : okF Tryz.prog 120 a120 r120 2 = true := by decide +kernel
theorem ok121 : okF Tryz.prog 121 a121 r121 2 = true := by decide +kernel
end Go.V
namespace Go.V
open Go.Proofs
set_option maxRecDepth 100000
set_option maxHeartbeats 4000000
set_option linter.unusedSimpArgs false
set_option linter.unnecessarySimpa false
set_option linter.unusedVariables false
/-! ### the machine -/
abbrev SentT : Ty := .pair .str (.pair (.int .i64) (.int .i64))
abbrev TimT : Ty := .pair .str (.pair .bool (.pair (.int .i64) (.pair (.int .i64) (.int .i64))))
structure Mc where
 names : List ByteArray
 code : List EvT.den
 f : ByteArray
 s : Int
 k : Int
 args : List Int
 now : Int
 pc : Int
 stack : List Int
 st : List Int
 ev : List EvT.den
 sent : List SentT.den
 tim : List TimT.den
 steps : Int
 failed : Int
 done : Bool
def mcH (mv : Bool) (M : Mc) : List SB := [.struct [.sl true 16 .str M.names, .sl true 16 EvT M.code, .str M.f, .int .u64 M.s, .int .i64 M.k, .sl true 8 (.int .i64) M.args, .int .i64 M.now, .int .i64 M.pc, .own 1, .arr 8 (.int .i64) M.st, .own 2, .own 3, .own 4, .int .i64 M.steps, .int .i64 M.failed, .bool M.done],
 .row mv 8 (.int .i64) M.stack, .row mv 16 EvT M.ev, .row mv 32 SentT M.sent, .row mv 48 TimT M.tim]
def onM (hp : List SB) (K : Mc → Prop) : Prop := ∃ M, hp = mcH false M ∧ K M
@[go_sem] theorem onM_eq {names code f s k args now pc stack st ev sent tim steps failed done K} : onM [.struct [.sl true 16 .str (no_index names), .sl true 16 (.pair (.int .i64) (.int .i64)) (no_index code), .str f, .int .u64 s, .int .i64 k, .sl true 8 (.int .i64) (no_index args), .int .i64 now, .int .i64 pc, .own 1, .arr 8 (.int .i64) (no_index st), .own 2, .own 3, .own 4, .int .i64 steps, .int .i64 failed, .bool done],
 .row false 8 (.int .i64) (no_index stack), .row false 16 (.pair (.int .i64) (.int .i64)) (no_index ev), .row false 32 (.pair .str (.pair (.int .i64) (.int .i64))) (no_index sent), .row false 48 (.pair .str (.pair .bool (.pair (.int .i64) (.pair (.int .i64) (.int .i64))))) (no_index tim)] K = K ⟨names, code, f, s, k, args, now, pc, stack, st, ev, sent, tim, steps, failed, done⟩ := by
 apply propext; constructor
 ·rintro ⟨M, h, hk⟩
  unfold mcH at h
  cases h
  exact hk
 ·exact fun h => ⟨_, rfl, h⟩
@[go_sem] theorem Mc.fold (M : Mc) : Mc.mk M.names M.code M.f M.s M.k M.args M.now M.pc M.stack M.st M.ev M.sent M.tim M.steps M.failed M.done = M := rfl
def pushM (M : Mc) (xs : List Int) : Mc :=
 if M.failed ≠ 0 then M else if 16 < M.stack.length + xs.length then { M with failed := 10 } else { M with stack := M.stack ++ xs }
def popM (M : Mc) : Int × Mc :=
 if M.failed ≠ 0 then (0, M) else if M.stack.length = 0 then (0, { M with failed := 10 }) else (M.stack.getD (M.stack.length - 1) 0, { M with stack := M.stack.take (M.stack.length - 1) })
def C115 : Contract := fun args hp K => match args with
 | [.ptr 0 0, .sl p 8 (.int .i64) xs] => onM hp fun M => M.stack.length ≤ 16 ∧ (xs : List Int).length ≤ 16 ∧ K (.tup []) (mcH true (pushM M xs))
 | _ => False
theorem s115 : Sound Tryz.prog 115 C115 := by
 refine sound_of_okF ok115 .nil ?_
 intro args hp K h
 unfold C115 at h
 split at h
 ·rename_i p xs
  obtain ⟨M, rfl, h1, h2, h⟩ := h
  refine ⟨by simp, [], ?_⟩
  unfold mcH at h ⊢
  simp (maxSteps:=9^9) only [a115, r115, go_sem, Nat.reduceLeDiff, Nat.reduceSub, Nat.reduceMul, Nat.reduceBEq, Nat.reduceAdd]
  have hmx := maxLen_val
  unfold pushM at h
  rintro c rfl
  refine sw_intro (fun hc => ?_) (fun hc => ?_)
  ·rw [if_pos (by simpa using hc)] at h
   exact h
  ·rw [if_neg (by simpa using hc)] at h
   rintro _ _ m rfl _ _ m1 rfl _ _ m2 hm2 c rfl
   rw [w64 (by omega)] at hm2
   subst hm2
   refine sw_intro (fun hc2 => ?_) (fun hc2 => ?_) <;> simp only [decide_eq_true_eq, decide_eq_false_iff_not] at hc2
   ·rw [if_pos (by omega)] at h
    exact h
   ·rw [if_neg (by omega)] at h
    exact ⟨fun _ _ => by omega, fun _ => h⟩
 ·exact h.elim
def C116 : Contract := fun args hp K => match args with
 | [.ptr 0 0] => onM hp fun M => M.stack.length ≤ 16 ∧ K (.int .i64 (popM M).1) (mcH true (popM M).2)
 | _ => False
theorem s116 : Sound Tryz.prog 116 C116 := by
 refine sound_of_okF ok116 .nil ?_
 intro args hp K h
 unfold C116 at h
 split at h
 ·obtain ⟨M, rfl, h1, h⟩ := h
  refine ⟨by simp, [], ?_⟩
  unfold mcH at h ⊢
  simp (maxSteps:=9^9) only [a116, r116, go_sem, Int.reduceToNat, Nat.reduceLeDiff, Nat.reduceSub, Nat.reduceMul, Nat.reduceBEq, Nat.reduceAdd]
  have hmx := maxLen_val
  unfold popM at h
  rintro c rfl
  refine sw_intro (fun hc => ?_) (fun hc => ?_)
  ·rw [if_pos (by simpa using hc)] at h
   exact h
  ·rw [if_neg (by simpa using hc)] at h
   rintro _ _ m rfl c rfl
   refine sw_intro (fun hc2 => ?_) (fun hc2 => ?_) <;> simp only [decide_eq_true_eq, decide_eq_false_iff_not] at hc2
   ·rw [if_pos (by omega)] at h
    exact h
   ·rw [if_neg (by omega)] at h
    rintro _ _ m rfl _ _ m1 hm1
    rw [w64 (by omega)] at hm1
    subst hm1
    refine nd_intro ⟨by omega, by omega⟩ (nd_intro (by omega) ?_)
    rintro _ _ m rfl _ _ m2 hm2
    rw [w64 (by omega)] at hm2
    subst hm2
    refine nd_intro ⟨by omega, by omega⟩ ?_
    have e1 : ((M.stack.length : Int) - 1).toNat = M.stack.length - 1 := by omega
    rw [e1, Nat.sub_zero]
    exact h
 ·exact h.elim
def twoM (M : Mc) : (Int × Int) × Mc := (((popM (popM M).2).1, (popM M).1), (popM (popM M).2).2)
theorem popM_stack {M : Mc} (h : M.stack.length ≤ 16) : (popM M).2.stack.length ≤ 16 := by
 unfold popM
 split
 ·exact h
 ·split
  ·exact h
  ·show (M.stack.take _).length ≤ 16
   rw [List.length_take]; omega
def C119 : Contract := fun args hp K => match args with
 | [.ptr 0 0] => onM hp fun M => M.stack.length ≤ 16 ∧ K (.tup [.int .i64 (twoM M).1.1, .int .i64 (twoM M).1.2]) (mcH true (twoM M).2)
 | _ => False
theorem s119 : Sound Tryz.prog 119 C119 := by
 refine sound_of_okF ok119 (.cons s116 (callable_of_okF ok116) .nil) ?_
 intro args hp K h
 unfold C119 at h
 split at h
 ·obtain ⟨M, rfl, h1, h⟩ := h
  refine ⟨by simp, [], ?_⟩
  unfold mcH at h ⊢
  simp (maxSteps:=9^9) only [a119, r119, C116, mcH, go_sem, Nat.reduceLeDiff, Nat.reduceSub, Nat.reduceMul, Nat.reduceLT, Nat.reduceBEq, Nat.reduceAdd]
  exact ⟨h1, popM_stack h1, h⟩
 ·exact h.elim
def refM (M : Mc) (b : Bool) : Mc := if b = true ∧ M.failed = 0 then { M with failed := 12 } else M
def C120 : Contract := fun args hp K => match args with
 | [.ptr 0 0, .bool b] => onM hp fun M => K (.bool (!decide ((refM M b).failed = 0))) (mcH false (refM M b))
 | _ => False
theorem s120 : Sound Tryz.prog 120 C120 := by
 refine sound_of_okF ok120 .nil ?_
 intro args hp K h
 unfold C120 at h
 split at h
 ·rename_i b
  obtain ⟨M, rfl, h⟩ := h
  refine ⟨by simp, [], ?_⟩
  unfold mcH at h ⊢
  simp (maxSteps:=9^9) only [a120, r120, go_sem, Int.reduceEq, Nat.reduceLeDiff, Nat.reduceSub, Nat.reduceMul, Nat.reduceBEq, Nat.reduceAdd]
  have e : ∀ c : Bool, (refM M b = if b = true ∧ M.failed = 0 then { M with failed := 12 } else M) := fun _ => rfl
  by_cases hb : b = true ∧ M.failed = 0
  ·rw [show refM M b = { M with failed := 12 } from if_pos hb] at h
   rw [hb.1]
   refine sw_intro (fun _ => ?_) (fun h9 => by cases h9)
   rintro c rfl
   refine sw_intro (fun _ => h) (fun h9 => absurd hb.2 (by simpa using h9))
  ·rw [show refM M b = M from if_neg hb] at h
   refine sw_intro (fun h1 => ?_) (fun h1 => ?_)
   ·rintro c rfl
    refine sw_intro (fun h9 => absurd ⟨h1, by simpa using h9⟩ hb) (fun _ => ?_)
    rintro c rfl
    exact h
   ·rintro c rfl
    exact h
 ·exact h.elim
def truthI (b : Bool) : Int := bif b then 1 else 0
def C118 : Contract := fun args hp K => match args, hp with
 | [.bool b], [] => K (.int .i64 (truthI b)) []
 | _, _ => False
theorem s118 : Sound Tryz.prog 118 C118 := by
 refine sound_of_okF ok118 .nil ?_
 intro args hp K h
 unfold C118 at h
 split at h
 ·rename_i b
  refine ⟨by simp, [], ?_⟩
  simp (maxSteps:=9^9) only [a118, r118, go_sem, Nat.reduceBEq]
  cases b <;> exact h
 ·exact h.elim
def opI (op x y : Int) : Int := if op = 6 then IntKind.i64.wrap (x + y) else if op = 7 then IntKind.i64.wrap (x - y) else if op = 8 then IntKind.i64.wrap (x * y) else if op = 9 then truthI (decide (x < y)) else truthI (decide (x = y))
def C117 : Contract := fun args hp K => match args with
 | [.int .i64 op, .ptr 0 0] => onM hp fun M => M.stack.length ≤ 16 ∧ K (.int .i64 (opI op (twoM M).1.1 (twoM M).1.2)) (mcH true (twoM M).2)
 | _ => False
theorem s117 : Sound Tryz.prog 117 C117 := by
 refine sound_of_okF ok117 (.cons s119 (callable_of_okF ok119) (.cons s118 (callable_of_okF ok118) .nil)) ?_
 intro args hp K h
 unfold C117 at h
 split at h
 ·rename_i op
  obtain ⟨M, rfl, h1, h⟩ := h
  refine ⟨by simp, [], ?_⟩
  unfold mcH at h ⊢
  simp (maxSteps:=9^9) only [a117, r117, C119, C118, mcH, go_sem, Nat.reduceLeDiff, Nat.reduceSub, Nat.reduceMul, Nat.reduceLT, Nat.reduceBEq, Nat.reduceAdd]
  refine ⟨h1, ?_⟩
  unfold opI at h
  rintro c rfl
  refine sw_intro (fun c6 => ?_) (fun c6 => ?_) <;> simp only [decide_eq_true_eq, decide_eq_false_iff_not] at c6
  ·rw [if_pos c6] at h
   rintro _ _ m rfl
   exact h
  rw [if_neg c6] at h
  rintro c rfl
  refine sw_intro (fun c7 => ?_) (fun c7 => ?_) <;> simp only [decide_eq_true_eq, decide_eq_false_iff_not] at c7
  ·rw [if_pos c7] at h
   rintro _ _ m rfl
   exact h
  rw [if_neg c7] at h
  rintro c rfl
  refine sw_intro (fun c8 => ?_) (fun c8 => ?_) <;> simp only [decide_eq_true_eq, decide_eq_false_iff_not] at c8
  ·rw [if_pos c8] at h
   rintro _ _ m rfl
   exact h
  rw [if_neg c8] at h
  rintro c rfl
  refine sw_intro (fun c9 => ?_) (fun c9 => ?_) <;> simp only [decide_eq_true_eq, decide_eq_false_iff_not] at c9
  ·rw [if_pos c9] at h
   rintro c rfl
   exact h
  rw [if_neg c9] at h
  rintro c rfl
  exact h
 ·exact h.elim
end Go.V
