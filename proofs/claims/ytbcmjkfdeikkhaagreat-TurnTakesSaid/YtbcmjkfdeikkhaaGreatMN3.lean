/- A part of the proof layer, or functions of the given program in it: contracts and their proofs. -/
import Derived.Test.YtbcmjkfdeikkhaaGreatMN1
import Derived.Test.YtbcmjkfdeikkhaaGreatProg
namespace Go.V
set_option linter.unusedSimpArgs false
set_option linter.unnecessarySimpa false
open Go.Proofs
def a8 : AS := qS [q 12 (.mv (.c (.nilp))), q 13 (.mv (.c (.nilp)))] [0,1,2,3,4,5] (qS [q0 23 0, qX 18 24 [.t 23], q0 22 24, q 25 (.ext (.t 22) 0), q 26 (.ext (.t 22) 1), q0 14 25, q0 15 26] [0,1,2,3,4,5,14,15] (qS [q0 28 0, qX 22 29 [.t 28], q0 27 29, q
 30 (.ext (.t 27) 0), q 31 (.ext (.t 27) 1), q0 16 30, q0 17 31] [1,2,3,4,5,14,15,16,17] (.seq (qS [q0 32 15, q 33 (.bin .neq (.t 32) (qI 0)), q0 34 33, q2 35 17 34, qF 36 (.bin .neq (.t 35) (qI 0)) 34, q 37 (.pick (.t 34) qt (.t 36)), q0 38
 37, q2 39 14 38, qF 40 (.eqn false .p (.t 39) (.c (.nilp))) 38, q 41 (.pick (.t 38) qt (.t 40))] [1,2,3,4,5,14,16,41] (.cond (.t 41) (qS [q 12 (.mv (.c (.nilp))), q 13 (.mv (.c (.nilp)))] [12,13] (.lift 12 (some 4) 56 qD (.lift 13 (some 4)
 56 qD (.lift 12 (some 4) 56 qD (.lift 13 (some 4) 56 qD .ret))))) .skip)) (.seq (qS [q0 42 1, q 43 (.len .s (.t 42)), q 44 (.mv (qI 0))] [1,2,3,4,5,14,16,43,44] (.block 0 (.lift 14 (some 4) 56 qD (.lift 16 (some 4) 56 qD (.loop 1
 [1,2,3,4,5,14,16,43,44] (qS [q 45 (.bin .lss (.t 44) (.t 43))] [1,2,3,4,5,14,16,43,44,45] (.seq (.cond (.t 45) .skip (.exit 0)) (.seq (.block 1 (qS [q0 46 44, q0 18 46] [1,2,3,4,5,14,16,18,43,44] (.seq (.regD [q0 47 14, q5 48 47, q3 49 1 48,
 q4 50 49, q0 51 1, q0 52 18, q 53 (.ia 4 (.t 51) (.t 52)), q 54 (.ldA 4 (.t 53)), q 55 (.call 19 [none, none] [.t 50, .t 54])] [.q 0, .q 1, .q 2, .q 3, .q 4, .q 5, .q 6, .q 7, .e 8 []] [1,2,3,4,5,14,16,18,43,44]) (.regD [q0 56 16, q5 57 56,
 q3 58 1 57, q4 59 58, q0 60 1, q0 61 18, q 62 (.ia 4 (.t 60) (.t 61)), q 63 (.ldA 4 (.t 62)), q 64 (.call 23 [none, none] [.t 59, .t 63])] [.q 0, .q 1, .q 2, .q 3, .q 4, .q 5, .q 6, .q 7, .e 8 []] [1,2,3,4,5,14,16,43,44])))) (.reg [q 65
 (.bin .add (.t 44) (qI 1)), q0 44 65] [1,2,3,4,5,14,16,43,44]))))))))) (.seq (qS [q0 66 2, q 67 (.len .s (.t 66)), q 68 (.mv (qI 0))] [2,3,4,5,14,16,67,68] (.block 2 (.lift 14 (some 4) 56 qD (.lift 16 (some 4) 56 qD (.loop 2
 [2,3,4,5,14,16,67,68] (qS [q 69 (.bin .lss (.t 68) (.t 67))] [2,3,4,5,14,16,67,68,69] (.seq (.cond (.t 69) .skip (.exit 2)) (.seq (.block 3 (qS [q0 70 68, q0 19 70] [2,3,4,5,14,16,19,67,68] (.seq (.regD [q0 71 14, q5 72 71, q3 73 2 72, q4 74
 73, q0 75 2, q0 76 19, q 77 (.ia 1 (.t 75) (.t 76)), q4 78 77, q0 79 19, q0 80 19, q 81 (.bsl 8 (.int .i64) 1 [(0, (.t 80))]), q 82 (.call 24 [none, none, none, (some (8, (.int .i64)))] [.t 74, .t 78, .t 79, .t 81])] [.q 0, .q 1, .q 2, .q 3,
 .q 4, .q 5, .q 6, .q 7, .q 8, .q 9, .e 10 [0,1,2,3,4,5,6,7,8], .e 11 []] [2,3,4,5,14,16,19,67,68]) (.regD [q0 83 16, q5 84 83, q3 85 2 84, q4 86 85, q0 87 2, q0 88 19, q 89 (.ia 1 (.t 87) (.t 88)), q4 90 89, q0 91 19, q0 92 19, q 93 (.bsl 8
 (.int .i64) 1 [(0, (.t 92))]), q 94 (.call 25 [none, none, none, (some (8, (.int .i64)))] [.t 86, .t 90, .t 91, .t 93])] [.q 0, .q 1, .q 2, .q 3, .q 4, .q 5, .q 6, .q 7, .q 8, .q 9, .e 10 [0,1,2,3,4,5,6,7,8], .e 11 []]
 [2,3,4,5,14,16,67,68])))) (.reg [q 95 (.bin .add (.t 68) (qI 1)), q0 68 95] [2,3,4,5,14,16,67,68]))))))))) (qS [q 20 (.mv (.c (.nils)))] [3,4,5,14,16,20] (.seq (qS [q0 96 3, q 97 (.len .s (.t 96)), q 98 (.mv (qI 0))] [3,4,5,14,16,20,97,98]
 (.block 4 (.lift 20 none 16 qP (.lift 14 (some 4) 56 qD (.lift 16 (some 4) 56 qD (.loop 3 [3,4,5,14,16,20,97,98] (qS [q 99 (.bin .lss (.t 98) (.t 97))] [3,4,5,14,16,20,97,98,99] (.seq (.cond (.t 99) .skip (.exit 4)) (.seq (.block 5 (qS [q0
 100 98, q0 21 100] [3,4,5,14,16,20,21,97,98] (.reg [q0 101 20, q0 102 3, q0 103 21, q 104 (.ia 2 (.t 102) (.t 103)), q 105 (.ldA 2 (.t 104)), q 106 (.bsl 16 qP 1 [(0, (.t 105))]), q 107 (.app 16 qP (.t 101) (.t 106)), q0 20 107]
 [3,4,5,14,16,20,97,98]))) (.reg [q 108 (.bin .add (.t 98) (qI 1)), q0 98 108] [3,4,5,14,16,20,97,98])))))))))) (qS [q0 109 14, q5 110 109, q3 111 0 110, q4 112 111, q0 113 20, q 114 (.call 26 [none, (some (16, qP))] [.t 112, .t 113])]
 [3,4,5,14,16] (qS [q0 115 16, q5 116 115, q3 117 0 116, q4 118 117, q0 119 3, q 120 (.call 27 [none, (some (16, qP))] [.t 118, .t 119])] [4,5,14,16] (qS [q0 121 14, q0 122 16, q0 123 4, q0 124 4, q5 125 121, q3 126 3 125, q6 1 126 123, q5
 127 122, q3 128 3 127, q6 1 128 124] [5,14,16] (qS [q0 129 14, q0 130 16, q0 131 5, q 132 (.call 28 [(some (56, qD))] [.t 131]), q0 133 5, q 134 (.call 28 [(some (56, qD))] [.t 133]), q5 135 129, q3 136 4 135, q6 1 136 132, q5 137 130, q3
 138 4 137, q6 1 138 134] [14,16] (qS [q0 139 14, q0 140 16, q0 12 139, q0 13 140] [12,13] (.lift 12 (some 4) 56 qD (.lift 13 (some 4) 56 qD (.lift 12 (some 4) 56 qD (.lift 13 (some 4) 56 qD .ret))))))))))))))))
def r8 : List RT := [.t 12, .t 13, .f 12, .f 13]
def a18 : AS := qS [q 2 (.mv (.c (.nilp))), q 3 (.mv (qI 0))] [0] (qS [q0 7 0, qX 71 8 [.t 7], q0 6 8, q 9 (.ext (.t 6) 0), q 10 (.ext (.t 6) 1), q0 4 9, q0 5 10] [4,5] (.seq (qS [q0 11 5, q 12 (.bin .neq (.t 11) (qI 0))] [4,5,12] (.cond (.t 12) (qS [q0 13
 5, q 2 (.mv (.c (.nilp))), q0 3 13] [2,3] (.lift 2 (some 4) 56 qD (.lift 2 (some 4) 56 qD .ret))) .skip)) (qS [q 14 (.call 72 [] []), q 15 (.call 73 [] []), q0 16 4, q 17 (.bld [.nilp, .nilp, .nilp, .int .i64 0, .nils] [(0, 1, (.t 14)), (1,
 1, (.t 15)), (2, 1, (.t 16))]), q 18 (.box (.t 17)), q0 2 18, q 3 (.mv (qI 0))] [2,3] (.lift 2 (some 4) 56 qD (.lift 2 (some 4) 56 qD .ret)))))
def r18 : List RT := [.t 2, .t 3, .f 2]
def a16 : AS := qS [q 2 (.mv (.c (.nils))), q 3 (.mv (qI 0))] [0] (.seq (qS [q0 9 0, qX 56 10 [.t 9], q 11 (.not (.t 10))] [0,11] (.cond (.t 11) (qS [q 2 (.mv (.c (.nils))), q 3 (.mv (qI 1))] [2,3] (.lift 2 none 1 .byte .ret)) .skip)) (qS [q0 13 0, q5 14
 13, q3 15 4 14, q4 16 15, q 17 (.call 57 [(some (56, qD))] [.t 16]), q0 12 17, q 18 (.ext (.t 12) 0), q 19 (.ext (.t 12) 1), q0 4 18, q0 5 19] [0,4] (qS [q 20 (.call 58 [] []), q0 6 20] [0,4,6] (qS [q0 21 6, q0 22 0, q5 23 22, q3 24 3 23, q4
 25 24, q 26 (.cv .u64 (.t 25)), q 27 (.call 59 [none, none] [.t 21, .t 26])] [0,4,6] (.seq (.seq (.regD [q0 28 0, q5 29 28, q3 30 0 29, q4 31 30, qX 60 32 [.t 31], q0 33 0, q5 34 33, q3 35 1 34, q4 36 35, qX 61 37 [.t 36], q0 38 0, q5 39 38,
 q3 40 2 39, q4 41 40, qX 34 42 [.t 41], q0 43 4, q 44 (.bsl 24 (.sl 1 .byte) 4 [(0, (.t 32)), (1, (.t 37)), (2, (.t 42)), (3, (.t 43))]), q 45 (.len .s (.t 44)), q 46 (.mv (qI 0))] [.q 0, .q 1, .q 2, .q 3, .q 5, .q 6, .q 7, .q 8, .q 10, .q
 11, .q 12, .q 13, .q 15, .q 18, .e 4 [5,6,7,8,10,11,12,13,15,18], .e 9 [10,11,12,13,15,18], .e 14 [15,18], .e 16 [18], .q 17] [6,44,45,46]) (.block 0 (.lift 6 (some 0) 1 .byte (.loop 1 [6,44,45,46] (qS [q 47 (.bin .lss (.t 46) (.t 45))]
 [6,44,45,46,47] (.seq (.cond (.t 47) .skip (.exit 0)) (.seq (.block 1 (qS [q 48 (.ia 1 (.t 44) (.t 46)), q4 49 48, q0 8 49] [6,8,44,45,46] (.reg [q0 50 6, q0 51 8, q 52 (.b2s (.t 51)), q 53 (.call 62 [none, none] [.t 50, .t 52])]
 [6,44,45,46]))) (.reg [q 54 (.bin .add (.t 46) (qI 1)), q0 46 54] [6,44,45,46])))))))) (qS [q0 55 6, qX 63 56 [.t 55], q0 2 56, q 3 (.mv (qI 0))] [2,3] (.lift 2 none 1 .byte .ret)))))))
def r16 : List RT := [.t 2, .t 3]
def a54 : AS := qS [q 2 (.mv qf)] [0] (qS [q0 3 0, q 4 (.eqn true .p (.t 3) (.c (.nilp))), q0 5 4, q1 6 0 5, qT 7 (.nck (.t 6)) 5, qT 8 (.fa 0 (.t 7)) 5, qT 9 (.ld (.t 8)) 5, qT 10 (.call 52 [none] [.t 9]) 5, qT 11 (.bin .eql (.t 10) (.c (.int .u64 0))) 5,
 q 12 (.pick (.t 5) (.t 11) qf), q0 13 12, q1 14 0 13, qT 15 (.nck (.t 14)) 13, qT 16 (.fa 1 (.t 15)) 13, qT 17 (.ld (.t 16)) 13, qT 18 (.call 11 [none] [.t 17]) 13, qT 19 (.bin .eql (.t 18) (qI 0)) 13, q 20 (.pick (.t 13) (.t 19) qf), q0 21
 20, q1 22 0 21, qT 23 (.nck (.t 22)) 21, qT 24 (.fa 2 (.t 23)) 21, qT 25 (.ld (.t 24)) 21, qT 26 (.call 105 [none] [.t 25]) 21, q 27 (.pick (.t 21) (.t 26) qf), q0 28 27, q1 29 0 28, qT 30 (.nck (.t 29)) 28, qT 31 (.fa 3 (.t 30)) 28, qT 32
 (.ld (.t 31)) 28, qT 33 (.bin .eql (.t 32) (qI 0)) 28, q 34 (.pick (.t 28) (.t 33) qf), q0 35 34, q1 36 0 35, qT 37 (.nck (.t 36)) 35, qT 38 (.fa 4 (.t 37)) 35, qT 39 (.ld (.t 38)) 35, qT 40 (.len .s (.t 39)) 35, qT 41 (.bin .eql (.t 40) (qI
 0)) 35, q 42 (.pick (.t 35) (.t 41) qf), q0 2 42] [2] .ret)
def r54 : List RT := [.t 2]
def a55 : AS := qS [q 2 (.mv qf)] [0] (qS [q0 3 0, q5 4 3, q3 5 0 4, q4 6 5, q5 7 6, q3 8 9 7, q4 9 8, q 10 (.bin .eql (.t 9) (.c (.int .u64 0))), q0 11 10, q1 12 0 11, qT 13 (.nck (.t 12)) 11, qT 14 (.fa 1 (.t 13)) 11, qT 15 (.ld (.t 14)) 11, qT 16 (.nck
 (.t 15)) 11, qT 17 (.fa 0 (.t 16)) 11, qT 18 (.ld (.t 17)) 11, qT 19 (.len .s (.t 18)) 11, qT 20 (.bin .eql (.t 19) (qI 0)) 11, q 21 (.pick (.t 11) (.t 20) qf), q0 22 21, q1 23 0 22, qT 24 (.nck (.t 23)) 22, qT 25 (.fa 2 (.t 24)) 22, qT 26
 (.ld (.t 25)) 22, qT 27 (.nck (.t 26)) 22, qT 28 (.fa 1 (.t 27)) 22, qT 29 (.ld (.t 28)) 22, qT 30 (.len .s (.t 29)) 22, qT 31 (.bin .eql (.t 30) (qI 0)) 22, q 32 (.pick (.t 22) (.t 31) qf), q0 33 32, q1 34 0 33, qT 35 (.nck (.t 34)) 33, qT
 36 (.fa 2 (.t 35)) 33, qT 37 (.ld (.t 36)) 33, qT 38 (.call 48 [none] [.t 37]) 33, qT 39 (.len .s (.t 38)) 33, qT 40 (.bin .eql (.t 39) (qI 0)) 33, q 41 (.pick (.t 33) (.t 40) qf), q0 42 41, q1 43 0 42, qT 44 (.nck (.t 43)) 42, qT 45 (.fa 3
 (.t 44)) 42, qT 46 (.ld (.t 45)) 42, qT 47 (.bin .eql (.t 46) (qI 0)) 42, q 48 (.pick (.t 42) (.t 47) qf), q0 49 48, q1 50 0 49, qT 51 (.nck (.t 50)) 49, qT 52 (.fa 4 (.t 51)) 49, qT 53 (.ld (.t 52)) 49, qT 54 (.len .s (.t 53)) 49, qT 55
 (.bin .eql (.t 54) (qI 0)) 49, q 56 (.pick (.t 49) (.t 55) qf), q0 2 56] [2] .ret)
def r55 : List RT := [.t 2]
def a44 : AS := qS [q 2 (.mv (.c (qE)))] [0] (.seq (qS [q0 3 0, q 4 (.eqn false .p (.t 3) (.c (.nilp)))] [0,4] (.cond (.t 4) (qS [q 2 (.mv (.c (qE)))] [2] .ret) .skip)) (qS [q0 5 0, q5 6 5, q3 7 2 6, q4 8 7, qX 102 9 [.t 8], q0 2 9] [2] .ret))
def r44 : List RT := [.t 2]
def a73 : AS := qS [q 0 (.mv (.c (.nilp)))] [] (qS [q 1 (.bld [.nils] []), q 2 (.box (.t 1)), q0 0 2] [0] (.lift 0 (some 0) 56 qD .ret))
def r73 : List RT := [.t 0]
def a19 : AS := qS [q 3 (.box (.t 1)), q 4 (.mv (qI 0))] [0,3] (.seq (.block 0 (qS [q0 6 0, q 7 (.eqn false .p (.t 6) (.c (.nilp))), q0 8 7, qF 9 (.ldA 4 (.t 3)) 8, qF 10 (.call 74 [none] [.t 9]) 8, qF 11 (.not (.t 10)) 8, q 12 (.pick (.t 8) qt (.t 11)), q0
 5 12] [0,3,5] (.cond (.t 5) (qS [q 4 (.mv (qI 1))] [4] .ret) (qS [q0 14 0, q5 15 14, q3 16 0 15, q4 17 16, q 18 (.len .s (.t 17)), q 19 (.bin .geq (.t 18) (qI 8)), q0 13 19] [0,3,13] (.cond (.t 13) (qS [q 4 (.mv (qI 7))] [4] .ret) .skip)))))
 (.seq (.regD [q0 20 0, q0 21 0, q5 22 21, q3 23 0 22, q4 24 23, q 25 (.ldA 4 (.t 3)), qX 75 26 [.t 25], q 27 (.bsl 56 qD 1 [(0, (.t 26))]), q 28 (.app 56 qD (.t 24) (.t 27)), q5 29 20, q3 30 0 29, q6 1 30 28] [.q 0, .q 1, .q 2, .q 3, .q 4,
 .q 5, .e 6 [0,1,2,3,4], .e 7 [0,1,2,3,4], .e 8 [0], .q 9, .q 10, .e 11 []] []) (qS [q 4 (.mv (qI 0))] [4] .ret)))
def r19 : List RT := [.t 4]
def a11 : AS := qS [q 2 (.mv (qI 0))] [0] (.seq (qS [q0 3 0, q 4 (.eqn false .p (.t 3) (.c (.nilp)))] [0,4] (.cond (.t 4) (qS [q 2 (.mv (qI 0))] [2] .ret) .skip)) (qS [q0 5 0, q5 6 5, q3 7 0 6, q4 8 7, q 9 (.len .s (.t 8)), q0 2 9] [2] .ret))
def r11 : List RT := [.t 2]
def a52 : AS := qS [q 2 (.mv (.c (.int .u64 0)))] [0] (.seq (qS [q0 3 0, q 4 (.eqn false .p (.t 3) (.c (.nilp)))] [0,4] (.cond (.t 4) (qS [q 2 (.mv (.c (.int .u64 0)))] [2] .ret) .skip)) (qS [q0 5 0, q5 6 5, q3 7 9 6, q4 8 7, q0 2 8] [2] .ret))
def r52 : List RT := [.t 2]
def a22 : AS := qS [q 2 (.mv (.c (.nilp))), q 3 (.mv (qI 0))] [0] (qS [q0 7 0, qX 76 8 [.t 7], q0 6 8, q 9 (.ext (.t 6) 0), q 10 (.ext (.t 6) 1), q0 4 9, q0 5 10] [4,5] (.seq (qS [q0 11 5, q 12 (.bin .neq (.t 11) (qI 0))] [4,5,12] (.cond (.t 12) (qS [q0 13
 5, q 2 (.mv (.c (.nilp))), q0 3 13] [2,3] (.lift 2 (some 4) 56 qD (.lift 2 (some 4) 56 qD .ret))) .skip)) (qS [q 14 (.bld [.arr 8 (.int .i64) (List.replicate 8 (Ty.dflt (.int .i64))), .nils, .int .u64 0] []), q 15 (.box (.t 14)), q 16 (.bld
 [.nils] []), q 17 (.box (.t 16)), q0 18 4, q 19 (.bld [.nilp, .nilp, .nilp, .int .i64 0, .nils] [(0, 1, (.t 15)), (1, 1, (.t 17)), (2, 1, (.t 18))]), q 20 (.box (.t 19)), q0 2 20, q 3 (.mv (qI 0))] [2,3,15,17] (.lift 15 (some 8) 16 qP (.lift
 17 (some 0) 56 qD (.lift 2 (some 4) 56 qD (.lift 2 (some 4) 56 qD .ret)))))))
def r22 : List RT := [.t 2, .t 3, .f 2]
def a23 : AS := qS [q 3 (.box (.t 1)), q 4 (.mv (qI 0))] [0,3] (.seq (qS [q 5 (.ldA 4 (.t 3)), qX 77 6 [.t 5], q 7 (.not (.t 6))] [0,3,7] (.cond (.t 7) (qS [q 4 (.mv (qI 1))] [4] .ret) .skip)) (.seq (qS [q0 8 0, q5 9 8, q3 10 0 9, q4 11 10, q 12 (.len .s
 (.t 11)), q 13 (.bin .geq (.t 12) (qI 8))] [0,3,13] (.cond (.t 13) (qS [q 4 (.mv (qI 7))] [4] .ret) .skip)) (.seq (.regD [q0 14 0, q0 15 0, q5 16 15, q3 17 0 16, q4 18 17, q 19 (.ldA 4 (.t 3)), qX 78 20 [.t 19], q 21 (.bsl 56 qD 1 [(0, (.t
 20))]), q 22 (.app 56 qD (.t 18) (.t 21)), q5 23 14, q3 24 0 23, q6 1 24 22] [.q 0, .q 1, .q 2, .q 3, .q 4, .q 5, .e 6 [0,1,2,3,4], .e 7 [0,1,2,3,4], .e 8 [0], .q 9, .q 10, .e 11 []] []) (qS [q 4 (.mv (qI 0))] [4] .ret))))
def r23 : List RT := [.t 4]
def a26 : AS := qS [q 4 (.mv (qI 0))] [0,1] (.seq (qS [q0 5 0, q 6 (.eqn false .p (.t 5) (.c (.nilp)))] [0,1,6] (.cond (.t 6) (qS [q 4 (.mv (qI 1))] [4] .ret) .skip)) (.seq (qS [q0 7 1, q 8 (.call 85 [none, none] [.t 7, (.f 86)])] [0,1,8] (.cond (.t 8) (qS
 [q 4 (.mv (qI 3))] [4] .ret) .skip)) (qS [q0 9 0, q0 10 0, q5 11 10, q3 12 8 11, q4 13 12, q0 14 1, q 15 (.app 16 qP (.t 13) (.t 14)), q5 16 9, q3 17 8 16, q6 1 17 15] [0,1] (qS [q0 18 0, q5 19 18, q3 20 9 19, q4 21 20, q0 22 1, q 23 (.len
 .s (.t 22)), q 24 (.cv .u64 (.t 23)), q 25 (.bin .add (.t 21) (.t 24)), q5 26 18, q3 27 9 26, q6 1 27 25] [0] (qS [q0 28 0, q0 29 0, q5 30 29, q3 31 8 30, q4 32 31, q 33 (.len .s (.t 32)), q 34 (.bin .sub (.t 33) (qI 16)), q 35 (.mm true (.t
 34) (qI 0)), q 36 (.call 87 [none, none] [.t 28, .t 35])] [] (qS [q 4 (.mv (qI 0))] [4] .ret))))))
def r26 : List RT := [.t 4]
def a27 : AS := qS [q 4 (.mv (qI 0))] [0,1] (.seq (qS [q0 7 1, q 8 (.len .s (.t 7)), q 9 (.mv (qI 0))] [0,1,8,9] (.block 0 (.lift 0 (some 8) 16 qP (.loop 1 [0,1,8,9] (qS [q 10 (.bin .lss (.t 9) (.t 8))] [0,1,8,9,10] (.seq (.cond (.t 10) .skip (.exit 0))
 (.seq (.block 1 (qS [q0 11 9, q0 5 11] [0,1,5,8,9] (qS [q0 12 1, q0 13 5, q 14 (.ia 2 (.t 12) (.t 13)), q3 15 0 14, q4 16 15, q 17 (.bin .lss (.t 16) (qI 0)), q0 18 17, q2 19 1 18, q2 20 5 18, qF 21 (.ia 2 (.t 19) (.t 20)) 18, qF 22 (.fa 0
 (.t 21)) 18, qF 23 (.ld (.t 22)) 18, qF 24 (.bin .gtr (.t 23) (qI 7)) 18, q 25 (.pick (.t 18) qt (.t 24))] [0,1,8,9,25] (.cond (.t 25) (qS [q 4 (.mv (qI 3))] [4] .ret) .skip)))) (.reg [q 26 (.bin .add (.t 9) (qI 1)), q0 9 26]
 [0,1,8,9])))))))) (.seq (qS [q0 27 1, q 28 (.len .s (.t 27)), q 29 (.mv (qI 0))] [0,1,28,29] (.block 2 (.lift 0 (some 8) 16 qP (.swp 1 0 8 (.loop 2 [0,1,28,29] (qS [q 30 (.bin .lss (.t 29) (.t 28))] [0,1,28,29,30] (.seq (.cond (.t 30) .skip
 (.exit 2)) (.seq (.block 3 (qS [q0 31 29, q0 6 31] [0,1,6,28,29] (.seq (.regD [q0 32 0, q0 33 0, q5 34 33, q3 35 8 34, q4 36 35, q0 37 1, q0 38 6, q 39 (.ia 2 (.t 37) (.t 38)), q 40 (.ldA 2 (.t 39)), q 41 (.bsl 16 qP 1 [(0, (.t 40))]), q 42
 (.app 16 qP (.t 36) (.t 41)), q5 43 32, q3 44 8 43, q6 1 44 42] [.q 0, .q 1, .q 2, .q 3, .q 4, .q 5, .q 6, .q 7, .q 8, .e 9 [0,1,2,3,4], .e 10 [0], .q 11, .q 12, .e 13 []] [0,1,28,29]) (qS [q0 45 0, q5 46 45, q3 47 9 46, q4 48 47, q 49 (.bin
 .add (.t 48) (.c (.int .u64 1))), q5 50 45, q3 51 9 50, q6 1 51 49] [0,1,28,29] (qS [q0 52 0, q5 53 52, q3 54 8 53, q4 55 54, q 56 (.len .s (.t 55)), q 57 (.bin .gtr (.t 56) (qI 16))] [0,1,28,29,57] (.cond (.t 57) (.reg [q0 58 0, qX 88 59
 [.t 58]] [0,1,28,29]) .skip)))))) (.reg [q 60 (.bin .add (.t 29) (qI 1)), q0 29 60] [0,1,28,29]))))))))) (qS [q 4 (.mv (qI 0))] [4] .ret)))
def r27 : List RT := [.t 4]
def a28 : AS := qS [q 2 (.mv (.c (.nils)))] [0] (qS [q 3 (.mv (.c (.nils)))] [0,3] (.seq (qS [q0 5 0, q 6 (.len .s (.t 5)), q 7 (.mv (qI 0))] [0,3,6,7] (.block 0 (.lift 3 none 56 qD (.loop 1 [0,3,6,7] (qS [q 8 (.bin .lss (.t 7) (.t 6))] [0,3,6,7,8] (.seq
 (.cond (.t 8) .skip (.exit 0)) (.seq (.block 1 (qS [q0 9 7, q0 4 9] [0,3,4,6,7] (.reg [q0 10 3, q0 11 0, q0 12 4, q 13 (.ia 4 (.t 11) (.t 12)), q 14 (.ldA 4 (.t 13)), qX 78 15 [.t 14], q 16 (.bsl 56 qD 1 [(0, (.t 15))]), q 17 (.app 56 qD (.t
 10) (.t 16)), q0 3 17] [0,3,6,7]))) (.reg [q 18 (.bin .add (.t 7) (qI 1)), q0 7 18] [0,3,6,7])))))))) (qS [q0 19 3, q0 2 19] [2] (.lift 2 none 56 qD .ret))))
def r28 : List RT := [.t 2]
def a72 : AS := qS [q 0 (.mv (.c (.nilp)))] [] (qS [q 1 (.bld [.arr 8 (.int .i64) (List.replicate 8 (Ty.dflt (.int .i64))), .nils, .int .u64 0] []), q 2 (.box (.t 1)), q0 0 2] [0] (.lift 0 (some 8) 16 qP .ret))
def r72 : List RT := [.t 0]
def a56 : AS := qS [q 2 (.mv qf)] [0] (.seq (qS [q0 5 0, q 6 (.eqn false .p (.t 5) (.c (.nilp))), q0 7 6, q2 8 0 7, qF 9 (.nck (.t 8)) 7, qF 10 (.fa 0 (.t 9)) 7, qF 11 (.ld (.t 10)) 7, qF 12 (.eqn false .p (.t 11) (.c (.nilp))) 7, q 13 (.pick (.t 7) qt (.t
 12)), q0 14 13, q2 15 0 14, qF 16 (.nck (.t 15)) 14, qF 17 (.fa 1 (.t 16)) 14, qF 18 (.ld (.t 17)) 14, qF 19 (.eqn false .p (.t 18) (.c (.nilp))) 14, q 20 (.pick (.t 14) qt (.t 19)), q0 21 20, q2 22 0 21, qF 23 (.call 44 [none] [.t 22]) 21,
 qF 24 (.bin .eql (.t 23) (.c (qE))) 21, q 25 (.pick (.t 21) qt (.t 24)), q0 26 25, q2 27 0 26, qF 28 (.nck (.t 27)) 26, qF 29 (.fa 3 (.t 28)) 26, qF 30 (.ld (.t 29)) 26, qF 31 (.bin .lss (.t 30) (qI 0)) 26, q 32 (.pick (.t 26) qt (.t 31)),
 q0 33 32, q2 34 0 33, qF 35 (.nck (.t 34)) 33, qF 36 (.fa 3 (.t 35)) 33, qF 37 (.ld (.t 36)) 33, qF 38 (.bin .geq (.t 37) (qI 3)) 33, q 39 (.pick (.t 33) qt (.t 38)), q0 40 39, q2 41 0 40, qF 42 (.nck (.t 41)) 40, qF 43 (.fa 3 (.t 42)) 40,
 qF 44 (.ld (.t 43)) 40, qF 45 (.bin .gtr (.t 44) (qI 0)) 40, q2 46 45 40, q1 47 0 46, qT 48 (.nck (.t 47)) 46, qT 49 (.fa 1 (.t 48)) 46, qT 50 (.ld (.t 49)) 46, qT 51 (.call 11 [none] [.t 50]) 46, qT 52 (.bin .eql (.t 51) (qI 0)) 46, qF 53
 (.pick (.t 46) (.t 52) qf) 40, q 54 (.pick (.t 40) qt (.t 53)), q0 55 54, q2 56 0 55, qF 57 (.nck (.t 56)) 55, qF 58 (.fa 4 (.t 57)) 55, qF 59 (.ld (.t 58)) 55, qF 60 (.len .s (.t 59)) 55, qF 61 (.bin .gtr (.t 60) (qI 8)) 55, q 62 (.pick (.t
 55) qt (.t 61))] [0,62] (.cond (.t 62) (qS [q 2 (.mv qf)] [2] .ret) .skip)) (.seq (qS [q0 63 0, q5 64 63, q3 65 4 64, q4 66 65, q 67 (.len .s (.t 66)), q 68 (.mv (qI 0))] [66,67,68] (.block 0 (.loop 1 [66,67,68] (qS [q 69 (.bin .lss (.t 68)
 (.t 67))] [66,67,68,69] (.seq (.cond (.t 69) .skip (.exit 0)) (.seq (.block 1 (qS [q 70 (.ia 4 (.t 66) (.t 68)), q 71 (.ldA 4 (.t 70)), q 4 (.alc [qE, .int .u64 0, .int .i64 0, .nils]), q6 4 4 71] [4,66,67,68] (qS [q 72 (.ldA 4 (.t 4)), qX
 74 73 [.t 72], q 74 (.not (.t 73))] [66,67,68,74] (.cond (.t 74) (qS [q 2 (.mv qf)] [2] .ret) .skip)))) (.reg [q 75 (.bin .add (.t 68) (qI 1)), q0 68 75] [66,67,68]))))))) (qS [q 2 (.mv qt)] [2] .ret)))
def r56 : List RT := [.t 2]
def a57 : AS := qS [q 2 (.mv (.c (.nils))), q 3 (.mv (qI 0))] [0] (qS [q 7 (.call 58 [] []), q0 4 7] [0,4] (qS [q0 8 4, q0 9 0, q 10 (.len .s (.t 9)), q 11 (.cv .u64 (.t 10)), q 12 (.call 59 [none, none] [.t 8, .t 11])] [0,4] (.seq (qS [q0 13 0, q 14 (.len
 .s (.t 13)), q 15 (.mv (qI 0))] [4,13,14,15] (.block 0 (.lift 4 (some 0) 1 .byte (.loop 1 [4,13,14,15] (qS [q 16 (.bin .lss (.t 15) (.t 14))] [4,13,14,15,16] (.seq (.cond (.t 16) .skip (.exit 0)) (.seq (.block 1 (qS [q 17 (.ia 4 (.t 13) (.t
 15)), q 18 (.ldA 4 (.t 17)), q 6 (.alc [qE, .int .u64 0, .int .i64 0, .nils]), q6 4 6 18] [4,6,13,14,15] (.seq (qS [q 19 (.ldA 4 (.t 6)), qX 74 20 [.t 19], q 21 (.not (.t 20))] [4,6,13,14,15,21] (.cond (.t 21) (qS [q 2 (.mv (.c (.nils))), q
 3 (.mv (qI 1))] [2,3] (.lift 2 none 1 .byte .ret)) .skip)) (.reg [q0 22 4, q 23 (.ldA 4 (.t 6)), q 24 (.call 106 [none, none] [.t 22, .t 23])] [4,13,14,15])))) (.reg [q 25 (.bin .add (.t 15) (qI 1)), q0 15 25] [4,13,14,15])))))))) (qS [q0 26
 4, qX 63 27 [.t 26], q0 2 27, q 3 (.mv (qI 0))] [2,3] (.lift 2 none 1 .byte .ret)))))
def r57 : List RT := [.t 2, .t 3]
def a60 : AS := qS [q 2 (.mv (.c (.nils)))] [0] (.seq (qS [q0 8 0, q 9 (.eqn false .p (.t 8) (.c (.nilp)))] [0,9] (.cond (.t 9) (qS [q 2 (.mv (.c (.nils)))] [2] (.lift 2 none 1 .byte .ret)) .skip)) (qS [q 10 (.call 58 [] []), q0 3 10] [0,3] (qS [q0 11 3, q0
 12 0, q5 13 12, q3 14 9 13, q4 15 14, q 16 (.call 59 [none, none] [.t 11, .t 15])] [0,3] (.seq (qS [q0 17 0, q5 18 17, q3 19 0 18, q 20 (.ldA 8 (.t 19)), q 21 (.mv (qI 0))] [0,3,20,21] (.block 0 (.lift 0 (some 8) 16 qP (.lift 3 (some 0) 1
 .byte (.loop 1 [0,3,20,21] (qS [q 22 (.bin .lss (.t 21) (qI 8))] [0,3,20,21,22] (.seq (.cond (.t 22) .skip (.exit 0)) (.seq (.block 1 (qS [q 23 (.ixA 8 (.t 20) (.t 21)), q0 5 23] [0,3,5,20,21] (.reg [q0 24 3, q0 25 5, q 26 (.call 108 [none,
 none] [.t 24, .t 25])] [0,3,20,21]))) (.reg [q 27 (.bin .add (.t 21) (qI 1)), q0 21 27] [0,3,20,21]))))))))) (qS [q0 28 3, q0 29 0, q5 30 29, q3 31 8 30, q4 32 31, q 33 (.len .s (.t 32)), q 34 (.cv .u64 (.t 33)), q 35 (.call 59 [none, none]
 [.t 28, .t 34])] [0,3] (.seq (qS [q0 36 0, q5 37 36, q3 38 8 37, q4 39 38, q 40 (.len .s (.t 39)), q 41 (.mv (qI 0))] [3,39,40,41] (.block 2 (.lift 3 (some 0) 1 .byte (.loop 2 [3,39,40,41] (qS [q 42 (.bin .lss (.t 41) (.t 40))]
 [3,39,40,41,42] (.seq (.cond (.t 42) .skip (.exit 2)) (.seq (.block 3 (qS [q 43 (.ia 2 (.t 39) (.t 41)), q 44 (.ldA 2 (.t 43)), q 7 (.alc [.int .i64 0, .int .i64 0]), q6 2 7 44] [3,7,39,40,41] (qS [q0 45 3, q3 46 0 7, q4 47 46, q 48 (.cv
 .u64 (.t 47)), q 49 (.call 59 [none, none] [.t 45, .t 48])] [3,7,39,40,41] (.reg [q0 50 3, q3 51 1 7, q4 52 51, q 53 (.call 108 [none, none] [.t 50, .t 52])] [3,39,40,41])))) (.reg [q 54 (.bin .add (.t 41) (qI 1)), q0 41 54]
 [3,39,40,41])))))))) (qS [q0 55 3, qX 63 56 [.t 55], q0 2 56] [2] (.lift 2 none 1 .byte .ret))))))))
def r60 : List RT := [.t 2]
def a61 : AS := qS [q 2 (.mv (.c (.nils)))] [0] (.seq (qS [q0 5 0, q 6 (.eqn false .p (.t 5) (.c (.nilp)))] [0,6] (.cond (.t 6) (qS [q 2 (.mv (.c (.nils)))] [2] (.lift 2 none 1 .byte .ret)) .skip)) (qS [q0 8 0, q5 9 8, q3 10 0 9, q4 11 10, q 12 (.call 57
 [(some (56, qD))] [.t 11]), q0 7 12, q 13 (.ext (.t 7) 0), q 14 (.ext (.t 7) 1), q0 3 13, q0 4 14] [3] (qS [q0 15 3, q0 2 15] [2] (.lift 2 none 1 .byte .ret))))
def r61 : List RT := [.t 2]
def a36 : AS := qS [q 6 (.mv qf)] [0,1,2] (.seq (qS [q0 8 0, q 9 (.bin .lss (.t 8) (qI 0)), q0 10 9, q2 11 0 10, qF 12 (.bin .gtr (.t 11) (qI 2)) 10, q 13 (.pick (.t 10) qt (.t 12)), q0 14 13, q2 15 0 14, qF 16 (.bin .gtr (.t 15) (qI 0)) 14, q2 17 16 14, q1
 18 1 17, qT 19 (.bin .eql (.t 18) (qI 0)) 17, qF 20 (.pick (.t 17) (.t 19) qf) 14, q 21 (.pick (.t 14) qt (.t 20)), q0 22 21, q2 23 2 22, qF 24 (.len .s (.t 23)) 22, qF 25 (.bin .gtr (.t 24) (qI 8)) 22, q 26 (.pick (.t 22) qt (.t 25))]
 [2,26] (.cond (.t 26) (qS [q 6 (.mv qf)] [6] .ret) .skip)) (.seq (qS [q0 27 2, q 28 (.len .s (.t 27)), q 29 (.mv (qI 0))] [2,28,29] (.block 0 (.loop 1 [2,28,29] (qS [q 30 (.bin .lss (.t 29) (.t 28))] [2,28,29,30] (.seq (.cond (.t 30) .skip
 (.exit 0)) (.seq (.block 1 (qS [q0 31 29, q0 7 31] [2,7,28,29] (qS [q0 32 2, q0 33 7, q 34 (.ia 4 (.t 32) (.t 33)), q 35 (.ldA 4 (.t 34)), qX 77 36 [.t 35], q 37 (.not (.t 36))] [2,28,29,37] (.cond (.t 37) (qS [q 6 (.mv qf)] [6] .ret)
 .skip)))) (.reg [q 38 (.bin .add (.t 29) (qI 1)), q0 29 38] [2,28,29]))))))) (qS [q 6 (.mv qt)] [6] .ret)))
def r36 : List RT := [.t 6]
def a85 : AS := qS [q 4 (.mv qf)] [0,1] (qS [q0 5 0, q0 6 1, q 7 (.call 113 [none, none] [.t 5, .t 6]), q 8 (.bin .geq (.t 7) (qI 0)), q0 4 8] [4] .ret)
def r85 : List RT := [.t 4]
def a86 : AS := qS [q 1 (.box (.t 0)), q 2 (.mv qf)] [1] (qS [q3 3 0 1, q4 4 3, q 5 (.bin .lss (.t 4) (qI 0)), q0 6 5, qF 7 (.fa 0 (.t 1)) 6, qF 8 (.ld (.t 7)) 6, qF 9 (.bin .geq (.t 8) (qI 8)) 6, q 10 (.pick (.t 6) qt (.t 9)), q0 2 10] [2] .ret)
def r86 : List RT := [.t 2]
def a87 : AS := .seq (qS [q0 6 0, q5 7 6, q3 8 8 7, q4 9 8, q0 10 1, q 11 (.slR 2 (.t 9) none (some (.t 10))), q 12 (.len .s (.t 11)), q 13 (.mv (qI 0))] [0,1,11,12,13] (.block 0 (.lift 0 (some 8) 16 qP (.loop 1 [0,1,11,12,13] (qS [q 14 (.bin .lss (.t 13)
 (.t 12))] [0,1,11,12,13,14] (.seq (.cond (.t 14) .skip (.exit 0)) (.seq (.block 1 (qS [q 15 (.ia 2 (.t 11) (.t 13)), q 16 (.ldA 2 (.t 15)), q 5 (.alc [.int .i64 0, .int .i64 0]), q6 2 5 16] [0,1,5,11,12,13] (.regD [q0 17 0, q3 18 0 5, q4 19
 18, q3 20 1 5, q4 21 20, q5 22 17, q3 23 0 22, q 24 (.iaA 8 1 (.t 23) (.t 19)), q6 1 24 21] [.q 0, .q 1, .q 2, .q 3, .q 4, .q 5, .q 6, .q 7, .e 8 []] [0,1,11,12,13]))) (.reg [q 25 (.bin .add (.t 13) (qI 1)), q0 13 25] [0,1,11,12,13]))))))))
 (.reg [q0 26 0, q0 27 0, q5 28 27, q3 29 8 28, q4 30 29, q0 31 1, q 32 (.slR 2 (.t 30) (some (.t 31)) none), qX 114 33 [.t 32], q5 34 26, q3 35 8 34, q6 1 35 33] [])
def r87 : List RT := [.w 1 0 8]
def a88 : AS := .seq (.regD [q0 2 0, q0 3 0, q5 4 3, q3 5 8 4, q4 6 5, q 7 (.ia 2 (.t 6) (qI 0)), q3 8 0 7, q4 9 8, q0 10 0, q5 11 10, q3 12 8 11, q4 13 12, q 14 (.ia 2 (.t 13) (qI 0)), q3 15 1 14, q4 16 15, q5 17 2, q3 18 0 17, q 19 (.iaA 8 1 (.t 18) (.t
 9)), q6 1 19 16] [.q 0, .q 1, .q 2, .q 3, .q 4, .q 5, .q 6, .q 7, .q 8, .q 9, .q 10, .q 11, .q 12, .q 13, .q 14, .q 15, .q 16, .q 17, .e 18 []] [0]) (.reg [q0 20 0, q 21 (.bsl 16 qP 0 []), q0 22 0, q5 23 22, q3 24 8 23, q4 25 24, q 26 (.slR
 2 (.t 25) (some (qI 1)) none), q 27 (.app 16 qP (.t 21) (.t 26)), q5 28 20, q3 29 8 28, q6 1 29 27] [])
def r88 : List RT := [.w 1 0 8]
def a113 : AS := qS [q 4 (.mv (qI 0))] [0,1] (.seq (qS [q0 6 0, q 7 (.len .s (.t 6)), q 8 (.mv (qI 0))] [0,1,7,8] (.block 0 (.loop 1 [0,1,7,8] (qS [q 9 (.bin .lss (.t 8) (.t 7))] [0,1,7,8,9] (.seq (.cond (.t 9) .skip (.exit 0)) (.seq (.block 1 (qS [q0 10 8,
 q0 5 10] [0,1,5,7,8] (qS [q0 11 1, q0 12 0, q0 13 5, q 14 (.ia 2 (.t 12) (.t 13)), q 15 (.ldA 2 (.t 14)), q 16 (.callv (.t 11) [none] [.t 15])] [0,1,5,7,8,16] (.cond (.t 16) (qS [q0 17 5, q0 4 17] [4] .ret) .skip)))) (.reg [q 18 (.bin .add
 (.t 8) (qI 1)), q0 8 18] [0,1,7,8]))))))) (qS [q 4 (.mv (qI (-1)))] [4] .ret))
def r113 : List RT := [.t 4]
def a114 : AS := qS [q 2 (.mv (.c (.nils)))] [0] (.seq (qS [q0 3 0, q 4 (.isn false (.t 3))] [0,4] (.cond (.t 4) (qS [q 2 (.mv (.c (.nils)))] [2] (.lift 2 none 16 qP .ret)) .skip)) (qS [q 5 (.bsl 16 qP 0 []), q0 6 0, q 7 (.app 16 qP (.t 5) (.t 6)), q0 2 7]
 [2] (.lift 2 none 16 qP .ret)))
def r114 : List RT := [.t 2]
theorem ok8 : okF Tryz.prog 8 a8 r8 6 = true := by decide +kernel
theorem ok18 : okF Tryz.prog 18 a18 r18 1 = true := by decide +kernel
theorem ok16 : okF Tryz.prog 16 a16 r16 1 = true := by decide +kernel
theorem ok54 : okF Tryz.prog 54 a54 r54 1 = true := by decide +kernel
theorem ok55 : okF Tryz.prog 55 a55 r55 1 = true := by decide +kernel
theorem ok44 : okF Tryz.prog 44 a44 r44 1 = true := by decide +kernel
theorem ok73 : okF Tryz.prog 73 a73 r73 0 = true := by decide +kernel
theorem ok19 : okF Tryz.prog 19 a19 r19 2 = true := by decide +kernel
theorem ok11 : okF Tryz.prog 11 a11 r11 1 = true := by decide +kernel
theorem ok52 : okF Tryz.prog 52 a52 r52 1 = true := by decide +kernel
theorem ok22 : okF Tryz.prog 22 a22 r22 1 = true := by decide +kernel
theorem ok23 : okF Tryz.prog 23 a23 r23 2 = true := by decide +kernel
theorem ok26 : okF Tryz.prog 26 a26 r26 2 = true := by decide +kernel
theorem ok27 : okF Tryz.prog 27 a27 r27 2 = true := by decide +kernel
theorem ok28 : okF Tryz.prog 28 a28 r28 1 = true := by decide +kernel
theorem ok72 : okF Tryz.prog 72 a72 r72 0 = true := by decide +kernel
theorem ok56 : okF Tryz.prog 56 a56 r56 1 = true := by decide +kernel
theorem ok57 : okF Tryz.prog 57 a57 r57 1 = true := by decide +kernel
theorem ok60 : okF Tryz.prog 60 a60 r60 1 = true := by decide +kernel
theorem ok61 : okF Tryz.prog 61 a61 r61 1 = true := by decide +kernel
theorem ok36 : okF Tryz.prog 36 a36 r36 3 = true := by decide +kernel
theorem ok85 : okF Tryz.prog 85 a85 r85 2 = true := by decide +kernel
theorem ok86 : okF Tryz.prog 86 a86 r86 1 = true := by decide +kernel
theorem ok87 : okF Tryz.prog 87 a87 r87 2 = true := by decide +kernel
theorem ok88 : okF Tryz.prog 88 a88 r88 1 = true := by decide +kernel
theorem ok113 : okF Tryz.prog 113 a113 r113 2 = true := by decide +kernel
theorem ok114 : okF Tryz.prog 114 a114 r114 1 = true := by decide +kernel
end Go.V
namespace Go.V
open Go.Proofs
set_option maxRecDepth 100000
set_option linter.unusedSimpArgs false
set_option linter.unnecessarySimpa false
set_option linter.unusedVariables false
/-! ### numbers as bytes -/
def klen (n : Nat) : Nat := if n < 256 then 1 else if n < 65536 then 2 else if n < 16777216 then 3 else if n < 4294967296 then 4 else if n < 1099511627776 then 5 else if n < 281474976710656 then 6 else if n < 72057594037927936 then 7 else 8
def beB (k n : Nat) : List UInt8 := (List.range k).map fun j => UInt8.ofNat (n / 256 ^ (k - 1 - j))
def numB (n : Int) : List UInt8 := if n < 248 then [UInt8.ofNat n.toNat] else UInt8.ofNat (247 + klen n.toNat) :: beB (klen n.toNat) n.toNat
def textB (s : ByteArray) : List UInt8 := numB s.size ++ s.data.toList
def zig (n : Int) : Int := if 0 ≤ n then 2 * n else -2 * n - 1
def unz (n : Int) : Int := if n % 2 = 0 then n / 2 else -(n / 2) - 1
def beN (l : List UInt8) : Nat := l.foldl (fun a b => a * 256 + b.toNat) 0
theorem klen_pos (n : Nat) : 1 ≤ klen n ∧ klen n ≤ 8 := by unfold klen; (repeat' split) <;> omega
theorem klen_of {n k : Int} (h : (k = 1 ∧ n < 256) ∨ (k = 2 ∧ 256 ≤ n ∧ n < 65536) ∨ (k = 3 ∧ 65536 ≤ n ∧ n < 16777216) ∨ (k = 4 ∧ 16777216 ≤ n ∧ n < 4294967296) ∨ (k = 5 ∧ 4294967296 ≤ n ∧ n < 1099511627776) ∨
  (k = 6 ∧ 1099511627776 ≤ n ∧ n < 281474976710656) ∨ (k = 7 ∧ 281474976710656 ≤ n ∧ n < 72057594037927936) ∨ (k = 8 ∧ 72057594037927936 ≤ n)) : (klen n.toNat : Int) = k := by
 unfold klen
 rcases h with h | h | h | h | h | h | h | h <;> (repeat' split) <;> omega
theorem klen_lo {n : Int} (h : 256 ≤ n) : ∀ j : Nat, j + 1 < klen n.toNat → (256 : Int) ^ (j + 1) ≤ n := by
 intro j hj
 have h8 := (klen_pos n.toNat).2
 unfold klen at hj
 have : j = 0 ∨ j = 1 ∨ j = 2 ∨ j = 3 ∨ j = 4 ∨ j = 5 ∨ j = 6 := by unfold klen at h8; omega
 rcases this with rfl | rfl | rfl | rfl | rfl | rfl | rfl <;> simp <;> (revert hj; (repeat' split) <;> omega)
theorem klen_hi {n : Int} (h : n ≤ 18446744073709551615) : n < (256 : Int) ^ (klen n.toNat) := by
 unfold klen
 (repeat' split) <;> simp <;> omega
theorem beB_length (k n : Nat) : (beB k n).length = k := by simp [beB]
theorem beB_get {k n j : Nat} (h : j < k) : (beB k n)[j]? = some (UInt8.ofNat (n / 256 ^ (k - 1 - j))) := by simp [beB, h]
theorem numB_length (n : Int) : 1 ≤ (numB n).length ∧ (numB n).length ≤ 9 := by
 unfold numB
 split
 ·simp
 ·have := klen_pos n.toNat
  simp [beB_length]; omega
theorem textB_length (s : ByteArray) : (textB s).length ≤ s.size + 9 := by
 have := (numB_length s.size).2
 have h : s.data.toList.length = s.size := by rw [Array.length_toList]; rfl
 simp only [textB, List.length_append, h]; omega
def lenT : ByteArray := ⟨#[0, 1, 2, 2, 3, 3, 3, 3, 4, 4, 4, 4, 4, 4, 4, 4, 5, 5, 5, 5, 5, 5, 5, 5, 5, 5, 5, 5, 5, 5, 5, 5, 6, 6, 6, 6, 6, 6, 6, 6, 6, 6, 6, 6, 6, 6, 6, 6, 6, 6, 6, 6, 6, 6, 6, 6, 6, 6, 6, 6, 6, 6, 6, 6, 7, 7, 7, 7, 7, 7, 7, 7, 7, 7, 7, 7, 7, 7, 7, 7, 7, 7, 7, 7, 7, 7, 7, 7, 7, 7, 7, 7, 7, 7, 7, 7, 7, 7, 7, 7, 7, 7, 7, 7, 7, 7, 7, 7, 7, 7, 7, 7, 7, 7, 7, 7, 7, 7, 7, 7, 7, 7, 7, 7, 7, 7, 7, 7, 8, 8, 8, 8, 8, 8, 8, 8, 8, 8, 8, 8, 8, 8, 8, 8, 8, 8, 8, 8, 8, 8, 8, 8, 8, 8, 8, 8, 8, 8, 8, 8, 8, 8, 8, 8, 8, 8, 8, 8, 8, 8, 8, 8, 8, 8, 8, 8, 8, 8, 8, 8, 8, 8, 8, 8, 8, 8, 8, 8, 8, 8, 8, 8, 8, 8, 8, 8, 8, 8, 8, 8, 8, 8, 8, 8, 8, 8, 8, 8, 8, 8, 8, 8, 8, 8, 8, 8, 8, 8, 8, 8, 8, 8, 8, 8, 8, 8, 8, 8, 8, 8, 8, 8, 8, 8, 8, 8, 8, 8, 8, 8, 8, 8, 8, 8, 8, 8, 8, 8, 8, 8, 8, 8, 8, 8, 8, 8]⟩
def lenL : List UInt8 := lenT.data.toList
theorem lenL_get : ∀ i : Fin 256, 1 ≤ i.val → 1 ≤ ((lenL.getD i.val 0).toNat) ∧ (lenL.getD i.val 0).toNat ≤ 8 := by decide +kernel
theorem fd32 {n : Int} : n.fdiv (2 ^ min 32 64) = n / 4294967296 := by rw [Int.fdiv_eq_ediv_of_nonneg _ (by decide)]; rfl
theorem fd16 {n : Int} : n.fdiv (2 ^ min 16 64) = n / 65536 := by rw [Int.fdiv_eq_ediv_of_nonneg _ (by decide)]; rfl
theorem fd8 {n : Int} : n.fdiv (2 ^ min 8 64) = n / 256 := by rw [Int.fdiv_eq_ediv_of_nonneg _ (by decide)]; rfl
theorem len_tail {K : SV → List SB → Prop} {x L : Int} (hx : 1 ≤ x ∧ x ≤ 255) (hL : 0 ≤ L ∧ L ≤ 56) (h : ∀ t : Int, 1 ≤ t → t ≤ 8 → K (.int .i64 (L + t)) []) :
  inR .u64 x → ∀ m2 : Int, m2 = IntKind.u8.wrap x → nd (0 ≤ m2 ∧ m2 < (lenT.size : Int)) (∀ m3 : Int, m3 = ((lenL.getD m2.toNat 0).toNat : Int) → inR .u8 m3 → ∀ m4 : Int, m4 = IntKind.i64.wrap m3 → inR .i64 L → inR .i64 m4 → ∀ m5 : Int, m5 = IntKind.i64.wrap (L + m4) → K (.int .i64 m5) []) := by
 rintro _ m2 hm2
 rw [wu8 (by omega)] at hm2
 subst hm2
 refine nd_intro ⟨by omega, ?_⟩ ?_
 ·have : lenT.size = 256 := by decide +kernel
  rw [this]; omega
 ·rintro m3 hm3 _ m4 hm4 _ _ m5 hm5
  obtain ⟨i, rfl⟩ := Int.eq_ofNat_of_zero_le (show 0 ≤ m2 by omega)
  have := lenL_get ⟨i, by omega⟩ (by show 1 ≤ i; omega)
  simp only [Int.toNat_natCast] at hm3
  simp only at this
  rw [w64 (by omega)] at hm4
  subst hm4
  rw [w64 (by omega)] at hm5
  subst hm5
  exact h _ (by omega) (by omega)
def C107 : Contract := fun args hp K => match args, hp with
 | [.int .u64 n], [] => 1 ≤ n ∧ ∀ l : Int, 1 ≤ l → l ≤ 64 → (l + 7) / 8 = klen n.toNat → K (.int .i64 l) []
 | _, _ => False
theorem s107 : Sound Tryz.prog 107 C107 := by
 refine sound_of_okF ok107 .nil ?_
 intro args hp K h
 unfold C107 at h
 split at h
 ·rename_i n
  obtain ⟨hn, h⟩ := h
  refine ⟨by simp, [], ?_⟩
  simp (maxSteps:=9^9) only [a107, r107, go_sem, Int.reduceLE, Int.reduceAdd, Int.reduceToNat, Nat.reduceBEq]
  have fin : ∀ L : Int, L % 8 = 0 → 0 ≤ L → L ≤ 56 → (klen n.toNat : Int) = L / 8 + 1 → ∀ t : Int, 1 ≤ t → t ≤ 8 → K (.int .i64 (L + t)) [] :=
   fun L h1 h2 h3 h4 t h5 h6 => h _ (by omega) (by omega) (by omega)
  rintro c1 hc1
  refine sw_intro (fun h1 => ?_) (fun h1 => ?_) <;> simp only [hc1, decide_eq_true_eq, decide_eq_false_iff_not] at h1
  ·rintro hn2 _ m1 rfl c2 hc2
   rw [inR_u64] at hn2
   rw [fd32] at hc2 ⊢
   refine sw_intro (fun h2 => ?_) (fun h2 => ?_) <;> simp only [hc2, decide_eq_true_eq, decide_eq_false_iff_not] at h2
   ·rintro _ _ m2 rfl _ _ L1 hL1 c3 hc3
    rw [w64 (by omega)] at hL1
    subst hL1
    rw [fd16] at hc3 ⊢
    refine sw_intro (fun h3 => ?_) (fun h3 => ?_) <;> simp only [hc3, decide_eq_true_eq, decide_eq_false_iff_not] at h3
    ·rintro _ _ m3 rfl _ _ L2 hL2
     rw [w64 (by omega)] at hL2
     subst hL2
     rw [fd8]
     refine len_tail ?_ ?_ (fin _ ?_ ?_ ?_ ?_) <;> first | omega | (refine klen_of ?_; omega)
    ·refine len_tail ?_ ?_ (fin _ ?_ ?_ ?_ ?_) <;> first | omega | (refine klen_of ?_; omega)
   ·rintro c3 hc3
    refine sw_intro (fun h3 => ?_) (fun h3 => ?_) <;> simp only [hc3, decide_eq_true_eq, decide_eq_false_iff_not] at h3
    ·rintro _ _ m3 rfl _ _ L2 hL2
     rw [w64 (by omega)] at hL2
     subst hL2
     rw [fd8]
     refine len_tail ?_ ?_ (fin _ ?_ ?_ ?_ ?_) <;> first | omega | (refine klen_of ?_; omega)
    ·refine len_tail ?_ ?_ (fin _ ?_ ?_ ?_ ?_) <;> first | omega | (refine klen_of ?_; omega)
  ·rintro c2 hc2
   refine sw_intro (fun h2 => ?_) (fun h2 => ?_) <;> simp only [hc2, decide_eq_true_eq, decide_eq_false_iff_not] at h2
   ·rintro _ _ m2 rfl _ _ L1 hL1 c3 hc3
    rw [w64 (by omega)] at hL1
    subst hL1
    rw [fd16] at hc3 ⊢
    refine sw_intro (fun h3 => ?_) (fun h3 => ?_) <;> simp only [hc3, decide_eq_true_eq, decide_eq_false_iff_not] at h3
    ·rintro _ _ m3 rfl _ _ L2 hL2
     rw [w64 (by omega)] at hL2
     subst hL2
     rw [fd8]
     refine len_tail ?_ ?_ (fin _ ?_ ?_ ?_ ?_) <;> first | omega | (refine klen_of ?_; omega)
    ·refine len_tail ?_ ?_ (fin _ ?_ ?_ ?_ ?_) <;> first | omega | (refine klen_of ?_; omega)
   ·rintro c3 hc3
    refine sw_intro (fun h3 => ?_) (fun h3 => ?_) <;> simp only [hc3, decide_eq_true_eq, decide_eq_false_iff_not] at h3
    ·rintro _ _ m3 rfl _ _ L2 hL2
     rw [w64 (by omega)] at hL2
     subst hL2
     rw [fd8]
     refine len_tail ?_ ?_ (fin _ ?_ ?_ ?_ ?_) <;> first | omega | (refine klen_of ?_; omega)
    ·refine len_tail ?_ ?_ (fin _ ?_ ?_ ?_ ?_) <;> first | omega | (refine klen_of ?_; omega)
 ·exact h.elim
def wrH (b : Bool) (bs : List UInt8) : List SB := [.struct [.own 1], .row b 1 .byte bs]
def onWr (hp : List SB) (k : List UInt8 → Prop) : Prop := ∃ bs, hp = wrH false bs ∧ k bs
@[go_sem] theorem onWr_eq {bs k} : onWr [.struct [.own 1], .row false 1 .byte (no_index bs)] k = k bs := by
 apply propext; constructor
 ·rintro ⟨bs', h, hk⟩
  unfold wrH at h
  cases h
  exact hk
 ·exact fun h => ⟨bs, rfl, h⟩
def C58 : Contract := fun args hp K => match args, hp with
 | [], [] => K (.ptr 0 0) (wrH true [])
 | _, _ => False
theorem s58 : Sound Tryz.prog 58 C58 := by
 refine sound_of_okF ok58 .nil ?_
 intro args hp K h
 unfold C58 at h
 split at h
 ·refine ⟨by simp, [], ?_⟩
  simp (maxSteps:=9^9) only [a58, r58, go_sem, Nat.reduceSub, Nat.reduceBEq, Nat.reduceAdd]
  exact h
 ·exact h.elim
theorem u8wrap (x : Int) : IntKind.u8.wrap x = x % 256 := by
 simp [IntKind.wrap, IntKind.signed, IntKind.bits]
theorem byte_at {n : Int} (h : 0 ≤ n) {j : Nat} : UInt8.ofNat (IntKind.u8.wrap (n.fdiv (2 ^ (8 * j)))).toNat = UInt8.ofNat (n.toNat / 256 ^ j) := by
 obtain ⟨a, rfl⟩ := Int.eq_ofNat_of_zero_le h
 have e : (2 : Int) ^ (8 * j) = ((256 ^ j : Nat) : Int) := by rw [Int.pow_mul]; simp
 rw [u8wrap, e, Int.fdiv_eq_ediv_of_nonneg _ (Int.natCast_nonneg _), Int.toNat_natCast, ← Int.natCast_ediv]
 have e2 : ((((a / 256 ^ j : Nat) : Int)) % 256).toNat = (a / 256 ^ j) % 256 := by omega
 rw [e2]
 apply UInt8.toNat_inj.1
 simp
def C59 : Contract := fun args hp K => match args with
 | [.ptr 0 0, .int .u64 n] => onWr hp fun bs => bs.length ≤ 70368744177664 ∧ K (.tup []) (wrH true (bs ++ numB n))
 | _ => False
def L59 (bs : List UInt8) (n : Int) : LoopAnn := cntA (fun i => ⟨[(0, .ptr 0 0), (1, .int .u64 n), (5, .int .i64 (klen n.toNat - 1 - i))], [.struct [.own 1], .row true 1 .byte (bs ++ UInt8.ofNat (247 + klen n.toNat) :: (beB (klen n.toNat) n.toNat).take i)]⟩) (klen n.toNat)
theorem s59 : Sound Tryz.prog 59 C59 := by
 refine sound_of_okF ok59 (.cons s107 (callable_of_okF ok107) .nil) ?_
 intro args hp K h
 unfold C59 at h
 split at h
 ·rename_i n
  obtain ⟨bs, rfl, hb, h⟩ := h
  refine ⟨by simp, [(1, L59 bs n)], ?_⟩
  unfold wrH at h ⊢
  simp (maxSteps:=9^9) only [a59, r59, C107, go_sem, Int.reduceNe, Nat.reduceLeDiff, Nat.reduceSub, Nat.reduceMul, Nat.reduceBEq, Nat.reduceAdd]
  rintro c rfl
  refine sw_intro (fun h1 => ?_) (fun h1 => ?_) <;> simp only [decide_eq_true_eq, decide_eq_false_iff_not] at h1
  ·rintro hi m hm
   rw [inR_u64] at hi
   rw [wu8 (by omega)] at hm
   subst hm
   refine ⟨fun _ => by omega, fun _ => ?_⟩
   have e : numB m = [UInt8.ofNat m.toNat] := by unfold numB; rw [if_pos h1]
   rw [e] at h
   exact h
  ·have hk := klen_pos n.toNat
   have hn0 : 0 ≤ n := by omega
   have e : numB n = UInt8.ofNat (247 + klen n.toNat) :: beB (klen n.toNat) n.toNat := by unfold numB; rw [if_neg h1]
   rw [e] at h
   refine ⟨by omega, ?_⟩
   rintro l hl1 hl2 hl _ _ m hm _ _ m1 hm1
   rw [w64 (by omega)] at hm
   subst hm
   rw [Int.tdiv_eq_ediv_of_nonneg (by omega), w64 (by omega), hl] at hm1
   subst hm1
   rintro _ _ m2 hm2 _ m3 hm3
   rw [w64 (by omega)] at hm2
   subst hm2
   rw [wu8 (by omega)] at hm3
   subst hm3
   refine ⟨fun _ => by omega, fun _ _ _ m4 hm4 => ?_⟩
   rw [w64 (by omega)] at hm4
   subst hm4
   have e2 : ((247 : Int) + (klen n.toNat : Int)).toNat = 247 + klen n.toNat := by omega
   rw [e2]
   refine loop_intro (A := L59 bs n) (0 : Nat) ?_ (Nat.zero_le _) ?_
   ·simp (maxSteps:=9^9) only [L59, cntA_I, go_sem, Nat.reduceBEq]
    rw [show ((klen n.toNat : Int) - 1 - ((0 : Nat) : Int)) = (klen n.toNat : Int) - 1 by omega]
    rfl
   ·intro (i : Nat) (hi : i ≤ klen n.toNat)
    simp (maxSteps:=9^9) only [L59, cntA_I, go_sem, Nat.reduceLeDiff, Nat.reduceSub, Nat.reduceMul, Nat.reduceBEq, Nat.reduceAdd]
    rintro c rfl
    refine sw_intro (fun hc => ?_) (fun hc => ?_) <;> simp only [decide_eq_true_eq, decide_eq_false_iff_not] at hc
    ·have hlt : i < klen n.toNat := by omega
     rintro _ _ m hm
     rw [w64 (by omega)] at hm
     subst hm
     refine ⟨by omega, fun _ _ _ m1 hm1 => ?_⟩
     have hx : (8 * ((klen n.toNat : Int) - 1 - i)).toNat = 8 * (klen n.toNat - 1 - i) := by omega
     rw [hx, Nat.min_eq_left (by omega)] at hm1
     rintro _ m2 hm2
     have hb2 : UInt8.ofNat m2.toNat = UInt8.ofNat (n.toNat / 256 ^ (klen n.toNat - 1 - i)) := by
      rw [hm2, hm1, byte_at hn0]
     have hlen : (bs ++ UInt8.ofNat (247 + klen n.toNat) :: List.take i (beB (klen n.toNat) n.toNat)).length = bs.length + (1 + i) := by
      simp [beB_length]; omega
     refine ⟨fun _ => by rw [hlen]; omega, fun _ _ _ m3 hm3 => ?_⟩
     rw [w64 (by omega)] at hm3
     subst hm3
     refine cntA_next hlt ?_
     simp (maxSteps:=9^9) only [go_sem, Nat.reduceBEq]
     rw [hb2, List.append_assoc, List.cons_append, take_snoc (beB_get hlt), show ((klen n.toNat : Int) - 1 - ((i + 1 : Nat) : Int)) = (klen n.toNat : Int) - 1 - i - 1 by omega]
    ·have : i = klen n.toNat := by omega
     subst this
     rw [List.take_of_length_le (by rw [beB_length]; exact Nat.le_refl _)]
     exact h
 ·exact h.elim
def C63 : Contract := fun args hp K => match args with
 | [.ptr 0 0] => onWr hp fun bs => K (.own 2) (wrH false bs ++ [.row true 1 .byte bs])
 | _ => False
theorem s63 : Sound Tryz.prog 63 C63 := by
 refine sound_of_okF ok63 .nil ?_
 intro args hp K h
 unfold C63 at h
 split at h
 ·obtain ⟨bs, rfl, h⟩ := h
  refine ⟨by simp, [], ?_⟩
  unfold wrH at h ⊢
  simp (maxSteps:=9^9) only [a63, r63, go_sem, Nat.reduceLeDiff, Nat.reduceMul, Nat.reduceBEq, Nat.reduceAdd]
  exact ⟨id, fun _ => h⟩
 ·exact h.elim
end Go.V
