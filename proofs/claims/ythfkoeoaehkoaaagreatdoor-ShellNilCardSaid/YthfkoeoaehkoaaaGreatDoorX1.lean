/- A part of the proof layer, or functions of the given program in it: contracts and their proofs. -/
import Derived.Test.YthfkoeoaehkoaaaGreatDoorMVzb
import Derived.Test.YthfkoeoaehkoaaaGreatDoorME0
import Derived.Test.YthfkoeoaehkoaaaGreatDoorProg
namespace Go.V
set_option linter.unusedSimpArgs false
set_option linter.unnecessarySimpa false
open Go.Proofs
def xa9 : AS := qS [q 0 (.mv qf)] [] (qS [qX 25 4 [qI 200], q 5 (.call 24 [none, none] [.t 4, qI 2]), q0 3 5, q 6 (.ext (.t 3) 0), q 7 (.ext (.t 3) 1), q0 1 6, q0 2 7] [1] (qS [q0 8 1, q 9 (.call 14 [none, none] [.t 8, (.c (.str
 ⟨#[111,102,102,101,114,32,49,32,49,32,54,49,32,48,32,53]⟩))]), q 10 (.bin .eql (.t 9) (.c (.str ⟨#[116,97,107,101,110]⟩))), q0 11 10, q1 12 1 11, qT 13 (.call 14 [none, none] [.t 12, (.c (.str
 ⟨#[111,102,102,101,114,32,49,32,49,32,54,49,32,48,32,53]⟩))]) 11, qT 14 (.bin .eql (.t 13) (.c (.str ⟨#[97,103,97,105,110]⟩))) 11, q 15 (.pick (.t 11) (.t 14) qf), q0 0 15] [0] .ret))
def xr9 : List RT := [.t 0]
def xa10 : AS := qS [q 2 (.alc [qE, .nils, .int .u64 0, .int .u64 0, .nils]), q 3 (.mv (qI 0))] [0,2] (.seq (qS [q0 12 0, q 13 (.len .i (.t 12)), q 14 (.bin .gtr (.t 13) (qI 1000))] [0,2,14] (.cond (.t 14) (.no) .skip)) (qS [q0 16 0, q 17 (.call 26 [none,
 none] [.t 16, (.c (.str ⟨#[32]⟩))]), q0 4 17] [2,4] (qS [q0 18 4, q 19 (.ia 1 (.t 18) (qI 0)), q4 20 19, q 21 (.bld [qE, .nils, .int .u64 0, .int .u64 0, .nils] [(0, 1, (.t 20))]), q 5 (.alc [qE, .nils, .int .u64 0, .int .u64 0, .nils]), q6
 5 5 21] [2,4,5] (qS [q0 22 4, q 23 (.slR 1 (.t 22) (some (qI 1)) none), q0 4 23] [2,4,5] (qS [q3 25 0 5, q4 26 25, q0 27 4, q 28 (.len .s (.t 27)), q 29 (.call 27 [none, none] [.t 26, .t 28]), q0 24 29, q 30 (.ext (.t 24) 0), q 31 (.ext (.t
 24) 1), q0 6 30, q0 7 31] [2,4,5,6,7] (.seq (qS [q0 32 7, q 33 (.not (.t 32)), q0 34 33, q2 35 4 34, qF 36 (.len .s (.t 35)) 34, q2 37 6 34, qF 38 (.len .i (.t 37)) 34, qF 39 (.bin .neq (.t 36) (.t 38)) 34, q 40 (.pick (.t 34) qt (.t 39))]
 [2,4,5,6,40] (.cond (.t 40) (.no) .skip)) (.seq (qS [q0 42 4, q 43 (.len .s (.t 42)), q 44 (.mv (qI 0))] [2,5,6,42,43,44] (.block 0 (.loop 1 [2,5,6,42,43,44] (qS [q 45 (.bin .lss (.t 44) (.t 43))] [2,5,6,42,43,44,45] (.seq (.cond (.t 45)
 .skip (.exit 0)) (.seq (.block 1 (qS [q0 46 44, q 47 (.ia 1 (.t 42) (.t 44)), q4 48 47, q0 8 46, q0 9 48] [2,5,6,8,9,42,43,44] (qS [q 10 (.mv (.c (qE)))] [2,5,6,8,9,10,42,43,44] (qS [q 11 (.mv (qI 0))] [2,5,6,8,9,10,42,43,44] (.seq (qS [q0
 49 6, q0 50 8, q 51 (.ixS (.t 49) (.t 50))] [2,5,6,8,9,10,42,43,44,51] (.block 2 (qS [q 74 (.bin .eql (.t 51) (.c (.int .u8 99))), q0 73 74] [2,5,6,8,9,10,42,43,44,51,73] (.cond (.t 73) (.reg [q0 76 9, qX 28 77 [.t 76], q0 75 77, q 78 (.ext
 (.t 75) 0), q 79 (.ext (.t 75) 1), q3 80 2 5, q6 1 80 78, q0 7 79] [2,5,6,7,42,43,44]) (qS [q 82 (.bin .eql (.t 51) (.c (.int .u8 115))), q0 81 82] [2,5,6,8,9,10,42,43,44,51,81] (.cond (.t 81) (.reg [q0 84 9, qX 28 85 [.t 84], q0 83 85, q 86
 (.ext (.t 83) 0), q 87 (.ext (.t 83) 1), q3 88 3 5, q6 1 88 86, q0 7 87] [2,5,6,7,42,43,44]) (qS [q 90 (.bin .eql (.t 51) (.c (.int .u8 105))), q0 89 90] [2,5,6,8,9,10,42,43,44,89] (.cond (.t 89) (qS [q0 92 9, qX 29 93 [.t 92], q0 91 93, q
 94 (.ext (.t 91) 0), q 95 (.ext (.t 91) 1), q0 11 94, q0 7 95] [2,5,6,7,11,42,43,44] (.reg [q3 96 4 5, q4 97 96, q0 98 11, q 99 (.bsl 8 (.int .i64) 1 [(0, (.t 98))]), q 100 (.app 8 (.int .i64) (.t 97) (.t 99)), q3 101 4 5, q6 1 101 100]
 [2,5,6,7,42,43,44])) (.seq (qS [q0 52 6, q0 53 8, q 54 (.ixS (.t 52) (.t 53)), q 55 (.bin .eql (.t 54) (.c (.int .u8 110))), q0 56 55, q1 57 9 56, qT 58 (.bin .eql (.t 57) (.c (.str ⟨#[45]⟩))) 56, q 59 (.pick (.t 56) (.t 58) qf), q0 7 59]
 [2,5,6,7,9,10,42,43,44] (qS [q0 60 7, q 61 (.not (.t 60))] [2,5,6,7,9,10,42,43,44,61] (.cond (.t 61) (.reg [q0 63 9, qX 30 64 [.t 63], q0 62 64, q 65 (.ext (.t 62) 0), q 66 (.ext (.t 62) 1), q0 10 65, q0 7 66] [2,5,6,7,10,42,43,44]) (.no))))
 (.reg [q3 67 1 5, q4 68 67, q0 69 10, q 70 (.bsl 16 .str 1 [(0, (.t 69))]), q 71 (.app 16 .str (.t 68) (.t 70)), q3 72 1 5, q6 1 72 71] [2,5,6,7,42,43,44])))))))))) (qS [q0 102 7, q 103 (.not (.t 102))] [2,5,6,42,43,44,103] (.cond (.t 103)
 (.no) .skip))))))) (.reg [q 105 (.bin .add (.t 44) (qI 1)), q0 44 105] [2,5,6,42,43,44]))))))) (qS [q 106 (.ldA 5 (.t 5)), q6 5 2 106, q 3 (.mv (qI 0))] [2,3] .ret))))))))
def xr10 : List RT := [.c 2 (some 5), .t 3]
def xa14 : AS := qS [q 4 (.mv (.c (qE)))] [0,1] (qS [q0 9 1, qX 10 10 [.t 9], q0 8 10, q 11 (.ext (.t 8) 0), q 12 (.ext (.t 8) 1), q 5 (.alc [qE, .nils, .int .u64 0, .int .u64 0, .nils]), q6 5 5 11, q0 6 12] [0,5,6] (qS [q 7 (.mv (.c (qE)))] [0,5,6,7] (.seq
 (.block 0 (qS [q0 20 6, q 21 (.bin .neq (.t 20) (qI 0)), q0 19 21] [0,5,6,7,19] (.cond (.t 19) (.no) (qS [q0 23 0, q 24 (.eqn false .p (.t 23) (.c (.nilp))), q0 22 24] [0,5,7,22] (.cond (.t 22) (.no) (.reg [q0 14 0, q 15 (.ldA 5 (.t 5)), q
 16 (.call 36 [none, none] [.t 14, .t 15]), q0 13 16, q 17 (.ext (.t 13) 0), q 18 (.ext (.t 13) 1), q0 7 17, q0 6 18] [6,7])))))) (.seq (qS [q0 25 6, q 26 (.bin .neq (.t 25) (qI 0))] [6,7,26] (.cond (.t 26) (.no) .skip)) (qS [q0 30 7, q0 4
 30] [4] .ret)))))
def xr14 : List RT := [.t 4]
def xa24 : AS := qS [q 4 (.mv (.c (.nilp))), q 5 (.mv (qI 0))] [0,1] (qS [q0 26 0, qX 49 27 [.t 26], q0 25 27, q 28 (.ext (.t 25) 0), q 29 (.ext (.t 25) 1), q0 6 28, q0 7 29] [1,6,7] (.seq (qS [q0 30 7, q 31 (.bin .neq (.t 30) (qI 0))] [1,6,7,31] (.cond (.t
 31) (.no) .skip)) (qS [q0 33 6, q0 34 1, qX 50 35 [.t 34], q 36 (.mkm false .str .any1), q 37 (.call 51 [] []), q 38 (.call 52 [] []), q 39 (.call 53 [] []), q 40 (.bld [.nilp, .nilp, .nilm, .nilp, .nilp, .int .i64 0, .nils, .nils, .nilp,
 .bool false] [(0, 1, (.t 33)), (1, 1, (.t 35)), (2, 1, (.t 36)), (3, 1, (.t 37)), (4, 1, (.t 38)), (8, 1, (.t 39))]), q 41 (.box (.t 40)), q0 8 41] [6,8] (qS [q 9 (.mv qt)] [6,8,9] (.seq (qS [q0 43 6, q 44 (.call 54 [none, none] [.t 43, (.c
 (.str ⟨#[99]⟩))]), q0 42 44, q 45 (.ext (.t 42) 0), q 46 (.ext (.t 42) 1), q0 10 45, q0 11 46] [6,8,9,10,11] (qS [q0 47 11] [6,8,9,10,47] (.cond (.t 47) (.no) .skip))) (.seq (qS [q0 68 6, q 69 (.call 54 [none, none] [.t 68, (.c (.str
 ⟨#[112]⟩))]), q0 67 69, q 70 (.ext (.t 67) 0), q 71 (.ext (.t 67) 1), q0 13 70, q0 14 71] [6,8,9,13,14] (qS [q0 72 14] [6,8,9,13,72] (.cond (.t 72) (.no) .skip))) (.seq (qS [q0 87 6, q 88 (.call 54 [none, none] [.t 87, (.c (.str
 ⟨#[114]⟩))]), q0 86 88, q 89 (.ext (.t 86) 0), q 90 (.ext (.t 86) 1), q0 15 89, q0 16 90] [6,8,9,15,16] (qS [q0 91 16] [6,8,9,15,91] (.cond (.t 91) (.no) .skip))) (.seq (qS [q0 106 6, q 107 (.call 54 [none, none] [.t 106, (.c (.str
 ⟨#[119]⟩))]), q0 105 107, q 108 (.ext (.t 105) 0), q 109 (.ext (.t 105) 1), q0 17 108, q0 18 109] [6,8,9,17,18] (qS [q0 110 18] [6,8,9,17,110] (.cond (.t 110) (.no) .skip))) (.seq (qS [q0 124 8, qX 61 125 [.t 124], q 126 (.len .s (.t 125)),
 q 127 (.mv (qI 0))] [6,8,9,125,126,127] (.block 0 (.loop 1 [6,8,9,125,126,127] (qS [q 128 (.bin .lss (.t 127) (.t 126))] [6,8,9,125,126,127,128] (.seq (.cond (.t 128) (.no) (.exit 0)) (.seq (.block 1 (qS [q 129 (.ia 1 (.t 125) (.t 127)), q4
 130 129, q0 20 130] [6,8,9,20,125,126,127] (qS [q0 132 6, q0 133 20, q 134 (.bin .add (.c (.str ⟨#[97]⟩)) (.t 133)), q 135 (.call 54 [none, none] [.t 132, .t 134]), q0 131 135, q 136 (.ext (.t 131) 0), q 137 (.ext (.t 131) 1), q0 21 136, q0
 22 137] [6,8,9,20,21,125,126,127] (qS [q0 139 21, qX 62 140 [.t 139], q0 138 140, q 141 (.ext (.t 138) 0), q 142 (.ext (.t 138) 1), q0 23 141, q0 24 142] [6,8,9,20,23,24,125,126,127] (.reg [q0 143 9, q0 144 143, q1 145 24 144, qT 146 (.bin
 .eql (.t 145) (qI 0)) 144, q 147 (.pick (.t 144) (.t 146) qf), q0 148 147, q1 149 23 148, qT 150 (.call 63 [none] [.t 149]) 148, q1 151 20 148, qT 152 (.bin .eql (.t 150) (.t 151)) 148, q 153 (.pick (.t 148) (.t 152) qf), q0 9 153]
 [6,8,9,125,126,127]))))) (.reg [q 154 (.bin .add (.t 127) (qI 1)), q0 127 154] [6,8,9,125,126,127]))))))) (.seq (qS [q0 155 9, q 156 (.not (.t 155))] [8,156] (.cond (.t 156) (.no) .skip)) (qS [q0 157 8, q0 4 157, q 5 (.mv (qI 0))] [4,5]
 .ret)))))))))))
def xr24 : List RT := [.t 4, .t 5]
def xa25 : AS := qS [q 2 (.mv (.c (.nilp)))] [0] (qS [q0 3 0, q 4 (.mm true (.t 3) (qI 0)), q 5 (.mm false (.t 4) (qI 65536)), q 6 (.mks 24 (.sl 1 .byte) (.t 5) (.t 5)), q 7 (.bld [.nils, .nils, .int .i64 0, .bool false] [(0, 1, (.t 6)), (2, 1, (qI (-1)))]),
 q 8 (.box (.t 7)), q0 2 8] [2] .ret)
def xr25 : List RT := [.t 2]
def xa27 : AS := qS [q 4 (.mv (.c (qE))), q 5 (.mv qf)] [0,1] (.seq (qS [q0 6 0] [1,6] (.block 0 (qS [q 8 (.bin .eql (.t 6) (.c (.str ⟨#[111,102,102,101,114]⟩))), q0 7 8] [1,6,7] (.cond (.t 7) (qS [q0 9 1, q 10 (.bin .sub (.t 9) (qI 4)), q 11 (.mm true (.t
 10) (qI 0)), q 12 (.mm false (.t 11) (qI 4)), q 13 (.call 65 [none, none] [(.c (.str ⟨#[105]⟩)), .t 12]), q 14 (.bin .add (.c (.str ⟨#[99,115,107,105]⟩)) (.t 13)), q0 4 14, q 5 (.mv qt)] [4,5] .ret) (.no))))) (qS [q 4 (.mv (.c (qE))), q 5
 (.mv qf)] [4,5] .ret))
def xr27 : List RT := [.t 4, .t 5]
def xa36 : AS := qS [q 3 (.box (.t 1)), q 4 (.mv (.c (qE))), q 5 (.mv (qI 0))] [0,3] (.seq (qS [q3 25 0 3, q4 26 25] [0,3,26] (.block 0 (qS [q 28 (.bin .eql (.t 26) (.c (.str ⟨#[111,102,102,101,114]⟩))), q0 27 28] [0,3,26,27] (.cond (.t 27) (.seq (.regD [q0
 30 0, q3 31 2 3, q4 32 31, q3 33 3 3, q4 34 33, q3 35 1 3, q4 36 35, q 37 (.ia 1 (.t 36) (qI 0)), q4 38 37, q3 39 4 3, q4 40 39, q 41 (.ia 1 (.t 40) (qI 0)), q4 42 41, q3 43 4 3, q4 44 43, q 45 (.slR 1 (.t 44) (some (qI 1)) none), q 46
 (.call 76 [none, none, none, none, none, none] [.t 30, .t 32, .t 34, .t 38, .t 42, .t 45]), q0 29 46, q 47 (.ext (.t 29) 0), q 48 (.ext (.t 29) 1), q0 6 47, q0 7 48] [.q 0, .q 1, .q 2, .q 3, .q 4, .q 5, .q 6, .q 7, .q 8, .q 9, .q 10, .q 11,
 .q 12, .q 13, .q 14, .q 15, .e 16 [], .q 17, .q 18, .q 19, .q 20, .q 21] [6,7]) (.seq (qS [q0 49 6] [7,49] (.cond (.t 49) (qS [q0 50 7, q 4 (.mv (.c (.str ⟨#[116,97,107,101,110]⟩))), q0 5 50] [4,5] .ret) .skip)) (qS [q0 51 7, q 4 (.mv (.c
 (.str ⟨#[97,103,97,105,110]⟩))), q0 5 51] [4,5] .ret))) (.no))))) (qS [q0 211 0, q3 212 1 3, q4 213 212, q 214 (.ia 1 (.t 213) (qI 0)), q4 215 214, q 216 (.call 88 [none, none] [.t 211, .t 215]), q0 210 216, q 217 (.ext (.t 210) 0), q 218
 (.ext (.t 210) 1), q0 22 217, q0 23 218] [3,22,23] (.seq (qS [q0 219 23, q 220 (.bin .neq (.t 219) (qI 0))] [3,22,23,220] (.cond (.t 220) (.no) (.no))) (.seq (qS [q3 222 0 3, q4 223 222, q 224 (.bin .eql (.t 223) (.c (.str
 ⟨#[109,97,105,108]⟩)))] [22,224] (.cond (.t 224) (.no) (.no))) (qS [q0 243 22, q5 244 243, q3 245 0 244, q4 246 245, qX 92 247 [.t 246], q 24 (.alc [.arr 8 (.int .i64) (List.replicate 8 (Ty.dflt (.int .i64)))]), q6 8 24 247] [24] (.seq (.no)
 .ret))))))
def xr36 : List RT := [.t 4, .t 5]
def xa48 : AS := qS [q 2 (.mv qf)] [0] (qS [q0 3 0, q 4 (.eqn false .p (.t 3) (.c (.nilp))), q0 5 4, q2 6 0 5, qF 7 (.nck (.t 6)) 5, qF 8 (.fa 3 (.t 7)) 5, qF 9 (.ld (.t 8)) 5, q 10 (.pick (.t 5) qt (.t 9)), q0 2 10] [2] .ret)
def xr48 : List RT := [.t 2]
def xa49 : AS := qS [q 2 (.mv (.c (.nilp))), q 3 (.mv (qI 0))] [0] (.seq (qS [q0 17 0, qX 109 18 [.t 17], q 19 (.bin .lss (.t 18) (qI 24))] [0,19] (.cond (.t 19) (.no) .skip)) (qS [q0 20 0, q 21 (.mkm false .str (.sl 1 .byte)), q 22 (.mkm false .str .bool),
 q 23 (.bld [.nilp, .nilp, .nilp, .nilp, .nilp, .int .u64 0, .nilm, .nilm, .int .i64 0, .bool false] [(0, 1, (.t 20)), (5, 1, (.c (.int .u64 1))), (6, 1, (.t 21)), (7, 1, (.t 22))]), q 24 (.box (.t 23)), q0 4 24] [0,4] (qS [q 5 (.mv (qI 0))]
 [0,4] (.seq (qS [q0 26 4, q0 27 0, qX 110 28 [.t 27], q0 25 28, q 29 (.ext (.t 25) 0), q 30 (.ext (.t 25) 1), q5 31 26, q3 32 1 31, q6 1 32 29, q0 5 30] [0,4,5] (qS [q0 33 5, q 34 (.bin .neq (.t 33) (qI 0))] [0,4,34] (.cond (.t 34) (.no)
 .skip))) (qS [q 6 (.mv (qI 0))] [0,4,6] (.seq (qS [q0 35 4, q5 36 35, q3 37 1 36, q4 38 37, qX 111 39 [.t 38], q 40 (.bin .gtr (.t 39) (.c (.int .u64 0)))] [0,4,6,40] (.cond (.t 40) (.no) .skip)) (qS [q0 56 0, qX 114 57 [.t 56], q0 55 57, q
 58 (.ext (.t 55) 0), q 59 (.ext (.t 55) 1), q 60 (.ext (.t 55) 2), q 61 (.ext (.t 55) 3), q0 8 58, q0 9 59, q0 10 60, q0 11 61] [0,4,6,8,9,10,11] (qS [q0 63 0, q0 64 10, q0 65 11, q0 66 6, q 67 (.call 115 [none, none, none, none] [.t 63, .t
 64, .t 65, .t 66]), q0 62 67, q 68 (.ext (.t 62) 0), q 69 (.ext (.t 62) 1), q0 12 68, q0 5 69] [0,4,5,6,8,9,10,11,12] (.seq (qS [q0 70 5, q 71 (.bin .eql (.t 70) (qI 0))] [0,4,5,6,8,9,10,11,12,71] (.cond (.t 71) (.reg [q0 73 4, q0 74 0, q0
 75 10, q0 76 11, q0 77 12, q 78 (.call 116 [none, none, none, none] [.t 74, .t 75, .t 76, .t 77]), q0 72 78, q 79 (.ext (.t 72) 0), q 80 (.ext (.t 72) 1), q5 81 73, q3 82 3 81, q6 1 82 79, q0 5 80] [0,4,5,6,8,9]) (.no))) (.seq (qS [q0 83 5,
 q 84 (.bin .eql (.t 83) (qI 0))] [0,4,5,6,8,9,84] (.cond (.t 84) (.reg [q0 86 4, q0 87 4, q5 88 87, q3 89 3 88, q4 90 89, q0 91 6, q 92 (.call 117 [none, none] [.t 90, .t 91]), q0 85 92, q 93 (.ext (.t 85) 0), q 94 (.ext (.t 85) 1), q5 95
 86, q3 96 4 95, q6 1 96 93, q0 5 94] [0,4,5,8,9]) (.no))) (.seq (qS [q0 97 5, q 98 (.bin .eql (.t 97) (qI 0))] [0,4,5,8,9,98] (.cond (.t 98) (.reg [q0 100 4, q0 101 0, q0 102 8, q0 103 9, q0 104 4, q5 105 104, q3 106 5 105, q4 107 106, q 108
 (.call 118 [none, none, none, none] [.t 101, .t 102, .t 103, .t 107]), q0 99 108, q 109 (.ext (.t 99) 0), q 110 (.ext (.t 99) 1), q5 111 100, q3 112 2 111, q6 1 112 109, q0 5 110] [4,5]) (.no))) (.seq (qS [q0 113 5, q 114 (.bin .neq (.t 113)
 (qI 0))] [4,114] (.cond (.t 114) (.no) .skip)) (.seq (qS [q0 115 4, q5 116 115, q3 117 4 116, q4 118 117, q 119 (.call 119 [none, none, none] [.t 118, (.c (qE)), (.c (qE))]), q 120 (.len .s (.t 119)), q 121 (.mv (qI 0))] [4,119,120,121]
 (.block 0 (.loop 1 [4,119,120,121] (qS [q 122 (.bin .lss (.t 121) (.t 120))] [4,119,120,121,122] (.seq (.cond (.t 122) (.no) (.exit 0)) (.seq (.block 1 (qS [q 123 (.ia 1 (.t 119) (.t 121)), q4 124 123, q0 14 124] [4,14,119,120,121] (.regD
 [q0 126 4, q5 127 126, q3 128 6 127, q4 129 128, q0 130 14, q0 131 4, q5 132 131, q3 133 4 132, q4 134 133, q0 135 14, q 136 (.call 120 [none, none] [.t 134, .t 135]), q0 125 136, q 137 (.ext (.t 125) 0), q 138 (.ext (.t 125) 1), ⟨none, .mu
 false .str (.sl 1 .byte) (.t 129) (.t 130) (.t 137), none⟩] [.q 0, .q 1, .q 2, .q 3, .q 4, .q 5, .q 6, .q 7, .q 8, .q 9, .e 10 [0,1,2,3,4], .q 11, .q 12, .q 13, .e 14 [13]] [4,119,120,121]))) (.reg [q 139 (.bin .add (.t 121) (qI 1)), q0 121
 139] [4,119,120,121]))))))) (.seq (qS [q0 140 4, q5 141 140, q3 142 2 141, q4 143 142, qX 121 144 [.t 143], q 145 (.len .s (.t 144)), q 146 (.mv (qI 0))] [4,144,145,146] (.block 2 (.loop 2 [4,144,145,146] (qS [q 147 (.bin .lss (.t 146) (.t
 145))] [4,144,145,146,147] (.seq (.cond (.t 147) (.no) (.exit 2)) (.seq (.block 3 (qS [q 148 (.ia 1 (.t 144) (.t 146)), q4 149 148, q0 16 149] [4,16,144,145,146] (qS [q0 150 4, q0 151 16, qX 123 152 [.t 151], q 153 (.call 122 [none, none]
 [.t 150, .t 152])] [4,144,145,146] (.reg [q0 154 4, q5 155 154, q3 156 8 155, q4 157 156, q 158 (.bin .add (.t 157) (qI 1)), q5 159 154, q3 160 8 159, q6 1 160 158] [4,144,145,146])))) (.reg [q 161 (.bin .add (.t 146) (qI 1)), q0 146 161]
 [4,144,145,146]))))))) (qS [q0 162 4, q0 2 162, q 3 (.mv (qI 0))] [2,3] .ret)))))))))))))))
def xr49 : List RT := [.t 2, .t 3]
def xa50 : AS := qS [q 2 (.mv (.c (.nilp)))] [0] (qS [q0 3 0, q 4 (.mm true (.t 3) (qI 1)), q 5 (.mm false (.t 4) (qI 10000)), q 6 (.bld [.int .i64 0, .nils] [(0, 1, (.t 5))]), q 7 (.box (.t 6)), q0 2 7] [2] .ret)
def xr50 : List RT := [.t 2]
def xa51 : AS := qS [q 0 (.mv (.c (.nilp)))] [] (qS [q 1 (.bld [.nils] []), q 2 (.box (.t 1)), q0 0 2] [0] .ret)
def xr51 : List RT := [.t 0]
def xa52 : AS := qS [q 0 (.mv (.c (.nilp)))] [] (qS [q 1 (.bld [.nilm, .nils] []), q 2 (.box (.t 1)), q0 0 2] [0] .ret)
def xr52 : List RT := [.t 0]
def xa53 : AS := qS [q 0 (.mv (.c (.nilp)))] [] (qS [q 1 (.bld [.arr 8 (.pair .unit (.pair .unit (.int .u64))) (List.replicate 8 (Ty.dflt (.pair .unit (.pair .unit (.int .u64)))))] []), q 2 (.box (.t 1)), q0 0 2] [0] .ret)
def xr53 : List RT := [.t 0]
def xa54 : AS := qS [q 4 (.mv (.c (.nils))), q 5 (.mv qf)] [0,1] (.seq (qS [q0 8 0, q 9 (.eqn false .p (.t 8) (.c (.nilp)))] [0,1,9] (.cond (.t 9) (.no) .skip)) (qS [q0 11 0, q5 12 11, q3 13 6 12, q4 14 13, q0 15 1, q 16 (.lk false .str (.sl 1 .byte) true
 (.t 14) (.t 15)), q0 10 16, q 17 (.ext (.t 10) 0), q 18 (.ext (.t 10) 1), q0 6 17, q0 7 18] [6,7] (qS [q0 19 6, qX 124 20 [.t 19], q0 21 7, q0 4 20, q0 5 21] [4,5] .ret)))
def xr54 : List RT := [.t 4, .t 5]
def xa55 : AS := qS [q 2 (.mv (.c (.nilp)))] [0] (qS [q 3 (.bsl 1 .byte 0 []), q0 4 0, q 5 (.app 1 .byte (.t 3) (.t 4)), q 6 (.bld [.nils, .bool false] [(0, 1, (.t 5))]), q 7 (.box (.t 6)), q0 2 7] [2] .ret)
def xr55 : List RT := [.t 2]
def xa56 : AS := qS [q 2 (.mv (qI 0))] [0] (qS [q0 4 0, qX 113 5 [.t 4], q0 3 5] [3] (qS [q0 6 3, q 7 (.bin .shr (.t 6) (.c (.int .u64 1))), q 8 (.cv .i64 (.t 7)), q0 9 3, q 10 (.bin .and (.t 9) (.c (.int .u64 1))), q 11 (.cv .i64 (.t 10)), q 12 (.neg (.t
 11)), q 13 (.bin .xor (.t 8) (.t 12)), q0 2 13] [2] .ret))
def xr56 : List RT := [.t 2]
def xa57 : AS := qS [q 2 (.mv qf)] [0] (qS [q0 3 0, q 4 (.eqn true .p (.t 3) (.c (.nilp))), q0 5 4, q1 6 0 5, qT 7 (.nck (.t 6)) 5, qT 8 (.fa 1 (.t 7)) 5, qT 9 (.ld (.t 8)) 5, qT 10 (.not (.t 9)) 5, q 11 (.pick (.t 5) (.t 10) qf), q0 12 11, q1 13 0 12, qT 14
 (.nck (.t 13)) 12, qT 15 (.fa 0 (.t 14)) 12, qT 16 (.ld (.t 15)) 12, qT 17 (.len .s (.t 16)) 12, qT 18 (.bin .eql (.t 17) (qI 0)) 12, q 19 (.pick (.t 12) (.t 18) qf), q0 2 19] [2] .ret)
def xr57 : List RT := [.t 2]
def xa60 : AS := qS [q 2 (.mv (.c (.nilp))), q 3 (.mv (qI 0))] [0] (qS [q0 10 0, qX 55 11 [.t 10], q0 4 11] [4] (qS [q0 12 4, qX 113 13 [.t 12], q0 5 13] [4,5] (.seq (qS [q0 14 5, q 15 (.bin .gtr (.t 14) (.c (.int .u64 64)))] [4,5,15] (.cond (.t 15) (.no)
 .skip)) (qS [q 16 (.call 52 [] []), q0 6 16] [4,5,6] (.seq (qS [q0 17 5, q 18 (.mv (.c (.int .u64 0)))] [4,6,17,18] (.block 0 (.loop 1 [4,6,17,18] (qS [q 19 (.bin .lss (.t 18) (.t 17))] [4,6,17,18,19] (.seq (.cond (.t 19) (.no) (.exit 0))
 (.seq (.block 1 (qS [q0 20 4, qX 113 21 [.t 20], q0 22 4, qX 113 23 [.t 22], q0 7 21, q0 8 23] [4,6,7,8,17,18] (.seq (qS [q0 24 4, qX 127 25 [.t 24], q0 26 25, q2 27 8 26, qF 28 (.bin .lss (.t 27) (.c (.int .u64 1))) 26, q 29 (.pick (.t 26)
 qt (.t 28)), q0 30 29, q2 31 8 30, qF 32 (.bin .gtr (.t 31) (.c (.int .u64 4))) 30, q 33 (.pick (.t 30) qt (.t 32)), q0 34 33, q2 35 6 34, qF 36 (.nck (.t 35)) 34, qF 37 (.fa 1 (.t 36)) 34, qF 38 (.ld (.t 37)) 34, q2 39 7 34, qF 40 (.call
 131 [none, none] [.t 38, .t 39]) 34, q 41 (.pick (.t 34) qt (.t 40))] [4,6,7,8,17,18,41] (.cond (.t 41) (.no) (.no))) (qS [q0 42 8, q 43 (.mv (.c (.int .u64 0)))] [4,6,7,17,18,42,43] (.block 2 (.loop 2 [4,6,7,17,18,42,43] (qS [q 44 (.bin
 .lss (.t 43) (.t 42))] [4,6,7,17,18,42,43,44] (.seq (.cond (.t 44) (.no) (.no)) (.seq (.block 3 (qS [q0 45 4, qX 113 46 [.t 45], q0 9 46] [4,6,7,9,17,18,42,43] (qS [q0 47 4, qX 127 48 [.t 47], q0 49 48, q2 50 6 49, q2 51 7 49, q2 52 9 49, qF
 53 (.call 132 [none, none, none] [.t 50, .t 51, .t 52]) 49, qF 54 (.not (.t 53)) 49, q 55 (.pick (.t 49) qt (.t 54))] [4,6,7,17,18,42,43,55] (.cond (.t 55) (.no) (.no))))) (.reg [q 56 (.bin .add (.t 43) (.c (.int .u64 1))), q0 43 56]
 [4,6,7,17,18,42,43])))))))))) (.reg [q 57 (.bin .add (.t 18) (.c (.int .u64 1))), q0 18 57] [4,6,17,18]))))))) (.seq (qS [q0 58 4, qX 57 59 [.t 58], q 60 (.not (.t 59))] [6,60] (.cond (.t 60) (.no) .skip)) (qS [q0 61 6, q0 2 61, q 3 (.mv (qI
 0))] [2,3] .ret)))))))
def xr60 : List RT := [.t 2, .t 3]
def xa61 : AS := qS [q 2 (.mv (.c (.nils)))] [0] (.seq (qS [q0 6 0, q 7 (.eqn false .p (.t 6) (.c (.nilp)))] [0,7] (.cond (.t 7) (.no) .skip)) (qS [q 3 (.mv (.c (.nils)))] [0,3] (.seq (qS [q0 8 0, q5 9 8, q3 10 0 9, q4 11 10, q 12 (.call 133 [none, none,
 none] [.t 11, (.c (.str ⟨#[97]⟩)), (.c (.str ⟨#[98]⟩))]), q 13 (.len .s (.t 12)), q 14 (.mv (qI 0))] [3,12,13,14] (.block 0 (.loop 1 [3,12,13,14] (qS [q 15 (.bin .lss (.t 14) (.t 13))] [3,12,13,14,15] (.seq (.cond (.t 15) (.no) (.exit 0))
 (.seq (.block 1 (qS [q 16 (.ia 1 (.t 12) (.t 14)), q4 17 16, q0 5 17] [3,5,12,13,14] (.reg [q0 18 3, q0 19 5, q 20 (.slS (.t 19) (some (qI 1)) none), q 21 (.bsl 16 .str 1 [(0, (.t 20))]), q 22 (.app 16 .str (.t 18) (.t 21)), q0 3 22]
 [3,12,13,14]))) (.reg [q 23 (.bin .add (.t 14) (qI 1)), q0 14 23] [3,12,13,14]))))))) (qS [q0 24 3, q0 2 24] [2] .ret))))
def xr61 : List RT := [.t 2]
def xa62 : AS := qS [q 2 (.mv (.c (.nilp))), q 3 (.mv (qI 0))] [0] (qS [q0 8 0, qX 55 9 [.t 8], q0 4 9] [4] (qS [q0 10 4, qX 113 11 [.t 10], q0 5 11] [4,5] (qS [q0 12 5, q 13 (.mm false (.t 12) (.c (.int .u64 3))), q 14 (.cv .i64 (.t 13)), q 15 (.bld [.nilp,
 .nilp, .nilp, .int .i64 0, .nils] [(3, 1, (.t 14))]), q 16 (.box (.t 15)), q0 6 16] [4,6] (qS [q 7 (.alc [.arr 4 (.int .i64) (List.replicate 4 (Ty.dflt (.int .i64)))])] [4,6,7] (qS [q0 18 6, q0 19 4, qX 125 20 [.t 19], q 21 (.s2b (.t 20)),
 qX 134 22 [.t 21], q0 17 22, q 23 (.ext (.t 17) 0), q 24 (.ext (.t 17) 1), q5 25 18, q3 26 0 25, q6 1 26 23, q 27 (.iaA 4 1 (.t 7) (qI 0)), q6 1 27 24] [4,6,7] (qS [q0 29 6, q0 30 4, qX 125 31 [.t 30], q 32 (.s2b (.t 31)), qX 135 33 [.t 32],
 q0 28 33, q 34 (.ext (.t 28) 0), q 35 (.ext (.t 28) 1), q5 36 29, q3 37 1 36, q6 1 37 34, q 38 (.iaA 4 1 (.t 7) (qI 1)), q6 1 38 35] [4,6,7] (qS [q0 40 6, q0 41 4, qX 125 42 [.t 41], q 43 (.s2b (.t 42)), qX 136 44 [.t 43], q0 39 44, q 45
 (.ext (.t 39) 0), q 46 (.ext (.t 39) 1), q5 47 40, q3 48 2 47, q6 1 48 45, q 49 (.iaA 4 1 (.t 7) (qI 2)), q6 1 49 46] [4,6,7] (qS [q0 51 6, q0 52 4, qX 125 53 [.t 52], q 54 (.s2b (.t 53)), qX 137 55 [.t 54], q0 50 55, q 56 (.ext (.t 50) 0),
 q 57 (.ext (.t 50) 1), q5 58 51, q3 59 4 58, q6 1 59 56, q 60 (.iaA 4 1 (.t 7) (qI 3)), q6 1 60 57] [4,6,7] (.seq (qS [q0 61 4, qX 57 62 [.t 61], q 63 (.not (.t 62)), q0 64 63, qF 65 (.ldA 4 (.t 7)) 64, qF 66 (.bldA [.int .i64 0, .int .i64
 0, .int .i64 0, .int .i64 0] 4 (.int .i64) []) 64, qF 67 (.eqR true 4 (.t 65) (.t 66)) 64, q 68 (.pick (.t 64) qt (.t 67)), q0 69 68, q2 70 6 69, qF 71 (.call 138 [none] [.t 70]) 69, qF 72 (.not (.t 71)) 69, q 73 (.pick (.t 69) qt (.t 72))]
 [6,73] (.cond (.t 73) (.no) .skip)) (qS [q0 74 6, q0 2 74, q 3 (.mv (qI 0))] [2,3] .ret))))))))))
def xr62 : List RT := [.t 2, .t 3]
def xa63 : AS := qS [q 2 (.mv (.c (qE)))] [0] (.seq (qS [q0 3 0, q 4 (.eqn false .p (.t 3) (.c (.nilp)))] [0,4] (.cond (.t 4) (.no) .skip)) (qS [q0 5 0, q5 6 5, q3 7 2 6, q4 8 7, qX 139 9 [.t 8], q0 2 9] [2] .ret))
def xr63 : List RT := [.t 2]
def xa65 : AS := qS [q 4 (.mv (.c (qE)))] [0,1] (.seq (qS [q0 11 1] [0,1,11] (.block 0 (qS [q 13 (.bin .eql (.t 11) (qI 0)), q0 12 13] [0,1,11,12] (.cond (.t 12) (.no) (qS [q 15 (.bin .eql (.t 11) (qI 1)), q0 14 15] [0,1,14] (.cond (.t 14) (qS [q0 16 0, q0 4
 16] [4] .ret) (.no))))))) (.no))
def xr65 : List RT := [.t 4]
def xa71 : AS := qS [q 2 (.mv qf)] [0] (qS [q0 3 0, q 4 (.bin .neq (.t 3) (.c (qE))), q0 5 4, q1 6 0 5, qT 7 (.len .i (.t 6)) 5, qT 8 (.bin .leq (.t 7) (qI 40)) 5, q 9 (.pick (.t 5) (.t 8) qf), q0 2 9] [2] .ret)
def xr71 : List RT := [.t 2]
def xa76 : AS := qS [q 12 (.mv qf), q 13 (.mv (qI 0))] [0,1,2,3,4,5] (.seq (qS [q0 20 0, qX 103 21 [.t 20], q0 14 21] [0,1,2,3,4,5,14] (qS [q0 22 14, q 23 (.bin .neq (.t 22) (qI 0))] [0,1,2,3,4,5,14,23] (.cond (.t 23) (.no) .skip))) (qS [q0 25 2, q0 26 4, q0
 27 5, q 28 (.bld [qE, .int .u64 0, .int .i64 0, .nils] [(1, 1, (.t 25)), (2, 1, (.t 26)), (3, 1, (.t 27))]), qX 153 29 [.t 28], q 15 (.alc [qE, .int .u64 0, .int .i64 0, .nils]), q6 4 15 29] [0,1,2,3,15] (.seq (.block 0 (qS [q0 31 3, qX 71
 32 [.t 31], q 33 (.not (.t 32)), q0 34 33, qF 35 (.ldA 4 (.t 15)) 34, qF 36 (.call 154 [none] [.t 35]) 34, qF 37 (.not (.t 36)) 34, q 38 (.pick (.t 34) qt (.t 37)), q0 30 38] [0,1,2,3,15,30] (.cond (.t 30) (.no) (qS [q0 42 0, q5 43 42, q3 44
 4 43, q4 45 44, q0 46 1, q0 47 2, q 48 (.call 155 [none, none, none] [.t 45, .t 46, .t 47]), q0 41 48] [0,1,2,3,15,41] (.cond (.t 41) (qS [q 12 (.mv qf), q 13 (.mv (qI 0))] [12,13] .ret) .skip))))) (qS [q0 49 0, q0 50 3, q 51 (.call 157
 [none, none] [.t 49, .t 50]), qX 156 52 [.t 51], q0 16 52] [0,1,2,15,16] (.seq (.regD [q0 53 16, q5 54 53, q3 55 1 54, q4 56 55, q 57 (.ldA 4 (.t 15)), q 58 (.call 158 [none, none] [.t 56, .t 57]), q0 17 58] [.q 0, .q 1, .q 2, .q 3, .q 4, .e
 5 [], .q 6] [0,1,2,16,17]) (.seq (qS [q0 59 17, q 60 (.bin .eql (.t 59) (qI 0))] [0,1,2,16,17,60] (.cond (.t 60) (qS [q0 62 0, q5 63 62, q3 64 4 63, q4 65 64, qX 159 66 [.t 65], qX 60 67 [.t 66], q0 61 67, q 68 (.ext (.t 61) 0), q 69 (.ext
 (.t 61) 1), q0 18 68, q0 19 69] [0,1,2,16,18] (qS [q0 70 18, q0 71 1, q0 72 2, q 73 (.call 132 [none, none, none] [.t 70, .t 71, .t 72])] [0,16,18] (.reg [q0 74 0, q0 75 16, q 76 (.bslP 1 [(0, (.t 75))]), q0 77 18, q 78 (.bld [.nils, .nilp,
 .nilp, .nils] [(0, 1, (.t 76)), (2, 1, (.t 77))]), q 79 (.call 160 [none, none] [.t 74, .t 78]), q0 17 79] [0,17]))) (.no))) (.seq (qS [q0 80 17, q 81 (.bin .eql (.t 80) (qI 0))] [0,17,81] (.cond (.t 81) (.reg [q0 82 0, q5 83 82, q3 84 8 83,
 q4 85 84, q 86 (.call 161 [none, none, none] [.t 85, qI 0, (.c (.int .u64 1))])] [0,17]) (.no))) (qS [q0 87 17, q 88 (.bin .eql (.t 87) (qI 0)), q0 89 0, q0 90 17, q 91 (.call 107 [none, none] [.t 89, .t 90]), q0 12 88, q0 13 91] [12,13]
 .ret))))))))
def xr76 : List RT := [.t 12, .t 13]
def xa90 : AS := qS [q 2 (.mv (qI 0))] [0] (.seq (qS [q0 3 0, q 4 (.eqn false .p (.t 3) (.c (.nilp)))] [0,4] (.cond (.t 4) (.no) .skip)) (qS [q0 5 0, q5 6 5, q3 7 0 6, q4 8 7, q 9 (.len .s (.t 8)), q0 2 9] [2] .ret))
def xr90 : List RT := [.t 2]
def xa103 : AS := qS [q 2 (.mv (qI 0))] [0] (.seq (.block 0 (qS [q0 4 0, q 5 (.eqn false .p (.t 4) (.c (.nilp))), q0 3 5] [0,3] (.cond (.t 3) (.no) (qS [q0 7 0, q5 8 7, q3 9 9 8, q4 10 9, q0 6 10] [0,6] (.cond (.t 6) (.no) .skip))))) (qS [q 2 (.mv (qI 0))]
 [2] .ret))
def xr103 : List RT := [.t 2]
def xa105 : AS := qS [q 4 (.mv (qI 0))] [0,1] (.seq (qS [q0 11 0, q 12 (.eqn false .p (.t 11) (.c (.nilp)))] [0,1,12] (.cond (.t 12) (.no) .skip)) (.seq (qS [q0 13 0, q5 14 13, q3 15 9 14, q4 16 15] [0,1,16] (.cond (.t 16) (.no) .skip)) (.seq (qS [q0 17 1, qX
 181 18 [.t 17], q0 5 18] [0,1,5] (qS [q0 19 5, q 20 (.bin .neq (.t 19) (qI 0))] [0,1,5,20] (.cond (.t 20) (.no) .skip))) (qS [q 6 (.mv (qI 0))] [0,1,6] (.seq (qS [q0 22 1, q 23 (.len .s (.t 22)), q 24 (.mv (qI 0))] [0,1,6,22,23,24] (.block 0
 (.loop 1 [0,1,6,22,23,24] (qS [q 25 (.bin .lss (.t 24) (.t 23))] [0,1,6,22,23,24,25] (.seq (.cond (.t 25) .skip (.exit 0)) (.seq (.block 1 (qS [q 26 (.ia 3 (.t 22) (.t 24)), q 27 (.ldA 3 (.t 26)), q 8 (.alc [qE, .nils, .bool false]), q6 3 8
 27] [0,1,6,8,22,23,24] (.reg [q0 28 6, q3 29 0 8, q4 30 29, q 31 (.len .i (.t 30)), q3 32 1 8, q4 33 32, q 34 (.len .s (.t 33)), q 35 (.bin .add (.t 31) (.t 34)), q 36 (.bin .add (.t 28) (.t 35)), q0 6 36] [0,1,6,22,23,24]))) (.reg [q 37
 (.bin .add (.t 24) (qI 1)), q0 24 37] [0,1,6,22,23,24]))))))) (.seq (.block 2 (qS [q0 39 6, q 40 (.bin .gtr (.t 39) (qI 40000)), q0 38 40] [0,1,38] (.cond (.t 38) (.no) (qS [q0 42 1, q 43 (.len .s (.t 42)), q 44 (.bin .eql (.t 43) (qI 0)),
 q0 41 44] [0,1,41] (.cond (.t 41) (.no) .skip))))) (qS [q0 45 1, qX 182 46 [.t 45], q0 9 46] [0,1,9] (qS [q0 47 0, q5 48 47, q3 49 2 48, q4 50 49, q0 51 9, q 52 (.call 183 [none, none] [.t 50, .t 51]), q0 10 52] [0,1,9,10] (.seq (qS [q0 53
 10, q 54 (.bin .eql (.t 53) (qI 6))] [0,1,9,10,54] (.cond (.t 54) (.no) .skip)) (.seq (qS [q0 65 10, q 66 (.bin .neq (.t 65) (qI 0))] [0,1,10,66] (.cond (.t 66) (.no) .skip)) (qS [q0 79 0, q0 80 1, q 81 (.call 122 [none, none] [.t 79, .t
 80])] [0] (qS [q0 82 0, q5 83 82, q3 84 8 83, q4 85 84, q 86 (.bin .add (.t 85) (qI 1)), q5 87 82, q3 88 8 87, q6 1 88 86] [] (qS [q 4 (.mv (qI 0))] [4] .ret)))))))))))))
def xr105 : List RT := [.t 4]
def xa107 : AS := qS [q 4 (.mv (qI 0))] [0,1] (.seq (qS [q0 5 1, q 6 (.bin .eql (.t 5) (qI 9))] [0,1,6] (.cond (.t 6) (.no) .skip)) (.seq (qS [q0 10 1, q 11 (.bin .neq (.t 10) (qI 0))] [0,1,11] (.cond (.t 11) (.no) .skip)) (qS [q0 17 1, q0 4 17] [4] .ret)))
def xr107 : List RT := [.t 4]
def xa109 : AS := qS [q 2 (.mv (qI 0))] [0] (.seq (qS [q0 3 0, q 4 (.eqn false .p (.t 3) (.c (.nilp)))] [0,4] (.cond (.t 4) (.no) .skip)) (qS [q0 5 0, q5 6 5, q3 7 0 6, q4 8 7, q 9 (.len .s (.t 8)), q0 2 9] [2] .ret))
def xr109 : List RT := [.t 2]
def xa110 : AS := qS [q 2 (.mv (.c (.nilp))), q 3 (.mv (qI 0))] [0] (.seq (qS [q0 12 0, qX 109 13 [.t 12], q 14 (.bin .lss (.t 13) (qI 2))] [0,14] (.cond (.t 14) (.no) .skip)) (qS [q0 15 0, q 16 (.bld [.nilp, .int .u64 0, .nils, .bool false] [(0, 1, (.t
 15))]), q 17 (.box (.t 16)), q0 4 17] [0,4] (.seq (qS [q 18 (.mv (qI 0))] [0,4,18] (.block 0 (.loop 1 [0,4,18] (qS [q 19 (.bin .lss (.t 18) (qI 2))] [0,4,18,19] (.seq (.cond (.t 19) .skip (.exit 0)) (.seq (.block 1 (qS [q0 20 18, q0 5 20]
 [0,4,5,18] (qS [q0 22 0, q0 23 5, q 24 (.call 186 [none, none] [.t 22, .t 23]), q0 21 24, q 25 (.ext (.t 21) 0), q 26 (.ext (.t 21) 1), q0 6 25, q0 7 26] [0,4,5,6,7,18] (.seq (qS [q0 27 7, q 28 (.bin .neq (.t 27) (qI 0))] [0,4,5,6,18,28]
 (.cond (.t 28) (.no) .skip)) (qS [q0 30 5, q 31 (.cv .u32 (.t 30)), q0 32 6, q 33 (.call 187 [none, none, none] [(.c (.int .u8 83)), .t 31, .t 32]), q0 29 33, q 34 (.ext (.t 29) 0), q 35 (.ext (.t 29) 1), q0 8 34, q0 9 35] [0,4,8,9,18] (qS
 [q0 36 8, qX 55 37 [.t 36], q0 10 37] [0,4,8,9,10,18] (qS [q0 38 10, qX 113 39 [.t 38], q0 11 39] [0,4,8,9,10,11,18] (qS [q0 40 9, q0 41 40, q1 42 10 41, qT 43 (.call 127 [none] [.t 42]) 41, qT 44 (.not (.t 43)) 41, q 45 (.pick (.t 41) (.t
 44) qf), q0 46 45, q1 47 11 46, q1 48 4 46, qT 49 (.nck (.t 48)) 46, qT 50 (.fa 1 (.t 49)) 46, qT 51 (.ld (.t 50)) 46, qT 52 (.bin .gtr (.t 47) (.t 51)) 46, q 53 (.pick (.t 46) (.t 52) qf)] [0,4,8,10,11,18,53] (.cond (.t 53) (.no)
 .skip))))))))) (.reg [q 68 (.bin .add (.t 18) (qI 1)), q0 18 68] [0,4,18]))))))) (qS [q0 69 4, q0 2 69, q 3 (.mv (qI 0))] [2,3] .ret))))
def xr110 : List RT := [.t 2, .t 3]
def xa111 : AS := qS [q 2 (.mv (.c (.int .u64 0)))] [0] (.seq (qS [q0 3 0, q 4 (.eqn false .p (.t 3) (.c (.nilp)))] [0,4] (.cond (.t 4) (.no) .skip)) (qS [q0 5 0, q5 6 5, q3 7 1 6, q4 8 7, q0 2 8] [2] .ret))
def xr111 : List RT := [.t 2]
def xa113 : AS := qS [q 2 (.mv (.c (.int .u64 0)))] [0] (.seq (qS [q0 8 0, q 9 (.eqn false .p (.t 8) (.c (.nilp))), q0 10 9, q2 11 0 10, qF 12 (.nck (.t 11)) 10, qF 13 (.fa 1 (.t 12)) 10, qF 14 (.ld (.t 13)) 10, q 15 (.pick (.t 10) qt (.t 14))] [0,15] (.cond
 (.t 15) (.no) .skip)) (.seq (qS [q0 16 0, q5 17 16, q3 18 0 17, q4 19 18, q 20 (.len .s (.t 19)), q 21 (.bin .eql (.t 20) (qI 0))] [0,21] (.cond (.t 21) (qS [q0 22 0, qX 189 23 [.t 22]] [] (qS [q 2 (.mv (.c (.int .u64 0)))] [2] .ret))
 .skip)) (qS [q0 24 0, q5 25 24, q3 26 0 25, q4 27 26, q 28 (.ia 1 (.t 27) (qI 0)), q4 29 28, q0 3 29] [0,3] (.seq (qS [q0 30 3, q 31 (.bin .lss (.t 30) (.c (.int .u8 248)))] [0,3,31] (.cond (.t 31) (qS [q0 32 0, q0 33 0, q5 34 33, q3 35 0
 34, q4 36 35, q 37 (.slR 1 (.t 36) (some (qI 1)) none), q5 38 32, q3 39 0 38, q6 1 39 37] [3] (qS [q0 40 3, q 41 (.cv .u64 (.t 40)), q0 2 41] [2] .ret)) (.no))) (qS [q0 42 3, q 43 (.cv .i64 (.t 42)), q 44 (.bin .sub (.t 43) (qI 247)), q0 4
 44] [0,4] (.seq (qS [q0 45 4, q0 46 0, q5 47 46, q3 48 0 47, q4 49 48, q 50 (.len .s (.t 49)), q 51 (.bin .sub (.t 50) (qI 1)), q 52 (.bin .gtr (.t 45) (.t 51))] [0,4,52] (.cond (.t 52) (.no) (.no))) (qS [q 5 (.mv (.c (.int .u64 0)))]
 [0,4,5] (.seq (qS [q0 55 0, q5 56 55, q3 57 0 56, q4 58 57, q0 59 4, q 60 (.bin .add (qI 1) (.t 59)), q 61 (.slR 1 (.t 58) (some (qI 1)) (some (.t 60))), q 62 (.len .s (.t 61)), q 63 (.mv (qI 0))] [0,4,5,61,62,63] (.block 0 (.loop 1
 [0,4,5,61,62,63] (qS [q 64 (.bin .lss (.t 63) (.t 62))] [0,4,5,61,62,63,64] (.seq (.cond (.t 64) (.no) (.no)) (.seq (.block 1 (qS [q 65 (.ia 1 (.t 61) (.t 63)), q4 66 65, q0 7 66] [0,4,5,7,61,62,63] (.reg [q0 67 5, q 68 (.bin .shl (.t 67)
 (.c (.int .u64 8))), q0 69 7, q 70 (.cv .u64 (.t 69)), q 71 (.bin .or (.t 68) (.t 70)), q0 5 71] [0,4,5,61,62,63]))) (.reg [q 72 (.bin .add (.t 63) (qI 1)), q0 63 72] [0,4,5,61,62,63]))))))) (.seq (qS [q0 73 5, q 74 (.bin .lss (.t 73) (.c
 (.int .u64 248))), q0 75 74, q2 76 0 75, qF 77 (.nck (.t 76)) 75, qF 78 (.fa 0 (.t 77)) 75, qF 79 (.ld (.t 78)) 75, qF 80 (.ia 1 (.t 79) (qI 1)) 75, qF 81 (.ld (.t 80)) 75, qF 82 (.bin .eql (.t 81) (.c (.int .u8 0))) 75, q 83 (.pick (.t 75)
 qt (.t 82))] [0,4,5,83] (.cond (.t 83) (.no) (.no))) (qS [q0 86 0, q0 87 0, q5 88 87, q3 89 0 88, q4 90 89, q0 91 4, q 92 (.bin .add (qI 1) (.t 91)), q 93 (.slR 1 (.t 90) (some (.t 92)) none), q5 94 86, q3 95 0 94, q6 1 95 93] [5] (qS [q0 96
 5, q0 2 96] [2] .ret)))))))))))
def xr113 : List RT := [.t 2]
def xa114 : AS := qS [q 2 (.mv (qI 0)), q 3 (.mv (qI 0)), q 4 (.mv (qI 0)), q 5 (.mv (qI 0))] [0] (qS [q0 7 0, qX 109 8 [.t 7], q 9 (.bin .quo (.t 8) (qI 4)), q0 6 9] [0,6] (qS [q0 10 6, q0 11 6, q 12 (.bin .add (qI 2) (.t 11)), q0 13 0, qX 109 14 [.t 13], q
 15 (.bin .sub (.t 14) (qI 2)), q0 16 6, q 17 (.bin .sub (.t 15) (.t 16)), q 2 (.mv (qI 2)), q0 3 10, q0 4 12, q0 5 17] [2,3,4,5] .ret))
def xr114 : List RT := [.t 2, .t 3, .t 4, .t 5]
def xa115 : AS := qS [q 4 (.box (.t 0)), q 5 (.box (.t 1)), q 6 (.box (.t 2)), q 8 (.mv (.c (.nils))), q 9 (.mv (qI 0))] [3,4,5,6] (.seq (.block 0 (qS [q4 14 4, q4 15 5, q4 16 6, q 17 (.call 190 [none, none, none] [.t 14, .t 15, .t 16]), q 18 (.not (.t 17)),
 q0 19 18, qF 20 (.ld (.t 5)) 19, qF 21 (.bin .eql (.t 20) (qI 0)) 19, q 22 (.pick (.t 19) qt (.t 21)), q0 13 22] [3,4,5,6,13] (.cond (.t 13) (.no) (qS [q4 24 4, qX 48 25 [.t 24], q0 23 25] [3,4,5,6,23] (.cond (.t 23) (.no) (qS [q0 27 3, q 28
 (.bin .eql (.t 27) (qI 0)), q0 26 28] [3,4,5,6,26] (.cond (.t 26) (qS [q 8 (.mv (.c (.nils))), q 9 (.mv (qI 0))] [8,9] .ret) (.no)))))))) (qS [q 29 (.mkm true (.int .i64) (.pair .bool (.sl 48 (.pair .str (.pair (.int .i64) (.sl 1
 .byte)))))), q4 30 6, q 31 (.bld [.nilf, .nilm, .int .i64 0] [(1, 1, (.t 29)), (2, 1, (.t 30))]), q 32 (.box (.t 31)), q0 10 32] [3,4,5,6,10] (qS [q0 33 10, q 34 (.mkf 191 [.t 4, .t 5, .t 6]), q5 35 33, q3 36 0 35, q6 1 36 34] [3,10] (.seq
 (qS [q0 38 10, q0 39 3, q 40 (.call 193 [none, none, none] [.t 38, .t 39, qI 0]), q0 37 40, q 41 (.ext (.t 37) 0), q 42 (.ext (.t 37) 1), q0 11 41, q0 12 42] [10,12] (qS [q0 43 12, q 44 (.bin .neq (.t 43) (qI 0))] [10,12,44] (.cond (.t 44)
 (.no) (.no)))) (qS [q0 46 10, q5 47 46, q3 48 1 47, q4 49 48, qX 195 50 [.t 49], qX 194 51 [.t 50], q0 8 51, q 9 (.mv (qI 0))] [8,9] .ret)))))
def xr115 : List RT := [.t 8, .t 9]
def xa116 : AS := qS [q 8 (.mv (.c (.nilp))), q 9 (.mv (qI 0))] [0,1,2,3] (.seq (qS [q0 19 0, q0 20 1, q0 21 2, q 22 (.call 190 [none, none, none] [.t 19, .t 20, .t 21]), q 23 (.not (.t 22))] [0,1,2,3,23] (.cond (.t 23) (.no) .skip)) (qS [q0 24 0, q0 25 1, q
 26 (.mkm false (.int .i64) (.sl 8 (.int .i64))), q 27 (.mkm false (.int .i64) .bool), q 28 (.bld [.nilp, .int .i64 0, .nilm, .nilm] [(0, 1, (.t 24)), (1, 1, (.t 25)), (2, 1, (.t 26)), (3, 1, (.t 27))]), q 29 (.box (.t 28)), q0 10 29]
 [0,1,2,3,10] (.seq (qS [q0 30 2, q 31 (.mv (qI 0))] [0,1,2,3,10,30,31] (.block 0 (.loop 1 [0,1,2,3,10,30,31] (qS [q 32 (.bin .lss (.t 31) (.t 30))] [0,1,2,3,10,30,31,32] (.seq (.cond (.t 32) .skip (.exit 0)) (.seq (.block 1 (qS [q0 33 31, q0
 11 33] [0,1,2,3,10,11,30,31] (.reg [q0 34 10, q5 35 34, q3 36 3 35, q4 37 36, q0 38 1, q0 39 11, q 40 (.bin .add (.t 38) (.t 39)), ⟨none, .mu false (.int .i64) .bool (.t 37) (.t 40) qt, none⟩] [0,1,2,3,10,30,31]))) (.reg [q 41 (.bin .add (.t
 31) (qI 1)), q0 31 41] [0,1,2,3,10,30,31]))))))) (.seq (qS [q0 42 0, qX 48 43 [.t 42]] [0,1,2,3,10,43] (.cond (.t 43) (.no) .skip)) (.seq (qS [q0 44 3, q 45 (.len .s (.t 44)), q 46 (.mv (qI 0))] [0,1,2,10,44,45,46] (.block 2 (.loop 2
 [0,1,2,10,44,45,46] (qS [q 47 (.bin .lss (.t 46) (.t 45))] [0,1,2,10,44,45,46,47] (.seq (.cond (.t 47) (.no) (.exit 2)) (.seq (.block 3 (qS [q 48 (.ia 1 (.t 44) (.t 46)), q4 49 48, q0 13 49] [0,1,2,10,13,44,45,46] (qS [q0 51 0, q0 52 1, q0
 53 2, q0 54 13, q 55 (.call 192 [none, none, none, none] [.t 51, .t 52, .t 53, .t 54]), q0 50 55, q 56 (.ext (.t 50) 0), q 57 (.ext (.t 50) 1), q 58 (.ext (.t 50) 2), q0 14 56, q0 15 57, q0 16 58] [0,1,2,10,13,15,16,44,45,46] (.seq (qS [q0
 59 16, q 60 (.bin .neq (.t 59) (qI 0))] [0,1,2,10,13,15,16,44,45,46,60] (.cond (.t 60) (.no) (.no))) (.seq (qS [q0 62 15, q 63 (.len .s (.t 62)), q 64 (.mv (qI 0))] [0,1,2,10,13,15,44,45,46,62,63,64] (.block 4 (.loop 3
 [0,1,2,10,13,15,44,45,46,62,63,64] (qS [q 65 (.bin .lss (.t 64) (.t 63))] [0,1,2,10,13,15,44,45,46,62,63,64,65] (.seq (.cond (.t 65) (.no) (.no)) (.seq (.block 5 (qS [q 66 (.ia 1 (.t 62) (.t 64)), q4 67 66, q0 18 67]
 [0,1,2,10,13,15,18,44,45,46,62,63,64] (.seq (qS [q0 68 10, q5 69 68, q3 70 3 69, q4 71 70, q0 72 18, q 73 (.lk false (.int .i64) .bool false (.t 71) (.t 72)), q 74 (.not (.t 73))] [0,1,2,10,13,15,18,44,45,46,62,63,64,74] (.cond (.t 74) (.no)
 (.no))) (.reg [q0 75 10, q5 76 75, q3 77 3 76, q4 78 77, q0 79 18, ⟨none, .dl (.int .i64) (.t 78) (.t 79), none⟩] [0,1,2,10,13,15,44,45,46,62,63,64])))) (.reg [q 80 (.bin .add (.t 64) (qI 1)), q0 64 80]
 [0,1,2,10,13,15,44,45,46,62,63,64]))))))) (.reg [q0 81 10, q5 82 81, q3 83 2 82, q4 84 83, q0 85 13, q0 86 15, ⟨none, .mu false (.int .i64) (.sl 8 (.int .i64)) (.t 84) (.t 85) (.t 86), none⟩] [0,1,2,10,44,45,46])))))) (.reg [q 87 (.bin .add
 (.t 46) (qI 1)), q0 46 87] [0,1,2,10,44,45,46]))))))) (qS [q0 88 10, q0 8 88, q 9 (.mv (qI 0))] [8,9] .ret))))))
def xr116 : List RT := [.t 8, .t 9]
def xa117 : AS := qS [q 4 (.mv (.c (.nilp))), q 5 (.mv (qI 0))] [0,1] (.seq (qS [q0 10 0, qX 196 11 [.t 10], q 12 (.bin .eql (.t 11) (qI 0))] [0,1,12] (.cond (.t 12) (.no) .skip)) (qS [q0 13 0, q0 14 1, q 15 (.mkm true (.int .i64) (.pair .bool (.sl 48 (.pair
 .str (.pair (.int .i64) (.sl 1 .byte)))))), q 16 (.bld [.nilp, .int .i64 0, .nilm, .nils, .nils, .nils] [(0, 1, (.t 13)), (1, 1, (.t 14)), (2, 1, (.t 15))]), q 17 (.box (.t 16)), q0 6 17] [0,1,6] (.seq (qS [q0 18 1, q 19 (.bin .eql (.t 18)
 (qI 0))] [0,1,6,19] (.cond (.t 19) (qS [q0 20 6, q0 4 20, q 5 (.mv (qI 0))] [4,5] .ret) (.no))) (qS [q0 21 0, q 22 (.mkf 1000197 [.t 21]), q0 23 6, q5 24 23, q3 25 2 24, q4 26 25, q 27 (.bld [.nilf, .nilm, .int .i64 0] [(0, 1, (.t 22)), (1,
 1, (.t 26)), (2, 1, (qI 65536))]), q 28 (.box (.t 27)), q0 7 28] [1,6,7] (.seq (qS [q0 30 7, q0 31 1, q 32 (.call 193 [none, none, none] [.t 30, .t 31, qI 0]), q0 29 32, q 33 (.ext (.t 29) 0), q 34 (.ext (.t 29) 1), q0 8 33, q0 9 34] [6,9]
 (qS [q0 35 9, q 36 (.bin .neq (.t 35) (qI 0))] [6,9,36] (.cond (.t 36) (.no) (.no)))) (qS [q0 40 6, q0 4 40, q 5 (.mv (qI 0))] [4,5] .ret))))))
def xr117 : List RT := [.t 4, .t 5]
def xa118 : AS := qS [q 8 (.mv (.c (.nilp))), q 9 (.mv (qI 0))] [0,1,2,3] (.seq (qS [q0 18 0, q0 19 1, q0 20 2, q 21 (.call 190 [none, none, none] [.t 18, .t 19, .t 20]), q 22 (.not (.t 21))] [0,1,2,3,22] (.cond (.t 22) (.no) .skip)) (qS [q0 23 0, q0 24 1, q0
 25 2, q0 26 3, q 27 (.bld [.nilp, .int .i64 0, .int .i64 0, .int .u64 0, .nils, .int .i64 0, .bool false] [(0, 1, (.t 23)), (1, 1, (.t 24)), (2, 1, (.t 25)), (3, 1, (.t 26))]), q 28 (.box (.t 27)), q0 10 28] [0,1,2,10] (qS [q 11 (.mv (.c
 (.nils)))] [0,1,2,10,11] (.seq (qS [q 12 (.mv (qI 0))] [0,1,2,10,11,12] (.block 0 (.loop 1 [0,1,2,10,11,12] (.seq (qS [q0 29 12, q0 30 2, q 31 (.bin .lss (.t 29) (.t 30))] [0,1,2,10,11,12,31] (.cond (.t 31) .skip (.no))) (.seq (.block 1 (qS
 [q0 35 0, q0 36 1, q0 37 12, q 38 (.bin .add (.t 36) (.t 37)), q 39 (.call 186 [none, none] [.t 35, .t 38]), q0 34 39, q 40 (.ext (.t 34) 0), q 41 (.ext (.t 34) 1), q0 13 40, q0 14 41] [0,1,2,10,11,12,13,14] (.seq (qS [q0 42 14, q 43 (.bin
 .neq (.t 42) (qI 0))] [0,1,2,10,11,12,13,43] (.cond (.t 43) (.no) .skip)) (qS [q0 45 12, q 46 (.cv .u32 (.t 45)), q0 47 13, q 48 (.call 187 [none, none, none] [(.c (.int .u8 76)), .t 46, .t 47]), q0 44 48, q 49 (.ext (.t 44) 0), q 50 (.ext
 (.t 44) 1), q0 15 49, q0 16 50] [0,1,2,10,11,12,15,16] (.seq (qS [q0 51 16, q 52 (.not (.t 51)), q0 53 52, q2 54 15 53, qF 55 (.len .s (.t 54)) 53, qF 56 (.bin .lss (.t 55) (qI 10)) 53, q 57 (.pick (.t 53) qt (.t 56))] [0,1,2,10,11,12,15,57]
 (.cond (.t 57) (.exit 0) (.no))) (qS [q0 58 15, q 59 (.ia 1 (.t 58) (qI 8)), q4 60 59, q 61 (.bin .eql (.t 60) (.c (.int .u8 1))), q0 17 61] [0,1,2,10,11,12,15,17] (.seq (.seq (.regD [q0 62 15, q 63 (.slR 1 (.t 62) none (some (qI 9))), q0 64
 10, q0 65 17, q 66 (.call 199 [none, none] [.t 64, .t 65]), q 67 (.call 198 [none, none] [.t 63, .t 66]), q 68 (.not (.t 67))] [.q 0, .q 1, .q 2, .q 3, .e 4 [0,1], .e 5 [], .q 6] [0,1,2,10,11,12,15,17,68]) (.cond (.t 68) (.no) (.no))) (qS
 [q0 69 11, q0 70 15, q 71 (.slR 1 (.t 70) (some (qI 9)) none), q 72 (.app 1 .byte (.t 69) (.t 71)), q0 11 72] [0,1,2,10,11,12,17] (qS [q0 73 17] [0,1,2,10,11,12,73] (.cond (.t 73) (.no) (.no))))))))))) (.reg [q0 32 12, q 33 (.bin .add (.t
 32) (qI 1)), q0 12 33] [0,1,2,10,11,12])))))) (qS [q0 89 10, q0 8 89, q 9 (.mv (qI 0))] [8,9] .ret)))))
def xr118 : List RT := [.t 8, .t 9]
def xa119 : AS := qS [q 4 (.box (.t 1)), q 5 (.box (.t 2)), q 6 (.mv (.c (.nils)))] [0,4,5] (.seq (qS [q0 8 0, q 9 (.eqn false .p (.t 8) (.c (.nilp))), q0 10 9, q2 11 0 10, qF 12 (.nck (.t 11)) 10, qF 13 (.fa 1 (.t 12)) 10, qF 14 (.ld (.t 13)) 10, qF 15 (.bin
 .eql (.t 14) (qI 0)) 10, q 16 (.pick (.t 10) qt (.t 15))] [0,4,5,16] (.cond (.t 16) (qS [q 6 (.mv (.c (.nils)))] [6] .ret) (.no))) (qS [q 7 (.alc [.nils])] [0,4,5,7] (qS [q0 17 0, q0 18 0, q5 19 18, q3 20 1 19, q4 21 20, q 22 (.mkf 201 [.t
 4, .t 5, .t 7]), q 23 (.call 200 [none, none, none] [.t 17, .t 21, .t 22])] [7] (qS [q4 24 7, q0 6 24] [6] .ret))))
def xr119 : List RT := [.t 6]
def xa121 : AS := qS [q 2 (.mv (.c (.nils)))] [0] (.seq (qS [q0 6 0, q 7 (.eqn false .p (.t 6) (.c (.nilp)))] [0,7] (.cond (.t 7) (.no) .skip)) (qS [q 3 (.mv (.c (.nils)))] [0,3] (.seq (qS [q0 8 0, q5 9 8, q3 10 4 9, q4 11 10, q 12 (.len .s (.t 11)), q 13
 (.mv (qI 0))] [3,11,12,13] (.block 0 (.loop 1 [3,11,12,13] (qS [q 14 (.bin .lss (.t 13) (.t 12))] [3,11,12,13,14] (.seq (.cond (.t 14) (.no) (.exit 0)) (.seq (.block 1 (qS [q 15 (.ia 1 (.t 11) (.t 13)), q4 16 15, q0 5 16] [3,5,11,12,13]
 (.reg [q0 17 3, q0 18 5, qX 124 19 [.t 18], q 20 (.bsl 24 (.sl 1 .byte) 1 [(0, (.t 19))]), q 21 (.app 24 (.sl 1 .byte) (.t 17) (.t 20)), q0 3 21] [3,11,12,13]))) (.reg [q 22 (.bin .add (.t 13) (qI 1)), q0 13 22] [3,11,12,13]))))))) (qS [q0
 23 3, q0 2 23] [2] .ret))))
def xr121 : List RT := [.t 2]
def xa122 : AS := qS [q0 6 1, q 7 (.len .s (.t 6)), q 8 (.mv (qI 0))] [0,6,7,8] (.block 0 (.loop 1 [0,6,7,8] (qS [q 9 (.bin .lss (.t 8) (.t 7))] [0,6,7,8,9] (.seq (.cond (.t 9) .skip (.exit 0)) (.seq (.block 1 (qS [q 10 (.ia 3 (.t 6) (.t 8)), q 11 (.ldA 3 (.t
 10)), q 5 (.alc [qE, .nils, .bool false]), q6 3 5 11] [0,5,6,7,8] (.seq (.regD [q0 12 0, q5 13 12, q3 14 7 13, q4 15 14, q3 16 0 5, q4 17 16, ⟨none, .mu false .str .bool (.t 15) (.t 17) qt, none⟩] [.q 0, .q 1, .q 2, .q 3, .q 4, .q 5, .e 6
 []] [0,5,6,7,8]) (qS [q3 18 2 5, q4 19 18] [0,5,6,7,8,19] (.cond (.t 19) (.no) (.regD [q0 26 0, q5 27 26, q3 28 6 27, q4 29 28, q3 30 0 5, q4 31 30, q3 32 1 5, q4 33 32, qX 124 34 [.t 33], ⟨none, .mu false .str (.sl 1 .byte) (.t 29) (.t 31)
 (.t 34), none⟩] [.q 0, .q 1, .q 2, .q 3, .q 4, .q 5, .q 6, .q 7, .e 8 [0,1,2,3,4,5], .e 9 []] [0,6,7,8])))))) (.reg [q 35 (.bin .add (.t 8) (qI 1)), q0 8 35] [0,6,7,8]))))))
def xr122 : List RT := []
def xa124 : AS := qS [q 2 (.mv (.c (.nils)))] [0] (.seq (qS [q0 3 0, q 4 (.isn false (.t 3))] [0,4] (.cond (.t 4) (qS [q 2 (.mv (.c (.nils)))] [2] (.lift 2 none 1 .byte .ret)) .skip)) (qS [q 5 (.bsl 1 .byte 0 []), q0 6 0, q 7 (.app 1 .byte (.t 5) (.t 6)), q0
 2 7] [2] (.lift 2 none 1 .byte .ret)))
def xr124 : List RT := [.t 2]
def xa125 : AS := qS [q 2 (.mv (.c (qE)))] [0] (qS [q0 5 0, qX 113 6 [.t 5], q0 3 6] [0,3] (.seq (qS [q0 7 0, q 8 (.eqn false .p (.t 7) (.c (.nilp))), q0 9 8, q2 10 0 9, qF 11 (.nck (.t 10)) 9, qF 12 (.fa 1 (.t 11)) 9, qF 13 (.ld (.t 12)) 9, q 14 (.pick (.t
 9) qt (.t 13))] [0,3,14] (.cond (.t 14) (.no) .skip)) (.seq (qS [q0 15 3, q0 16 0, q5 17 16, q3 18 0 17, q4 19 18, q 20 (.len .s (.t 19)), q 21 (.cv .u64 (.t 20)), q 22 (.bin .gtr (.t 15) (.t 21))] [0,3,22] (.cond (.t 22) (.no) .skip)) (qS
 [q0 25 0, q5 26 25, q3 27 0 26, q4 28 27, q0 29 3, q 30 (.slR 1 (.t 28) none (some (.t 29))), q 31 (.b2s (.t 30)), q0 4 31] [0,3,4] (qS [q0 32 0, q0 33 0, q5 34 33, q3 35 0 34, q4 36 35, q0 37 3, q 38 (.slR 1 (.t 36) (some (.t 37)) none), q5
 39 32, q3 40 0 39, q6 1 40 38] [4] (qS [q0 41 4, q0 2 41] [2] .ret))))))
def xr125 : List RT := [.t 2]
def xa131 : AS := qS [q 4 (.mv qf)] [0,1] (qS [q0 5 0, q0 6 1, q 7 (.call 210 [none, none] [.t 5, .t 6]), q 8 (.bin .geq (.t 7) (qI 0)), q0 4 8] [4] .ret)
def xr131 : List RT := [.t 4]
def xa132 : AS := qS [q 4 (.box (.t 1)), q 6 (.mv qf)] [0,2,4] (.seq (qS [q0 8 0, q 9 (.eqn false .p (.t 8) (.c (.nilp))), q0 10 9, q2 11 0 10, qF 12 (.ld (.t 4)) 10, q2 13 2 10, qF 14 (.call 155 [none, none, none] [.t 11, .t 12, .t 13]) 10, q 15 (.pick (.t
 10) qt (.t 14))] [0,2,4,15] (.cond (.t 15) (.no) .skip)) (.seq (qS [q0 16 0, q5 17 16, q3 18 0 17, q4 19 18, q 20 (.eqn false .m (.t 19) (.c (.nilm)))] [0,2,4,20] (.cond (.t 20) (.reg [q0 21 0, q 22 (.mkm false (.int .u64) (.sl 8 (.int
 .u64))), q5 23 21, q3 24 0 23, q6 1 24 22] [0,2,4]) (.no))) (qS [q0 25 0, q4 26 4, q 27 (.call 211 [none, none] [.t 25, .t 26]), q0 28 2, q 29 (.bsl 8 (.int .u64) 1 [(0, (.t 28))]), q 30 (.app 8 (.int .u64) (.t 27) (.t 29)), q0 7 30] [0,4,7]
 (.seq (.regD [q0 31 0, q5 32 31, q3 33 0 32, q4 34 33, q4 35 4, q0 36 7, q0 37 7, q 38 (.len .s (.t 37)), q 39 (.bin .sub (.t 38) (qI 4)), q 40 (.mm true (.t 39) (qI 0)), q 41 (.slR 1 (.t 36) (some (.t 40)) none), ⟨none, .mu false (.int
 .u64) (.sl 8 (.int .u64)) (.t 34) (.t 35) (.t 41), none⟩] [.q 0, .q 1, .q 2, .q 3, .q 4, .q 5, .q 6, .q 7, .q 8, .q 9, .q 10, .e 11 []] [0,4]) (.seq (.regT [q0 42 0, q0 43 0, q5 44 43, q3 45 1 44, q4 46 45, q 47 (.mkf 213 [.t 4]), q 48
 (.call 212 [none, none] [.t 46, .t 47]), q4 49 4, q 50 (.bsl 8 (.int .u64) 1 [(0, (.t 49))]), q 51 (.app 8 (.int .u64) (.t 48) (.t 50)), q5 52 42, q3 53 1 52, q6 1 53 51] (.q 0 (.q 1 (.q 2 (.q 3 (.q 4 (.q 5 (.q 7 (.e 6 [0,7] (.e 8
 [0,1,2,3,4,5] (.e 9 [0] (.q 10 (.q 11 (.e 12 [] .done .no))) .no) .no) (.e 8 [0,1,2,3,4,5] (.e 6 [0,7] (.e 9 [0] (.q 10 (.q 11 (.e 12 [] .done .no))) .no) .no) .no))))))))) [0]) (.seq (qS [q0 54 0, q5 55 54, q3 56 1 55, q4 57 56, q 58 (.len
 .s (.t 57)), q 59 (.bin .gtr (.t 58) (qI 64))] [0,59] (.cond (.t 59) (.no) .skip)) (qS [q 6 (.mv qt)] [6] .ret)))))))
def xr132 : List RT := [.t 6]
def xa133 : AS := qS [q 6 (.mv (.c (.nils)))] [0,1,2] (.seq (qS [q0 10 0, q 11 (.eqn false .p (.t 10) (.c (.nilp)))] [0,1,2,11] (.cond (.t 11) (.no) .skip)) (qS [q 7 (.mv (.c (.nils)))] [0,1,2,7] (.seq (qS [q0 12 0, q5 13 12, q3 14 6 13, q4 15 14, qX 216 16
 [.t 15], qX 215 17 [.t 16], q 18 (.len .s (.t 17)), q 19 (.mv (qI 0))] [1,2,7,17,18,19] (.block 0 (.loop 1 [1,2,7,17,18,19] (qS [q 20 (.bin .lss (.t 19) (.t 18))] [1,2,7,17,18,19,20] (.seq (.cond (.t 20) (.no) (.exit 0)) (.seq (.block 1 (qS
 [q 21 (.ia 1 (.t 17) (.t 19)), q4 22 21, q0 9 22] [1,2,7,9,17,18,19] (qS [q0 23 9, q0 24 1, q 25 (.bin .geq (.t 23) (.t 24)), q0 26 25, q1 27 2 26, qT 28 (.bin .eql (.t 27) (.c (qE))) 26, q1 29 28 26, q2 30 9 29, q2 31 2 29, qF 32 (.bin .lss
 (.t 30) (.t 31)) 29, qT 33 (.pick (.t 29) qt (.t 32)) 26, q 34 (.pick (.t 26) (.t 33) qf)] [1,2,7,9,17,18,19,34] (.cond (.t 34) (.no) (.no))))) (.reg [q 39 (.bin .add (.t 19) (qI 1)), q0 19 39] [1,2,7,17,18,19]))))))) (qS [q0 40 7, q0 6 40]
 [6] .ret))))
def xr133 : List RT := [.t 6]
def xa134 : AS := qS [q 2 (.mv (.c (.nilp))), q 3 (.mv (qI 0))] [0] (qS [q0 9 0, qX 55 10 [.t 9], q0 4 10] [4] (qS [q0 11 4, qX 113 12 [.t 11], q 13 (.bld [.arr 8 (.int .i64) (List.replicate 8 (Ty.dflt (.int .i64))), .nils, .int .u64 0] [(9, 1, (.t 12))]), q
 14 (.box (.t 13)), q0 5 14] [4,5] (.seq (qS [q 15 (.mv (qI 0))] [4,5,15] (.block 0 (.loop 1 [4,5,15] (qS [q 16 (.bin .lss (.t 15) (qI 8))] [4,5,15,16] (.seq (.cond (.t 16) .skip (.exit 0)) (.seq (.block 1 (qS [q0 17 15, q0 6 17] [4,5,6,15]
 (.regD [q0 18 5, q0 19 6, q0 20 4, qX 56 21 [.t 20], q5 22 18, q3 23 0 22, q 24 (.iaA 8 1 (.t 23) (.t 19)), q6 1 24 21] [.q 0, .q 1, .q 2, .q 4, .q 5, .e 3 [0,1,4,5], .q 6, .e 7 []] [4,5,15]))) (.reg [q 25 (.bin .add (.t 15) (qI 1)), q0 15
 25] [4,5,15]))))))) (qS [q0 26 4, qX 113 27 [.t 26], q0 7 27] [4,5,7] (.seq (qS [q0 28 7, q 29 (.bin .gtr (.t 28) (.c (.int .u64 16))), q0 30 29, q2 31 7 30, q2 32 5 30, qF 33 (.nck (.t 32)) 30, qF 34 (.fa 9 (.t 33)) 30, qF 35 (.ld (.t 34))
 30, qF 36 (.bin .gtr (.t 31) (.t 35)) 30, q 37 (.pick (.t 30) qt (.t 36))] [4,5,7,37] (.cond (.t 37) (.no) .skip)) (.seq (qS [q0 38 7, q 39 (.mv (.c (.int .u64 0)))] [4,5,38,39] (.block 2 (.loop 2 [4,5,38,39] (qS [q 40 (.bin .lss (.t 39) (.t
 38))] [4,5,38,39,40] (.seq (.cond (.t 40) (.no) (.exit 2)) (.seq (.block 3 (qS [q0 41 4, qX 113 42 [.t 41], q0 8 42] [4,5,8,38,39] (.seq (qS [q0 43 8, q 44 (.bin .geq (.t 43) (.c (.int .u64 8)))] [4,5,8,38,39,44] (.cond (.t 44) (.no) (.no)))
 (.regD [q0 45 5, q0 46 5, q5 47 46, q3 48 8 47, q4 49 48, q0 50 8, q 51 (.cv .i64 (.t 50)), q0 52 4, qX 56 53 [.t 52], q 54 (.bld [.int .i64 0, .int .i64 0] [(0, 1, (.t 51)), (1, 1, (.t 53))]), q 55 (.bsl 16 qP 1 [(0, (.t 54))]), q 56 (.app
 16 qP (.t 49) (.t 55)), q5 57 45, q3 58 8 57, q6 1 58 56] [.q 0, .q 1, .q 2, .q 3, .q 4, .q 5, .q 6, .q 7, .e 8 [0,1,2,3,4,5,6], .q 9, .e 10 [0,1,2,3,4], .e 11 [0], .q 12, .q 13, .e 14 []] [4,5,38,39])))) (.reg [q 59 (.bin .add (.t 39) (.c
 (.int .u64 1))), q0 39 59] [4,5,38,39]))))))) (.seq (qS [q0 60 4, qX 57 61 [.t 60], q 62 (.not (.t 61))] [5,62] (.cond (.t 62) (.no) .skip)) (qS [q0 63 5, q0 2 63, q 3 (.mv (qI 0))] [2,3] .ret))))))))
def xr134 : List RT := [.t 2, .t 3]
def xa135 : AS := qS [q 2 (.mv (.c (.nilp))), q 3 (.mv (qI 0))] [0] (qS [q0 7 0, qX 137 8 [.t 7], q0 6 8, q 9 (.ext (.t 6) 0), q 10 (.ext (.t 6) 1), q0 4 9, q0 5 10] [4,5] (.seq (qS [q0 11 5, q 12 (.bin .neq (.t 11) (qI 0)), q0 13 12, q2 14 4 13, qF 15 (.len
 .s (.t 14)) 13, qF 16 (.bin .gtr (.t 15) (qI 8)) 13, q 17 (.pick (.t 13) qt (.t 16))] [4,17] (.cond (.t 17) (.no) .skip)) (qS [q0 18 4, q 19 (.bld [.nils] [(0, 1, (.t 18))]), q 20 (.box (.t 19)), q0 2 20, q 3 (.mv (qI 0))] [2,3] .ret)))
def xr135 : List RT := [.t 2, .t 3]
def xa136 : AS := qS [q 2 (.mv (.c (.nilp))), q 3 (.mv (qI 0))] [0] (qS [q0 17 0, qX 55 18 [.t 17], q0 4 18] [4] (qS [q0 20 4, qX 125 21 [.t 20], qX 217 22 [.t 21], q0 19 22, q 23 (.ext (.t 19) 0), q 24 (.ext (.t 19) 1), q0 5 23, q0 6 24] [4,5,6] (qS [q0 25
 4, qX 113 26 [.t 25], q0 7 26] [4,5,6,7] (.seq (qS [q0 27 6, q 28 (.bin .neq (.t 27) (qI 0)), q0 29 28, q2 30 7 29, qF 31 (.bin .gtr (.t 30) (.c (.int .u64 64))) 29, q 32 (.pick (.t 29) qt (.t 31))] [4,5,7,32] (.cond (.t 32) (.no) .skip))
 (qS [q 8 (.mv (.c (qE)))] [4,5,7,8] (.seq (qS [q0 33 7, q 34 (.mv (.c (.int .u64 0)))] [4,5,8,33,34] (.block 0 (.loop 1 [4,5,8,33,34] (qS [q 35 (.bin .lss (.t 34) (.t 33))] [4,5,8,33,34,35] (.seq (.cond (.t 35) (.no) (.exit 0)) (.seq (.block
 1 (qS [q0 36 4, qX 125 37 [.t 36], q0 38 4, qX 113 39 [.t 38], q0 9 37, q0 10 39] [4,5,8,9,10,33,34] (.seq (qS [q0 40 4, qX 127 41 [.t 40], q0 42 41, q2 43 9 42, qF 44 (.call 71 [none] [.t 43]) 42, qF 45 (.not (.t 44)) 42, q 46 (.pick (.t
 42) qt (.t 45)), q0 47 46, q2 48 10 47, qF 49 (.bin .eql (.t 48) (.c (.int .u64 0))) 47, q 50 (.pick (.t 47) qt (.t 49)), q0 51 50, q2 52 9 51, q2 53 8 51, qF 54 (.bin .leq (.t 52) (.t 53)) 51, q 55 (.pick (.t 51) qt (.t 54))]
 [4,5,9,10,33,34,55] (.cond (.t 55) (.no) (.no))) (qS [q0 56 9, q0 8 56] [4,5,8,9,10,33,34] (.reg [q0 57 5, q5 58 57, q3 59 2 58, q4 60 59, q0 61 9, q0 62 10, ⟨none, .mu false .str (.int .u64) (.t 60) (.t 61) (.t 62), none⟩]
 [4,5,8,33,34]))))) (.reg [q 63 (.bin .add (.t 34) (.c (.int .u64 1))), q0 34 63] [4,5,8,33,34]))))))) (.seq (qS [q0 64 4, qX 113 65 [.t 64], q0 7 65] [4,5,7] (qS [q0 66 7, q 67 (.bin .gtr (.t 66) (.c (.int .u64 32)))] [4,5,7,67] (.cond (.t
 67) (.no) .skip))) (qS [q 68 (.mkm false .str (.int .u64)), q0 11 68] [4,5,7,11] (.seq (qS [q0 69 7, q 70 (.mv (.c (.int .u64 0)))] [4,5,11,69,70] (.block 2 (.loop 2 [4,5,11,69,70] (qS [q 71 (.bin .lss (.t 70) (.t 69))] [4,5,11,69,70,71]
 (.seq (.cond (.t 71) (.no) (.exit 2)) (.seq (.block 3 (qS [q0 72 4, qX 125 73 [.t 72], q0 12 73] [4,5,11,12,69,70] (qS [q0 75 4, qX 125 76 [.t 75], q 77 (.s2b (.t 76)), qX 218 78 [.t 77], q0 74 78, q 79 (.ext (.t 74) 0), q 80 (.ext (.t 74)
 1), q 13 (.alc [qE, .int .u64 0, .int .i64 0, .nils]), q6 4 13 79, q0 14 80] [4,5,11,12,13,14,69,70] (.seq (.seq (.regD [q0 81 4, qX 127 82 [.t 81], q0 83 82, q2 84 14 83, qF 85 (.bin .neq (.t 84) (qI 0)) 83, q 86 (.pick (.t 83) qt (.t 85)),
 q0 87 86, qF 88 (.fa 0 (.t 13)) 87, qF 89 (.ld (.t 88)) 87, q2 90 5 87, qF 91 (.nck (.t 90)) 87, qF 92 (.fa 0 (.t 91)) 87, qF 93 (.ld (.t 92)) 87, qF 94 (.bin .neq (.t 89) (.t 93)) 87, q 95 (.pick (.t 87) qt (.t 94)), q0 96 95, q2 97 5 96,
 qF 98 (.nck (.t 97)) 96, qF 99 (.fa 2 (.t 98)) 96, qF 100 (.ld (.t 99)) 96, q2 101 12 96, qF 102 (.lk false .str (.int .u64) false (.t 100) (.t 101)) 96, qF 103 (.bin .eql (.t 102) (.c (.int .u64 0))) 96, q 104 (.pick (.t 96) qt (.t 103))]
 [.q 0, .e 1 [], .q 2, .q 3, .q 4, .q 5, .q 6, .q 7, .q 8, .q 9, .q 10, .q 11, .q 12, .q 13, .q 14, .q 15, .q 16, .q 17, .q 18, .q 19, .q 20, .q 21, .q 22, .q 23] [4,5,11,12,13,69,70,104]) (.cond (.t 104) (.no) (.no))) (qS [q0 105 11, q0 106
 12, q 107 (.lk false .str (.int .u64) false (.t 105) (.t 106)), q 108 (.bin .add (.t 107) (.c (.int .u64 1))), ⟨none, .mu false .str (.int .u64) (.t 105) (.t 106) (.t 108), none⟩] [4,5,11,12,13,69,70] (.regD [q0 109 5, q0 110 5, q5 111 110,
 q3 112 1 111, q4 113 112, q0 114 12, q 115 (.ldA 4 (.t 13)), q 116 (.bld [qE, qE, .int .u64 0, .int .i64 0, .nils] [(0, 1, (.t 114)), (1, 4, (.t 115))]), q 117 (.bsl 72 (.pair .str qD) 1 [(0, (.t 116))]), q 118 (.app 72 (.pair .str qD) (.t
 113) (.t 117)), q5 119 109, q3 120 1 119, q6 1 120 118] [.q 0, .q 1, .q 2, .q 3, .q 4, .q 5, .q 6, .q 7, .e 8 [0,1,2,3,4], .e 9 [0], .q 10, .q 11, .e 12 []] [4,5,11,69,70])))))) (.reg [q 121 (.bin .add (.t 70) (.c (.int .u64 1))), q0 70 121]
 [4,5,11,69,70]))))))) (.seq (qS [q0 122 5, q5 123 122, q3 124 1 123, q4 125 124, q 126 (.len .s (.t 125)), q 127 (.mv (qI 0))] [4,5,11,125,126,127] (.block 4 (.loop 3 [4,5,11,125,126,127] (qS [q 128 (.bin .lss (.t 127) (.t 126))]
 [4,5,11,125,126,127,128] (.seq (.cond (.t 128) (.no) (.exit 4)) (.seq (.block 5 (qS [q 129 (.ia 5 (.t 125) (.t 127)), q 130 (.ldA 5 (.t 129)), q 16 (.alc [qE, qE, .int .u64 0, .int .i64 0, .nils]), q6 5 16 130] [4,5,11,16,125,126,127] (.seq
 (.seq (.regD [q0 131 11, q3 132 0 16, q4 133 132, q 134 (.lk false .str (.int .u64) false (.t 131) (.t 133)), q0 135 5, q5 136 135, q3 137 2 136, q4 138 137, q3 139 0 16, q4 140 139, q 141 (.lk false .str (.int .u64) false (.t 138) (.t
 140)), q 142 (.bin .gtr (.t 134) (.t 141)), q0 143 142, qF 144 (.fa 1 (.t 16)) 143, qF 145 (.fa 1 (.t 144)) 143, qF 146 (.ld (.t 145)) 143, q2 147 5 143, qF 148 (.nck (.t 147)) 143, qF 149 (.fa 2 (.t 148)) 143, qF 150 (.ld (.t 149)) 143, qF
 151 (.fa 0 (.t 16)) 143, qF 152 (.ld (.t 151)) 143, qF 153 (.lk false .str (.int .u64) false (.t 150) (.t 152)) 143, q2 154 11 143, qF 155 (.fa 0 (.t 16)) 143, qF 156 (.ld (.t 155)) 143, qF 157 (.lk false .str (.int .u64) false (.t 154) (.t
 156)) 143, qF 158 (.bin .sub (.t 153) (.t 157)) 143, qF 159 (.bin .add (.t 158) (.c (.int .u64 1))) 143, qF 160 (.bin .neq (.t 146) (.t 159)) 143, q 161 (.pick (.t 143) qt (.t 160))] [.q 0, .q 1, .q 2, .q 3, .q 4, .q 5, .q 6, .q 7, .q 8, .q
 9, .q 10, .q 11, .q 12, .q 13, .q 14, .q 15, .q 16, .q 17, .q 18, .q 19, .q 20, .q 21, .q 22, .q 23, .q 24, .q 25, .q 26, .q 27, .q 28, .q 29, .q 30] [4,5,11,16,125,126,127,161]) (.cond (.t 161) (.no) (.no))) (.reg [q0 162 11, q3 163 0 16,
 q4 164 163, q 165 (.lk false .str (.int .u64) false (.t 162) (.t 164)), q 166 (.bin .sub (.t 165) (.c (.int .u64 1))), ⟨none, .mu false .str (.int .u64) (.t 162) (.t 164) (.t 166), none⟩] [4,5,11,125,126,127])))) (.reg [q 167 (.bin .add (.t
 127) (qI 1)), q0 127 167] [4,5,11,125,126,127]))))))) (.seq (qS [q0 168 4, qX 57 169 [.t 168], q 170 (.not (.t 169))] [5,170] (.cond (.t 170) (.no) .skip)) (qS [q0 171 5, q0 2 171, q 3 (.mv (qI 0))] [2,3] .ret))))))))))))
def xr136 : List RT := [.t 2, .t 3]
def xa137 : AS := qS [q 2 (.mv (.c (.nils))), q 3 (.mv (qI 0))] [0] (qS [q0 9 0, qX 55 10 [.t 9], q0 4 10] [4] (qS [q0 11 4, qX 113 12 [.t 11], q0 5 12] [4,5] (.seq (qS [q0 13 5, q0 14 4, qX 188 15 [.t 14], q 16 (.cv .u64 (.t 15)), q 17 (.bin .gtr (.t 13) (.t
 16))] [4,5,17] (.cond (.t 17) (.no) .skip)) (qS [q 6 (.mv (.c (.nils)))] [4,5,6] (.seq (qS [q0 18 5, q 19 (.mv (.c (.int .u64 0)))] [4,6,18,19] (.block 0 (.loop 1 [4,6,18,19] (qS [q 20 (.bin .lss (.t 19) (.t 18))] [4,6,18,19,20] (.seq (.cond
 (.t 20) (.no) (.exit 0)) (.seq (.block 1 (qS [q0 22 4, qX 219 23 [.t 22], q0 21 23, q 24 (.ext (.t 21) 0), q 25 (.ext (.t 21) 1), q 7 (.alc [qE, .int .u64 0, .int .i64 0, .nils]), q6 4 7 24, q0 8 25] [4,6,7,8,18,19] (.seq (qS [q0 26 8, q 27
 (.not (.t 26))] [4,6,7,18,19,27] (.cond (.t 27) (.no) (.no))) (.reg [q0 28 6, q 29 (.ldA 4 (.t 7)), q 30 (.bsl 56 qD 1 [(0, (.t 29))]), q 31 (.app 56 qD (.t 28) (.t 30)), q0 6 31] [4,6,18,19])))) (.reg [q 32 (.bin .add (.t 19) (.c (.int .u64
 1))), q0 19 32] [4,6,18,19]))))))) (.seq (qS [q0 33 4, qX 57 34 [.t 33], q 35 (.not (.t 34))] [6,35] (.cond (.t 35) (.no) .skip)) (qS [q0 36 6, q0 2 36, q 3 (.mv (qI 0))] [2,3] .ret)))))))
def xr137 : List RT := [.t 2, .t 3]
def xa138 : AS := qS [q 2 (.mv qf)] [0] (.seq (qS [q0 5 0, q 6 (.eqn false .p (.t 5) (.c (.nilp))), q0 7 6, q2 8 0 7, qF 9 (.nck (.t 8)) 7, qF 10 (.fa 0 (.t 9)) 7, qF 11 (.ld (.t 10)) 7, qF 12 (.eqn false .p (.t 11) (.c (.nilp))) 7, q 13 (.pick (.t 7) qt (.t
 12)), q0 14 13, q2 15 0 14, qF 16 (.nck (.t 15)) 14, qF 17 (.fa 1 (.t 16)) 14, qF 18 (.ld (.t 17)) 14, qF 19 (.eqn false .p (.t 18) (.c (.nilp))) 14, q 20 (.pick (.t 14) qt (.t 19)), q0 21 20, q2 22 0 21, qF 23 (.call 63 [none] [.t 22]) 21,
 qF 24 (.bin .eql (.t 23) (.c (qE))) 21, q 25 (.pick (.t 21) qt (.t 24)), q0 26 25, q2 27 0 26, qF 28 (.nck (.t 27)) 26, qF 29 (.fa 3 (.t 28)) 26, qF 30 (.ld (.t 29)) 26, qF 31 (.bin .lss (.t 30) (qI 0)) 26, q 32 (.pick (.t 26) qt (.t 31)),
 q0 33 32, q2 34 0 33, qF 35 (.nck (.t 34)) 33, qF 36 (.fa 3 (.t 35)) 33, qF 37 (.ld (.t 36)) 33, qF 38 (.bin .geq (.t 37) (qI 3)) 33, q 39 (.pick (.t 33) qt (.t 38)), q0 40 39, q2 41 0 40, qF 42 (.nck (.t 41)) 40, qF 43 (.fa 3 (.t 42)) 40,
 qF 44 (.ld (.t 43)) 40, qF 45 (.bin .gtr (.t 44) (qI 0)) 40, q2 46 45 40, q1 47 0 46, qT 48 (.nck (.t 47)) 46, qT 49 (.fa 1 (.t 48)) 46, qT 50 (.ld (.t 49)) 46, qT 51 (.call 90 [none] [.t 50]) 46, qT 52 (.bin .eql (.t 51) (qI 0)) 46, qF 53
 (.pick (.t 46) (.t 52) qf) 40, q 54 (.pick (.t 40) qt (.t 53)), q0 55 54, q2 56 0 55, qF 57 (.nck (.t 56)) 55, qF 58 (.fa 4 (.t 57)) 55, qF 59 (.ld (.t 58)) 55, qF 60 (.len .s (.t 59)) 55, qF 61 (.bin .gtr (.t 60) (qI 8)) 55, q 62 (.pick (.t
 55) qt (.t 61))] [0,62] (.cond (.t 62) (.no) .skip)) (.seq (qS [q0 63 0, q5 64 63, q3 65 4 64, q4 66 65, q 67 (.len .s (.t 66)), q 68 (.mv (qI 0))] [66,67,68] (.block 0 (.loop 1 [66,67,68] (qS [q 69 (.bin .lss (.t 68) (.t 67))] [66,67,68,69]
 (.seq (.cond (.t 69) (.no) (.exit 0)) (.seq (.block 1 (qS [q 70 (.ia 4 (.t 66) (.t 68)), q 71 (.ldA 4 (.t 70)), q 4 (.alc [qE, .int .u64 0, .int .i64 0, .nils]), q6 4 4 71] [4,66,67,68] (qS [q 72 (.ldA 4 (.t 4)), qX 154 73 [.t 72], q 74
 (.not (.t 73))] [66,67,68,74] (.cond (.t 74) (.no) (.no))))) (.reg [q 75 (.bin .add (.t 68) (qI 1)), q0 68 75] [66,67,68]))))))) (qS [q 2 (.mv qt)] [2] .ret)))
def xr138 : List RT := [.t 2]
def xa139 : AS := qS [q 2 (.mv (.c (qE)))] [0] (.seq (qS [q0 3 0, q 4 (.eqn false .p (.t 3) (.c (.nilp)))] [0,4] (.cond (.t 4) (.no) .skip)) (qS [q0 5 0, q5 6 5, q3 7 0 6, q4 8 7, q0 2 8] [2] .ret))
def xr139 : List RT := [.t 2]
def xa153 : AS := qS [q 1 (.box (.t 0)), q 2 (.alc [qE, .int .u64 0, .int .i64 0, .nils])] [1,2] (qS [q3 3 3 1, q4 4 3, qX 235 5 [.t 4], q3 6 3 1, q6 1 6 5] [1,2] (qS [q 7 (.ldA 4 (.t 1)), q6 4 2 7] [2] .ret))
def xr153 : List RT := [.c 2 (some 4)]
def xa154 : AS := qS [q 1 (.box (.t 0)), q 2 (.mv qf)] [1] (qS [q3 3 0 1, q4 4 3, q 5 (.len .i (.t 4)), q 6 (.bin .leq (.t 5) (qI 40)), q0 7 6, qT 8 (.fa 3 (.t 1)) 7, qT 9 (.ld (.t 8)) 7, qT 10 (.len .s (.t 9)) 7, qT 11 (.bin .leq (.t 10) (qI 4)) 7, q 12
 (.pick (.t 7) (.t 11) qf), q0 2 12] [2] .ret)
def xr154 : List RT := [.t 2]
def xa155 : AS := qS [q 6 (.mv qf)] [0,1,2] (qS [q0 7 0, q 8 (.eqn true .p (.t 7) (.c (.nilp))), q0 9 8, q1 10 0 9, qT 11 (.nck (.t 10)) 9, qT 12 (.fa 0 (.t 11)) 9, qT 13 (.ld (.t 12)) 9, q1 14 1 9, qT 15 (.lk false (.int .u64) (.sl 8 (.int .u64)) false (.t
 13) (.t 14)) 9, q1 16 2 9, qT 17 (.call 131 [none, none] [.t 15, .t 16]) 9, q 18 (.pick (.t 9) (.t 17) qf), q0 6 18] [6] .ret)
def xr155 : List RT := [.t 6]
def xa156 : AS := qS [q 2 (.mv (.c (.nilp)))] [0] (qS [q0 8 0, qX 236 9 [.t 8], q0 7 9, q 10 (.ext (.t 7) 0), q 11 (.ext (.t 7) 1), q0 3 10, q0 4 11] [3] (qS [q0 13 3, qX 62 14 [.t 13], q0 12 14, q 15 (.ext (.t 12) 0), q 16 (.ext (.t 12) 1), q0 5 15, q0 6 16]
 [5] (qS [q0 17 5, q0 2 17] [2] .ret)))
def xr156 : List RT := [.t 2]
def xa157 : AS := qS [q 4 (.mv (.c (.nilp)))] [0,1] (.seq (qS [q0 10 0, q5 11 10, q3 12 1 11, q4 13 12, q0 14 1, q 15 (.call 237 [none, none] [.t 13, .t 14]), q0 9 15, q 16 (.ext (.t 9) 0), q 17 (.ext (.t 9) 1), q0 5 16, q0 6 17] [0,1,5,6] (qS [q0 18 6]
 [0,1,5,18] (.cond (.t 18) (.no) .skip))) (qS [q0 30 0, q5 31 30, q3 32 2 31, q4 33 32, q0 34 1, q 35 (.lk false .str .any1 true (.t 33) (.t 34)), q0 29 35, q 36 (.ext (.t 29) 0), q 37 (.ext (.t 29) 1), q0 7 36, q0 8 37] [0,1,7,8] (.seq (qS
 [q0 38 8, q 39 (.not (.t 38))] [0,1,7,39] (.cond (.t 39) (qS [q0 40 0, q0 41 1, q 42 (.call 238 [none, none] [.t 40, .t 41]), q0 7 42] [0,1,7] (.reg [q0 43 0, q5 44 43, q3 45 2 44, q4 46 45, q0 47 1, q0 48 7, ⟨none, .mu false .str .any1 (.t
 46) (.t 47) (.t 48), none⟩] [7])) (.no))) (qS [q0 49 7, q0 4 49] [4] .ret))))
def xr157 : List RT := [.t 4]
def xa158 : AS := qS [q 3 (.box (.t 1)), q 4 (.mv (qI 0))] [0,3] (.seq (.block 0 (qS [q0 6 0, q 7 (.eqn false .p (.t 6) (.c (.nilp))), q0 8 7, qF 9 (.ldA 4 (.t 3)) 8, qF 10 (.call 154 [none] [.t 9]) 8, qF 11 (.not (.t 10)) 8, q 12 (.pick (.t 8) qt (.t 11)),
 q0 5 12] [0,3,5] (.cond (.t 5) (.no) (qS [q0 14 0, q5 15 14, q3 16 0 15, q4 17 16, q 18 (.len .s (.t 17)), q 19 (.bin .geq (.t 18) (qI 8)), q0 13 19] [0,3,13] (.cond (.t 13) (.no) .skip))))) (.seq (.regD [q0 20 0, q0 21 0, q5 22 21, q3 23 0
 22, q4 24 23, q 25 (.ldA 4 (.t 3)), qX 153 26 [.t 25], q 27 (.bsl 56 qD 1 [(0, (.t 26))]), q 28 (.app 56 qD (.t 24) (.t 27)), q5 29 20, q3 30 0 29, q6 1 30 28] [.q 0, .q 1, .q 2, .q 3, .q 4, .q 5, .e 6 [0,1,2,3,4], .e 7 [0,1,2,3,4], .e 8
 [0], .q 9, .q 10, .e 11 []] []) (qS [q 4 (.mv (qI 0))] [4] .ret)))
def xr158 : List RT := [.t 4]
def xa159 : AS := qS [q 2 (.mv (.c (.nils)))] [0] (.seq (qS [q0 8 0, q 9 (.eqn false .p (.t 8) (.c (.nilp)))] [0,9] (.cond (.t 9) (.no) .skip)) (qS [q 10 (.call 162 [] []), q0 3 10] [0,3] (qS [q0 11 3, q0 12 0, q5 13 12, q3 14 1 13, q4 15 14, q 16 (.len .s
 (.t 15)), q 17 (.cv .u64 (.t 16)), q 18 (.call 179 [none, none] [.t 11, .t 17])] [0,3] (.seq (qS [q0 19 0, q5 20 19, q3 21 1 20, q4 22 21, q 23 (.len .s (.t 22)), q 24 (.mv (qI 0))] [0,3,22,23,24] (.block 0 (.loop 1 [0,3,22,23,24] (qS [q 25
 (.bin .lss (.t 24) (.t 23))] [0,3,22,23,24,25] (.seq (.cond (.t 25) .skip (.exit 0)) (.seq (.block 1 (qS [q 26 (.ia 1 (.t 22) (.t 24)), q4 27 26, q0 5 27] [0,3,5,22,23,24] (qS [q0 28 3, q0 29 5, q 30 (.call 179 [none, none] [.t 28, .t 29])]
 [0,3,5,22,23,24] (qS [q0 31 3, q0 32 0, q5 33 32, q3 34 0 33, q4 35 34, q0 36 5, q 37 (.lk false (.int .u64) (.sl 8 (.int .u64)) false (.t 35) (.t 36)), q 38 (.len .s (.t 37)), q 39 (.cv .u64 (.t 38)), q 40 (.call 179 [none, none] [.t 31, .t
 39])] [0,3,5,22,23,24] (qS [q0 41 0, q5 42 41, q3 43 0 42, q4 44 43, q0 45 5, q 46 (.lk false (.int .u64) (.sl 8 (.int .u64)) false (.t 44) (.t 45)), q 47 (.len .s (.t 46)), q 48 (.mv (qI 0))] [0,3,22,23,24,46,47,48] (.block 2 (.loop 2
 [0,3,22,23,24,46,47,48] (qS [q 49 (.bin .lss (.t 48) (.t 47))] [0,3,22,23,24,46,47,48,49] (.seq (.cond (.t 49) .skip (.exit 2)) (.seq (.block 3 (qS [q 50 (.ia 1 (.t 46) (.t 48)), q4 51 50, q0 7 51] [0,3,7,22,23,24,46,47,48] (.reg [q0 52 3,
 q0 53 7, q 54 (.call 179 [none, none] [.t 52, .t 53])] [0,3,22,23,24,46,47,48]))) (.reg [q 55 (.bin .add (.t 48) (qI 1)), q0 48 55] [0,3,22,23,24,46,47,48]))))))))))) (.reg [q 56 (.bin .add (.t 24) (qI 1)), q0 24 56] [0,3,22,23,24])))))))
 (qS [q0 57 3, qX 164 58 [.t 57], q0 2 58] [2] .ret)))))
def xr159 : List RT := [.t 2]
def xa160 : AS := qS [q 3 (.box (.t 1)), q 4 (.mv (qI 0))] [0,3] (.seq (qS [q3 12 0 3, q4 13 12, q 14 (.lenP (.t 13)), q 15 (.mv (qI 0))] [0,3,13,14,15] (.block 0 (.loop 1 [0,3,13,14,15] (qS [q 16 (.bin .lss (.t 15) (.t 14))] [0,3,13,14,15,16] (.seq (.cond
 (.t 16) .skip (.exit 0)) (.seq (.block 1 (qS [q 17 (.iaP (.t 13) (.t 15)), q4 18 17, q0 6 18] [0,3,6,13,14,15] (qS [q0 20 6, qX 236 21 [.t 20], q0 19 21, q 22 (.ext (.t 19) 0), q 23 (.ext (.t 19) 1), q0 7 22, q0 8 23] [0,3,6,7,13,14,15]
 (.regD [q3 24 3 3, q4 25 24, q0 26 6, qX 63 27 [.t 26], q 28 (.bin .add (.c (.str ⟨#[97]⟩)) (.t 27)), q0 29 7, q0 30 6, qX 239 31 [.t 30], q 32 (.bld [qE, .nils, .bool false] [(0, 1, (.t 28)), (1, 1, (.t 29)), (2, 1, (.t 31))]), q 33 (.bsl
 48 (.pair .str (.pair (.sl 1 .byte) .bool)) 1 [(0, (.t 32))]), q 34 (.app 48 (.pair .str (.pair (.sl 1 .byte) .bool)) (.t 25) (.t 33)), q3 35 3 3, q6 1 35 34] [.q 0, .q 1, .q 2, .q 5, .q 6, .e 3 [0,1,5,6], .q 4, .e 7 [0,1,5,4], .q 8, .e 9
 [0,1], .e 10 [], .q 11, .e 12 []] [0,3,13,14,15])))) (.reg [q 36 (.bin .add (.t 15) (qI 1)), q0 15 36] [0,3,13,14,15]))))))) (.seq (qS [q3 37 1 3, q4 38 37, q 39 (.eqn true .p (.t 38) (.c (.nilp)))] [0,3,39] (.cond (.t 39) (.no) .skip))
 (.seq (qS [q3 49 2 3, q4 50 49, q 51 (.eqn true .p (.t 50) (.c (.nilp)))] [0,3,51] (.cond (.t 51) (.regD [q3 52 3 3, q4 53 52, q3 54 2 3, q4 55 54, qX 159 56 [.t 55], q 57 (.bld [qE, .nils, .bool false] [(0, 1, (.c (.str ⟨#[119]⟩))), (1, 1,
 (.t 56))]), q 58 (.bsl 48 (.pair .str (.pair (.sl 1 .byte) .bool)) 1 [(0, (.t 57))]), q 59 (.app 48 (.pair .str (.pair (.sl 1 .byte) .bool)) (.t 53) (.t 58)), q3 60 3 3, q6 1 60 59] [.q 0, .q 1, .q 2, .q 3, .e 4 [0,1], .q 5, .e 6 [0,1], .e 7
 [], .q 8, .e 9 []] [0,3]) (.no))) (.seq (.seq (.regD [q0 61 0, q5 62 61, q3 63 0 62, q4 64 63, q3 65 3 3, q4 66 65, q 67 (.call 105 [none, none] [.t 64, .t 66]), q0 9 67] [.q 0, .q 1, .q 2, .q 3, .q 4, .q 5, .e 6 [], .q 7] [0,3,9]) (qS [q0
 68 9, q 69 (.bin .neq (.t 68) (qI 0))] [0,3,9,69] (.cond (.t 69) (.no) .skip))) (.seq (qS [q3 71 0 3, q4 72 71, q 73 (.lenP (.t 72)), q 74 (.mv (qI 0))] [0,3,72,73,74] (.block 2 (.loop 2 [0,3,72,73,74] (qS [q 75 (.bin .lss (.t 74) (.t 73))]
 [0,3,72,73,74,75] (.seq (.cond (.t 75) .skip (.exit 2)) (.seq (.block 3 (qS [q 76 (.iaP (.t 72) (.t 74)), q4 77 76, q0 11 77] [0,3,11,72,73,74] (.seq (.regD [q0 78 0, q5 79 78, q3 80 1 79, q4 81 80, q0 82 11, qX 63 83 [.t 82], q 84 (.call
 241 [none, none] [.t 81, .t 83])] [.q 0, .q 1, .q 2, .q 3, .q 4, .e 5 [0,1,2,3], .e 6 []] [0,3,11,72,73,74,84]) (.cond (.t 84) (.regD [q0 85 0, q5 86 85, q3 87 2 86, q4 88 87, q0 89 11, qX 63 90 [.t 89], q0 91 11, ⟨none, .mu false .str .any1
 (.t 88) (.t 90) (.t 91), none⟩] [.q 0, .q 1, .q 2, .q 3, .q 4, .q 6, .e 5 [0,1,2,3,6], .e 7 []] [0,3,72,73,74]) (.no))))) (.reg [q 92 (.bin .add (.t 74) (qI 1)), q0 74 92] [0,3,72,73,74]))))))) (.seq (qS [q3 93 1 3, q4 94 93, q 95 (.eqn true
 .p (.t 94) (.c (.nilp)))] [0,3,95] (.cond (.t 95) (.no) .skip)) (.seq (qS [q3 101 2 3, q4 102 101, q 103 (.eqn true .p (.t 102) (.c (.nilp)))] [0,3,103] (.cond (.t 103) (.reg [q0 104 0, q3 105 2 3, q4 106 105, q5 107 104, q3 108 4 107, q6 1
 108 106] []) (.no))) (qS [q 4 (.mv (qI 0))] [4] .ret))))))))
def xr160 : List RT := [.t 4]
def xa162 : AS := qS [q 0 (.mv (.c (.nilp)))] [] (qS [q 1 (.bld [.nils] []), q 2 (.box (.t 1)), q0 0 2] [0] .ret)
def xr162 : List RT := [.t 0]
def xa163 : AS := .reg [q0 4 0, q0 5 1, q 6 (.cv .u64 (.t 5)), q 7 (.bin .shl (.t 6) (.c (.int .u64 1))), q0 8 1, q 9 (.bin .shr (.t 8) (.c (.int .u64 63))), q 10 (.cv .u64 (.t 9)), q 11 (.bin .xor (.t 7) (.t 10)), q 12 (.call 179 [none, none] [.t 4, .t 11])]
 []
def xr163 : List RT := []
def xa164 : AS := qS [q 2 (.mv (.c (.nils)))] [0] (.seq (qS [q0 3 0, q 4 (.eqn false .p (.t 3) (.c (.nilp)))] [0,4] (.cond (.t 4) (.no) .skip)) (qS [q 5 (.bsl 1 .byte 0 []), q0 6 0, q5 7 6, q3 8 0 7, q4 9 8, q 10 (.app 1 .byte (.t 5) (.t 9)), q0 2 10] [2]
 .ret))
def xr164 : List RT := [.t 2]
def xa172 : AS := qS [q 2 (.mv qf)] [0] (qS [q0 3 0, q 4 (.eqn false .p (.t 3) (.c (.nilp))), q0 5 4, q2 6 0 5, qF 7 (.nck (.t 6)) 5, qF 8 (.fa 0 (.t 7)) 5, qF 9 (.ld (.t 8)) 5, qF 10 (.bin .eql (.t 9) (.c (qE))) 5, q 11 (.pick (.t 5) qt (.t 10)), q0 2 11]
 [2] .ret)
def xr172 : List RT := [.t 2]
def xa179 : AS := .seq (qS [q0 6 0, q 7 (.eqn false .p (.t 6) (.c (.nilp)))] [0,1,7] (.cond (.t 7) (.no) .skip)) (.seq (qS [q0 8 1, q 9 (.bin .lss (.t 8) (.c (.int .u64 248)))] [0,1,9] (.cond (.t 9) (qS [q0 10 0, q0 11 0, q5 12 11, q3 13 0 12, q4 14 13, q0 15
 1, q 16 (.cv .u8 (.t 15)), q 17 (.bsl 1 .byte 1 [(0, (.t 16))]), q 18 (.app 1 .byte (.t 14) (.t 17)), q5 19 10, q3 20 0 19, q6 1 20 18] [] .ret) (.no))) (qS [q0 21 1, qX 261 22 [.t 21], q 23 (.bin .add (.t 22) (qI 7)), q 24 (.bin .quo (.t
 23) (qI 8)), q0 4 24] [0,1,4] (qS [q0 25 0, q0 26 0, q5 27 26, q3 28 0 27, q4 29 28, q0 30 4, q 31 (.bin .add (qI 247) (.t 30)), q 32 (.cv .u8 (.t 31)), q 33 (.bsl 1 .byte 1 [(0, (.t 32))]), q 34 (.app 1 .byte (.t 29) (.t 33)), q5 35 25, q3
 36 0 35, q6 1 36 34] [0,1,4] (qS [q0 37 4, q 38 (.bin .sub (.t 37) (qI 1)), q0 5 38] [0,1,5] (.block 0 (.loop 1 [0,1,5] (.seq (qS [q0 39 5, q 40 (.bin .geq (.t 39) (qI 0))] [0,1,5,40] (.cond (.t 40) (.no) (.no))) (.seq (.block 1 (.regD [q0
 43 0, q0 44 0, q5 45 44, q3 46 0 45, q4 47 46, q0 48 1, q0 49 5, q 50 (.bin .mul (qI 8) (.t 49)), q 51 (.bin .shr (.t 48) (.t 50)), q 52 (.cv .u8 (.t 51)), q 53 (.bsl 1 .byte 1 [(0, (.t 52))]), q 54 (.app 1 .byte (.t 47) (.t 53)), q5 55 43,
 q3 56 0 55, q6 1 56 54] [.q 0, .q 1, .q 2, .q 3, .q 4, .q 5, .q 6, .q 7, .q 8, .q 9, .e 10 [0,1,2,3,4], .e 11 [0], .q 12, .q 13, .e 14 []] [0,1,5])) (.reg [q0 41 5, q 42 (.bin .sub (.t 41) (qI 1)), q0 5 42] [0,1,5])))))))))
def xr179 : List RT := []
def xa180 : AS := qS [q0 4 0, q 5 (.eqn true .p (.t 4) (.c (.nilp)))] [0,1,5] (.cond (.t 5) (qS [q0 6 0, q0 7 1, q 8 (.len .i (.t 7)), q 9 (.cv .u64 (.t 8)), q 10 (.call 179 [none, none] [.t 6, .t 9])] [0,1] (.reg [q0 11 0, q0 12 0, q5 13 12, q3 14 0 13, q4
 15 14, q0 16 1, q 17 (.app 1 .byte (.t 15) (.t 16)), q5 18 11, q3 19 0 18, q6 1 19 17] [])) (.no))
def xr180 : List RT := []
def xa181 : AS := qS [q 2 (.mv (qI 0))] [0] (qS [q 7 (.mkm false .str .bool), q0 3 7] [0,3] (qS [q 4 (.mv qf)] [0,3,4] (.seq (qS [q0 8 0, q 9 (.len .s (.t 8)), q 10 (.mv (qI 0))] [3,4,8,9,10] (.block 0 (.loop 1 [3,4,8,9,10] (qS [q 11 (.bin .lss (.t 10) (.t
 9))] [3,4,8,9,10,11] (.seq (.cond (.t 11) .skip (.exit 0)) (.seq (.block 1 (qS [q 12 (.ia 3 (.t 8) (.t 10)), q 13 (.ldA 3 (.t 12)), q 6 (.alc [qE, .nils, .bool false]), q6 3 6 13] [3,4,6,8,9,10] (.seq (qS [q3 14 0 6, q4 15 14, q 16 (.bin
 .eql (.t 15) (.c (qE))), q0 17 16, qF 18 (.fa 0 (.t 6)) 17, qF 19 (.ld (.t 18)) 17, qF 20 (.len .i (.t 19)) 17, qF 21 (.bin .gtr (.t 20) (qI 64)) 17, q 22 (.pick (.t 17) qt (.t 21)), q0 23 22, q2 24 3 23, qF 25 (.fa 0 (.t 6)) 23, qF 26 (.ld
 (.t 25)) 23, qF 27 (.lk false .str .bool false (.t 24) (.t 26)) 23, q 28 (.pick (.t 23) qt (.t 27))] [3,4,6,8,9,10,28] (.cond (.t 28) (.no) .skip)) (qS [q0 29 3, q3 30 0 6, q4 31 30, ⟨none, .mu false .str .bool (.t 29) (.t 31) qt, none⟩]
 [3,4,6,8,9,10] (.reg [q0 32 4, q0 33 32, qF 34 (.fa 1 (.t 6)) 33, qF 35 (.ld (.t 34)) 33, qF 36 (.len .s (.t 35)) 33, qF 37 (.bin .gtr (.t 36) (qI 20000)) 33, q 38 (.pick (.t 33) qt (.t 37)), q0 4 38] [3,4,8,9,10]))))) (.reg [q 39 (.bin .add
 (.t 10) (qI 1)), q0 10 39] [3,4,8,9,10]))))))) (.seq (qS [q0 40 4] [40] (.cond (.t 40) (.no) .skip)) (qS [q 2 (.mv (qI 0))] [2] .ret)))))
def xr181 : List RT := [.t 2]
def xa182 : AS := qS [q 2 (.mv (.c (.nils)))] [0] (qS [q 6 (.call 162 [] []), q0 3 6] [0,3] (.seq (qS [q0 7 0, q 8 (.len .s (.t 7)), q 9 (.mv (qI 0))] [3,7,8,9] (.block 0 (.loop 1 [3,7,8,9] (qS [q 10 (.bin .lss (.t 9) (.t 8))] [3,7,8,9,10] (.seq (.cond (.t
 10) .skip (.exit 0)) (.seq (.block 1 (qS [q 11 (.ia 3 (.t 7) (.t 9)), q 12 (.ldA 3 (.t 11)), q 5 (.alc [qE, .nils, .bool false]), q6 3 5 12] [3,5,7,8,9] (qS [q0 13 3, q3 14 0 5, q4 15 14, q 16 (.call 180 [none, none] [.t 13, .t 15])]
 [3,5,7,8,9] (.seq (qS [q3 17 2 5, q4 18 17] [3,5,7,8,9,18] (.cond (.t 18) (.no) .skip)) (qS [q0 21 3, q 22 (.call 179 [none, none] [.t 21, (.c (.int .u64 1))])] [3,5,7,8,9] (.reg [q0 23 3, q3 24 1 5, q4 25 24, q 26 (.b2s (.t 25)), q 27
 (.call 180 [none, none] [.t 23, .t 26])] [3,7,8,9])))))) (.reg [q 28 (.bin .add (.t 9) (qI 1)), q0 9 28] [3,7,8,9]))))))) (qS [q0 29 3, qX 164 30 [.t 29], q0 2 30] [2] .ret)))
def xr182 : List RT := [.t 2]
def xa183 : AS := qS [q 4 (.mv (qI 0))] [0,1] (.seq (.block 0 (qS [q0 11 0, q 12 (.eqn false .p (.t 11) (.c (.nilp))), q0 10 12] [0,1,10] (.cond (.t 10) (.no) (qS [q0 14 0, q5 15 14, q3 16 6 15, q4 17 16, q0 13 17] [0,1,13] (.cond (.t 13) (.no) (qS [q0 19 1,
 q 20 (.len .s (.t 19)), q 21 (.bin .eql (.t 20) (qI 0)), q0 18 21] [0,1,18] (.cond (.t 18) (.no) (qS [q0 23 1, q 24 (.len .s (.t 23)), q 25 (.bin .gtr (.t 24) (qI 60000)), q0 22 25] [0,1,22] (.cond (.t 22) (.no) (qS [q0 27 1, q 28 (.len .s
 (.t 27)), q 29 (.bin .add (.t 28) (qI 233)), q 30 (.bin .sub (.t 29) (qI 1)), q 31 (.bin .quo (.t 30) (qI 233)), q0 32 0, qX 266 33 [.t 32], q 34 (.bin .gtr (.t 31) (.t 33)), q0 26 34] [0,1,26] (.cond (.t 26) (.no) .skip))))))))))) (qS [q0
 35 0, q5 36 35, q3 37 5 36, q4 38 37, q0 5 38] [0,1,5] (.seq (qS [q0 39 1, q0 6 39] [0,1,5,6] (.block 1 (.loop 1 [0,1,5,6] (.seq (qS [q0 40 6, q 41 (.len .s (.t 40)), q 42 (.bin .gtr (.t 41) (qI 0))] [0,1,5,6,42] (.cond (.t 42) .skip (.exit
 1))) (.seq (.block 2 (qS [q0 45 6, q 46 (.len .s (.t 45)), q 47 (.mm false (.t 46) (qI 233)), q0 7 47] [0,1,5,6,7] (.seq (.regD [q0 49 5, q 50 (.cv .u32 (.t 49)), q0 51 0, q0 52 7, q0 53 6, q 54 (.len .s (.t 53)), q 55 (.bin .eql (.t 52) (.t
 54)), q 56 (.call 199 [none, none] [.t 51, .t 55]), q0 57 6, q0 58 7, q 59 (.slR 1 (.t 57) none (some (.t 58))), q 60 (.app 1 .byte (.t 56) (.t 59)), q 61 (.call 267 [none, none, none] [(.c (.int .u8 76)), .t 50, .t 60]), q0 48 61, q 62
 (.ext (.t 48) 0), q 63 (.ext (.t 48) 1), q0 8 62, q0 9 63] [.q 0, .q 1, .q 2, .q 3, .q 4, .q 5, .q 6, .q 8, .q 9, .q 10, .e 7 [0,1,8,9,10], .e 11 [0,1], .e 12 [], .q 13, .q 14, .q 15, .q 16, .q 17] [0,1,5,6,7,8]) (.seq (.seq (.regD [q0 64 0,
 q5 65 64, q3 66 0 65, q4 67 66, q0 68 0, q5 69 68, q3 70 1 69, q4 71 70, q0 72 5, q 73 (.bin .add (.t 71) (.t 72)), q0 74 8, q 75 (.call 268 [none, none, none] [.t 67, .t 73, .t 74]), q 76 (.bin .neq (.t 75) (qI 0))] [.q 0, .q 1, .q 2, .q 3,
 .q 4, .q 5, .q 6, .q 7, .q 8, .q 9, .q 10, .e 11 [], .q 12] [0,1,5,6,7,76]) (.cond (.t 76) (.no) .skip)) (.reg [q0 80 6, q0 81 7, q 82 (.slR 1 (.t 80) (some (.t 81)) none), q0 6 82] [0,1,5,6]))))) (.reg [q0 43 5, q 44 (.bin .add (.t 43) (qI
 1)), q0 5 44] [0,1,5,6])))))) (qS [q0 83 0, q0 84 5, q5 85 83, q3 86 5 85, q6 1 86 84] [0,1] (.seq (.regD [q0 87 0, q0 88 0, q5 89 88, q3 90 4 89, q4 91 90, q0 92 1, qX 124 93 [.t 92], q 94 (.bsl 24 (.sl 1 .byte) 1 [(0, (.t 93))]), q 95
 (.app 24 (.sl 1 .byte) (.t 91) (.t 94)), q5 96 87, q3 97 4 96, q6 1 97 95] [.q 0, .q 1, .q 2, .q 3, .q 4, .q 5, .e 6 [0,1,2,3,4], .e 7 [0,1,2,3,4], .e 8 [0], .q 9, .q 10, .e 11 []] []) (qS [q 4 (.mv (qI 0))] [4] .ret))))))
def xr183 : List RT := [.t 4]
def xa186 : AS := qS [q 4 (.mv (.c (.nils))), q 5 (.mv (qI 0))] [0,1] (.seq (.block 0 (qS [q0 7 0, q 8 (.eqn false .p (.t 7) (.c (.nilp))), q0 9 8, q2 10 0 9, qF 11 (.nck (.t 10)) 9, qF 12 (.fa 3 (.t 11)) 9, qF 13 (.ld (.t 12)) 9, q 14 (.pick (.t 9) qt (.t
 13)), q0 6 14] [0,1,6] (.cond (.t 6) (.no) (qS [q0 16 1, q 17 (.bin .lss (.t 16) (qI 0)), q0 18 17, q2 19 1 18, q2 20 0 18, qF 21 (.nck (.t 20)) 18, qF 22 (.fa 0 (.t 21)) 18, qF 23 (.ld (.t 22)) 18, qF 24 (.len .s (.t 23)) 18, qF 25 (.bin
 .geq (.t 19) (.t 24)) 18, q 26 (.pick (.t 18) qt (.t 25)), q0 15 26] [0,1,15] (.cond (.t 15) (.no) (qS [q0 28 0, q5 29 28, q3 30 0 29, q4 31 30, q0 32 1, q 33 (.ia 1 (.t 31) (.t 32)), q4 34 33, q 35 (.isn false (.t 34)), q0 27 35] [0,1,27]
 (.cond (.t 27) (qS [q 36 (.mks 1 .byte (qI 256) (qI 256)), q0 4 36, q 5 (.mv (qI 0))] [4,5] .ret) .skip))))))) (qS [q0 37 0, q5 38 37, q3 39 0 38, q4 40 39, q0 41 1, q 42 (.ia 1 (.t 40) (.t 41)), q4 43 42, qX 124 44 [.t 43], q0 4 44, q 5
 (.mv (qI 0))] [4,5] .ret))
def xr186 : List RT := [.t 4, .t 5]
def xa187 : AS := qS [q 6 (.mv (.c (.nils))), q 7 (.mv qf)] [0,1,2] (.seq (qS [q0 11 2, q 12 (.len .s (.t 11)), q 13 (.bin .neq (.t 12) (qI 256)), q0 14 13, q2 15 2 14, qF 16 (.ia 1 (.t 15) (qI 13)) 14, qF 17 (.ld (.t 16)) 14, qF 18 (.cv .i64 (.t 17)) 14, qF
 19 (.bin .gtr (.t 18) (qI 242)) 14, q 20 (.pick (.t 14) qt (.t 19))] [0,1,2,20] (.cond (.t 20) (qS [q 6 (.mv (.c (.nils))), q 7 (.mv qf)] [6,7] .ret) .skip)) (qS [q0 21 2, q0 22 2, q 23 (.ia 1 (.t 22) (qI 13)), q4 24 23, q 25 (.cv .i64 (.t
 24)), q 26 (.bin .add (qI 14) (.t 25)), q 27 (.slR 1 (.t 21) (some (qI 14)) (some (.t 26))), q0 8 27] [0,1,2,8] (qS [q0 29 0, q0 30 1, q0 31 8, q 32 (.call 267 [none, none, none] [.t 29, .t 30, .t 31]), q0 28 32, q 33 (.ext (.t 28) 0), q 34
 (.ext (.t 28) 1), q0 9 33, q0 10 34] [2,8,9] (.seq (qS [q0 35 9, q0 36 2, q 37 (.call 269 [none, none] [.t 35, .t 36]), q 38 (.not (.t 37))] [8,38] (.cond (.t 38) (qS [q 6 (.mv (.c (.nils))), q 7 (.mv qf)] [6,7] .ret) (.no))) (qS [q0 39 8,
 qX 124 40 [.t 39], q0 6 40, q 7 (.mv qt)] [6,7] .ret)))))
def xr187 : List RT := [.t 6, .t 7]
def xa188 : AS := qS [q 2 (.mv (qI 0))] [0] (.seq (qS [q0 3 0, q 4 (.eqn false .p (.t 3) (.c (.nilp)))] [0,4] (.cond (.t 4) (.no) .skip)) (qS [q0 5 0, q5 6 5, q3 7 0 6, q4 8 7, q 9 (.len .s (.t 8)), q0 2 9] [2] .ret))
def xr188 : List RT := [.t 2]
def xa189 : AS := .reg [q0 2 0, q0 3 0, q5 4 2, q3 5 0 4, ⟨none, .st 1 (.t 5) (.c (.nils)), none⟩, q5 6 3, q3 7 1 6, ⟨none, .st 1 (.t 7) qt, none⟩] []
def xr189 : List RT := []
def xa190 : AS := qS [q 6 (.mv qf)] [0,1,2] (qS [q0 7 0, q 8 (.eqn true .p (.t 7) (.c (.nilp))), q0 9 8, q1 10 2 9, qT 11 (.bin .geq (.t 10) (qI 1)) 9, q 12 (.pick (.t 9) (.t 11) qf), q0 13 12, q1 14 1 13, qT 15 (.bin .geq (.t 14) (qI 0)) 13, q 16 (.pick (.t
 13) (.t 15) qf), q0 17 16, q1 18 1 17, q1 19 0 17, qT 20 (.call 109 [none] [.t 19]) 17, qT 21 (.bin .leq (.t 18) (.t 20)) 17, q 22 (.pick (.t 17) (.t 21) qf), q0 23 22, q1 24 2 23, q1 25 0 23, qT 26 (.call 109 [none] [.t 25]) 23, q1 27 1 23,
 qT 28 (.bin .sub (.t 26) (.t 27)) 23, qT 29 (.bin .leq (.t 24) (.t 28)) 23, q 30 (.pick (.t 23) (.t 29) qf), q0 6 30] [6] .ret)
def xr190 : List RT := [.t 6]
def xa196 : AS := qS [q 2 (.mv (qI 0))] [0] (.seq (qS [q0 3 0, q 4 (.eqn false .p (.t 3) (.c (.nilp)))] [0,4] (.cond (.t 4) (.no) .skip)) (qS [q0 5 0, q5 6 5, q3 7 1 6, q4 8 7, q0 2 8] [2] .ret))
def xr196 : List RT := [.t 2]
def xa199 : AS := qS [q 4 (.mv (.c (.nils)))] [0,1] (qS [q 7 (.mks 1 .byte (qI 9) (qI 9)), q0 5 7] [0,1,5] (.seq (qS [q 8 (.mv (qI 0))] [0,1,5,8] (.block 0 (.loop 1 [0,1,5,8] (qS [q 9 (.bin .lss (.t 8) (qI 8))] [0,1,5,8,9] (.seq (.cond (.t 9) .skip (.exit 0))
 (.seq (.block 1 (qS [q0 10 8, q0 6 10] [0,1,5,6,8] (.reg [q0 11 5, q0 12 6, q0 13 0, q5 14 13, q3 15 3 14, q4 16 15, q0 17 6, q 18 (.bin .mul (qI 8) (.t 17)), q 19 (.bin .shr (.t 16) (.t 18)), q 20 (.cv .u8 (.t 19)), q 21 (.ia 1 (.t 11) (.t
 12)), q6 1 21 20] [0,1,5,8]))) (.reg [q 22 (.bin .add (.t 8) (qI 1)), q0 8 22] [0,1,5,8]))))))) (.seq (qS [q0 23 1] [5,23] (.cond (.t 23) (.reg [q0 24 5, q 25 (.ia 1 (.t 24) (qI 8)), ⟨none, .st 1 (.t 25) (.c (.int .u8 1)), none⟩] [5])
 (.no))) (qS [q0 26 5, q0 4 26] [4] .ret))))
def xr199 : List RT := [.t 4]
def xa210 : AS := qS [q 4 (.mv (qI 0))] [0,1] (.seq (qS [q0 6 0, q 7 (.len .s (.t 6)), q 8 (.mv (qI 0))] [0,1,7,8] (.block 0 (.loop 1 [0,1,7,8] (qS [q 9 (.bin .lss (.t 8) (.t 7))] [0,1,7,8,9] (.seq (.cond (.t 9) .skip (.exit 0)) (.seq (.block 1 (qS [q0 10 8,
 q0 5 10] [0,1,5,7,8] (qS [q0 11 1, q0 12 0, q0 13 5, q 14 (.ia 1 (.t 12) (.t 13)), q4 15 14, q 16 (.bin .eql (.t 11) (.t 15))] [0,1,5,7,8,16] (.cond (.t 16) (qS [q0 17 5, q0 4 17] [4] .ret) (.no))))) (.reg [q 18 (.bin .add (.t 8) (qI 1)), q0
 8 18] [0,1,7,8]))))))) (qS [q 4 (.mv (qI (-1)))] [4] .ret))
def xr210 : List RT := [.t 4]
def xa211 : AS := qS [q 4 (.mv (.c (.nils)))] [0,1] (.seq (qS [q0 5 0, q 6 (.eqn false .p (.t 5) (.c (.nilp)))] [0,1,6] (.cond (.t 6) (.no) .skip)) (qS [q0 7 0, q5 8 7, q3 9 0 8, q4 10 9, q0 11 1, q 12 (.lk false (.int .u64) (.sl 8 (.int .u64)) false (.t 10)
 (.t 11)), qX 214 13 [.t 12], q0 4 13] [4] .ret))
def xr211 : List RT := [.t 4]
def xa212 : AS := qS [q 4 (.mv (.c (.nils)))] [0,1] (qS [q0 8 0, q0 9 1, q 10 (.call 279 [none, none] [.t 8, .t 9]), q0 5 10] [0,1,5] (.seq (qS [q0 11 5, q 12 (.bin .eql (.t 11) (qI (-1)))] [0,1,5,12] (.cond (.t 12) (qS [q0 13 0, q0 4 13] [4] .ret) (.no)))
 (.seq (qS [q0 14 5, q 15 (.bin .add (.t 14) (qI 1)), q0 6 15] [0,1,5,6] (.block 0 (.loop 1 [0,1,5,6] (.seq (qS [q0 16 6, q0 17 0, q 18 (.len .s (.t 17)), q 19 (.bin .lss (.t 16) (.t 18))] [0,1,5,6,19] (.cond (.t 19) (.no) (.no))) (.seq
 (.block 1 (qS [q0 22 0, q0 23 6, q 24 (.ia 1 (.t 22) (.t 23)), q4 25 24, q0 7 25] [0,1,5,6,7] (qS [q0 26 1, q0 27 7, q 28 (.callv (.t 26) [none] [.t 27]), q 29 (.not (.t 28))] [0,1,5,6,7,29] (.cond (.t 29) (.no) (.no))))) (.reg [q0 20 6, q
 21 (.bin .add (.t 20) (qI 1)), q0 6 21] [0,1,5,6])))))) (.seq (.no) (qS [q0 39 0, q0 40 5, q 41 (.slR 1 (.t 39) none (some (.t 40))), q0 4 41] [4] .ret)))))
def xr212 : List RT := [.t 4]
def xa214 : AS := qS [q 2 (.mv (.c (.nils)))] [0] (.seq (qS [q0 3 0, q 4 (.isn false (.t 3))] [0,4] (.cond (.t 4) (qS [q 2 (.mv (.c (.nils)))] [2] (.lift 2 none 8 (.int .u64) .ret)) .skip)) (qS [q 5 (.bsl 8 (.int .u64) 0 []), q0 6 0, q 7 (.app 8 (.int .u64)
 (.t 5) (.t 6)), q0 2 7] [2] (.lift 2 none 8 (.int .u64) .ret)))
def xr214 : List RT := [.t 2]
def xa216 : AS := qS [q 1 (.box (.t 0)), q 2 (.mv (.c (.nilf)))] [1] (qS [q 3 (.mkf 282 [.t 1]), q0 2 3] [2] .ret)
def xr216 : List RT := [.t 2]
def xa217 : AS := qS [q 2 (.mv (.c (.nilp))), q 3 (.mv (qI 0))] [0] (.seq (qS [q0 4 0, qX 71 5 [.t 4], q 6 (.not (.t 5))] [0,6] (.cond (.t 6) (.no) .skip)) (qS [q0 7 0, q 8 (.mkm false .str (.int .u64)), q 9 (.bld [qE, .nils, .nilm] [(0, 1, (.t 7)), (2, 1,
 (.t 8))]), q 10 (.box (.t 9)), q0 2 10, q 3 (.mv (qI 0))] [2,3] .ret))
def xr217 : List RT := [.t 2, .t 3]
def xa235 : AS := qS [q 2 (.mv (.c (.nils)))] [0] (.seq (qS [q0 3 0, q 4 (.isn false (.t 3))] [0,4] (.cond (.t 4) (.no) .skip)) (qS [q 5 (.bsl 8 (.int .i64) 0 []), q0 6 0, q 7 (.app 8 (.int .i64) (.t 5) (.t 6)), q0 2 7] [2] (.lift 2 none 8 (.int .i64) .ret)))
def xr235 : List RT := [.t 2]
def xa236 : AS := qS [q 2 (.mv (.c (.nils))), q 3 (.mv (qI 0))] [0] (.seq (qS [q0 9 0, qX 138 10 [.t 9], q 11 (.not (.t 10))] [0,11] (.cond (.t 11) (.no) .skip)) (qS [q0 13 0, q5 14 13, q3 15 4 14, q4 16 15, qX 289 17 [.t 16], q0 12 17, q 18 (.ext (.t 12) 0),
 q 19 (.ext (.t 12) 1), q0 4 18, q0 5 19] [0,4] (qS [q 20 (.call 162 [] []), q0 6 20] [0,4,6] (qS [q0 21 6, q0 22 0, q5 23 22, q3 24 3 23, q4 25 24, q 26 (.cv .u64 (.t 25)), q 27 (.call 179 [none, none] [.t 21, .t 26])] [0,4,6] (.seq (.seq
 (.regD [q0 28 0, q5 29 28, q3 30 0 29, q4 31 30, qX 290 32 [.t 31], q0 33 0, q5 34 33, q3 35 1 34, q4 36 35, qX 291 37 [.t 36], q0 38 0, q5 39 38, q3 40 2 39, q4 41 40, qX 247 42 [.t 41], q0 43 4, q 44 (.bsl 24 (.sl 1 .byte) 4 [(0, (.t 32)),
 (1, (.t 37)), (2, (.t 42)), (3, (.t 43))]), q 45 (.len .s (.t 44)), q 46 (.mv (qI 0))] [.q 0, .q 1, .q 2, .q 3, .q 5, .q 6, .q 7, .q 8, .q 10, .q 11, .q 12, .q 13, .q 15, .q 18, .e 4 [5,6,7,8,10,11,12,13,15,18], .e 9 [10,11,12,13,15,18], .e
 14 [15,18], .e 16 [18], .q 17] [6,44,45,46]) (.block 0 (.loop 1 [6,44,45,46] (qS [q 47 (.bin .lss (.t 46) (.t 45))] [6,44,45,46,47] (.seq (.cond (.t 47) .skip (.exit 0)) (.seq (.block 1 (qS [q 48 (.ia 1 (.t 44) (.t 46)), q4 49 48, q0 8 49]
 [6,8,44,45,46] (.reg [q0 50 6, q0 51 8, q 52 (.b2s (.t 51)), q 53 (.call 180 [none, none] [.t 50, .t 52])] [6,44,45,46]))) (.reg [q 54 (.bin .add (.t 46) (qI 1)), q0 46 54] [6,44,45,46]))))))) (qS [q0 55 6, qX 164 56 [.t 55], q0 2 56, q 3
 (.mv (qI 0))] [2,3] .ret))))))
def xr236 : List RT := [.t 2, .t 3]
def xa237 : AS := qS [q 4 (.mv (.c (qE))), q 5 (.mv qf)] [0,1] (.seq (qS [q0 7 0, q 8 (.eqn false .p (.t 7) (.c (.nilp)))] [0,1,8] (.cond (.t 8) (.no) .skip)) (qS [q0 9 0, q0 10 1, q 11 (.call 292 [none, none] [.t 9, .t 10])] [0,1] (qS [q0 12 0, q0 13 0, q5
 14 13, q3 15 1 14, q4 16 15, q0 17 1, q 18 (.bsl 16 .str 1 [(0, (.t 17))]), q 19 (.app 16 .str (.t 16) (.t 18)), q5 20 12, q3 21 1 20, q6 1 21 19] [0] (.seq (.seq (.regD [q0 22 0, q5 23 22, q3 24 1 23, q4 25 24, q 26 (.len .s (.t 25)), q0 27
 0, qX 293 28 [.t 27], q 29 (.bin .leq (.t 26) (.t 28))] [.q 0, .q 1, .q 2, .q 3, .q 4, .q 5, .e 6 [0,1,2,3,4], .q 7] [0,29]) (.cond (.t 29) (qS [q 4 (.mv (.c (qE))), q 5 (.mv qf)] [4,5] .ret) (.no))) (qS [q0 30 0, q5 31 30, q3 32 1 31, q4 33
 32, q 34 (.ia 1 (.t 33) (qI 0)), q4 35 34, q0 6 35] [0,6] (qS [q0 36 0, q0 37 0, q5 38 37, q3 39 1 38, q4 40 39, q 41 (.slR 1 (.t 40) (some (qI 1)) none), qX 184 42 [.t 41], q5 43 36, q3 44 1 43, q6 1 44 42] [6] (qS [q0 45 6, q0 4 45, q 5
 (.mv qt)] [4,5] .ret)))))))
def xr237 : List RT := [.t 4, .t 5]
def xa238 : AS := qS [q 4 (.mv (.c (.nilp)))] [0,1] (.seq (qS [q0 12 0, q5 13 12, q3 14 0 13, q4 15 14, q0 16 1, q 17 (.bin .add (.c (.str ⟨#[97]⟩)) (.t 16)), q 18 (.call 54 [none, none] [.t 15, .t 17]), q0 11 18, q 19 (.ext (.t 11) 0), q 20 (.ext (.t 11) 1),
 q0 5 19, q0 6 20] [1,5,6] (qS [q0 21 6] [1,5,21] (.cond (.t 21) (.no) .skip))) (qS [q0 31 1, qX 294 32 [.t 31], q0 30 32, q 33 (.ext (.t 30) 0), q 34 (.ext (.t 30) 1), q0 9 33, q0 10 34] [9] (qS [q0 35 9, q0 4 35] [4] .ret)))
def xr238 : List RT := [.t 4]
def xa239 : AS := qS [q 2 (.mv qf)] [0] (qS [q0 3 0, q 4 (.eqn true .p (.t 3) (.c (.nilp))), q0 5 4, q1 6 0 5, qT 7 (.nck (.t 6)) 5, qT 8 (.fa 0 (.t 7)) 5, qT 9 (.ld (.t 8)) 5, qT 10 (.call 295 [none] [.t 9]) 5, qT 11 (.bin .eql (.t 10) (.c (.int .u64 0))) 5,
 q 12 (.pick (.t 5) (.t 11) qf), q0 13 12, q1 14 0 13, qT 15 (.nck (.t 14)) 13, qT 16 (.fa 1 (.t 15)) 13, qT 17 (.ld (.t 16)) 13, qT 18 (.call 90 [none] [.t 17]) 13, qT 19 (.bin .eql (.t 18) (qI 0)) 13, q 20 (.pick (.t 13) (.t 19) qf), q0 21
 20, q1 22 0 21, qT 23 (.nck (.t 22)) 21, qT 24 (.fa 2 (.t 23)) 21, qT 25 (.ld (.t 24)) 21, qT 26 (.call 296 [none] [.t 25]) 21, q 27 (.pick (.t 21) (.t 26) qf), q0 28 27, q1 29 0 28, qT 30 (.nck (.t 29)) 28, qT 31 (.fa 3 (.t 30)) 28, qT 32
 (.ld (.t 31)) 28, qT 33 (.bin .eql (.t 32) (qI 0)) 28, q 34 (.pick (.t 28) (.t 33) qf), q0 35 34, q1 36 0 35, qT 37 (.nck (.t 36)) 35, qT 38 (.fa 4 (.t 37)) 35, qT 39 (.ld (.t 38)) 35, qT 40 (.len .s (.t 39)) 35, qT 41 (.bin .eql (.t 40) (qI
 0)) 35, q 42 (.pick (.t 35) (.t 41) qf), q0 2 42] [2] .ret)
def xr239 : List RT := [.t 2]
def xa241 : AS := qS [q 4 (.mv qf)] [0,1] (qS [q0 5 0, q 6 (.eqn true .p (.t 5) (.c (.nilp))), q0 7 6, q1 8 0 7, qT 9 (.nck (.t 8)) 7, qT 10 (.fa 1 (.t 9)) 7, qT 11 (.ld (.t 10)) 7, q1 12 1 7, qT 13 (.call 297 [none, none] [.t 11, .t 12]) 7, q 14 (.pick (.t
 7) (.t 13) qf), q0 4 14] [4] .ret)
def xr241 : List RT := [.t 4]
def xa247 : AS := qS [q 2 (.mv (.c (.nils)))] [0] (.seq (qS [q0 10 0, qX 172 11 [.t 10]] [0,11] (.cond (.t 11) (.no) .skip)) (qS [q 12 (.call 162 [] []), q0 3 12] [0,3] (qS [q0 13 3, q0 14 0, q5 15 14, q3 16 0 15, q4 17 16, q 18 (.call 180 [none, none] [.t
 13, .t 17])] [0,3] (qS [q0 19 3, q0 20 0, q5 21 20, q3 22 2 21, q4 23 22, q 24 (.len .m (.t 23)), q 25 (.cv .u64 (.t 24)), q 26 (.call 179 [none, none] [.t 19, .t 25])] [0,3] (.seq (qS [q0 27 0, q5 28 27, q3 29 2 28, q4 30 29, qX 301 31 [.t
 30], qX 215 32 [.t 31], q 33 (.len .s (.t 32)), q 34 (.mv (qI 0))] [0,3,32,33,34] (.block 0 (.loop 1 [0,3,32,33,34] (qS [q 35 (.bin .lss (.t 34) (.t 33))] [0,3,32,33,34,35] (.seq (.cond (.t 35) (.no) (.exit 0)) (.seq (.block 1 (qS [q 36 (.ia
 1 (.t 32) (.t 34)), q4 37 36, q0 5 37] [0,3,5,32,33,34] (qS [q0 38 3, q0 39 5, q 40 (.call 180 [none, none] [.t 38, .t 39])] [0,3,5,32,33,34] (.reg [q0 41 3, q0 42 0, q5 43 42, q3 44 2 43, q4 45 44, q0 46 5, q 47 (.lk false .str (.int .u64)
 false (.t 45) (.t 46)), q 48 (.call 179 [none, none] [.t 41, .t 47])] [0,3,32,33,34])))) (.reg [q 49 (.bin .add (.t 34) (qI 1)), q0 34 49] [0,3,32,33,34]))))))) (qS [q0 50 3, q0 51 0, q5 52 51, q3 53 1 52, q4 54 53, q 55 (.len .s (.t 54)), q
 56 (.cv .u64 (.t 55)), q 57 (.call 179 [none, none] [.t 50, .t 56])] [0,3] (.seq (qS [q0 58 0, q5 59 58, q3 60 1 59, q4 61 60, q 62 (.len .s (.t 61)), q 63 (.mv (qI 0))] [3,61,62,63] (.block 2 (.loop 2 [3,61,62,63] (qS [q 64 (.bin .lss (.t
 63) (.t 62))] [3,61,62,63,64] (.seq (.cond (.t 64) (.no) (.exit 2)) (.seq (.block 3 (qS [q 65 (.ia 5 (.t 61) (.t 63)), q 66 (.ldA 5 (.t 65)), q 7 (.alc [qE, qE, .int .u64 0, .int .i64 0, .nils]), q6 5 7 66] [3,7,61,62,63] (qS [q0 67 3, q3 68
 0 7, q4 69 68, q 70 (.call 180 [none, none] [.t 67, .t 69])] [3,7,61,62,63] (qS [q3 72 1 7, q 73 (.ldA 4 (.t 72)), qX 302 74 [.t 73], q0 71 74, q 75 (.ext (.t 71) 0), q 76 (.ext (.t 71) 1), q0 8 75, q0 9 76] [3,8,61,62,63] (.reg [q0 77 3, q0
 78 8, q 79 (.b2s (.t 78)), q 80 (.call 180 [none, none] [.t 77, .t 79])] [3,61,62,63]))))) (.reg [q 81 (.bin .add (.t 63) (qI 1)), q0 63 81] [3,61,62,63]))))))) (qS [q0 82 3, qX 164 83 [.t 82], q0 2 83] [2] .ret))))))))
def xr247 : List RT := [.t 2]
def xa266 : AS := qS [q 2 (.mv (qI 0))] [0] (.seq (qS [q0 3 0, q 4 (.eqn false .p (.t 3) (.c (.nilp)))] [0,4] (.cond (.t 4) (.no) .skip)) (.seq (.regD [q0 5 0, q5 6 5, q3 7 2 6, q4 8 7, q0 9 0, q5 10 9, q3 11 5 10, q4 12 11, q 13 (.bin .sub (.t 8) (.t 12)),
 q0 2 13] [.q 0, .q 1, .q 2, .q 3, .q 4, .q 5, .q 6, .q 7, .q 8, .q 9] [2]) .ret))
def xr266 : List RT := [.t 2]
def xa267 : AS := qS [q 6 (.mv (.c (.nils))), q 7 (.mv (qI 0))] [0,1,2] (.seq (qS [q0 12 2, q 13 (.len .s (.t 12)), q 14 (.bin .gtr (.t 13) (qI 242))] [0,1,2,14] (.cond (.t 14) (.no) .skip)) (qS [q 15 (.mks 1 .byte (qI 256) (qI 256)), q0 8 15] [0,1,2,8] (qS
 [q0 16 8, q0 17 0, q 18 (.ia 1 (.t 16) (qI 8)), q6 1 18 17] [1,2,8] (.seq (qS [q 19 (.mv (qI 0))] [1,2,8,19] (.block 0 (.loop 1 [1,2,8,19] (qS [q 20 (.bin .lss (.t 19) (qI 4))] [1,2,8,19,20] (.seq (.cond (.t 20) .skip (.exit 0)) (.seq
 (.block 1 (qS [q0 21 19, q0 9 21] [1,2,8,9,19] (.reg [q0 22 8, q0 23 9, q 24 (.bin .add (qI 9) (.t 23)), q0 25 1, q0 26 9, q 27 (.bin .mul (qI 8) (.t 26)), q 28 (.bin .sub (qI 24) (.t 27)), q 29 (.bin .shr (.t 25) (.t 28)), q 30 (.cv .u8 (.t
 29)), q 31 (.ia 1 (.t 22) (.t 24)), q6 1 31 30] [1,2,8,19]))) (.reg [q 32 (.bin .add (.t 19) (qI 1)), q0 19 32] [1,2,8,19]))))))) (qS [q0 33 8, q0 34 2, q 35 (.len .s (.t 34)), q 36 (.cv .u8 (.t 35)), q 37 (.ia 1 (.t 33) (qI 13)), q6 1 37
 36] [2,8] (qS [q0 38 8, q 39 (.slR 1 (.t 38) (some (qI 14)) none), q0 40 2, q 41 (.cpy .byte (.t 39) (.t 40))] [8] (qS [q0 42 8, q 43 (.slR 1 (.t 42) (some (qI 8)) none), q 44 (.call 315 [(some (1, .byte))] [.t 43]), q0 10 44] [8,10] (.seq
 (qS [q 45 (.mv (qI 0))] [8,10,45] (.block 2 (.loop 2 [8,10,45] (qS [q 46 (.bin .lss (.t 45) (qI 8))] [8,10,45,46] (.seq (.cond (.t 46) .skip (.exit 2)) (.seq (.block 3 (qS [q0 47 45, q0 11 47] [8,10,11,45] (.reg [q0 48 8, q0 49 11, q0 50 10,
 q0 51 11, q 52 (.bin .mul (qI 8) (.t 51)), q 53 (.bin .sub (qI 56) (.t 52)), q 54 (.bin .shr (.t 50) (.t 53)), q 55 (.cv .u8 (.t 54)), q 56 (.ia 1 (.t 48) (.t 49)), q6 1 56 55] [8,10,45]))) (.reg [q 57 (.bin .add (.t 45) (qI 1)), q0 45 57]
 [8,10,45]))))))) (qS [q0 58 8, q0 6 58, q 7 (.mv (qI 0))] [6,7] .ret)))))))))
def xr267 : List RT := [.t 6, .t 7]
def xa268 : AS := qS [q 6 (.mv (qI 0))] [0,1,2] (.seq (.block 0 (qS [q0 8 0, q 9 (.eqn false .p (.t 8) (.c (.nilp))), q0 10 9, q2 11 0 10, qF 12 (.nck (.t 11)) 10, qF 13 (.fa 3 (.t 12)) 10, qF 14 (.ld (.t 13)) 10, q 15 (.pick (.t 10) qt (.t 14)), q0 7 15]
 [0,1,2,7] (.cond (.t 7) (.no) (qS [q0 17 1, q 18 (.bin .lss (.t 17) (qI 0)), q0 19 18, q2 20 1 19, q2 21 0 19, qF 22 (.nck (.t 21)) 19, qF 23 (.fa 0 (.t 22)) 19, qF 24 (.ld (.t 23)) 19, qF 25 (.len .s (.t 24)) 19, qF 26 (.bin .geq (.t 20)
 (.t 25)) 19, q 27 (.pick (.t 19) qt (.t 26)), q0 28 27, q2 29 2 28, qF 30 (.len .s (.t 29)) 28, qF 31 (.bin .neq (.t 30) (qI 256)) 28, q 32 (.pick (.t 28) qt (.t 31)), q0 16 32] [0,1,2,16] (.cond (.t 16) (.no) (qS [q0 34 0, q5 35 34, q3 36 2
 35, q4 37 36, q 38 (.bin .eql (.t 37) (qI 0)), q0 33 38] [0,1,2,33] (.cond (.t 33) (.no) (qS [q0 43 0, q5 44 43, q3 45 2 44, q4 46 45, q 47 (.bin .gtr (.t 46) (qI 0)), q0 42 47] [0,1,2,42] (.cond (.t 42) (.no) .skip))))))))) (.seq (.regD [q0
 55 0, q5 56 55, q3 57 0 56, q4 58 57, q0 59 1, q0 60 2, qX 124 61 [.t 60], q 62 (.ia 1 (.t 58) (.t 59)), q6 1 62 61] [.q 0, .q 1, .q 2, .q 3, .q 4, .q 5, .e 6 [0,1,2,3,4], .q 7, .e 8 []] [0,1]) (.seq (.regD [q0 63 0, q0 64 0, q5 65 64, q3 66
 1 65, q4 67 66, q0 68 1, q0 69 0, q5 70 69, q3 71 0 70, q4 72 71, q0 73 1, q 74 (.ia 1 (.t 72) (.t 73)), q4 75 74, q 76 (.bld [.int .i64 0, .nils] [(0, 1, (.t 68)), (1, 1, (.t 75))]), q 77 (.bsl 32 (.pair (.int .i64) (.sl 1 .byte)) 1 [(0,
 (.t 76))]), q 78 (.app 32 (.pair (.int .i64) (.sl 1 .byte)) (.t 67) (.t 77)), q5 79 63, q3 80 1 79, q6 1 80 78] [.q 0, .q 1, .q 2, .q 3, .q 4, .q 5, .q 6, .q 7, .q 8, .q 9, .q 10, .q 11, .q 12, .q 13, .e 14 [0,1,2,3,4], .e 15 [0], .q 16, .q
 17, .e 18 []] []) (qS [q 6 (.mv (qI 0))] [6] .ret))))
def xr268 : List RT := [.t 6]
def xa269 : AS := qS [q 4 (.mv qf)] [0,1] (qS [q0 5 0, q 6 (.b2s (.t 5)), q0 7 1, q 8 (.b2s (.t 7)), q 9 (.bin .eql (.t 6) (.t 8)), q0 4 9] [4] .ret)
def xr269 : List RT := [.t 4]
def xa279 : AS := qS [q 4 (.mv (qI 0))] [0,1] (.seq (qS [q0 6 0, q 7 (.len .s (.t 6)), q 8 (.mv (qI 0))] [0,1,7,8] (.block 0 (.loop 1 [0,1,7,8] (qS [q 9 (.bin .lss (.t 8) (.t 7))] [0,1,7,8,9] (.seq (.cond (.t 9) (.no) (.exit 0)) (.seq (.block 1 (qS [q0 10 8,
 q0 5 10] [0,1,5,7,8] (qS [q0 11 1, q0 12 0, q0 13 5, q 14 (.ia 1 (.t 12) (.t 13)), q4 15 14, q 16 (.callv (.t 11) [none] [.t 15])] [0,1,5,7,8,16] (.cond (.t 16) (.no) (.no))))) (.reg [q 18 (.bin .add (.t 8) (qI 1)), q0 8 18] [0,1,7,8])))))))
 (qS [q 4 (.mv (qI (-1)))] [4] .ret))
def xr279 : List RT := [.t 4]
def xa289 : AS := qS [q 2 (.mv (.c (.nils))), q 3 (.mv (qI 0))] [0] (qS [q 7 (.call 162 [] []), q0 4 7] [0,4] (qS [q0 8 4, q0 9 0, q 10 (.len .s (.t 9)), q 11 (.cv .u64 (.t 10)), q 12 (.call 179 [none, none] [.t 8, .t 11])] [0,4] (.seq (qS [q0 13 0, q 14
 (.len .s (.t 13)), q 15 (.mv (qI 0))] [4,13,14,15] (.block 0 (.loop 1 [4,13,14,15] (qS [q 16 (.bin .lss (.t 15) (.t 14))] [4,13,14,15,16] (.seq (.cond (.t 16) .skip (.exit 0)) (.seq (.block 1 (qS [q 17 (.ia 4 (.t 13) (.t 15)), q 18 (.ldA 4
 (.t 17)), q 6 (.alc [qE, .int .u64 0, .int .i64 0, .nils]), q6 4 6 18] [4,6,13,14,15] (.seq (qS [q 19 (.ldA 4 (.t 6)), qX 154 20 [.t 19], q 21 (.not (.t 20))] [4,6,13,14,15,21] (.cond (.t 21) (.no) .skip)) (.reg [q0 22 4, q 23 (.ldA 4 (.t
 6)), q 24 (.call 324 [none, none] [.t 22, .t 23])] [4,13,14,15])))) (.reg [q 25 (.bin .add (.t 15) (qI 1)), q0 15 25] [4,13,14,15]))))))) (qS [q0 26 4, qX 164 27 [.t 26], q0 2 27, q 3 (.mv (qI 0))] [2,3] .ret))))
def xr289 : List RT := [.t 2, .t 3]
def xa290 : AS := qS [q 2 (.mv (.c (.nils)))] [0] (.seq (qS [q0 8 0, q 9 (.eqn false .p (.t 8) (.c (.nilp)))] [0,9] (.cond (.t 9) (.no) .skip)) (qS [q 10 (.call 162 [] []), q0 3 10] [0,3] (qS [q0 11 3, q0 12 0, q5 13 12, q3 14 9 13, q4 15 14, q 16 (.call 179
 [none, none] [.t 11, .t 15])] [0,3] (.seq (qS [q0 17 0, q5 18 17, q3 19 0 18, q 20 (.ldA 8 (.t 19)), q 21 (.mv (qI 0))] [0,3,20,21] (.block 0 (.loop 1 [0,3,20,21] (qS [q 22 (.bin .lss (.t 21) (qI 8))] [0,3,20,21,22] (.seq (.cond (.t 22)
 .skip (.exit 0)) (.seq (.block 1 (qS [q 23 (.ixA 8 (.t 20) (.t 21)), q0 5 23] [0,3,5,20,21] (.reg [q0 24 3, q0 25 5, q 26 (.call 163 [none, none] [.t 24, .t 25])] [0,3,20,21]))) (.reg [q 27 (.bin .add (.t 21) (qI 1)), q0 21 27]
 [0,3,20,21]))))))) (qS [q0 28 3, q0 29 0, q5 30 29, q3 31 8 30, q4 32 31, q 33 (.len .s (.t 32)), q 34 (.cv .u64 (.t 33)), q 35 (.call 179 [none, none] [.t 28, .t 34])] [0,3] (.seq (qS [q0 36 0, q5 37 36, q3 38 8 37, q4 39 38, q 40 (.len .s
 (.t 39)), q 41 (.mv (qI 0))] [3,39,40,41] (.block 2 (.loop 2 [3,39,40,41] (qS [q 42 (.bin .lss (.t 41) (.t 40))] [3,39,40,41,42] (.seq (.cond (.t 42) (.no) (.exit 2)) (.seq (.block 3 (qS [q 43 (.ia 2 (.t 39) (.t 41)), q 44 (.ldA 2 (.t 43)),
 q 7 (.alc [.int .i64 0, .int .i64 0]), q6 2 7 44] [3,7,39,40,41] (qS [q0 45 3, q3 46 0 7, q4 47 46, q 48 (.cv .u64 (.t 47)), q 49 (.call 179 [none, none] [.t 45, .t 48])] [3,7,39,40,41] (.reg [q0 50 3, q3 51 1 7, q4 52 51, q 53 (.call 163
 [none, none] [.t 50, .t 52])] [3,39,40,41])))) (.reg [q 54 (.bin .add (.t 41) (qI 1)), q0 41 54] [3,39,40,41]))))))) (qS [q0 55 3, qX 164 56 [.t 55], q0 2 56] [2] .ret)))))))
def xr290 : List RT := [.t 2]
def xa291 : AS := qS [q 2 (.mv (.c (.nils)))] [0] (.seq (qS [q0 5 0, q 6 (.eqn false .p (.t 5) (.c (.nilp)))] [0,6] (.cond (.t 6) (.no) .skip)) (qS [q0 8 0, q5 9 8, q3 10 0 9, q4 11 10, qX 289 12 [.t 11], q0 7 12, q 13 (.ext (.t 7) 0), q 14 (.ext (.t 7) 1),
 q0 3 13, q0 4 14] [3] (qS [q0 15 3, q0 2 15] [2] .ret)))
def xr291 : List RT := [.t 2]
def xa292 : AS := qS [q 3 (.box (.t 1)), q 4 (.mv qf)] [0,3] (.seq (qS [q0 5 0, q4 6 3, q 7 (.call 241 [none, none] [.t 5, .t 6]), q 8 (.not (.t 7))] [0,3,8] (.cond (.t 8) (qS [q 4 (.mv qf)] [4] .ret) (.no))) (qS [q0 9 0, q0 10 0, q5 11 10, q3 12 1 11, q4 13
 12, q 14 (.mkf 326 [.t 3]), q 15 (.call 325 [none, none] [.t 13, .t 14]), q5 16 9, q3 17 1 16, q6 1 17 15] [] (qS [q 4 (.mv qt)] [4] .ret)))
def xr292 : List RT := [.t 4]
def xa293 : AS := qS [q 2 (.mv (qI 0))] [0] (.seq (qS [q0 3 0, q 4 (.eqn false .p (.t 3) (.c (.nilp)))] [0,4] (.cond (.t 4) (.no) .skip)) (qS [q0 5 0, q5 6 5, q3 7 0 6, q4 8 7, q 9 (.mm true (.t 8) (qI 1)), q0 2 9] [2] .ret))
def xr293 : List RT := [.t 2]
def xa294 : AS := qS [q 2 (.mv (.c (.nilp))), q 3 (.mv (qI 0))] [0] (qS [q0 7 0, qX 217 8 [.t 7], q0 6 8, q 9 (.ext (.t 6) 0), q 10 (.ext (.t 6) 1), q0 4 9, q0 5 10] [4,5] (.seq (qS [q0 11 5, q 12 (.bin .neq (.t 11) (qI 0))] [4,5,12] (.cond (.t 12) (.no)
 .skip)) (qS [q 14 (.call 327 [] []), q 15 (.call 328 [] []), q0 16 4, q 17 (.bld [.nilp, .nilp, .nilp, .int .i64 0, .nils] [(0, 1, (.t 14)), (1, 1, (.t 15)), (2, 1, (.t 16))]), q 18 (.box (.t 17)), q0 2 18, q 3 (.mv (qI 0))] [2,3] .ret)))
def xr294 : List RT := [.t 2, .t 3]
def xa295 : AS := qS [q 2 (.mv (.c (.int .u64 0)))] [0] (.seq (qS [q0 3 0, q 4 (.eqn false .p (.t 3) (.c (.nilp)))] [0,4] (.cond (.t 4) (.no) .skip)) (qS [q0 5 0, q5 6 5, q3 7 9 6, q4 8 7, q0 2 8] [2] .ret))
def xr295 : List RT := [.t 2]
def xa297 : AS := qS [q 4 (.mv qf)] [0,1] (qS [q0 5 0, q0 6 1, q 7 (.call 329 [none, none] [.t 5, .t 6]), q 8 (.bin .geq (.t 7) (qI 0)), q0 4 8] [4] .ret)
def xr297 : List RT := [.t 4]
def xa301 : AS := qS [q 1 (.box (.t 0)), q 2 (.mv (.c (.nilf)))] [1] (qS [q 3 (.mkf 337 [.t 1]), q0 2 3] [2] .ret)
def xr301 : List RT := [.t 2]
def xa324 : AS := qS [q 3 (.box (.t 1))] [0,3] (qS [q0 6 0, q3 7 0 3, q4 8 7, q 9 (.call 180 [none, none] [.t 6, .t 8])] [0,3] (qS [q0 10 0, q3 11 1 3, q4 12 11, q 13 (.call 179 [none, none] [.t 10, .t 12])] [0,3] (qS [q0 14 0, q3 15 2 3, q4 16 15, q 17
 (.call 163 [none, none] [.t 14, .t 16])] [0,3] (qS [q0 18 0, q3 19 3 3, q4 20 19, q 21 (.len .s (.t 20)), q 22 (.cv .u64 (.t 21)), q 23 (.call 179 [none, none] [.t 18, .t 22])] [0,3] (qS [q3 24 3 3, q4 25 24, q 26 (.len .s (.t 25)), q 27
 (.mv (qI 0))] [0,25,26,27] (.block 0 (.loop 1 [0,25,26,27] (qS [q 28 (.bin .lss (.t 27) (.t 26))] [0,25,26,27,28] (.seq (.cond (.t 28) .skip (.exit 0)) (.seq (.block 1 (qS [q 29 (.ia 1 (.t 25) (.t 27)), q4 30 29, q0 5 30] [0,5,25,26,27]
 (.reg [q0 31 0, q0 32 5, q 33 (.call 163 [none, none] [.t 31, .t 32])] [0,25,26,27]))) (.reg [q 34 (.bin .add (.t 27) (qI 1)), q0 27 34] [0,25,26,27])))))))))))
def xr324 : List RT := []
def xa327 : AS := qS [q 0 (.mv (.c (.nilp)))] [] (qS [q 1 (.bld [.arr 8 (.int .i64) (List.replicate 8 (Ty.dflt (.int .i64))), .nils, .int .u64 0] []), q 2 (.box (.t 1)), q0 0 2] [0] .ret)
def xr327 : List RT := [.t 0]
def xa328 : AS := qS [q 0 (.mv (.c (.nilp)))] [] (qS [q 1 (.bld [.nils] []), q 2 (.box (.t 1)), q0 0 2] [0] .ret)
def xr328 : List RT := [.t 0]
def xa329 : AS := qS [q 4 (.mv (qI 0))] [0,1] (.seq (qS [q0 6 0, q 7 (.len .s (.t 6)), q 8 (.mv (qI 0))] [0,1,7,8] (.block 0 (.loop 1 [0,1,7,8] (qS [q 9 (.bin .lss (.t 8) (.t 7))] [0,1,7,8,9] (.seq (.cond (.t 9) .skip (.exit 0)) (.seq (.block 1 (qS [q0 10 8,
 q0 5 10] [0,1,5,7,8] (qS [q0 11 1, q0 12 0, q0 13 5, q 14 (.ia 1 (.t 12) (.t 13)), q4 15 14, q 16 (.bin .eql (.t 11) (.t 15))] [0,1,5,7,8,16] (.cond (.t 16) (qS [q0 17 5, q0 4 17] [4] .ret) (.no))))) (.reg [q 18 (.bin .add (.t 8) (qI 1)), q0
 8 18] [0,1,7,8]))))))) (qS [q 4 (.mv (qI (-1)))] [4] .ret))
def xr329 : List RT := [.t 4]
theorem xk9 : okF Tryz.prog 9 xa9 xr9 0 = true := by decide +kernel
theorem xk10 : okF Tryz.prog 10 xa10 xr10 1 = true := by decide +kernel
theorem xk14 : okF Tryz.prog 14 xa14 xr14 2 = true := by decide +kernel
theorem xk24 : okF Tryz.prog 24 xa24 xr24 2 = true := by decide +kernel
theorem xk25 : okF Tryz.prog 25 xa25 xr25 1 = true := by decide +kernel
theorem xk27 : okF Tryz.prog 27 xa27 xr27 2 = true := by decide +kernel
theorem xk36 : okF Tryz.prog 36 xa36 xr36 2 = true := by decide +kernel
theorem xk48 : okF Tryz.prog 48 xa48 xr48 1 = true := by decide +kernel
theorem xk49 : okF Tryz.prog 49 xa49 xr49 1 = true := by decide +kernel
theorem xk50 : okF Tryz.prog 50 xa50 xr50 1 = true := by decide +kernel
theorem xk51 : okF Tryz.prog 51 xa51 xr51 0 = true := by decide +kernel
theorem xk52 : okF Tryz.prog 52 xa52 xr52 0 = true := by decide +kernel
theorem xk53 : okF Tryz.prog 53 xa53 xr53 0 = true := by decide +kernel
theorem xk54 : okF Tryz.prog 54 xa54 xr54 2 = true := by decide +kernel
theorem xk55 : okF Tryz.prog 55 xa55 xr55 1 = true := by decide +kernel
theorem xk56 : okF Tryz.prog 56 xa56 xr56 1 = true := by decide +kernel
theorem xk57 : okF Tryz.prog 57 xa57 xr57 1 = true := by decide +kernel
theorem xk60 : okF Tryz.prog 60 xa60 xr60 1 = true := by decide +kernel
theorem xk61 : okF Tryz.prog 61 xa61 xr61 1 = true := by decide +kernel
theorem xk62 : okF Tryz.prog 62 xa62 xr62 1 = true := by decide +kernel
theorem xk63 : okF Tryz.prog 63 xa63 xr63 1 = true := by decide +kernel
theorem xk65 : okF Tryz.prog 65 xa65 xr65 2 = true := by decide +kernel
theorem xk71 : okF Tryz.prog 71 xa71 xr71 1 = true := by decide +kernel
theorem xk76 : okF Tryz.prog 76 xa76 xr76 6 = true := by decide +kernel
theorem xk90 : okF Tryz.prog 90 xa90 xr90 1 = true := by decide +kernel
theorem xk103 : okF Tryz.prog 103 xa103 xr103 1 = true := by decide +kernel
theorem xk105 : okF Tryz.prog 105 xa105 xr105 2 = true := by decide +kernel
theorem xk107 : okF Tryz.prog 107 xa107 xr107 2 = true := by decide +kernel
theorem xk109 : okF Tryz.prog 109 xa109 xr109 1 = true := by decide +kernel
theorem xk110 : okF Tryz.prog 110 xa110 xr110 1 = true := by decide +kernel
theorem xk111 : okF Tryz.prog 111 xa111 xr111 1 = true := by decide +kernel
theorem xk113 : okF Tryz.prog 113 xa113 xr113 1 = true := by decide +kernel
theorem xk114 : okF Tryz.prog 114 xa114 xr114 1 = true := by decide +kernel
theorem xk115 : okF Tryz.prog 115 xa115 xr115 4 = true := by decide +kernel
theorem xk116 : okF Tryz.prog 116 xa116 xr116 4 = true := by decide +kernel
theorem xk117 : okF Tryz.prog 117 xa117 xr117 2 = true := by decide +kernel
theorem xk118 : okF Tryz.prog 118 xa118 xr118 4 = true := by decide +kernel
theorem xk119 : okF Tryz.prog 119 xa119 xr119 3 = true := by decide +kernel
theorem xk121 : okF Tryz.prog 121 xa121 xr121 1 = true := by decide +kernel
theorem xk122 : okF Tryz.prog 122 xa122 xr122 2 = true := by decide +kernel
theorem xk124 : okF Tryz.prog 124 xa124 xr124 1 = true := by decide +kernel
theorem xk125 : okF Tryz.prog 125 xa125 xr125 1 = true := by decide +kernel
theorem xk131 : okF Tryz.prog 131 xa131 xr131 2 = true := by decide +kernel
theorem xk132 : okF Tryz.prog 132 xa132 xr132 3 = true := by decide +kernel
theorem xk133 : okF Tryz.prog 133 xa133 xr133 3 = true := by decide +kernel
theorem xk134 : okF Tryz.prog 134 xa134 xr134 1 = true := by decide +kernel
theorem xk135 : okF Tryz.prog 135 xa135 xr135 1 = true := by decide +kernel
theorem xk136 : okF Tryz.prog 136 xa136 xr136 1 = true := by decide +kernel
theorem xk137 : okF Tryz.prog 137 xa137 xr137 1 = true := by decide +kernel
theorem xk138 : okF Tryz.prog 138 xa138 xr138 1 = true := by decide +kernel
theorem xk139 : okF Tryz.prog 139 xa139 xr139 1 = true := by decide +kernel
theorem xk153 : okF Tryz.prog 153 xa153 xr153 1 = true := by decide +kernel
theorem xk154 : okF Tryz.prog 154 xa154 xr154 1 = true := by decide +kernel
theorem xk155 : okF Tryz.prog 155 xa155 xr155 3 = true := by decide +kernel
theorem xk156 : okF Tryz.prog 156 xa156 xr156 1 = true := by decide +kernel
theorem xk157 : okF Tryz.prog 157 xa157 xr157 2 = true := by decide +kernel
theorem xk158 : okF Tryz.prog 158 xa158 xr158 2 = true := by decide +kernel
theorem xk159 : okF Tryz.prog 159 xa159 xr159 1 = true := by decide +kernel
theorem xk160 : okF Tryz.prog 160 xa160 xr160 2 = true := by decide +kernel
theorem xk162 : okF Tryz.prog 162 xa162 xr162 0 = true := by decide +kernel
theorem xk163 : okF Tryz.prog 163 xa163 xr163 2 = true := by decide +kernel
theorem xk164 : okF Tryz.prog 164 xa164 xr164 1 = true := by decide +kernel
theorem xk172 : okF Tryz.prog 172 xa172 xr172 1 = true := by decide +kernel
theorem xk179 : okF Tryz.prog 179 xa179 xr179 2 = true := by decide +kernel
theorem xk180 : okF Tryz.prog 180 xa180 xr180 2 = true := by decide +kernel
theorem xk181 : okF Tryz.prog 181 xa181 xr181 1 = true := by decide +kernel
theorem xk182 : okF Tryz.prog 182 xa182 xr182 1 = true := by decide +kernel
theorem xk183 : okF Tryz.prog 183 xa183 xr183 2 = true := by decide +kernel
theorem xk186 : okF Tryz.prog 186 xa186 xr186 2 = true := by decide +kernel
theorem xk187 : okF Tryz.prog 187 xa187 xr187 3 = true := by decide +kernel
theorem xk188 : okF Tryz.prog 188 xa188 xr188 1 = true := by decide +kernel
theorem xk189 : okF Tryz.prog 189 xa189 xr189 1 = true := by decide +kernel
theorem xk190 : okF Tryz.prog 190 xa190 xr190 3 = true := by decide +kernel
theorem xk196 : okF Tryz.prog 196 xa196 xr196 1 = true := by decide +kernel
theorem xk199 : okF Tryz.prog 199 xa199 xr199 2 = true := by decide +kernel
theorem xk210 : okF Tryz.prog 210 xa210 xr210 2 = true := by decide +kernel
theorem xk211 : okF Tryz.prog 211 xa211 xr211 2 = true := by decide +kernel
theorem xk212 : okF Tryz.prog 212 xa212 xr212 2 = true := by decide +kernel
theorem xk214 : okF Tryz.prog 214 xa214 xr214 1 = true := by decide +kernel
theorem xk216 : okF Tryz.prog 216 xa216 xr216 1 = true := by decide +kernel
theorem xk217 : okF Tryz.prog 217 xa217 xr217 1 = true := by decide +kernel
theorem xk235 : okF Tryz.prog 235 xa235 xr235 1 = true := by decide +kernel
theorem xk236 : okF Tryz.prog 236 xa236 xr236 1 = true := by decide +kernel
theorem xk237 : okF Tryz.prog 237 xa237 xr237 2 = true := by decide +kernel
theorem xk238 : okF Tryz.prog 238 xa238 xr238 2 = true := by decide +kernel
theorem xk239 : okF Tryz.prog 239 xa239 xr239 1 = true := by decide +kernel
theorem xk241 : okF Tryz.prog 241 xa241 xr241 2 = true := by decide +kernel
theorem xk247 : okF Tryz.prog 247 xa247 xr247 1 = true := by decide +kernel
theorem xk266 : okF Tryz.prog 266 xa266 xr266 1 = true := by decide +kernel
theorem xk267 : okF Tryz.prog 267 xa267 xr267 3 = true := by decide +kernel
theorem xk268 : okF Tryz.prog 268 xa268 xr268 3 = true := by decide +kernel
theorem xk269 : okF Tryz.prog 269 xa269 xr269 2 = true := by decide +kernel
theorem xk279 : okF Tryz.prog 279 xa279 xr279 2 = true := by decide +kernel
theorem xk289 : okF Tryz.prog 289 xa289 xr289 1 = true := by decide +kernel
theorem xk290 : okF Tryz.prog 290 xa290 xr290 1 = true := by decide +kernel
theorem xk291 : okF Tryz.prog 291 xa291 xr291 1 = true := by decide +kernel
theorem xk292 : okF Tryz.prog 292 xa292 xr292 2 = true := by decide +kernel
theorem xk293 : okF Tryz.prog 293 xa293 xr293 1 = true := by decide +kernel
theorem xk294 : okF Tryz.prog 294 xa294 xr294 1 = true := by decide +kernel
theorem xk295 : okF Tryz.prog 295 xa295 xr295 1 = true := by decide +kernel
theorem xk297 : okF Tryz.prog 297 xa297 xr297 2 = true := by decide +kernel
theorem xk301 : okF Tryz.prog 301 xa301 xr301 1 = true := by decide +kernel
theorem xk324 : okF Tryz.prog 324 xa324 xr324 2 = true := by decide +kernel
theorem xk327 : okF Tryz.prog 327 xa327 xr327 0 = true := by decide +kernel
theorem xk328 : okF Tryz.prog 328 xa328 xr328 0 = true := by decide +kernel
theorem xk329 : okF Tryz.prog 329 xa329 xr329 2 = true := by decide +kernel
def XT : List (Nat × FX) := [(9, .code xa9 xr9 0), (10, .code xa10 xr10 1), (14, .code xa14 xr14 2), (24, .code xa24 xr24 2), (25, .code xa25 xr25 1), (27, .code xa27 xr27 2), (36, .code xa36 xr36 2), (48, .code xa48 xr48 1), (49, .code xa49 xr49 1), (50, .code xa50 xr50 1), (51, .code xa51 xr51 0), (52, .code xa52 xr52 0), (53, .code xa53 xr53 0), (54, .code xa54 xr54 2), (55, .code xa55 xr55 1), (56, .code xa56 xr56 1), (57, .code xa57 xr57 1), (60, .code xa60 xr60 1), (61, .code xa61 xr61 1), (62, .code xa62 xr62 1), (63, .code xa63 xr63 1), (65, .code xa65 xr65 2), (71, .code xa71 xr71 1), (76, .code xa76 xr76 6), (90, .code xa90 xr90 1), (103, .code xa103 xr103 1), (105, .code xa105 xr105 2), (107, .code xa107 xr107 2), (109, .code xa109 xr109 1), (110, .code xa110 xr110 1), (111, .code xa111 xr111 1), (113, .code xa113 xr113 1), (114, .code xa114 xr114 1), (115, .code xa115 xr115 4), (116, .code xa116 xr116 4), (117, .code xa117 xr117 2), (118, .code xa118 xr118 4), (119, .code xa119 xr119 3), (121, .code xa121 xr121 1), (122, .code xa122 xr122 2), (124, .code xa124 xr124 1), (125, .code xa125 xr125 1), (131, .code xa131 xr131 2), (132, .code xa132 xr132 3), (133, .code xa133 xr133 3), (134, .code xa134 xr134 1), (135, .code xa135 xr135 1), (136, .code xa136 xr136 1), (137, .code xa137 xr137 1), (138, .code xa138 xr138 1), (139, .code xa139 xr139 1), (153, .code xa153 xr153 1), (154, .code xa154 xr154 1), (155, .code xa155 xr155 3), (156, .code xa156 xr156 1), (157, .code xa157 xr157 2), (158, .code xa158 xr158 2), (159, .code xa159 xr159 1), (160, .code xa160 xr160 2), (162, .code xa162 xr162 0), (163, .code xa163 xr163 2), (164, .code xa164 xr164 1), (172, .code xa172 xr172 1), (179, .code xa179 xr179 2), (180, .code xa180 xr180 2), (181, .code xa181 xr181 1), (182, .code xa182 xr182 1), (183, .code xa183 xr183 2), (186, .code xa186 xr186 2), (187, .code xa187 xr187 3), (188, .code xa188 xr188 1), (189, .code xa189 xr189 1), (190, .code xa190 xr190 3), (196, .code xa196 xr196 1), (199, .code xa199 xr199 2), (210, .code xa210 xr210 2), (211, .code xa211 xr211 2), (212, .code xa212 xr212 2), (214, .code xa214 xr214 1), (216, .code xa216 xr216 1), (217, .code xa217 xr217 1), (235, .code xa235 xr235 1), (236, .code xa236 xr236 1), (237, .code xa237 xr237 2), (238, .code xa238 xr238 2), (239, .code xa239 xr239 1), (241, .code xa241 xr241 2), (247, .code xa247 xr247 1), (266, .code xa266 xr266 1), (267, .code xa267 xr267 3), (268, .code xa268 xr268 3), (269, .code xa269 xr269 2), (279, .code xa279 xr279 2), (289, .code xa289 xr289 1), (290, .code xa290 xr290 1), (291, .code xa291 xr291 1), (292, .code xa292 xr292 2), (293, .code xa293 xr293 1), (294, .code xa294 xr294 1), (295, .code xa295 xr295 1), (297, .code xa297 xr297 2), (301, .code xa301 xr301 1), (324, .code xa324 xr324 2), (327, .code xa327 xr327 0), (328, .code xa328 xr328 0), (329, .code xa329 xr329 2), (215, .nat nSort), (26, .nat nSplit), (161, .nat nAdd), (315, .nat nSum), (28, .nat nNum), (29, .nat nInt), (30, .nat nUnhex)]
theorem XT_ok : TOk Tryz.prog XT := (.code xk9 (.code xk10 (.code xk14 (.code xk24 (.code xk25 (.code xk27 (.code xk36 (.code xk48 (.code xk49 (.code xk50 (.code xk51 (.code xk52 (.code xk53 (.code xk54 (.code xk55 (.code xk56 (.code xk57 (.code xk60 (.code xk61 (.code xk62 (.code xk63 (.code xk65 (.code xk71 (.code xk76 (.code xk90 (.code xk103 (.code xk105 (.code xk107 (.code xk109 (.code xk110 (.code xk111 (.code xk113 (.code xk114 (.code xk115 (.code xk116 (.code xk117 (.code xk118 (.code xk119 (.code xk121 (.code xk122 (.code xk124 (.code xk125 (.code xk131 (.code xk132 (.code xk133 (.code xk134 (.code xk135 (.code xk136 (.code xk137 (.code xk138 (.code xk139 (.code xk153 (.code xk154 (.code xk155 (.code xk156 (.code xk157 (.code xk158 (.code xk159 (.code xk160 (.code xk162 (.code xk163 (.code xk164 (.code xk172 (.code xk179 (.code xk180 (.code xk181 (.code xk182 (.code xk183 (.code xk186 (.code xk187 (.code xk188 (.code xk189 (.code xk190 (.code xk196 (.code xk199 (.code xk210 (.code xk211 (.code xk212 (.code xk214 (.code xk216 (.code xk217 (.code xk235 (.code xk236 (.code xk237 (.code xk238 (.code xk239 (.code xk241 (.code xk247 (.code xk266 (.code xk267 (.code xk268 (.code xk269 (.code xk279 (.code xk289 (.code xk290 (.code xk291 (.code xk292 (.code xk293 (.code xk294 (.code xk295 (.code xk297 (.code xk301 (.code xk324 (.code xk327 (.code xk328 (.code xk329 (.nat nSort_ok nSort_c (.nat nSplit_ok nSplit_c (.nat nAdd_ok nAdd_c (.nat nSum_ok nSum_c (.nat nNum_ok nNum_c (.nat nInt_ok nInt_c (.nat nUnhex_ok nUnhex_c .nil)))))))))))))))))))))))))))))))))))))))))))))))))))))))))))))))))))))))))))))))))))))))))))))))))))))))))))))))))
end Go.V
