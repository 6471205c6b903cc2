/- A part of the proof layer, or functions of the given program in it: contracts and their proofs. -/
import Derived.Test.YtkoakbgfpnhckaaGreatVy
import Derived.Test.YtkoakbgfpnhckaaGreatProg
namespace Go.V
set_option linter.unusedSimpArgs false
set_option linter.unnecessarySimpa false
open Go.Proofs
def q (n : Nat) (o : AOp) : AOper := ⟨some n, o, none⟩
def qT (n : Nat) (o : AOp) (g : Nat) : AOper := ⟨some n, o, some (g, true)⟩
def qF (n : Nat) (o : AOp) (g : Nat) : AOper := ⟨some n, o, some (g, false)⟩
def q0 (n k : Nat) : AOper := ⟨some n, .mv (.t k), none⟩
def q1 (n k g : Nat) : AOper := ⟨some n, .mv (.t k), some (g, true)⟩
def q2 (n k g : Nat) : AOper := ⟨some n, .mv (.t k), some (g, false)⟩
def q3 (n i k : Nat) : AOper := ⟨some n, .fa i (.t k), none⟩
def q4 (n k : Nat) : AOper := ⟨some n, .ld (.t k), none⟩
def q5 (n k : Nat) : AOper := ⟨some n, .nck (.t k), none⟩
def q6 (n i k : Nat) : AOper := ⟨none, .st n (.t i) (.t k), none⟩
def qI (k : Int) : Opd := .c (.int .i64 k)
def qS (l : List AOper) (k : List Nat) (x : AS) : AS := .seq (.reg l k) x
def qC (t : Nat) (x y : AS) : AS := .seq (.cond (.t t) x .skip) y
def qX (f n : Nat) (l : List Opd) : AOper := ⟨some n, .call f [none] l, none⟩
def qD : Ty := .pair .str (.pair (.int .u64) (.pair (.int .i64) (.sl 8 (.int .i64))))
def qP : Ty := .pair (.int .i64) (.int .i64)
def qf : Opd := .c (.bool false)
def qt : Opd := .c (.bool true)
def qE : SV := .str ByteArray.empty
@[go_sem] theorem qD_d : qD = .pair .str (.pair (.int .u64) (.pair (.int .i64) (.sl 8 (.int .i64)))) := rt
@[go_sem] theorem qP_d : qP = .pair (.int .i64) (.int .i64) := rt
@[go_sem] theorem qf_d : qf = .c (.bool false) := rt
@[go_sem] theorem qt_d : qt = .c (.bool true) := rt
@[go_sem] theorem qE_d : qE = .str ByteArray.empty := rt
@[go_sem] theorem q_d {n o} : q n o = ⟨some n, o, none⟩ := rt
@[go_sem] theorem qT_d {n o g} : qT n o g = ⟨some n, o, some (g, true)⟩ := rt
@[go_sem] theorem qF_d {n o g} : qF n o g = ⟨some n, o, some (g, false)⟩ := rt
@[go_sem] theorem q0_d {n k} : q0 n k = ⟨some n, .mv (.t k), none⟩ := rt
@[go_sem] theorem q1_d {n k g} : q1 n k g = ⟨some n, .mv (.t k), some (g, true)⟩ := rt
@[go_sem] theorem q2_d {n k g} : q2 n k g = ⟨some n, .mv (.t k), some (g, false)⟩ := rt
@[go_sem] theorem q3_d {n i k} : q3 n i k = ⟨some n, .fa i (.t k), none⟩ := rt
@[go_sem] theorem q4_d {n k} : q4 n k = ⟨some n, .ld (.t k), none⟩ := rt
@[go_sem] theorem q5_d {n k} : q5 n k = ⟨some n, .nck (.t k), none⟩ := rt
@[go_sem] theorem q6_d {n i k} : q6 n i k = ⟨none, .st n (.t i) (.t k), none⟩ := rt
@[go_sem] theorem qI_d {k} : qI k = .c (.int .i64 k) := rt
@[go_sem] theorem qS_d {l k x} : qS l k x = .seq (.reg l k) x := rt
@[go_sem] theorem qC_d {t x y} : qC t x y = .seq (.cond (.t t) x .skip) y := rt
@[go_sem] theorem qX_d {f n l} : qX f n l = ⟨some n, .call f [none] l, none⟩ := rt
def a13 : AS := qS [q 2 (.mv (.c (.nilp)))] [0] (qS [q0 3 0, q 4 (.mm true (.t 3) (qI 0)), q 5 (.mm false (.t 4) (qI 65536)), q 6 (.mks 24 (.sl 1 .byte) (.t 5) (.t 5)), q 7 (.bld [.nils, .nils, .int .i64 0, .bool false] [(0, 1, (.t 6)), (2, 1, (qI (-1)))]),
 q 8 (.box (.t 7)), q0 2 8] [2] (.lift 2 (some 0) 24 (.sl 1 .byte) (.lift 2 (some 1) 32 (.pair (.int .i64) (.sl 1 .byte)) .ret)))
def r13 : List RT := [.t 2]
def a22 : AS := qS [q0 4 0, q 5 (.eqn true .p (.t 4) (.c (.nilp)))] [0,1,5] (.cond (.t 5) (.reg [q0 6 0, q0 7 1, q 8 (.mm true (.t 7) (qI (-1))), q5 9 6, q3 10 2 9, q6 1 10 8] []) .skip)
def a23 : AS := qS [q 2 (.mv qf)] [0] (qS [q0 3 0, q 4 (.eqn false .p (.t 3) (.c (.nilp))), q0 5 4, q2 6 0 5, qF 7 (.nck (.t 6)) 5, qF 8 (.fa 3 (.t 7)) 5, qF 9 (.ld (.t 8)) 5, q 10 (.pick (.t 5) qt (.t 9)), q0 2 10] [2] .ret)
def r23 : List RT := [.t 2]
def a24 : AS := qS [q0 2 0, q 3 (.eqn true .p (.t 2) (.c (.nilp)))] [0,3] (.cond (.t 3) (.reg [q0 4 0, q0 5 0, q5 6 4, q3 7 3 6, ⟨none, .st 1 (.t 7) qf, none⟩, q5 8 5, q3 9 2 8, ⟨none, .st 1 (.t 9) (qI (-1)), none⟩] []) .skip)
def a31 : AS := qS [q 6 (.mv qf)] [0,1,2] (qS [q0 7 0, q 8 (.eqn true .p (.t 7) (.c (.nilp))), q0 9 8, q1 10 2 9, qT 11 (.bin .geq (.t 10) (qI 1)) 9, q 12 (.pick (.t 9) (.t 11) qf), q0 13 12, q1 14 1 13, qT 15 (.bin .geq (.t 14) (qI 0)) 13, q 16 (.pick (.t
 13) (.t 15) qf), q0 17 16, q1 18 1 17, q1 19 0 17, qT 20 (.call 56 [none] [.t 19]) 17, qT 21 (.bin .leq (.t 18) (.t 20)) 17, q 22 (.pick (.t 17) (.t 21) qf), q0 23 22, q1 24 2 23, q1 25 0 23, qT 26 (.call 56 [none] [.t 25]) 23, q1 27 1 23,
 qT 28 (.bin .sub (.t 26) (.t 27)) 23, qT 29 (.bin .leq (.t 24) (.t 28)) 23, q 30 (.pick (.t 23) (.t 29) qf), q0 6 30] [6] .ret)
def r31 : List RT := [.t 6]
def a33 : AS := qS [q 2 (.mv (qI 0))] [0] (.seq (qS [q0 3 0, q 4 (.eqn false .p (.t 3) (.c (.nilp)))] [0,4] (.cond (.t 4) (qS [q 2 (.mv (qI 0))] [2] .ret) .skip)) (qS [q0 5 0, q5 6 5, q3 7 1 6, q4 8 7, q0 2 8] [2] .ret))
def r33 : List RT := [.t 2]
def a51 : AS := qS [q 1 (.box (.t 0)), q 2 (.mv (.c (.nilf)))] [1] (qS [q 3 (.mkf 72 [.t 1]), q0 2 3] [2] .ret)
def r51 : List RT := [.t 2]
def a53 : AS := qS [q 2 (.mv (.c (.nils)))] [0] (.seq (qS [q0 3 0, q 4 (.isn false (.t 3))] [0,4] (.cond (.t 4) (qS [q 2 (.mv (.c (.nils)))] [2] (.lift 2 none 1 .byte .ret)) .skip)) (qS [q 5 (.bsl 1 .byte 0 []), q0 6 0, q 7 (.app 1 .byte (.t 5) (.t 6)), q0
 2 7] [2] (.lift 2 none 1 .byte .ret)))
def r53 : List RT := [.t 2]
def a56 : AS := qS [q 2 (.mv (qI 0))] [0] (.seq (qS [q0 3 0, q 4 (.eqn false .p (.t 3) (.c (.nilp)))] [0,4] (.cond (.t 4) (qS [q 2 (.mv (qI 0))] [2] .ret) .skip)) (qS [q0 5 0, q5 6 5, q3 7 0 6, q4 8 7, q 9 (.len .s (.t 8)), q0 2 9] [2] .ret))
def r56 : List RT := [.t 2]
def a57 : AS := qS [q 4 (.mv (.c (.nils))), q 5 (.mv (qI 0))] [0,1] (.seq (.block 0 (qS [q0 7 0, q 8 (.eqn false .p (.t 7) (.c (.nilp))), q0 9 8, q2 10 0 9, qF 11 (.nck (.t 10)) 9, qF 12 (.fa 3 (.t 11)) 9, qF 13 (.ld (.t 12)) 9, q 14 (.pick (.t 9) qt (.t
 13)), q0 6 14] [0,1,6] (.cond (.t 6) (qS [q 4 (.mv (.c (.nils))), q 5 (.mv (qI 9))] [4,5] (.lift 4 none 1 .byte .ret)) (qS [q0 16 1, q 17 (.bin .lss (.t 16) (qI 0)), q0 18 17, q2 19 1 18, q2 20 0 18, qF 21 (.nck (.t 20)) 18, qF 22 (.fa 0 (.t
 21)) 18, qF 23 (.ld (.t 22)) 18, qF 24 (.len .s (.t 23)) 18, qF 25 (.bin .geq (.t 19) (.t 24)) 18, q 26 (.pick (.t 18) qt (.t 25)), q0 15 26] [0,1,15] (.cond (.t 15) (qS [q 4 (.mv (.c (.nils))), q 5 (.mv (qI 1))] [4,5] (.lift 4 none 1 .byte
 .ret)) (qS [q0 28 0, q5 29 28, q3 30 0 29, q4 31 30, q0 32 1, q 33 (.ia 1 (.t 31) (.t 32)), q4 34 33, q 35 (.isn false (.t 34)), q0 27 35] [0,1,27] (.cond (.t 27) (qS [q 36 (.mks 1 .byte (qI 256) (qI 256)), q0 4 36, q 5 (.mv (qI 0))] [4,5]
 (.lift 4 none 1 .byte .ret)) .skip))))))) (qS [q0 37 0, q5 38 37, q3 39 0 38, q4 40 39, q0 41 1, q 42 (.ia 1 (.t 40) (.t 41)), q4 43 42, q 44 (.call 53 [(some (1, .byte))] [.t 43]), q0 4 44, q 5 (.mv (qI 0))] [4,5] (.lift 4 none 1 .byte
 .ret)))
def r57 : List RT := [.t 4, .t 5]
def a55 : AS := qS [q 6 (.mv (qI 0))] [0,1,2] (.seq (.block 0 (qS [q0 8 0, q 9 (.eqn false .p (.t 8) (.c (.nilp))), q0 10 9, q2 11 0 10, qF 12 (.nck (.t 11)) 10, qF 13 (.fa 3 (.t 12)) 10, qF 14 (.ld (.t 13)) 10, q 15 (.pick (.t 10) qt (.t 14)), q0 7 15]
 [0,1,2,7] (.cond (.t 7) (qS [q 6 (.mv (qI 9))] [6] .ret) (qS [q0 17 1, q 18 (.bin .lss (.t 17) (qI 0)), q0 19 18, q2 20 1 19, q2 21 0 19, qF 22 (.nck (.t 21)) 19, qF 23 (.fa 0 (.t 22)) 19, qF 24 (.ld (.t 23)) 19, qF 25 (.len .s (.t 24)) 19,
 qF 26 (.bin .geq (.t 20) (.t 25)) 19, q 27 (.pick (.t 19) qt (.t 26)), q0 28 27, q2 29 2 28, qF 30 (.len .s (.t 29)) 28, qF 31 (.bin .neq (.t 30) (qI 256)) 28, q 32 (.pick (.t 28) qt (.t 31)), q0 16 32] [0,1,2,16] (.cond (.t 16) (qS [q 6
 (.mv (qI 1))] [6] .ret) (qS [q0 34 0, q5 35 34, q3 36 2 35, q4 37 36, q 38 (.bin .eql (.t 37) (qI 0)), q0 33 38] [0,1,2,33] (.cond (.t 33) (qS [q0 39 0, q5 40 39, q3 41 3 40, ⟨none, .st 1 (.t 41) qt, none⟩] [] (qS [q 6 (.mv (qI 9))] [6]
 .ret)) (qS [q0 43 0, q5 44 43, q3 45 2 44, q4 46 45, q 47 (.bin .gtr (.t 46) (qI 0)), q0 42 47] [0,1,2,42] (.cond (.t 42) (.reg [q0 48 0, q5 49 48, q3 50 2 49, q4 51 50, q 52 (.bin .sub (.t 51) (qI 1)), q5 53 48, q3 54 2 53, q6 1 54 52]
 [0,1,2]) .skip))))))))) (.seq (.regD [q0 55 0, q5 56 55, q3 57 0 56, q4 58 57, q0 59 1, q0 60 2, q 61 (.call 53 [(some (1, .byte))] [.t 60]), q 62 (.ia 1 (.t 58) (.t 59)), q6 1 62 61] [.q 0, .q 1, .q 2, .q 3, .q 4, .q 5, .e 6 [0,1,2,3,4], .q
 7, .e 8 []] [0,1]) (.seq (.regD [q0 63 0, q0 64 0, q5 65 64, q3 66 1 65, q4 67 66, q0 68 1, q0 69 0, q5 70 69, q3 71 0 70, q4 72 71, q0 73 1, q 74 (.ia 1 (.t 72) (.t 73)), q4 75 74, q 76 (.bld [.int .i64 0, .nils] [(0, 1, (.t 68)), (1, 1,
 (.t 75))]), q 77 (.bsl 32 (.pair (.int .i64) (.sl 1 .byte)) 1 [(0, (.t 76))]), q 78 (.app 32 (.pair (.int .i64) (.sl 1 .byte)) (.t 67) (.t 77)), q5 79 63, q3 80 1 79, q6 1 80 78] [.q 0, .q 1, .q 2, .q 3, .q 4, .q 5, .q 6, .q 7, .q 8, .q 9,
 .q 10, .q 11, .q 12, .q 13, .e 14 [0,1,2,3,4], .e 15 [0], .q 16, .q 17, .e 18 []] []) (qS [q 6 (.mv (qI 0))] [6] .ret))))
def a59 : AS := qS [q 4 (.mv qf)] [0,1] (qS [q0 5 0, q0 6 1, q 7 (.call 78 [(some (8, (.int .i64))), none] [.t 5, .t 6]), q 8 (.bin .geq (.t 7) (qI 0)), q0 4 8] [4] .ret)
def r59 : List RT := [.t 4]
def a78 : AS := qS [q 4 (.mv (qI 0))] [0,1] (.seq (qS [q0 6 0, q 7 (.len .s (.t 6)), q 8 (.mv (qI 0))] [0,1,7,8] (.block 0 (.loop 1 [0,1,7,8] (qS [q 9 (.bin .lss (.t 8) (.t 7))] [0,1,7,8,9] (.seq (.cond (.t 9) .skip (.exit 0)) (.seq (.block 1 (qS [q0 10 8,
 q0 5 10] [0,1,5,7,8] (qS [q0 11 1, q0 12 0, q0 13 5, q 14 (.ia 1 (.t 12) (.t 13)), q4 15 14, q 16 (.bin .eql (.t 11) (.t 15))] [0,1,5,7,8,16] (.cond (.t 16) (qS [q0 17 5, q0 4 17] [4] .ret) .skip)))) (.reg [q 18 (.bin .add (.t 8) (qI 1)), q0
 8 18] [0,1,7,8]))))))) (qS [q 4 (.mv (qI (-1)))] [4] .ret))
def r78 : List RT := [.t 4]
def a94 : AS := qS [q 2 (.mv (.c (.int .u64 0)))] [0] (qS [q 3 (.mv (.c (.int .u64 14695981039346656037)))] [0,3] (.seq (qS [q0 6 0, q 7 (.len .s (.t 6)), q 8 (.mv (qI 0))] [3,6,7,8] (.block 0 (.loop 1 [3,6,7,8] (qS [q 9 (.bin .lss (.t 8) (.t 7))]
 [3,6,7,8,9] (.seq (.cond (.t 9) .skip (.exit 0)) (.seq (.block 1 (qS [q 10 (.ia 1 (.t 6) (.t 8)), q4 11 10, q0 5 11] [3,5,6,7,8] (qS [q0 12 3, q0 13 5, q 14 (.cv .u64 (.t 13)), q 15 (.bin .xor (.t 12) (.t 14)), q0 3 15] [3,6,7,8] (.reg [q0
 16 3, q 17 (.bin .mul (.t 16) (.c (.int .u64 1099511628211))), q0 3 17] [3,6,7,8])))) (.reg [q 18 (.bin .add (.t 8) (qI 1)), q0 8 18] [3,6,7,8]))))))) (qS [q0 19 3, q0 2 19] [2] .ret)))
def r94 : List RT := [.t 2]
def a77 : AS := qS [q 4 (.mv qf)] [0,1] (qS [q0 5 0, q 6 (.b2s (.t 5)), q0 7 1, q 8 (.b2s (.t 7)), q 9 (.bin .eql (.t 6) (.t 8)), q0 4 9] [4] .ret)
def r77 : List RT := [.t 4]
theorem ok13 : okF Tryz.prog 13 a13 r13 1 = true := by decide +kernel
theorem ok23 : okF Tryz.prog 23 a23 r23 1 = true := by decide +kernel
theorem ok31 : okF Tryz.prog 31 a31 r31 3 = true := by decide +kernel
theorem ok33 : okF Tryz.prog 33 a33 r33 1 = true := by decide +kernel
theorem ok51 : okF Tryz.prog 51 a51 r51 1 = true := by decide +kernel
theorem ok53 : okF Tryz.prog 53 a53 r53 1 = true := by decide +kernel
theorem ok56 : okF Tryz.prog 56 a56 r56 1 = true := by decide +kernel
theorem ok57 : okF Tryz.prog 57 a57 r57 2 = true := by decide +kernel
theorem ok59 : okF Tryz.prog 59 a59 r59 2 = true := by decide +kernel
theorem ok78 : okF Tryz.prog 78 a78 r78 2 = true := by decide +kernel
theorem ok94 : okF Tryz.prog 94 a94 r94 1 = true := by decide +kernel
theorem ok77 : okF Tryz.prog 77 a77 r77 2 = true := by decide +kernel
end Go.V
namespace Go.V
set_option linter.unusedSimpArgs false
set_option linter.unnecessarySimpa false
open Go.Proofs
def a6 : AS := qS [q 6 (.mv qf)] [0,1,2] (.seq (qS [q 24 (.call 9 [] []), q 25 (.not (.t 24)), q0 26 25, q2 27 2 26, qF 28 (.bsl 24 (.sl 48 (.pair .str (.pair (.sl 1 .byte) .bool))) 1 [(0, (.t 27))]) 26, qF 29 (.call 10 [(some (24, (.sl 48 (.pair .str
 (.pair (.sl 1 .byte) .bool)))))] [.t 28]) 26, qF 30 (.not (.t 29)) 26, q 31 (.pick (.t 26) qt (.t 30))] [0,1,2,31] (.cond (.t 31) (qS [q 32 (.call 9 [] []), q0 6 32] [6] .ret) .skip)) (qS [q0 34 0, q 35 (.call 14 [none, none] [(.c (.nilp)),
 .t 34]), q0 33 35, q 36 (.ext (.t 33) 0), q 37 (.ext (.t 33) 1), q0 7 36, q0 8 37] [0,1,2,7,8] (qS [qX 13 39 [qI 31], q 40 (.call 12 [none, none, none, (some (8, (.int .i64)))] [.t 39, qI 1, qI 30, (.c (.nils))]), q0 38 40, q 41 (.ext (.t
 38) 0), q 42 (.ext (.t 38) 1), q0 9 41, q0 10 42] [0,1,2,7,8,9] (qS [q0 44 9, q0 45 0, q 46 (.call 14 [none, none] [.t 44, .t 45]), q0 43 46, q 47 (.ext (.t 43) 0), q 48 (.ext (.t 43) 1), q0 11 47, q0 12 48] [0,1,2,7,8,11,12] (qS [qX 13 50
 [qI 31], q0 51 0, q 52 (.call 26 [none, none, none, none] [.t 50, qI 1, qI 30, .t 51]), q0 49 52, q 53 (.ext (.t 49) 0), q 54 (.ext (.t 49) 1), q0 13 53, q0 14 54] [0,1,2,7,8,11,12,14] (qS [qX 13 56 [qI 9], q 57 (.call 12 [none, none, none,
 (some (8, (.int .i64)))] [.t 56, qI 0, qI 9, (.c (.nils))]), q0 55 57, q 58 (.ext (.t 55) 0), q 59 (.ext (.t 55) 1), q0 15 58, q0 16 59] [0,1,2,7,8,11,12,14,15] (qS [q0 61 15, q0 62 0, q 63 (.call 14 [none, none] [.t 61, .t 62]), q0 60 63, q
 64 (.ext (.t 60) 0), q 65 (.ext (.t 60) 1), q0 17 64, q0 18 65] [0,1,2,7,8,11,12,14,17,18] (qS [qX 13 67 [qI 9], q0 68 0, q 69 (.call 26 [none, none, none, none] [.t 67, qI 0, qI 9, .t 68]), q0 66 69, q 70 (.ext (.t 66) 0), q 71 (.ext (.t
 66) 1), q0 19 70, q0 20 71] [0,1,2,7,8,11,12,14,17,18,20] (qS [q 21 (.mv (.c (.nilp)))] [0,1,2,7,8,11,12,14,17,18,20,21] (qS [q0 72 21, qX 17 73 [.t 72]] [0,1,2,7,8,11,12,14,17,18,20,21] (qS [q0 75 21, q0 76 1, q 77 (.call 27 [none, none]
 [.t 75, .t 76]), q0 74 77, q 78 (.ext (.t 74) 0), q 79 (.ext (.t 74) 1), q0 22 78, q0 23 79] [0,2,7,8,11,12,14,17,18,20,21,22,23] (qS [q0 80 7, q 81 (.eqn false .p (.t 80) (.c (.nilp))), q0 82 81, q1 83 8 82, qT 84 (.bin .eql (.t 83) (qI 1))
 82, q 85 (.pick (.t 82) (.t 84) qf), q0 86 85, q1 87 17 86, qT 88 (.eqn false .p (.t 87) (.c (.nilp))) 86, q 89 (.pick (.t 86) (.t 88) qf), q0 90 89, q1 91 18 90, qT 92 (.bin .eql (.t 91) (qI 1)) 90, q 93 (.pick (.t 90) (.t 92) qf), q0 94
 93, q1 95 20 94, qT 96 (.bin .eql (.t 95) (qI 1)) 94, q 97 (.pick (.t 94) (.t 96) qf), q0 98 97, q1 99 11 98, qT 100 (.eqn true .p (.t 99) (.c (.nilp))) 98, q1 101 0 98, qT 102 (.bin .eql (.t 101) (qI 0)) 98, qT 103 (.binB false (.t 100) (.t
 102)) 98, q 104 (.pick (.t 98) (.t 103) qf), q0 105 104, q1 106 0 105, qT 107 (.bin .eql (.t 106) (qI 0)) 105, q1 108 107 105, q2 109 12 108, qF 110 (.bin .eql (.t 109) (qI 2)) 108, q2 111 110 108, q1 112 14 111, qT 113 (.bin .eql (.t 112)
 (qI 2)) 111, qF 114 (.pick (.t 111) (.t 113) qf) 108, qT 115 (.pick (.t 108) qt (.t 114)) 105, q 116 (.pick (.t 105) (.t 115) qf), q0 117 116, q1 118 21 117, qT 119 (.call 20 [none] [.t 118]) 117, qT 120 (.bin .eql (.t 119) (qI 0)) 117, q
 121 (.pick (.t 117) (.t 120) qf), q0 122 121, q1 123 22 122, qT 124 (.len .s (.t 123)) 122, qT 125 (.bin .eql (.t 124) (qI 0)) 122, q 126 (.pick (.t 122) (.t 125) qf), q0 127 126, q1 128 23 127, qT 129 (.not (.t 128)) 127, q 130 (.pick (.t
 127) (.t 129) qf), q0 131 130, q1 132 21 131, qT 133 (.call 19 [none, none, none] [.t 132, (.c (qE)), (.c (qE))]) 131, qT 134 (.len .s (.t 133)) 131, qT 135 (.bin .eql (.t 134) (qI 0)) 131, q 136 (.pick (.t 131) (.t 135) qf), q0 137 136, q1
 138 21 137, q1 139 2 137, qT 140 (.call 15 [none, none] [.t 138, .t 139]) 137, qT 141 (.bin .eql (.t 140) (qI 1)) 137, q 142 (.pick (.t 137) (.t 141) qf), q0 6 142] [6] .ret))))))))))))
def r6 : List RT := [.t 6]
def a10 : AS := qS [q 2 (.mv qf)] [0] (qS [q 3 (.mv (qI 0)), q 4 (.mv (qI 0))] [0,3,4] (.seq (qS [q0 7 0, q 8 (.len .s (.t 7)), q 9 (.mv (qI 0))] [0,3,4,8,9] (.block 0 (.loop 1 [0,3,4,8,9] (qS [q 10 (.bin .lss (.t 9) (.t 8))] [0,3,4,8,9,10] (.seq (.cond (.t
 10) .skip (.exit 0)) (.seq (.block 1 (qS [q0 11 9, q0 5 11] [0,3,4,5,8,9] (.seq (qS [q0 12 0, q0 13 5, q 14 (.ia 1 (.t 12) (.t 13)), q4 15 14, q 16 (.len .s (.t 15)), q 17 (.mv (qI 0))] [0,3,4,5,8,9,16,17] (.block 2 (.loop 2
 [0,3,4,5,8,9,16,17] (qS [q 18 (.bin .lss (.t 17) (.t 16))] [0,3,4,5,8,9,16,17,18] (.seq (.cond (.t 18) .skip (.exit 2)) (.seq (.block 3 (qS [q0 19 17, q0 6 19] [0,3,4,5,6,8,9,16,17] (qS [q0 20 4, q 21 (.bin .add (.t 20) (qI 1)), q0 4 21]
 [0,3,4,5,6,8,9,16,17] (.regD [q0 22 3, q 23 (.bin .add (.t 22) (qI 30)), q0 24 0, q0 25 5, q 26 (.ia 1 (.t 24) (.t 25)), q4 27 26, q0 28 6, q 29 (.ia 3 (.t 27) (.t 28)), q3 30 1 29, q4 31 30, q 32 (.len .s (.t 31)), q 33 (.mm false (.t 32)
 (qI 30000)), q 34 (.bin .add (.t 23) (.t 33)), q0 35 0, q0 36 5, q 37 (.ia 1 (.t 35) (.t 36)), q4 38 37, q0 39 6, q 40 (.ia 3 (.t 38) (.t 39)), q3 41 0 40, q4 42 41, q 43 (.len .i (.t 42)), q 44 (.mm false (.t 43) (qI 1000)), q 45 (.bin .add
 (.t 34) (.t 44)), q0 3 45] [.q 0, .q 1, .q 2, .q 3, .q 4, .q 5, .q 6, .q 7, .q 8, .q 9, .q 10, .q 11, .q 12, .q 13, .q 14, .q 15, .q 16, .q 17, .q 18, .q 19, .q 20, .q 21, .q 22, .q 23, .e 24 []] [0,3,4,5,8,9,16,17])))) (.reg [q 46 (.bin
 .add (.t 17) (qI 1)), q0 17 46] [0,3,4,5,8,9,16,17]))))))) (qS [q0 47 3, q 48 (.bin .gtr (.t 47) (qI 60000)), q0 49 48, q2 50 4 49, qF 51 (.bin .gtr (.t 50) (qI 500)) 49, q 52 (.pick (.t 49) qt (.t 51)), q0 53 52, q2 54 5 53, qF 55 (.bin
 .geq (.t 54) (qI 40)) 53, q 56 (.pick (.t 53) qt (.t 55))] [0,3,4,8,9,56] (.cond (.t 56) (qS [q 2 (.mv qf)] [2] .ret) .skip))))) (.reg [q 57 (.bin .add (.t 9) (qI 1)), q0 9 57] [0,3,4,8,9]))))))) (qS [q 2 (.mv qt)] [2] .ret)))
def r10 : List RT := [.t 2]
def a12 : AS := qS [q 8 (.mv (.c (.nilp))), q 9 (.mv (qI 0))] [0,1,2,3] (.seq (qS [q0 19 0, q0 20 1, q0 21 2, q 22 (.call 31 [none, none, none] [.t 19, .t 20, .t 21]), q 23 (.not (.t 22))] [0,1,2,3,23] (.cond (.t 23) (qS [q 8 (.mv (.c (.nilp))), q 9 (.mv
 (qI 1))] [8,9] .ret) .skip)) (qS [q0 24 0, q0 25 1, q 26 (.mkm false (.int .i64) (.sl 8 (.int .i64))), q 27 (.mkm false (.int .i64) .bool), q 28 (.bld [.nilp, .int .i64 0, .nilm, .nilm] [(0, 1, (.t 24)), (1, 1, (.t 25)), (2, 1, (.t 26)), (3,
 1, (.t 27))]), q 29 (.box (.t 28)), q0 10 29] [0,1,2,3,10] (.seq (qS [q0 30 2, q 31 (.mv (qI 0))] [0,1,2,3,10,30,31] (.block 0 (.lift 0 (some 0) 24 (.sl 1 .byte) (.lift 0 (some 1) 32 (.pair (.int .i64) (.sl 1 .byte)) (.loop 1
 [0,1,2,3,10,30,31] (qS [q 32 (.bin .lss (.t 31) (.t 30))] [0,1,2,3,10,30,31,32] (.seq (.cond (.t 32) .skip (.exit 0)) (.seq (.block 1 (qS [q0 33 31, q0 11 33] [0,1,2,3,10,11,30,31] (.reg [q0 34 10, q5 35 34, q3 36 3 35, q4 37 36, q0 38 1, q0
 39 11, q 40 (.bin .add (.t 38) (.t 39)), ⟨none, .mu false (.int .i64) .bool (.t 37) (.t 40) qt, none⟩] [0,1,2,3,10,30,31]))) (.reg [q 41 (.bin .add (.t 31) (qI 1)), q0 31 41] [0,1,2,3,10,30,31]))))))))) (.seq (qS [q0 42 0, qX 23 43 [.t 42]]
 [0,1,2,3,10,43] (.cond (.t 43) (qS [q 8 (.mv (.c (.nilp))), q 9 (.mv (qI 9))] [8,9] .ret) .skip)) (.seq (qS [q0 44 3, q 45 (.len .s (.t 44)), q 46 (.mv (qI 0))] [0,1,2,10,44,45,46] (.block 2 (.lift 0 (some 0) 24 (.sl 1 .byte) (.lift 0 (some
 1) 32 (.pair (.int .i64) (.sl 1 .byte)) (.loop 2 [0,1,2,10,44,45,46] (qS [q 47 (.bin .lss (.t 46) (.t 45))] [0,1,2,10,44,45,46,47] (.seq (.cond (.t 47) .skip (.exit 2)) (.seq (.block 3 (qS [q 48 (.ia 1 (.t 44) (.t 46)), q4 49 48, q0 13 49]
 [0,1,2,10,13,44,45,46] (qS [q0 51 0, q0 52 1, q0 53 2, q0 54 13, q 55 (.call 32 [none, none, none, none] [.t 51, .t 52, .t 53, .t 54]), q0 50 55, q 56 (.ext (.t 50) 0), q 57 (.ext (.t 50) 1), q 58 (.ext (.t 50) 2), q0 14 56, q0 15 57, q0 16
 58] [0,1,2,10,13,15,16,44,45,46] (.seq (qS [q0 59 16, q 60 (.bin .neq (.t 59) (qI 0))] [0,1,2,10,13,15,16,44,45,46,60] (.cond (.t 60) (qS [q0 61 16, q 8 (.mv (.c (.nilp))), q0 9 61] [8,9] .ret) .skip)) (.seq (qS [q0 62 15, q 63 (.len .s (.t
 62)), q 64 (.mv (qI 0))] [0,1,2,10,13,15,44,45,46,62,63,64] (.block 4 (.lift 0 (some 0) 24 (.sl 1 .byte) (.lift 0 (some 1) 32 (.pair (.int .i64) (.sl 1 .byte)) (.loop 3 [0,1,2,10,13,15,44,45,46,62,63,64] (qS [q 65 (.bin .lss (.t 64) (.t
 63))] [0,1,2,10,13,15,44,45,46,62,63,64,65] (.seq (.cond (.t 65) .skip (.exit 4)) (.seq (.block 5 (qS [q 66 (.ia 1 (.t 62) (.t 64)), q4 67 66, q0 18 67] [0,1,2,10,13,15,18,44,45,46,62,63,64] (.seq (qS [q0 68 10, q5 69 68, q3 70 3 69, q4 71
 70, q0 72 18, q 73 (.lk false (.int .i64) .bool false (.t 71) (.t 72)), q 74 (.not (.t 73))] [0,1,2,10,13,15,18,44,45,46,62,63,64,74] (.cond (.t 74) (qS [q 8 (.mv (.c (.nilp))), q 9 (.mv (qI 2))] [8,9] .ret) .skip)) (.reg [q0 75 10, q5 76
 75, q3 77 3 76, q4 78 77, q0 79 18, ⟨none, .dl (.int .i64) (.t 78) (.t 79), none⟩] [0,1,2,10,13,15,44,45,46,62,63,64])))) (.reg [q 80 (.bin .add (.t 64) (qI 1)), q0 64 80] [0,1,2,10,13,15,44,45,46,62,63,64]))))))))) (.reg [q0 81 10, q5 82
 81, q3 83 2 82, q4 84 83, q0 85 13, q0 86 15, ⟨none, .mu false (.int .i64) (.sl 8 (.int .i64)) (.t 84) (.t 85) (.t 86), none⟩] [0,1,2,10,44,45,46])))))) (.reg [q 87 (.bin .add (.t 46) (qI 1)), q0 46 87] [0,1,2,10,44,45,46]))))))))) (qS [q0
 88 10, q0 8 88, q 9 (.mv (qI 0))] [8,9] .ret))))))
def r12 : List RT := [.t 8, .t 9]
def a14 : AS := qS [q 4 (.mv (.c (.nilp))), q 5 (.mv (qI 0))] [0,1] (.seq (qS [q0 10 0, qX 33 11 [.t 10], q 12 (.bin .eql (.t 11) (qI 0))] [0,1,12] (.cond (.t 12) (qS [q 4 (.mv (.c (.nilp))), q 5 (.mv (qI 1))] [4,5] (.lift 4 (some 3) 8 (.int .i64) (.lift 4
 (some 4) 8 (.int .i64) (.lift 4 (some 5) 8 (.int .i64) .ret)))) .skip)) (qS [q0 13 0, q0 14 1, q 15 (.mkm true (.int .i64) (.pair .bool (.sl 48 (.pair .str (.pair (.int .i64) (.sl 1 .byte)))))), q 16 (.bld [.nilp, .int .i64 0, .nilm, .nils,
 .nils, .nils] [(0, 1, (.t 13)), (1, 1, (.t 14)), (2, 1, (.t 15))]), q 17 (.box (.t 16)), q0 6 17] [0,1,6] (.seq (qS [q0 18 1, q 19 (.bin .eql (.t 18) (qI 0))] [0,1,6,19] (.cond (.t 19) (qS [q0 20 6, q0 4 20, q 5 (.mv (qI 0))] [4,5] (.lift 4
 (some 3) 8 (.int .i64) (.lift 4 (some 4) 8 (.int .i64) (.lift 4 (some 5) 8 (.int .i64) .ret)))) .skip)) (qS [q0 21 0, q 22 (.mkf 1000034 [.t 21]), q0 23 6, q5 24 23, q3 25 2 24, q4 26 25, q 27 (.bld [.nilf, .nilm, .int .i64 0] [(0, 1, (.t
 22)), (1, 1, (.t 26)), (2, 1, (qI 65536))]), q 28 (.box (.t 27)), q0 7 28] [1,6,7] (.seq (qS [q0 30 7, q0 31 1, q 32 (.call 35 [none, none, none] [.t 30, .t 31, qI 0]), q0 29 32, q 33 (.ext (.t 29) 0), q 34 (.ext (.t 29) 1), q0 8 33, q0 9
 34] [6,9] (qS [q0 35 9, q 36 (.bin .neq (.t 35) (qI 0))] [6,9,36] (.cond (.t 36) (.seq (qS [q0 37 9, q 38 (.bin .eql (.t 37) (qI 5))] [9,38] (.cond (.t 38) (.reg [q 9 (.mv (qI 2))] [9]) .skip)) (qS [q0 39 9, q 4 (.mv (.c (.nilp))), q0 5 39]
 [4,5] (.lift 4 (some 3) 8 (.int .i64) (.lift 4 (some 4) 8 (.int .i64) (.lift 4 (some 5) 8 (.int .i64) .ret))))) .skip))) (qS [q0 40 6, q0 4 40, q 5 (.mv (qI 0))] [4,5] (.lift 4 (some 3) 8 (.int .i64) (.lift 4 (some 4) 8 (.int .i64) (.lift 4
 (some 5) 8 (.int .i64) .ret)))))))))
def r14 : List RT := [.t 4, .t 5]
def a15 : AS := qS [q 4 (.mv (qI 0))] [0,1] (.seq (qS [q0 13 0, q 14 (.eqn false .p (.t 13) (.c (.nilp)))] [0,1,14] (.cond (.t 14) (qS [q 4 (.mv (qI 1))] [4] .ret) .skip)) (.seq (qS [q0 15 1, q 16 (.call 36 [(some (48, (.pair .str (.pair (.sl 1 .byte)
 .bool))))] [.t 15]), q0 5 16] [0,1,5] (qS [q0 17 5, q 18 (.bin .neq (.t 17) (qI 0))] [0,1,5,18] (.cond (.t 18) (qS [q0 19 5, q0 4 19] [4] .ret) .skip))) (.seq (qS [q0 20 1, q 21 (.len .s (.t 20)), q 22 (.bin .eql (.t 21) (qI 0))] [0,1,22]
 (.cond (.t 22) (qS [q 4 (.mv (qI 0))] [4] .ret) .skip)) (qS [q0 23 1, qX 38 24 [.t 23], q 25 (.call 37 [none, none] [.t 24, (.f 39)]), q0 6 25] [0,6] (qS [q0 26 0, q0 27 0, q5 28 26, q3 29 4 28, ⟨none, .st 1 (.t 29) (.c (.nils)), none⟩, q5
 30 27, q3 31 5 30, ⟨none, .st 1 (.t 31) (.c (.nils)), none⟩] [0,6] (qS [q0 33 0, q0 34 6, q 35 (.call 41 [none, none] [.t 33, .t 34]), q0 32 35, q 36 (.ext (.t 32) 0), q 37 (.ext (.t 32) 1), q0 7 36, q0 8 37] [0,7,8] (.seq (qS [q0 38 8, q 39
 (.bin .neq (.t 38) (qI 0))] [0,7,8,39] (.cond (.t 39) (.seq (qS [q0 40 0, q5 41 40, q3 42 4 41, q4 43 42, q 44 (.len .s (.t 43)), q 45 (.mv (qI 0))] [0,8,43,44,45] (.block 0 (.lift 0 (some 3) 8 (.int .i64) (.lift 0 (some 4) 8 (.int .i64)
 (.lift 0 (some 5) 8 (.int .i64) (.loop 1 [0,8,43,44,45] (qS [q 46 (.bin .lss (.t 45) (.t 44))] [0,8,43,44,45,46] (.seq (.cond (.t 46) .skip (.exit 0)) (.seq (.block 1 (qS [q 47 (.ia 1 (.t 43) (.t 45)), q4 48 47, q0 10 48] [0,8,10,43,44,45]
 (qS [q0 49 0, q5 50 49, q3 51 0 50, q4 52 51, q0 53 10, q 54 (.call 42 [none, none] [.t 52, .t 53])] [0,8,10,43,44,45] (.reg [q0 55 0, q5 56 55, q3 57 2 56, q4 58 57, q0 59 10, ⟨none, .dl (.int .i64) (.t 58) (.t 59), none⟩]
 [0,8,43,44,45])))) (.reg [q 60 (.bin .add (.t 45) (qI 1)), q0 45 60] [0,8,43,44,45])))))))))) (qS [q0 61 8, q0 4 61] [4] .ret)) .skip)) (qS [q0 62 0, q0 63 7, q5 64 62, q3 65 1 64, q6 1 65 63] [0] (.seq (qS [q0 66 0, q5 67 66, q3 68 5 67, q4
 69 68, q 70 (.len .s (.t 69)), q 71 (.mv (qI 0))] [0,69,70,71] (.block 2 (.lift 0 (some 3) 8 (.int .i64) (.lift 0 (some 4) 8 (.int .i64) (.lift 0 (some 5) 8 (.int .i64) (.loop 2 [0,69,70,71] (qS [q 72 (.bin .lss (.t 71) (.t 70))]
 [0,69,70,71,72] (.seq (.cond (.t 72) .skip (.exit 2)) (.seq (.block 3 (qS [q 73 (.ia 1 (.t 69) (.t 71)), q4 74 73, q0 12 74] [0,12,69,70,71] (.reg [q0 75 0, q5 76 75, q3 77 2 76, q4 78 77, q0 79 12, ⟨none, .dl (.int .i64) (.t 78) (.t 79),
 none⟩] [0,69,70,71]))) (.reg [q 80 (.bin .add (.t 71) (qI 1)), q0 71 80] [0,69,70,71])))))))))) (.seq (.regD [q0 81 0, q0 82 0, q5 83 82, q3 84 3 83, q4 85 84, q0 86 0, q5 87 86, q3 88 5 87, q4 89 88, q 90 (.app 8 (.int .i64) (.t 85) (.t
 89)), q5 91 81, q3 92 3 91, q6 1 92 90] [.q 0, .q 1, .q 2, .q 3, .q 4, .q 5, .q 6, .q 7, .q 8, .e 9 [0], .q 10, .q 11, .e 12 []] []) (qS [q 4 (.mv (qI 0))] [4] .ret)))))))))))
def r15 : List RT := [.t 4]
def a17 : AS := .seq (qS [q0 4 0, q 5 (.eqn false .p (.t 4) (.c (.nilp)))] [0,5] (.cond (.t 5) .ret .skip)) (.seq (qS [q0 6 0, q5 7 6, q3 8 3 7, q4 9 8, q 10 (.len .s (.t 9)), q 11 (.mv (qI 0))] [0,9,10,11] (.block 0 (.lift 0 (some 3) 8 (.int .i64) (.lift 0
 (some 4) 8 (.int .i64) (.lift 0 (some 5) 8 (.int .i64) (.loop 1 [0,9,10,11] (qS [q 12 (.bin .lss (.t 11) (.t 10))] [0,9,10,11,12] (.seq (.cond (.t 12) .skip (.exit 0)) (.seq (.block 1 (qS [q 13 (.ia 1 (.t 9) (.t 11)), q4 14 13, q0 3 14]
 [0,3,9,10,11] (.reg [q0 15 0, q5 16 15, q3 17 0 16, q4 18 17, q0 19 3, q 20 (.call 42 [none, none] [.t 18, .t 19])] [0,9,10,11]))) (.reg [q 21 (.bin .add (.t 11) (qI 1)), q0 11 21] [0,9,10,11])))))))))) (.reg [q0 22 0, q5 23 22, q3 24 3 23,
 ⟨none, .st 1 (.t 24) (.c (.nils)), none⟩] []))
def r17 : List RT := []
def a19 : AS := qS [q 4 (.box (.t 1)), q 5 (.box (.t 2)), q 6 (.mv (.c (.nils)))] [0,4,5] (.seq (qS [q0 8 0, q 9 (.eqn false .p (.t 8) (.c (.nilp))), q0 10 9, q2 11 0 10, qF 12 (.nck (.t 11)) 10, qF 13 (.fa 1 (.t 12)) 10, qF 14 (.ld (.t 13)) 10, qF 15 (.bin
 .eql (.t 14) (qI 0)) 10, q 16 (.pick (.t 10) qt (.t 15))] [0,4,5,16] (.cond (.t 16) (qS [q 6 (.mv (.c (.nils)))] [6] (.lift 6 none 16 .str .ret)) .skip)) (qS [q 7 (.alc [.nils])] [0,4,5,7] (qS [q0 17 0, q0 18 0, q5 19 18, q3 20 1 19, q4 21
 20, q 22 (.mkf 47 [.t 4, .t 5, .t 7]), q 23 (.call 46 [none, none, none] [.t 17, .t 21, .t 22])] [7] (qS [q4 24 7, q0 6 24] [6] (.lift 6 none 16 .str .ret)))))
def r19 : List RT := [.t 6]
def a20 : AS := qS [q 2 (.mv (qI 0))] [0] (.seq (qS [q0 3 0, q 4 (.eqn false .p (.t 3) (.c (.nilp)))] [0,4] (.cond (.t 4) (qS [q 2 (.mv (qI 0))] [2] .ret) .skip)) (qS [q0 5 0, q5 6 5, q3 7 1 6, q4 8 7, q0 2 8] [2] .ret))
def r20 : List RT := [.t 2]
def a26 : AS := qS [q 4 (.box (.t 0)), q 5 (.box (.t 1)), q 6 (.box (.t 2)), q 8 (.mv (.c (.nils))), q 9 (.mv (qI 0))] [3,4,5,6] (.seq (.block 0 (qS [q4 14 4, q4 15 5, q4 16 6, q 17 (.call 31 [none, none, none] [.t 14, .t 15, .t 16]), q 18 (.not (.t 17)),
 q0 19 18, qF 20 (.ld (.t 5)) 19, qF 21 (.bin .eql (.t 20) (qI 0)) 19, q 22 (.pick (.t 19) qt (.t 21)), q0 13 22] [3,4,5,6,13] (.cond (.t 13) (qS [q 8 (.mv (.c (.nils))), q 9 (.mv (qI 1))] [8,9] (.lift 8 none 8 (.int .i64) .ret)) (qS [q4 24
 4, qX 23 25 [.t 24], q0 23 25] [3,4,5,6,23] (.cond (.t 23) (qS [q 8 (.mv (.c (.nils))), q 9 (.mv (qI 9))] [8,9] (.lift 8 none 8 (.int .i64) .ret)) (qS [q0 27 3, q 28 (.bin .eql (.t 27) (qI 0)), q0 26 28] [3,4,5,6,26] (.cond (.t 26) (qS [q 8
 (.mv (.c (.nils))), q 9 (.mv (qI 0))] [8,9] (.lift 8 none 8 (.int .i64) .ret)) .skip))))))) (qS [q 29 (.mkm true (.int .i64) (.pair .bool (.sl 48 (.pair .str (.pair (.int .i64) (.sl 1 .byte)))))), q4 30 6, q 31 (.bld [.nilf, .nilm, .int .i64
 0] [(1, 1, (.t 29)), (2, 1, (.t 30))]), q 32 (.box (.t 31)), q0 10 32] [3,4,5,6,10] (qS [q0 33 10, q 34 (.mkf 50 [.t 4, .t 5, .t 6]), q5 35 33, q3 36 0 35, q6 1 36 34] [3,10] (.seq (qS [q0 38 10, q0 39 3, q 40 (.call 35 [none, none, none]
 [.t 38, .t 39, qI 0]), q0 37 40, q 41 (.ext (.t 37) 0), q 42 (.ext (.t 37) 1), q0 11 41, q0 12 42] [10,12] (qS [q0 43 12, q 44 (.bin .neq (.t 43) (qI 0))] [10,12,44] (.cond (.t 44) (qS [q0 45 12, q 8 (.mv (.c (.nils))), q0 9 45] [8,9] (.lift
 8 none 8 (.int .i64) .ret)) .skip))) (qS [q0 46 10, q5 47 46, q3 48 1 47, q4 49 48, qX 51 50 [.t 49], qX 48 51 [.t 50], q0 8 51, q 9 (.mv (qI 0))] [8,9] (.lift 8 none 8 (.int .i64) .ret))))))
def r26 : List RT := [.t 8, .t 9]
def a27 : AS := qS [q 4 (.mv (.c (.nils))), q 5 (.mv qf)] [0,1] (.seq (qS [q0 9 0, q 10 (.eqn false .p (.t 9) (.c (.nilp))), q0 11 10, q2 12 0 11, qF 13 (.nck (.t 12)) 11, qF 14 (.fa 1 (.t 13)) 11, qF 15 (.ld (.t 14)) 11, qF 16 (.bin .eql (.t 15) (qI 0))
 11, q 17 (.pick (.t 11) qt (.t 16))] [0,1,17] (.cond (.t 17) (qS [q 4 (.mv (.c (.nils))), q 5 (.mv qf)] [4,5] (.lift 4 none 1 .byte .ret)) .skip)) (.seq (.regD [q0 18 0, q5 19 18, q3 20 2 19, q4 21 20, q0 22 0, q5 23 22, q3 24 1 23, q4 25
 24, q 26 (.lk true (.int .i64) (.pair .bool (.sl 48 (.pair .str (.pair (.int .i64) (.sl 1 .byte))))) false (.t 21) (.t 25)), q 6 (.alc [.bool false, .nils]), q6 2 6 26] [.q 0, .q 1, .q 2, .q 3, .q 4, .q 5, .q 6, .q 7, .q 8, .e 9
 [0,1,2,3,4,5,6,7,8], .e 10 []] [0,1,6]) (.block 0 (.lift 0 (some 3) 8 (.int .i64) (.lift 0 (some 4) 8 (.int .i64) (.lift 0 (some 5) 8 (.int .i64) (.loop 1 [0,1,6] (.seq (.block 1 (qS [q 27 (.ldA 2 (.t 6)), q0 28 1, q 29 (.call 52 [none,
 none] [.t 27, .t 28]), q0 7 29] [0,1,6,7] (.seq (qS [q0 30 7, q 31 (.bin .lss (.t 30) (qI 0))] [0,1,6,7,31] (.cond (.t 31) (qS [q 4 (.mv (.c (.nils))), q 5 (.mv qf)] [4,5] (.lift 4 none 1 .byte .ret)) .skip)) (qS [q3 32 1 6, q4 33 32, q0 34
 7, q 35 (.ia 3 (.t 33) (.t 34)), q 36 (.ldA 3 (.t 35)), q 8 (.alc [qE, .int .i64 0, .nils]), q6 3 8 36] [0,1,6,8] (.seq (qS [q3 37 0 6, q4 38 37] [0,1,6,8,38] (.cond (.t 38) (.seq (qS [q3 39 0 8, q4 40 39, q0 41 1, q 42 (.bin .neq (.t 40)
 (.t 41))] [8,42] (.cond (.t 42) (qS [q 4 (.mv (.c (.nils))), q 5 (.mv qf)] [4,5] (.lift 4 none 1 .byte .ret)) .skip)) (qS [q3 43 2 8, q4 44 43, q 45 (.call 53 [(some (1, .byte))] [.t 44]), q0 4 45, q 5 (.mv qt)] [4,5] (.lift 4 none 1 .byte
 .ret))) .skip)) (.regD [q0 46 0, q5 47 46, q3 48 2 47, q4 49 48, q3 50 1 8, q4 51 50, q 52 (.lk true (.int .i64) (.pair .bool (.sl 48 (.pair .str (.pair (.int .i64) (.sl 1 .byte))))) false (.t 49) (.t 51)), q6 2 6 52] [.q 0, .q 1, .q 2, .q
 3, .q 4, .q 5, .q 6, .e 7 []] [0,1,6])))))) (qS [q 53 (.ldA 2 (.t 6))] [0,1,53] (.reg [q 6 (.alc [.bool false, .nils]), q6 2 6 53] [0,1,6]))))))))))
def r27 : List RT := [.t 4, .t 5]
def a28 : AS := qS [q 2 (.mv (.c (.nils)))] [0] (.seq (qS [q0 3 0, q 4 (.eqn false .p (.t 3) (.c (.nilp)))] [0,4] (.cond (.t 4) (qS [q 2 (.mv (.c (.nils)))] [2] (.lift 2 none 8 (.int .i64) .ret)) .skip)) (qS [q0 5 0, q5 6 5, q3 7 2 6, q4 8 7, qX 54 9 [.t
 8], qX 48 10 [.t 9], q0 2 10] [2] (.lift 2 none 8 (.int .i64) .ret)))
def a32 : AS := qS [q 8 (.mv (.c (.nils))), q 9 (.mv (.c (.nils))), q 10 (.mv (qI 0))] [0,1,2,3] (qS [q 11 (.mv (.c (.nils)))] [0,1,2,3,11] (qS [q 12 (.mv (.c (.nils)))] [0,1,2,3,11,12] (qS [q0 18 3, q0 13 18] [0,1,2,3,11,12,13] (.block 0 (.lift 11 none 1
 .byte (.lift 12 none 8 (.int .i64) (.lift 0 (some 0) 24 (.sl 1 .byte) (.lift 0 (some 1) 32 (.pair (.int .i64) (.sl 1 .byte)) (.loop 1 [0,1,2,3,11,12,13] (.block 1 (.seq (qS [q0 19 13, q0 20 1, q 21 (.bin .lss (.t 19) (.t 20)), q0 22 21, q2
 23 13 22, q2 24 1 22, q2 25 2 22, qF 26 (.bin .add (.t 24) (.t 25)) 22, qF 27 (.bin .geq (.t 23) (.t 26)) 22, q 28 (.pick (.t 22) qt (.t 27)), q0 29 28, q2 30 12 29, qF 31 (.len .s (.t 30)) 29, qF 32 (.bin .eql (.t 31) (qI 85)) 29, q 33
 (.pick (.t 29) qt (.t 32))] [0,1,2,3,11,12,13,33] (.cond (.t 33) (qS [q 8 (.mv (.c (.nils))), q 9 (.mv (.c (.nils))), q 10 (.mv (qI 2))] [8,9,10] (.lift 8 none 1 .byte (.lift 9 none 8 (.int .i64) .ret))) .skip)) (qS [q0 35 0, q0 36 13, q 37
 (.call 57 [none, none] [.t 35, .t 36]), q0 34 37, q 38 (.ext (.t 34) 0), q 39 (.ext (.t 34) 1), q0 14 38, q0 15 39] [0,1,2,3,11,12,13,14,15] (.seq (qS [q0 40 15, q 41 (.bin .neq (.t 40) (qI 0))] [0,1,2,3,11,12,13,14,41] (.cond (.t 41) (qS [q
 8 (.mv (.c (.nils))), q 9 (.mv (.c (.nils))), q 10 (.mv (qI 9))] [8,9,10] (.lift 8 none 1 .byte (.lift 9 none 8 (.int .i64) .ret))) .skip)) (qS [q0 43 13, q 44 (.cv .u32 (.t 43)), q0 45 14, q 46 (.call 58 [none, none, (some (1, .byte))] [(.c
 (.int .u8 80)), .t 44, .t 45]), q0 42 46, q 47 (.ext (.t 42) 0), q 48 (.ext (.t 42) 1), q0 16 47, q0 17 48] [0,1,2,3,11,12,13,16,17] (.seq (qS [q0 49 17, q 50 (.not (.t 49)), q0 51 50, q2 52 16 51, qF 53 (.len .s (.t 52)) 51, qF 54 (.bin
 .lss (.t 53) (qI 4)) 51, q 55 (.pick (.t 51) qt (.t 54)), q0 56 55, q2 57 16 56, qF 58 (.ia 1 (.t 57) (qI 0)) 56, qF 59 (.ld (.t 58)) 56, qF 60 (.bin .eql (.t 59) (.c (.int .u8 1))) 56, q2 61 13 56, q2 62 3 56, qF 63 (.bin .eql (.t 61) (.t
 62)) 56, qF 64 (.binB true (.t 60) (.t 63)) 56, q 65 (.pick (.t 56) qt (.t 64))] [0,1,2,3,11,12,13,16,65] (.cond (.t 65) (qS [q 8 (.mv (.c (.nils))), q 9 (.mv (.c (.nils))), q 10 (.mv (qI 2))] [8,9,10] (.lift 8 none 1 .byte (.lift 9 none 8
 (.int .i64) .ret))) .skip)) (qS [q0 66 11, q0 67 16, q 68 (.slR 1 (.t 67) (some (qI 4)) none), q 69 (.app 1 .byte (.t 66) (.t 68)), q0 11 69] [0,1,2,3,11,12,13,16] (qS [q0 70 12, q0 71 13, q 72 (.bsl 8 (.int .i64) 1 [(0, (.t 71))]), q 73
 (.app 8 (.int .i64) (.t 70) (.t 72)), q0 12 73] [0,1,2,3,11,12,16] (.seq (.regD [q0 74 16, q 75 (.ia 1 (.t 74) (qI 1)), q4 76 75, q 77 (.cv .i64 (.t 76)), q0 78 16, q 79 (.ia 1 (.t 78) (qI 2)), q4 80 79, q 81 (.cv .i64 (.t 80)), q 82 (.bin
 .shl (.t 81) (.c (.int .u64 8))), q 83 (.bin .or (.t 77) (.t 82)), q0 84 16, q 85 (.ia 1 (.t 84) (qI 3)), q4 86 85, q 87 (.cv .i64 (.t 86)), q 88 (.bin .shl (.t 87) (.c (.int .u64 16))), q 89 (.bin .or (.t 83) (.t 88)), q0 13 89] [.q 0, .q
 1, .q 2, .q 3, .q 4, .q 5, .q 6, .q 7, .q 8, .q 9, .q 10, .q 11, .q 12, .q 13, .q 14, .q 15, .q 16] [0,1,2,3,11,12,13]) (.seq (qS [q0 90 13, q 91 (.bin .eql (.t 90) (qI 0))] [0,1,2,3,11,12,13,91] (.cond (.t 91) (qS [q0 92 11, q0 93 12, q0 8
 92, q0 9 93, q 10 (.mv (qI 0))] [8,9,10] (.lift 8 none 1 .byte (.lift 9 none 8 (.int .i64) .ret))) .skip)) (qS [q0 94 13, q 95 (.bin .sub (.t 94) (qI 1)), q0 13 95] [0,1,2,3,11,12,13] (qS [q0 96 12, q0 97 13, q 98 (.call 59 [(some (8, (.int
 .i64))), none] [.t 96, .t 97])] [0,1,2,3,11,12,13,98] (.cond (.t 98) (qS [q 8 (.mv (.c (.nils))), q 9 (.mv (.c (.nils))), q 10 (.mv (qI 2))] [8,9,10] (.lift 8 none 1 .byte (.lift 9 none 8 (.int .i64) .ret))) .skip))))))))))))))))))))))
def r32 : List RT := [.t 8, .t 9, .t 10]
def a34 : AS := qS [q 4 (.mv (.c (.nils))), q 5 (.mv (qI 0))] [0,1] (.seq (qS [q0 15 0, q 16 (.eqn false .p (.t 15) (.c (.nilp)))] [0,1,16] (.cond (.t 16) (qS [q 4 (.mv (.c (.nils))), q 5 (.mv (qI 1))] [4,5] (.lift 4 none 1 .byte .ret)) .skip)) (qS [q0 18
 0, q5 19 18, q3 20 2 19, q4 21 20, q0 22 1, q 23 (.lk false (.int .i64) (.sl 8 (.int .i64)) true (.t 21) (.t 22)), q0 17 23, q 24 (.ext (.t 17) 0), q 25 (.ext (.t 17) 1), q0 6 24, q0 7 25] [0,6,7] (.seq (qS [q0 26 7, q 27 (.not (.t 26))]
 [0,6,27] (.cond (.t 27) (qS [q 4 (.mv (.c (.nils))), q 5 (.mv (qI 5))] [4,5] (.lift 4 none 1 .byte .ret)) .skip)) (qS [q 8 (.mv (.c (.nils)))] [0,6,8] (.seq (qS [q0 28 6, q 29 (.len .s (.t 28)), q 30 (.mv (qI 0))] [0,8,28,29,30] (.block 0
 (.lift 8 none 1 .byte (.loop 1 [0,8,28,29,30] (qS [q 31 (.bin .lss (.t 30) (.t 29))] [0,8,28,29,30,31] (.seq (.cond (.t 31) .skip (.exit 0)) (.seq (.block 1 (qS [q 32 (.ia 1 (.t 28) (.t 30)), q4 33 32, q0 10 33] [0,8,10,28,29,30] (qS [q0 35
 0, q5 36 35, q3 37 0 36, q4 38 37, q0 39 10, q 40 (.call 57 [none, none] [.t 38, .t 39]), q0 34 40, q 41 (.ext (.t 34) 0), q 42 (.ext (.t 34) 1), q0 11 41, q0 12 42] [0,8,10,11,12,28,29,30] (.seq (qS [q0 43 12, q 44 (.bin .neq (.t 43) (qI
 0))] [0,8,10,11,28,29,30,44] (.cond (.t 44) (qS [q 4 (.mv (.c (.nils))), q 5 (.mv (qI 9))] [4,5] (.lift 4 none 1 .byte .ret)) .skip)) (qS [q0 46 10, q 47 (.cv .u32 (.t 46)), q0 48 11, q 49 (.call 58 [none, none, (some (1, .byte))] [(.c (.int
 .u8 80)), .t 47, .t 48]), q0 45 49, q 50 (.ext (.t 45) 0), q 51 (.ext (.t 45) 1), q0 13 50, q0 14 51] [0,8,13,14,28,29,30] (.seq (qS [q0 52 14, q 53 (.not (.t 52)), q0 54 53, q2 55 13 54, qF 56 (.len .s (.t 55)) 54, qF 57 (.bin .lss (.t 56)
 (qI 4)) 54, q 58 (.pick (.t 54) qt (.t 57))] [0,8,13,28,29,30,58] (.cond (.t 58) (qS [q 4 (.mv (.c (.nils))), q 5 (.mv (qI 9))] [4,5] (.lift 4 none 1 .byte .ret)) .skip)) (.reg [q0 59 8, q0 60 13, q 61 (.slR 1 (.t 60) (some (qI 4)) none), q
 62 (.app 1 .byte (.t 59) (.t 61)), q0 8 62] [0,8,28,29,30]))))))) (.reg [q 63 (.bin .add (.t 30) (qI 1)), q0 30 63] [0,8,28,29,30])))))))) (qS [q0 64 8, q0 4 64, q 5 (.mv (qI 0))] [4,5] (.lift 4 none 1 .byte .ret)))))))
def r34 : List RT := [.t 4, .t 5]
def a35 : AS := qS [q 6 (.mv (qI 0)), q 7 (.mv (qI 0))] [0,1,2] (.seq (qS [q0 24 0, q5 25 24, q3 26 1 25, q4 27 26, q0 28 1, q 29 (.lk true (.int .i64) (.pair .bool (.sl 48 (.pair .str (.pair (.int .i64) (.sl 1 .byte))))) true (.t 27) (.t 28)), q0 23 29, q
 30 (.ext (.t 23) 0), q 31 (.ext (.t 23) 1), q 8 (.alc [.bool false, .nils]), q6 2 8 30, q0 9 31] [0,1,2,9] (.seq (.regD [q0 32 9, q0 33 32, q2 34 0 33, qF 35 (.nck (.t 34)) 33, qF 36 (.fa 1 (.t 35)) 33, qF 37 (.ld (.t 36)) 33, qF 38 (.len .m
 (.t 37)) 33, q2 39 0 33, qF 40 (.nck (.t 39)) 33, qF 41 (.fa 2 (.t 40)) 33, qF 42 (.ld (.t 41)) 33, qF 43 (.bin .gtr (.t 38) (.t 42)) 33, q 44 (.pick (.t 33) qt (.t 43)), q0 45 44, q2 46 2 45, qF 47 (.bin .gtr (.t 46) (qI 40)) 45, q 48
 (.pick (.t 45) qt (.t 47))] [.q 0, .q 1, .q 2, .q 3, .q 4, .q 5, .q 6, .q 7, .q 8, .q 9, .q 10, .q 11, .q 12, .q 13, .q 14, .q 15, .q 16] [0,1,2,48]) (.cond (.t 48) (qS [q 6 (.mv (qI 0)), q 7 (.mv (qI 2))] [6,7] .ret) .skip))) (qS [q0 50 0,
 q5 51 50, q3 52 0 51, q4 53 52, q0 54 1, q 55 (.callv (.t 53) [none] [.t 54]), q0 49 55, q 56 (.ext (.t 49) 0), q 57 (.ext (.t 49) 1), q0 10 56, q0 11 57] [0,1,2,10,11] (.seq (qS [q0 58 11, q 59 (.bin .neq (.t 58) (qI 0))] [0,1,2,10,11,59]
 (.cond (.t 59) (qS [q0 60 11, q 6 (.mv (qI 0)), q0 7 60] [6,7] .ret) .skip)) (qS [q0 62 10, q 63 (.call 60 [(some (1, .byte))] [.t 62]), q0 61 63, q 64 (.ext (.t 61) 0), q 65 (.ext (.t 61) 1), q 12 (.alc [.bool false, .nils]), q6 2 12 64, q0
 13 65] [0,1,2,12,13] (.seq (qS [q0 66 13, q 67 (.not (.t 66))] [0,1,2,12,67] (.cond (.t 67) (qS [q 6 (.mv (qI 0)), q 7 (.mv (qI 2))] [6,7] .ret) .skip)) (.seq (.regD [q0 68 0, q5 69 68, q3 70 1 69, q4 71 70, q0 72 1, q 73 (.ldA 2 (.t 12)),
 ⟨none, .mu true (.int .i64) (.pair .bool (.sl 48 (.pair .str (.pair (.int .i64) (.sl 1 .byte))))) (.t 71) (.t 72) (.t 73), none⟩] [.q 0, .q 1, .q 2, .q 3, .q 4, .q 5, .e 6 []] [0,2,12]) (qS [q 14 (.mv (qI 0))] [0,2,12,14] (.seq (qS [q3 74 1
 12, q4 75 74, q 76 (.len .s (.t 75)), q 77 (.mv (qI 0))] [0,2,12,14,75,76,77] (.block 0 (.loop 1 [0,2,12,14,75,76,77] (qS [q 78 (.bin .lss (.t 77) (.t 76))] [0,2,12,14,75,76,77,78] (.seq (.cond (.t 78) .skip (.exit 0)) (.seq (.block 1 (qS
 [q0 79 77, q 80 (.ia 3 (.t 75) (.t 77)), q 81 (.ldA 3 (.t 80)), q 16 (.alc [qE, .int .i64 0, .nils]), q0 15 79, q6 3 16 81] [0,2,12,14,15,16,75,76,77] (.seq (qS [q3 82 0 12, q4 83 82] [0,2,12,14,15,16,75,76,77,83] (.cond (.t 83) (.seq (qS
 [q3 84 1 16, q4 85 84, q 86 (.bin .eql (.t 85) (qI 0))] [0,2,12,14,15,16,75,76,77,86] (.cond (.t 86) (.exit 1) .skip)) (.seq (.seq (.regD [q0 88 0, q5 89 88, q3 90 1 89, q4 91 90, q3 92 1 16, q4 93 92, q 94 (.lk true (.int .i64) (.pair .bool
 (.sl 48 (.pair .str (.pair (.int .i64) (.sl 1 .byte))))) true (.t 91) (.t 93)), q0 87 94, q 95 (.ext (.t 87) 0), q 96 (.ext (.t 87) 1), q 17 (.alc [.bool false, .nils]), q6 2 17 95, q0 18 96] [.q 0, .q 1, .q 2, .q 3, .q 4, .q 5, .q 6, .q 7,
 .q 8, .q 9, .e 10 [0,1,2,3,4,5,6,7,8,9], .e 11 [9], .q 12] [0,2,12,14,15,16,18,75,76,77]) (qS [q0 97 18] [0,2,12,14,15,16,75,76,77,97] (.cond (.t 97) (qS [q 6 (.mv (qI 0)), q 7 (.mv (qI 2))] [6,7] .ret) .skip))) (.seq (.regD [q0 99 0, q5 100
 99, q3 101 0 100, q4 102 101, q3 103 1 16, q4 104 103, q 105 (.callv (.t 102) [none] [.t 104]), q0 98 105, q 106 (.ext (.t 98) 0), q 107 (.ext (.t 98) 1), q0 19 106, q0 20 107] [.q 0, .q 1, .q 2, .q 3, .q 4, .q 5, .e 6 [], .q 7, .q 8, .q 9,
 .q 10, .q 11] [0,2,12,14,15,16,19,20,75,76,77]) (.seq (qS [q0 108 20, q 109 (.bin .neq (.t 108) (qI 0))] [0,2,12,14,15,16,19,20,75,76,77,109] (.cond (.t 109) (qS [q0 110 20, q 6 (.mv (qI 0)), q0 7 110] [6,7] .ret) .skip)) (.seq (.regD [q0
 111 0, q5 112 111, q3 113 1 112, q4 114 113, q3 115 1 16, q4 116 115, q 117 (.bld [.bool false, .nils] []), ⟨none, .mu true (.int .i64) (.pair .bool (.sl 48 (.pair .str (.pair (.int .i64) (.sl 1 .byte))))) (.t 114) (.t 116) (.t 117), none⟩]
 [.q 0, .q 1, .q 2, .q 3, .q 4, .q 5, .q 6, .e 7 []] [0,2,12,14,15,19,75,76,77]) (qS [q3 118 1 12, q4 119 118, q0 120 15, q0 121 19, q 122 (.ia 3 (.t 119) (.t 120)), q3 123 2 122, q6 1 123 121] [0,2,12,14,75,76,77] (.exit 1))))))) .skip)) (qS
 [q0 125 0, q3 126 1 16, q4 127 126, q0 128 2, q 129 (.bin .add (.t 128) (qI 1)), q 130 (.call 35 [none, none, none] [.t 125, .t 127, .t 129]), q0 124 130, q 131 (.ext (.t 124) 0), q 132 (.ext (.t 124) 1), q0 21 131, q0 22 132]
 [0,2,12,14,15,16,21,22,75,76,77] (.seq (qS [q0 133 22, q 134 (.bin .neq (.t 133) (qI 0))] [0,2,12,14,15,16,21,22,75,76,77,134] (.cond (.t 134) (qS [q0 135 22, q 6 (.mv (qI 0)), q0 7 135] [6,7] .ret) .skip)) (.seq (.seq (.regD [q0 136 15, q
 137 (.bin .gtr (.t 136) (qI 0)), q0 138 137, q1 139 21 138, q1 140 14 138, qT 141 (.bin .neq (.t 139) (.t 140)) 138, q 142 (.pick (.t 138) (.t 141) qf), q0 143 142, q2 144 0 143, qF 145 (.nck (.t 144)) 143, qF 146 (.fa 1 (.t 145)) 143, qF
 147 (.ld (.t 146)) 143, qF 148 (.fa 1 (.t 16)) 143, qF 149 (.ld (.t 148)) 143, qF 150 (.lk true (.int .i64) (.pair .bool (.sl 48 (.pair .str (.pair (.int .i64) (.sl 1 .byte))))) false (.t 147) (.t 149)) 143, qF 151 (.fld 1 none (.t 150))
 143, qF 152 (.ia 3 (.t 151) (qI 0)) 143, qF 153 (.fa 0 (.t 152)) 143, qF 154 (.ld (.t 153)) 143, qF 155 (.fa 0 (.t 16)) 143, qF 156 (.ld (.t 155)) 143, qF 157 (.bin .lss (.t 154) (.t 156)) 143, q 158 (.pick (.t 143) qt (.t 157))] [.q 0, .q
 1, .q 2, .q 3, .q 4, .q 5, .q 6, .q 7, .q 8, .q 9, .q 10, .q 11, .q 12, .q 13, .q 14, .q 15, .q 16, .q 17, .q 18, .q 19, .q 20, .q 21, .q 22] [0,2,12,21,75,76,77,158]) (.cond (.t 158) (qS [q 6 (.mv (qI 0)), q 7 (.mv (qI 2))] [6,7] .ret)
 .skip)) (.reg [q0 159 21, q0 14 159] [0,2,12,14,75,76,77]))))))) (.reg [q 160 (.bin .add (.t 77) (qI 1)), q0 77 160] [0,2,12,14,75,76,77]))))))) (qS [q0 161 14, q 162 (.bin .add (.t 161) (qI 1)), q0 6 162, q 7 (.mv (qI 0))] [6,7]
 .ret)))))))))
def r35 : List RT := [.t 6, .t 7]
def a50 : AS := qS [q 5 (.mv (.c (.nils))), q 6 (.mv (qI 0))] [0,1,2,3] (qS [q4 11 1, q4 12 2, q4 13 3, q0 14 0, q 15 (.call 32 [none, none, none, none] [.t 11, .t 12, .t 13, .t 14]), q0 10 15, q 16 (.ext (.t 10) 0), q 17 (.ext (.t 10) 1), q 18 (.ext (.t
 10) 2), q0 7 16, q0 8 17, q0 9 18] [7,9] (qS [q0 19 7, q0 20 9, q0 5 19, q0 6 20] [5,6] (.lift 5 none 1 .byte .ret)))
def r50 : List RT := [.t 5, .t 6]
def a58 : AS := qS [q 6 (.mv (.c (.nils))), q 7 (.mv qf)] [0,1,2] (.seq (qS [q0 11 2, q 12 (.len .s (.t 11)), q 13 (.bin .neq (.t 12) (qI 256)), q0 14 13, q2 15 2 14, qF 16 (.ia 1 (.t 15) (qI 13)) 14, qF 17 (.ld (.t 16)) 14, qF 18 (.cv .i64 (.t 17)) 14, qF
 19 (.bin .gtr (.t 18) (qI 242)) 14, q 20 (.pick (.t 14) qt (.t 19))] [0,1,2,20] (.cond (.t 20) (qS [q 6 (.mv (.c (.nils))), q 7 (.mv qf)] [6,7] (.lift 6 none 1 .byte .ret)) .skip)) (qS [q0 21 2, q0 22 2, q 23 (.ia 1 (.t 22) (qI 13)), q4 24
 23, q 25 (.cv .i64 (.t 24)), q 26 (.bin .add (qI 14) (.t 25)), q 27 (.slR 1 (.t 21) (some (qI 14)) (some (.t 26))), q0 8 27] [0,1,2,8] (qS [q0 29 0, q0 30 1, q0 31 8, q 32 (.call 76 [none, none, (some (1, .byte))] [.t 29, .t 30, .t 31]), q0
 28 32, q 33 (.ext (.t 28) 0), q 34 (.ext (.t 28) 1), q0 9 33, q0 10 34] [2,8,9] (.seq (qS [q0 35 9, q0 36 2, q 37 (.call 77 [(some (1, .byte)), (some (1, .byte))] [.t 35, .t 36]), q 38 (.not (.t 37))] [8,38] (.cond (.t 38) (qS [q 6 (.mv (.c
 (.nils))), q 7 (.mv qf)] [6,7] (.lift 6 none 1 .byte .ret)) .skip)) (qS [q0 39 8, q 40 (.call 53 [(some (1, .byte))] [.t 39]), q0 6 40, q 7 (.mv qt)] [6,7] (.lift 6 none 1 .byte .ret))))))
def r58 : List RT := [.t 6, .t 7]
def a76 : AS := qS [q 6 (.mv (.c (.nils))), q 7 (.mv (qI 0))] [0,1,2] (.seq (qS [q0 12 2, q 13 (.len .s (.t 12)), q 14 (.bin .gtr (.t 13) (qI 242))] [0,1,2,14] (.cond (.t 14) (qS [q 6 (.mv (.c (.nils))), q 7 (.mv (qI 4))] [6,7] (.lift 6 none 1 .byte .ret))
 .skip)) (qS [q 15 (.mks 1 .byte (qI 256) (qI 256)), q0 8 15] [0,1,2,8] (qS [q0 16 8, q0 17 0, q 18 (.ia 1 (.t 16) (qI 8)), q6 1 18 17] [1,2,8] (.seq (qS [q 19 (.mv (qI 0))] [1,2,8,19] (.block 0 (.loop 1 [1,2,8,19] (qS [q 20 (.bin .lss (.t
 19) (qI 4))] [1,2,8,19,20] (.seq (.cond (.t 20) .skip (.exit 0)) (.seq (.block 1 (qS [q0 21 19, q0 9 21] [1,2,8,9,19] (.reg [q0 22 8, q0 23 9, q 24 (.bin .add (qI 9) (.t 23)), q0 25 1, q0 26 9, q 27 (.bin .mul (qI 8) (.t 26)), q 28 (.bin
 .sub (qI 24) (.t 27)), q 29 (.bin .shr (.t 25) (.t 28)), q 30 (.cv .u8 (.t 29)), q 31 (.ia 1 (.t 22) (.t 24)), q6 1 31 30] [1,2,8,19]))) (.reg [q 32 (.bin .add (.t 19) (qI 1)), q0 19 32] [1,2,8,19]))))))) (qS [q0 33 8, q0 34 2, q 35 (.len .s
 (.t 34)), q 36 (.cv .u8 (.t 35)), q 37 (.ia 1 (.t 33) (qI 13)), q6 1 37 36] [2,8] (qS [q0 38 8, q 39 (.slR 1 (.t 38) (some (qI 14)) none), q0 40 2, q 41 (.cpy .byte (.t 39) (.t 40))] [8] (qS [q0 42 8, q 43 (.slR 1 (.t 42) (some (qI 8))
 none), q 44 (.call 94 [(some (1, .byte))] [.t 43]), q0 10 44] [8,10] (.seq (qS [q 45 (.mv (qI 0))] [8,10,45] (.block 2 (.loop 2 [8,10,45] (qS [q 46 (.bin .lss (.t 45) (qI 8))] [8,10,45,46] (.seq (.cond (.t 46) .skip (.exit 2)) (.seq (.block
 3 (qS [q0 47 45, q0 11 47] [8,10,11,45] (.reg [q0 48 8, q0 49 11, q0 50 10, q0 51 11, q 52 (.bin .mul (qI 8) (.t 51)), q 53 (.bin .sub (qI 56) (.t 52)), q 54 (.bin .shr (.t 50) (.t 53)), q 55 (.cv .u8 (.t 54)), q 56 (.ia 1 (.t 48) (.t 49)),
 q6 1 56 55] [8,10,45]))) (.reg [q 57 (.bin .add (.t 45) (qI 1)), q0 45 57] [8,10,45]))))))) (qS [q0 58 8, q0 6 58, q 7 (.mv (qI 0))] [6,7] (.lift 6 none 1 .byte .ret))))))))))
def r76 : List RT := [.t 6, .t 7]
theorem ok6 : okF Tryz.prog 6 a6 r6 3 = true := by decide +kernel
theorem ok10 : okF Tryz.prog 10 a10 r10 1 = true := by decide +kernel
theorem ok12 : okF Tryz.prog 12 a12 r12 4 = true := by decide +kernel
theorem ok14 : okF Tryz.prog 14 a14 r14 2 = true := by decide +kernel
theorem ok15 : okF Tryz.prog 15 a15 r15 2 = true := by decide +kernel
theorem ok17 : okF Tryz.prog 17 a17 r17 1 = true := by decide +kernel
theorem ok19 : okF Tryz.prog 19 a19 r19 3 = true := by decide +kernel
theorem ok20 : okF Tryz.prog 20 a20 r20 1 = true := by decide +kernel
theorem ok26 : okF Tryz.prog 26 a26 r26 4 = true := by decide +kernel
theorem ok27 : okF Tryz.prog 27 a27 r27 2 = true := by decide +kernel
theorem ok32 : okF Tryz.prog 32 a32 r32 4 = true := by decide +kernel
theorem ok34 : okF Tryz.prog 34 a34 r34 2 = true := by decide +kernel
theorem ok35 : okF Tryz.prog 35 a35 r35 3 = true := by decide +kernel
theorem ok50 : okF Tryz.prog 50 a50 r50 4 = true := by decide +kernel
theorem ok58 : okF Tryz.prog 58 a58 r58 3 = true := by decide +kernel
theorem ok76 : okF Tryz.prog 76 a76 r76 3 = true := by decide +kernel
end Go.V
