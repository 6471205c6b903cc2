/- A part of the proof layer, or functions of the given program in it: contracts and their proofs. -/
import Derived.Test.YtaeoiobjddknbaaDoorVy
import Derived.Test.YtaeoiobjddknbaaDoorProg
import Derived.Test.YtaeoiobjddknbaaDoorB0
import Derived.Lib.AppendIntMem
import Derived.Lib.ParseIntBTie
import Derived.WalkSmall
import Derived.Shelf.Small.Strs
import Derived.Shelf.Strconv.ErrVarParseInt
import Derived.Lib.AtoiErrMem
namespace Go.V
set_option linter.unusedSimpArgs false
set_option linter.unnecessarySimpa false
open Go.Proofs
def q (n : Nat) (o : AOp) : AOper := ⟨some n, o, none⟩
def qT (n : Nat) (o : AOp) (g : Nat) : AOper := ⟨some n, o, some (g, true)⟩
def qF (n : Nat) (o : AOp) (g : Nat) : AOper := ⟨some n, o, some (g, false)⟩
def q0 (n k : Nat) : AOper := ⟨some n, .mv (.t k), none⟩
def q1 (n k g : Nat) : AOper := ⟨some n, .mv (.t k), some (g, true)⟩
def q2 (n k g : Nat) : AOper := ⟨some n, .mv (.t k), some (g, false)⟩
def q3 (n i k : Nat) : AOper := ⟨some n, .fa i (.t k), none⟩
def q4 (n k : Nat) : AOper := ⟨some n, .ld (.t k), none⟩
def q5 (n k : Nat) : AOper := ⟨some n, .nck (.t k), none⟩
def q6 (n i k : Nat) : AOper := ⟨none, .st n (.t i) (.t k), none⟩
def qI (k : Int) : Opd := .c (.int .i64 k)
def qS (l : List AOper) (k : List Nat) (x : AS) : AS := .seq (.reg l k) x
def qC (t : Nat) (x y : AS) : AS := .seq (.cond (.t t) x .skip) y
def qX (f n : Nat) (l : List Opd) : AOper := ⟨some n, .call f [none] l, none⟩
def qD : Ty := .pair .str (.pair (.int .u64) (.pair (.int .i64) (.sl 8 (.int .i64))))
def qP : Ty := .pair (.int .i64) (.int .i64)
def qf : Opd := .c (.bool false)
def qt : Opd := .c (.bool true)
def qE : SV := .str ByteArray.empty
@[go_sem] theorem qD_d : qD = .pair .str (.pair (.int .u64) (.pair (.int .i64) (.sl 8 (.int .i64)))) := rt
@[go_sem] theorem qP_d : qP = .pair (.int .i64) (.int .i64) := rt
@[go_sem] theorem qf_d : qf = .c (.bool false) := rt
@[go_sem] theorem qt_d : qt = .c (.bool true) := rt
@[go_sem] theorem qE_d : qE = .str ByteArray.empty := rt
@[go_sem] theorem q_d {n o} : q n o = ⟨some n, o, none⟩ := rt
@[go_sem] theorem qT_d {n o g} : qT n o g = ⟨some n, o, some (g, true)⟩ := rt
@[go_sem] theorem qF_d {n o g} : qF n o g = ⟨some n, o, some (g, false)⟩ := rt
@[go_sem] theorem q0_d {n k} : q0 n k = ⟨some n, .mv (.t k), none⟩ := rt
@[go_sem] theorem q1_d {n k g} : q1 n k g = ⟨some n, .mv (.t k), some (g, true)⟩ := rt
@[go_sem] theorem q2_d {n k g} : q2 n k g = ⟨some n, .mv (.t k), some (g, false)⟩ := rt
@[go_sem] theorem q3_d {n i k} : q3 n i k = ⟨some n, .fa i (.t k), none⟩ := rt
@[go_sem] theorem q4_d {n k} : q4 n k = ⟨some n, .ld (.t k), none⟩ := rt
@[go_sem] theorem q5_d {n k} : q5 n k = ⟨some n, .nck (.t k), none⟩ := rt
@[go_sem] theorem q6_d {n i k} : q6 n i k = ⟨none, .st n (.t i) (.t k), none⟩ := rt
@[go_sem] theorem qI_d {k} : qI k = .c (.int .i64 k) := rt
@[go_sem] theorem qS_d {l k x} : qS l k x = .seq (.reg l k) x := rt
@[go_sem] theorem qC_d {t x y} : qC t x y = .seq (.cond (.t t) x .skip) y := rt
@[go_sem] theorem qX_d {f n l} : qX f n l = ⟨some n, .call f [none] l, none⟩ := rt
def a13 : AS := qS [q 1 (.box (.t 0)), q 2 (.mv qf)] [1] (.seq (qS [q3 4 0 1, q4 5 4, q 6 (.len .s (.t 5)), q 7 (.mv (qI 0))] [1,6,7] (.block 0 (.loop 1 [1,6,7] (qS [q 8 (.bin .lss (.t 7) (.t 6))] [1,6,7,8] (.seq (.cond (.t 8) .skip (.exit 0)) (.seq (.block
 1 (qS [q0 9 7, q0 3 9] [1,3,6,7] (qS [q3 10 0 1, q4 11 10, q0 12 3, q 13 (.ia 1 (.t 11) (.t 12)), q4 14 13, q 15 (.len .i (.t 14)), q 16 (.bin .gtr (.t 15) (qI 1000)), q0 17 16, q2 18 3 17, qF 19 (.bin .gtr (.t 18) (qI 50)) 17, q 20 (.pick
 (.t 17) qt (.t 19))] [1,6,7,20] (.cond (.t 20) (qS [q 2 (.mv qf)] [2] .ret) .skip)))) (.reg [q 21 (.bin .add (.t 7) (qI 1)), q0 7 21] [1,6,7]))))))) (qS [q3 22 1 1, q4 23 22, q 24 (.len .s (.t 23)), q 25 (.bin .leq (.t 24) (qI 1000)), q0 2
 25] [2] .ret))
def r13 : List RT := [.t 2]
def a15 : AS := qS [q 1 (.box (.t 0)), q 2 (.alc [.nils, .nils])] [1,2] (qS [q 5 (.bsl 16 .str 0 []), q3 6 0 1, q4 7 6, q 8 (.app 16 .str (.t 5) (.t 7)), q 9 (.bld [.nils, .nils] [(0, 1, (.t 8))]), q 3 (.alc [.nils, .nils]), q6 2 3 9] [1,2,3] (.seq (qS [q3
 10 1 1, q4 11 10, q 12 (.len .s (.t 11)), q 13 (.mv (qI 0))] [1,2,3,12,13] (.block 0 (.lift 2 (some 0) 16 .str (.lift 2 (some 1) 16 qP (.lift 3 (some 0) 16 .str (.lift 3 (some 1) 16 qP (.loop 1 [1,2,3,12,13] (qS [q 14 (.bin .lss (.t 13) (.t
 12))] [1,2,3,12,13,14] (.seq (.cond (.t 14) .skip (.exit 0)) (.seq (.block 1 (qS [q0 15 13, q0 4 15] [1,2,3,4,12,13] (.regD [q3 16 1 3, q4 17 16, q3 18 1 1, q4 19 18, q0 20 4, q 21 (.ia 2 (.t 19) (.t 20)), q 22 (.ldA 2 (.t 21)), q 23 (.bsl
 16 qP 1 [(0, (.t 22))]), q 24 (.app 16 qP (.t 17) (.t 23)), q3 25 1 3, q6 1 25 24] [.q 0, .q 1, .q 2, .q 3, .q 4, .q 5, .q 6, .e 7 [0,1], .e 8 [], .q 9, .e 10 []] [1,2,3,12,13]))) (.reg [q 26 (.bin .add (.t 13) (qI 1)), q0 13 26]
 [1,2,3,12,13]))))))))))) (qS [q 27 (.ldA 2 (.t 3)), q6 2 2 27] [2] (.lift 2 (some 0) 16 .str (.lift 2 (some 1) 16 qP .ret)))))
def r15 : List RT := [.c 2 (some 2), .f 2]
def a17 : AS := qS [q 1 (.box (.t 0)), q 2 (.mv qf)] [1] (.seq (qS [q3 10 0 1, q4 11 10, q 12 (.len .s (.t 11)), q 13 (.bin .gtr (.t 12) (qI 8)), q0 14 13, qF 15 (.fa 1 (.t 1)) 14, qF 16 (.ld (.t 15)) 14, qF 17 (.len .s (.t 16)) 14, qF 18 (.bin .gtr (.t 17)
 (qI 200)) 14, q 19 (.pick (.t 14) qt (.t 18))] [1,19] (.cond (.t 19) (qS [q 2 (.mv qf)] [2] .ret) .skip)) (.seq (qS [q3 20 0 1, q4 21 20, q 22 (.len .s (.t 21)), q 23 (.mv (qI 0))] [1,21,22,23] (.block 0 (.loop 1 [1,21,22,23] (qS [q 24 (.bin
 .lss (.t 23) (.t 22))] [1,21,22,23,24] (.seq (.cond (.t 24) .skip (.exit 0)) (.seq (.block 1 (qS [q 25 (.ia 1 (.t 21) (.t 23)), q4 26 25, q0 4 26] [1,4,21,22,23] (qS [q0 27 4, qX 37 28 [.t 27], q 29 (.not (.t 28))] [1,21,22,23,29] (.cond (.t
 29) (qS [q 2 (.mv qf)] [2] .ret) .skip)))) (.reg [q 30 (.bin .add (.t 23) (qI 1)), q0 23 30] [1,21,22,23]))))))) (.seq (qS [q3 31 1 1, q4 32 31, q 33 (.len .s (.t 32)), q 34 (.mv (qI 0))] [1,32,33,34] (.block 2 (.loop 2 [1,32,33,34] (qS [q
 35 (.bin .lss (.t 34) (.t 33))] [1,32,33,34,35] (.seq (.cond (.t 35) .skip (.exit 2)) (.seq (.block 3 (qS [q 36 (.ia 2 (.t 32) (.t 34)), q 37 (.ldA 2 (.t 36)), q 6 (.alc [.int .i64 0, .int .i64 0]), q6 2 6 37] [1,6,32,33,34] (qS [q3 39 0 6,
 q4 40 39, qX 32 41 [.t 40], q0 38 41, q 42 (.ext (.t 38) 0), q 43 (.ext (.t 38) 1), q 44 (.ext (.t 38) 2), q0 7 42, q0 8 43, q0 9 44] [1,6,8,9,32,33,34] (.seq (.regD [q0 45 9, q 46 (.not (.t 45)), q0 47 46, q2 48 8 47, qF 49 (.bin .neq (.t
 48) (qI 1)) 47, q2 50 49 47, qT 51 (.fa 1 (.t 6)) 50, qT 52 (.ld (.t 51)) 50, qT 53 (.bin .lss (.t 52) (qI 0)) 50, q1 54 53 50, qF 55 (.fa 1 (.t 6)) 54, qF 56 (.ld (.t 55)) 54, qF 57 (.ldA 2 (.t 1)) 54, q2 58 8 54, qF 59 (.call 38 [none,
 none] [.t 57, .t 58]) 54, qF 60 (.bin .geq (.t 56) (.t 59)) 54, qT 61 (.pick (.t 54) qt (.t 60)) 50, qF 62 (.pick (.t 50) (.t 61) qf) 47, q 63 (.pick (.t 47) qt (.t 62))] [.q 0, .q 1, .q 2, .q 3, .q 4, .q 5, .q 6, .q 7, .q 8, .q 9, .q 10, .q
 11, .q 12, .q 13, .e 14 [10,11], .q 15, .q 16, .q 17, .q 18] [1,32,33,34,63]) (.cond (.t 63) (qS [q 2 (.mv qf)] [2] .ret) .skip))))) (.reg [q 64 (.bin .add (.t 34) (qI 1)), q0 34 64] [1,32,33,34]))))))) (qS [q 2 (.mv qt)] [2] .ret))))
def r17 : List RT := [.t 2]
def a18 : AS := qS [q 1 (.box (.t 0)), q 2 (.mv qf)] [1] (.seq (qS [q3 8 0 1, q4 9 8, q 10 (.len .s (.t 9)), q 11 (.bin .gtr (.t 10) (qI 8)), q0 12 11, qF 13 (.fa 1 (.t 1)) 12, qF 14 (.ld (.t 13)) 12, qF 15 (.len .s (.t 14)) 12, qF 16 (.bin .gtr (.t 15) (qI
 200)) 12, q 17 (.pick (.t 12) qt (.t 16))] [1,17] (.cond (.t 17) (qS [q 2 (.mv qf)] [2] .ret) .skip)) (.seq (qS [q3 18 0 1, q4 19 18, q 20 (.len .s (.t 19)), q 21 (.mv (qI 0))] [1,20,21] (.block 0 (.loop 1 [1,20,21] (qS [q 22 (.bin .lss (.t
 21) (.t 20))] [1,20,21,22] (.seq (.cond (.t 22) .skip (.exit 0)) (.seq (.block 1 (qS [q0 23 21, q0 3 23] [1,3,20,21] (qS [q3 24 0 1, q4 25 24, q0 26 3, q 27 (.ia 1 (.t 25) (.t 26)), q4 28 27, qX 39 29 [.t 28], q 30 (.not (.t 29))]
 [1,20,21,30] (.cond (.t 30) (qS [q 2 (.mv qf)] [2] .ret) .skip)))) (.reg [q 31 (.bin .add (.t 21) (qI 1)), q0 21 31] [1,20,21]))))))) (.seq (qS [q3 32 1 1, q4 33 32, q 34 (.len .s (.t 33)), q 35 (.mv (qI 0))] [1,34,35] (.block 2 (.loop 2
 [1,34,35] (qS [q 36 (.bin .lss (.t 35) (.t 34))] [1,34,35,36] (.seq (.cond (.t 36) .skip (.exit 2)) (.seq (.block 3 (qS [q0 37 35, q0 4 37] [1,4,34,35] (qS [q3 39 1 1, q4 40 39, q0 41 4, q 42 (.ia 2 (.t 40) (.t 41)), q3 43 0 42, q4 44 43, qX
 36 45 [.t 44], q0 38 45, q 46 (.ext (.t 38) 0), q 47 (.ext (.t 38) 1), q0 5 46, q0 6 47] [1,4,5,6,34,35] (qS [q3 48 1 1, q4 49 48, q 50 (.len .s (.t 49)), q3 51 0 1, q4 52 51, q 53 (.len .s (.t 52)), q 54 (.bin .sub (.t 53) (qI 1)), q 55
 (.bsl 8 (.int .i64) 6 [(0, (qI 0)), (1, (qI 9223372036854775807)), (2, (qI 7)), (3, (qI 3)), (4, (.t 50)), (5, (.t 54))]), q0 56 6, q 57 (.ia 1 (.t 55) (.t 56)), q4 58 57, q0 7 58] [1,4,5,6,7,34,35] (qS [q0 59 5, q 60 (.bin .eql (.t 59) (.c
 (qE))), q0 61 60, q2 62 6 61, qF 63 (.bin .neq (.t 62) (qI 1)) 61, q2 64 63 61, qT 65 (.fa 1 (.t 1)) 64, qT 66 (.ld (.t 65)) 64, q1 67 4 64, qT 68 (.ia 2 (.t 66) (.t 67)) 64, qT 69 (.fa 1 (.t 68)) 64, qT 70 (.ld (.t 69)) 64, qT 71 (.bin .lss
 (.t 70) (qI 0)) 64, q1 72 71 64, qF 73 (.fa 1 (.t 1)) 72, qF 74 (.ld (.t 73)) 72, q2 75 4 72, qF 76 (.ia 2 (.t 74) (.t 75)) 72, qF 77 (.fa 1 (.t 76)) 72, qF 78 (.ld (.t 77)) 72, q2 79 7 72, qF 80 (.bin .gtr (.t 78) (.t 79)) 72, qT 81 (.pick
 (.t 72) qt (.t 80)) 64, qF 82 (.pick (.t 64) (.t 81) qf) 61, q 83 (.pick (.t 61) qt (.t 82))] [1,34,35,83] (.cond (.t 83) (qS [q 2 (.mv qf)] [2] .ret) .skip)))))) (.reg [q 84 (.bin .add (.t 35) (qI 1)), q0 35 84] [1,34,35]))))))) (qS [q 2
 (.mv qt)] [2] .ret))))
def r18 : List RT := [.t 2]
def a30 : AS := qS [q 4 (.mv (qI 0)), q 5 (.mv (.c (.nili)))] [0,1] (qS [q0 6 0, qX 67 7 [.t 6]] [0,1] (qS [q0 8 0, q0 9 0, q5 10 9, q3 11 1 10, q4 12 11, q0 13 1, q 14 (.app 1 .byte (.t 12) (.t 13)), q5 15 8, q3 16 1 15, q6 1 16 14] [1] (qS [q0 17 1, q 18
 (.len .i (.t 17)), q0 4 18, q 5 (.mv (.c (.nili)))] [4,5] .ret)))
def r30 : List RT := [.t 4, .t 5]
def a32 : AS := qS [q 2 (.mv (.c (qE))), q 3 (.mv (qI 0)), q 4 (.mv qf)] [0] (qS [q 6 (.bld [qE, .int .i64 0] [(0, 1, (.c (.str ⟨#[104,97,108,116]⟩))), (1, 1, (qI 0))]), q 7 (.bld [qE, .int .i64 0] [(0, 1, (.c (.str ⟨#[112,117,115,104]⟩))), (1, 1, (qI
 1))]), q 8 (.bld [qE, .int .i64 0] [(0, 1, (.c (.str ⟨#[108,111,97,100]⟩))), (1, 1, (qI 2))]), q 9 (.bld [qE, .int .i64 0] [(0, 1, (.c (.str ⟨#[115,116,111,114,101]⟩))), (1, 1, (qI 2))]), q 10 (.bld [qE, .int .i64 0] [(0, 1, (.c (.str
 ⟨#[97,114,103]⟩))), (1, 1, (qI 3))]), q 11 (.bld [qE, .int .i64 0] [(0, 1, (.c (.str ⟨#[107,105,110,100]⟩))), (1, 1, (qI 0))]), q 12 (.bld [qE, .int .i64 0] [(0, 1, (.c (.str ⟨#[97,100,100]⟩))), (1, 1, (qI 0))]), q 13 (.bld [qE, .int .i64 0]
 [(0, 1, (.c (.str ⟨#[115,117,98]⟩))), (1, 1, (qI 0))]), q 14 (.bld [qE, .int .i64 0] [(0, 1, (.c (.str ⟨#[109,117,108]⟩))), (1, 1, (qI 0))]), q 15 (.bld [qE, .int .i64 0] [(0, 1, (.c (.str ⟨#[108,101,115,115]⟩))), (1, 1, (qI 0))]), q 16
 (.bld [qE, .int .i64 0] [(0, 1, (.c (.str ⟨#[101,113,117,97,108]⟩))), (1, 1, (qI 0))]), q 17 (.bld [qE, .int .i64 0] [(0, 1, (.c (.str ⟨#[110,111,116]⟩))), (1, 1, (qI 0))]), q 18 (.bld [qE, .int .i64 0] [(0, 1, (.c (.str ⟨#[100,117,112]⟩))),
 (1, 1, (qI 0))]), q 19 (.bld [qE, .int .i64 0] [(0, 1, (.c (.str ⟨#[100,114,111,112]⟩))), (1, 1, (qI 0))]), q 20 (.bld [qE, .int .i64 0] [(0, 1, (.c (.str ⟨#[115,119,97,112]⟩))), (1, 1, (qI 0))]), q 21 (.bld [qE, .int .i64 0] [(0, 1, (.c
 (.str ⟨#[106,117,109,112]⟩))), (1, 1, (qI 4))]), q 22 (.bld [qE, .int .i64 0] [(0, 1, (.c (.str ⟨#[106,117,109,112,122]⟩))), (1, 1, (qI 4))]), q 23 (.bld [qE, .int .i64 0] [(0, 1, (.c (.str ⟨#[115,101,110,100]⟩))), (1, 1, (qI 5))]), q 24
 (.bld [qE, .int .i64 0] [(0, 1, (.c (.str ⟨#[114,101,112,108,121]⟩))), (1, 1, (qI 0))]), q 25 (.bld [qE, .int .i64 0] [(0, 1, (.c (.str ⟨#[114,101,109,105,110,100]⟩))), (1, 1, (qI 5))]), q 26 (.bld [qE, .int .i64 0] [(0, 1, (.c (.str
 ⟨#[99,97,110,99,101,108]⟩))), (1, 1, (qI 5))]), q 27 (.bld [qE, .int .i64 0] [(0, 1, (.c (.str ⟨#[102,97,105,108]⟩))), (1, 1, (qI 0))]), q 28 (.bld [qE, .int .i64 0] [(0, 1, (.c (.str ⟨#[110,111,119]⟩))), (1, 1, (qI 0))]), q 29 (.bld [qE,
 .int .i64 0] [(0, 1, (.c (.str ⟨#[115,101,114,105,97,108]⟩))), (1, 1, (qI 0))]), q 30 (.bldA [qE, .int .i64 0, qE, .int .i64 0, qE, .int .i64 0, qE, .int .i64 0, qE, .int .i64 0, qE, .int .i64 0, qE, .int .i64 0, qE, .int .i64 0, qE, .int
 .i64 0, qE, .int .i64 0, qE, .int .i64 0, qE, .int .i64 0, qE, .int .i64 0, qE, .int .i64 0, qE, .int .i64 0, qE, .int .i64 0, qE, .int .i64 0, qE, .int .i64 0, qE, .int .i64 0, qE, .int .i64 0, qE, .int .i64 0, qE, .int .i64 0, qE, .int
 .i64 0, qE, .int .i64 0] 24 (.pair .str (.int .i64)) [(0, 2, (.t 6)), (2, 2, (.t 7)), (4, 2, (.t 8)), (6, 2, (.t 9)), (8, 2, (.t 10)), (10, 2, (.t 11)), (12, 2, (.t 12)), (14, 2, (.t 13)), (16, 2, (.t 14)), (18, 2, (.t 15)), (20, 2, (.t
 16)), (22, 2, (.t 17)), (24, 2, (.t 18)), (26, 2, (.t 19)), (28, 2, (.t 20)), (30, 2, (.t 21)), (32, 2, (.t 22)), (34, 2, (.t 23)), (36, 2, (.t 24)), (38, 2, (.t 25)), (40, 2, (.t 26)), (42, 2, (.t 27)), (44, 2, (.t 28)), (46, 2, (.t 29))]),
 q 5 (.alc [.arr 24 (.pair .str (.int .i64)) (List.replicate 24 (Ty.dflt (.pair .str (.int .i64))))]), q6 48 5 30] [0,5] (.seq (qS [q0 31 0, q 32 (.bin .lss (.t 31) (qI 0)), q0 33 32, q2 34 0 33, qF 35 (.bin .geq (.t 34) (qI 24)) 33, q 36
 (.pick (.t 33) qt (.t 35))] [0,5,36] (.cond (.t 36) (qS [q 2 (.mv (.c (qE))), q 3 (.mv (qI 0)), q 4 (.mv qf)] [2,3,4] .ret) .skip)) (.seq (.regD [q0 37 0, q 38 (.iaA 24 2 (.t 5) (.t 37)), q3 39 0 38, q4 40 39, q0 41 0, q 42 (.iaA 24 2 (.t 5)
 (.t 41)), q3 43 1 42, q4 44 43, q0 2 40, q0 3 44, q 4 (.mv qt)] [.q 0, .q 1, .q 2, .q 3, .q 4, .q 5, .q 6, .q 7, .q 8, .q 9, .q 10] [2,3,4]) .ret)))
def r32 : List RT := [.t 2, .t 3, .t 4]
def a36 : AS := qS [q 2 (.mv (.c (qE))), q 3 (.mv (qI 0))] [0] (.seq (qS [q0 4 0] [4] (.block 0 (qS [q 6 (.bin .eql (.t 4) (qI 0)), q0 5 6] [4,5] (.cond (.t 5) (qS [q 2 (.mv (.c (.str ⟨#[104,97,108,116]⟩))), q 3 (.mv (qI 0))] [2,3] .ret) (qS [q 8 (.bin .eql
 (.t 4) (qI 1)), q0 7 8] [4,7] (.cond (.t 7) (qS [q 2 (.mv (.c (.str ⟨#[112,117,115,104]⟩))), q 3 (.mv (qI 1))] [2,3] .ret) (qS [q 10 (.bin .eql (.t 4) (qI 2)), q0 9 10] [4,9] (.cond (.t 9) (qS [q 2 (.mv (.c (.str ⟨#[108,111,97,100]⟩))), q 3
 (.mv (qI 2))] [2,3] .ret) (qS [q 12 (.bin .eql (.t 4) (qI 3)), q0 11 12] [4,11] (.cond (.t 11) (qS [q 2 (.mv (.c (.str ⟨#[115,116,111,114,101]⟩))), q 3 (.mv (qI 2))] [2,3] .ret) (qS [q 14 (.bin .eql (.t 4) (qI 4)), q0 13 14] [4,13] (.cond
 (.t 13) (qS [q 2 (.mv (.c (.str ⟨#[97,114,103]⟩))), q 3 (.mv (qI 3))] [2,3] .ret) (qS [q 16 (.bin .eql (.t 4) (qI 5)), q0 15 16] [4,15] (.cond (.t 15) (qS [q 2 (.mv (.c (.str ⟨#[107,105,110,100]⟩))), q 3 (.mv (qI 0))] [2,3] .ret) (qS [q 18
 (.bin .eql (.t 4) (qI 6)), q0 17 18] [4,17] (.cond (.t 17) (qS [q 2 (.mv (.c (.str ⟨#[97,100,100]⟩))), q 3 (.mv (qI 0))] [2,3] .ret) (qS [q 20 (.bin .eql (.t 4) (qI 7)), q0 19 20] [4,19] (.cond (.t 19) (qS [q 2 (.mv (.c (.str
 ⟨#[115,117,98]⟩))), q 3 (.mv (qI 0))] [2,3] .ret) (qS [q 22 (.bin .eql (.t 4) (qI 8)), q0 21 22] [4,21] (.cond (.t 21) (qS [q 2 (.mv (.c (.str ⟨#[109,117,108]⟩))), q 3 (.mv (qI 0))] [2,3] .ret) (qS [q 24 (.bin .eql (.t 4) (qI 9)), q0 23 24]
 [4,23] (.cond (.t 23) (qS [q 2 (.mv (.c (.str ⟨#[108,101,115,115]⟩))), q 3 (.mv (qI 0))] [2,3] .ret) (qS [q 26 (.bin .eql (.t 4) (qI 10)), q0 25 26] [4,25] (.cond (.t 25) (qS [q 2 (.mv (.c (.str ⟨#[101,113,117,97,108]⟩))), q 3 (.mv (qI 0))]
 [2,3] .ret) (qS [q 28 (.bin .eql (.t 4) (qI 11)), q0 27 28] [4,27] (.cond (.t 27) (qS [q 2 (.mv (.c (.str ⟨#[110,111,116]⟩))), q 3 (.mv (qI 0))] [2,3] .ret) (qS [q 30 (.bin .eql (.t 4) (qI 12)), q0 29 30] [4,29] (.cond (.t 29) (qS [q 2 (.mv
 (.c (.str ⟨#[100,117,112]⟩))), q 3 (.mv (qI 0))] [2,3] .ret) (qS [q 32 (.bin .eql (.t 4) (qI 13)), q0 31 32] [4,31] (.cond (.t 31) (qS [q 2 (.mv (.c (.str ⟨#[100,114,111,112]⟩))), q 3 (.mv (qI 0))] [2,3] .ret) (qS [q 34 (.bin .eql (.t 4) (qI
 14)), q0 33 34] [4,33] (.cond (.t 33) (qS [q 2 (.mv (.c (.str ⟨#[115,119,97,112]⟩))), q 3 (.mv (qI 0))] [2,3] .ret) (qS [q 36 (.bin .eql (.t 4) (qI 15)), q0 35 36] [4,35] (.cond (.t 35) (qS [q 2 (.mv (.c (.str ⟨#[106,117,109,112]⟩))), q 3
 (.mv (qI 4))] [2,3] .ret) (qS [q 38 (.bin .eql (.t 4) (qI 16)), q0 37 38] [4,37] (.cond (.t 37) (qS [q 2 (.mv (.c (.str ⟨#[106,117,109,112,122]⟩))), q 3 (.mv (qI 4))] [2,3] .ret) (qS [q 40 (.bin .eql (.t 4) (qI 17)), q0 39 40] [4,39] (.cond
 (.t 39) (qS [q 2 (.mv (.c (.str ⟨#[115,101,110,100]⟩))), q 3 (.mv (qI 5))] [2,3] .ret) (qS [q 42 (.bin .eql (.t 4) (qI 18)), q0 41 42] [4,41] (.cond (.t 41) (qS [q 2 (.mv (.c (.str ⟨#[114,101,112,108,121]⟩))), q 3 (.mv (qI 0))] [2,3] .ret)
 (qS [q 44 (.bin .eql (.t 4) (qI 19)), q0 43 44] [4,43] (.cond (.t 43) (qS [q 2 (.mv (.c (.str ⟨#[114,101,109,105,110,100]⟩))), q 3 (.mv (qI 5))] [2,3] .ret) (qS [q 46 (.bin .eql (.t 4) (qI 20)), q0 45 46] [4,45] (.cond (.t 45) (qS [q 2 (.mv
 (.c (.str ⟨#[99,97,110,99,101,108]⟩))), q 3 (.mv (qI 5))] [2,3] .ret) (qS [q 48 (.bin .eql (.t 4) (qI 21)), q0 47 48] [4,47] (.cond (.t 47) (qS [q 2 (.mv (.c (.str ⟨#[102,97,105,108]⟩))), q 3 (.mv (qI 0))] [2,3] .ret) (qS [q 50 (.bin .eql
 (.t 4) (qI 22)), q0 49 50] [4,49] (.cond (.t 49) (qS [q 2 (.mv (.c (.str ⟨#[110,111,119]⟩))), q 3 (.mv (qI 0))] [2,3] .ret) (qS [q 52 (.bin .eql (.t 4) (qI 23)), q0 51 52] [51] (.cond (.t 51) (qS [q 2 (.mv (.c (.str
 ⟨#[115,101,114,105,97,108]⟩))), q 3 (.mv (qI 0))] [2,3] .ret) .skip)))))))))))))))))))))))))))))))))))))))))))))))))) (qS [q 2 (.mv (.c (qE))), q 3 (.mv (qI 0))] [2,3] .ret))
def r36 : List RT := [.t 2, .t 3]
def a37 : AS := qS [q 2 (.mv qf)] [0] (qS [q0 3 0, q 4 (.bin .neq (.t 3) (.c (qE))), q0 5 4, q1 6 0 5, qT 7 (.len .i (.t 6)) 5, qT 8 (.bin .leq (.t 7) (qI 40)) 5, q 9 (.pick (.t 5) (.t 8) qf), q0 2 9] [2] .ret)
def r37 : List RT := [.t 2]
def a38 : AS := qS [q 2 (.box (.t 0)), q 4 (.mv (qI 0))] [1,2] (.seq (qS [q0 5 1] [2,5] (.block 0 (qS [q 7 (.bin .eql (.t 5) (qI 2)), q0 6 7] [2,5,6] (.cond (.t 6) (qS [q 4 (.mv (qI 8))] [4] .ret) (qS [q 9 (.bin .eql (.t 5) (qI 3)), q0 8 9] [2,5,8] (.cond
 (.t 8) (qS [q 4 (.mv (qI 4))] [4] .ret) (qS [q 11 (.bin .eql (.t 5) (qI 4)), q0 10 11] [2,5,10] (.cond (.t 10) (qS [q3 12 1 2, q4 13 12, q 14 (.len .s (.t 13)), q 15 (.bin .add (.t 14) (qI 1)), q0 4 15] [4] .ret) (qS [q 17 (.bin .eql (.t 5)
 (qI 5)), q0 16 17] [2,16] (.cond (.t 16) (qS [q3 18 0 2, q4 19 18, q 20 (.len .s (.t 19)), q0 4 20] [4] .ret) .skip)))))))))) (qS [q 4 (.mv (qI 1))] [4] .ret))
def r38 : List RT := [.t 4]
def a39 : AS := qS [q 2 (.mv qf)] [0] (qS [q0 3 0, q 4 (.len .i (.t 3)), q 5 (.bin .geq (.t 4) (qI 1)), q0 6 5, q1 7 0 6, qT 8 (.len .i (.t 7)) 6, qT 9 (.bin .leq (.t 8) (qI 40)) 6, q 10 (.pick (.t 6) (.t 9) qf), q0 2 10] [2] .ret)
def r39 : List RT := [.t 2]
def a40 : AS := qS [q 4 (.mv qf)] [0,1] (.seq (qS [q0 6 0, q 7 (.len .s (.t 6)), q0 8 1, q 9 (.len .s (.t 8)), q 10 (.bin .neq (.t 7) (.t 9))] [0,1,10] (.cond (.t 10) (qS [q 4 (.mv qf)] [4] .ret) .skip)) (.seq (qS [q0 11 0, q 12 (.len .s (.t 11)), q 13 (.mv
 (qI 0))] [0,1,12,13] (.block 0 (.loop 1 [0,1,12,13] (qS [q 14 (.bin .lss (.t 13) (.t 12))] [0,1,12,13,14] (.seq (.cond (.t 14) .skip (.exit 0)) (.seq (.block 1 (qS [q0 15 13, q0 5 15] [0,1,5,12,13] (.seq (.regD [q0 16 0, q0 17 5, q 18 (.ia 1
 (.t 16) (.t 17)), q4 19 18, q0 20 1, q0 21 5, q 22 (.ia 1 (.t 20) (.t 21)), q4 23 22, q 24 (.bin .neq (.t 19) (.t 23))] [.q 0, .q 1, .q 2, .q 3, .q 4, .q 5, .q 6, .q 7, .q 8] [0,1,12,13,24]) (.cond (.t 24) (qS [q 4 (.mv qf)] [4] .ret)
 .skip)))) (.reg [q 25 (.bin .add (.t 13) (qI 1)), q0 13 25] [0,1,12,13]))))))) (qS [q 4 (.mv qt)] [4] .ret)))
def r40 : List RT := [.t 4]
def a41 : AS := qS [q 4 (.mv qf)] [0,1] (.seq (qS [q0 6 0, q 7 (.len .s (.t 6)), q0 8 1, q 9 (.len .s (.t 8)), q 10 (.bin .neq (.t 7) (.t 9))] [0,1,10] (.cond (.t 10) (qS [q 4 (.mv qf)] [4] .ret) .skip)) (.seq (qS [q0 11 0, q 12 (.len .s (.t 11)), q 13 (.mv
 (qI 0))] [0,1,12,13] (.block 0 (.loop 1 [0,1,12,13] (qS [q 14 (.bin .lss (.t 13) (.t 12))] [0,1,12,13,14] (.seq (.cond (.t 14) .skip (.exit 0)) (.seq (.block 1 (qS [q0 15 13, q0 5 15] [0,1,5,12,13] (.seq (.regD [q0 16 0, q0 17 5, q 18 (.ia 2
 (.t 16) (.t 17)), q 19 (.ldA 2 (.t 18)), q0 20 1, q0 21 5, q 22 (.ia 2 (.t 20) (.t 21)), q 23 (.ldA 2 (.t 22)), q 24 (.eqS true [.int .i64, .int .i64] (.t 19) (.t 23))] [.q 0, .q 1, .q 2, .q 3, .q 4, .q 5, .q 6, .q 7, .q 8] [0,1,12,13,24])
 (.cond (.t 24) (qS [q 4 (.mv qf)] [4] .ret) .skip)))) (.reg [q 25 (.bin .add (.t 13) (qI 1)), q0 13 25] [0,1,12,13]))))))) (qS [q 4 (.mv qt)] [4] .ret)))
def r41 : List RT := [.t 4]
def a42 : AS := qS [q 0 (.mv (.c (.nilp)))] [] (qS [q 1 (.bld [.nils] []), q 2 (.box (.t 1)), q0 0 2] [0] (.lift 0 (some 0) 1 .byte .ret))
def r42 : List RT := [.t 0]
def a43 : AS := .seq (qS [q0 6 0, q 7 (.eqn false .p (.t 6) (.c (.nilp)))] [0,1,7] (.cond (.t 7) .ret .skip)) (.seq (qS [q0 8 1, q 9 (.bin .lss (.t 8) (.c (.int .u64 248)))] [0,1,9] (.cond (.t 9) (qS [q0 10 0, q0 11 0, q5 12 11, q3 13 0 12, q4 14 13, q0 15
 1, q 16 (.cv .u8 (.t 15)), q 17 (.bsl 1 .byte 1 [(0, (.t 16))]), q 18 (.app 1 .byte (.t 14) (.t 17)), q5 19 10, q3 20 0 19, q6 1 20 18] [] .ret) .skip)) (qS [q0 21 1, qX 69 22 [.t 21], q 23 (.bin .add (.t 22) (qI 7)), q 24 (.bin .quo (.t 23)
 (qI 8)), q0 4 24] [0,1,4] (qS [q0 25 0, q0 26 0, q5 27 26, q3 28 0 27, q4 29 28, q0 30 4, q 31 (.bin .add (qI 247) (.t 30)), q 32 (.cv .u8 (.t 31)), q 33 (.bsl 1 .byte 1 [(0, (.t 32))]), q 34 (.app 1 .byte (.t 29) (.t 33)), q5 35 25, q3 36 0
 35, q6 1 36 34] [0,1,4] (qS [q0 37 4, q 38 (.bin .sub (.t 37) (qI 1)), q0 5 38] [0,1,5] (.block 0 (.lift 0 (some 0) 1 .byte (.loop 1 [0,1,5] (.seq (qS [q0 39 5, q 40 (.bin .geq (.t 39) (qI 0))] [0,1,5,40] (.cond (.t 40) .skip (.exit 0)))
 (.seq (.block 1 (.regD [q0 43 0, q0 44 0, q5 45 44, q3 46 0 45, q4 47 46, q0 48 1, q0 49 5, q 50 (.bin .mul (qI 8) (.t 49)), q 51 (.bin .shr (.t 48) (.t 50)), q 52 (.cv .u8 (.t 51)), q 53 (.bsl 1 .byte 1 [(0, (.t 52))]), q 54 (.app 1 .byte
 (.t 47) (.t 53)), q5 55 43, q3 56 0 55, q6 1 56 54] [.q 0, .q 1, .q 2, .q 3, .q 4, .q 5, .q 6, .q 7, .q 8, .q 9, .e 10 [0,1,2,3,4], .e 11 [0], .q 12, .q 13, .e 14 []] [0,1,5])) (.reg [q0 41 5, q 42 (.bin .sub (.t 41) (qI 1)), q0 5 42]
 [0,1,5]))))))))))
def r43 : List RT := []
def a44 : AS := qS [q0 4 0, q 5 (.eqn true .p (.t 4) (.c (.nilp)))] [0,1,5] (.cond (.t 5) (qS [q0 6 0, q0 7 1, q 8 (.len .i (.t 7)), q 9 (.cv .u64 (.t 8)), q 10 (.call 43 [none, none] [.t 6, .t 9])] [0,1] (.reg [q0 11 0, q0 12 0, q5 13 12, q3 14 0 13, q4 15
 14, q0 16 1, q 17 (.app 1 .byte (.t 15) (.t 16)), q5 18 11, q3 19 0 18, q6 1 19 17] [])) .skip)
def r44 : List RT := []
def a45 : AS := .reg [q0 4 0, q0 5 1, q 6 (.cv .u64 (.t 5)), q 7 (.bin .shl (.t 6) (.c (.int .u64 1))), q0 8 1, q 9 (.bin .shr (.t 8) (.c (.int .u64 63))), q 10 (.cv .u64 (.t 9)), q 11 (.bin .xor (.t 7) (.t 10)), q 12 (.call 43 [none, none] [.t 4, .t 11])]
 []
def r45 : List RT := []
def a46 : AS := qS [q 2 (.mv (.c (.nils)))] [0] (.seq (qS [q0 3 0, q 4 (.eqn false .p (.t 3) (.c (.nilp)))] [0,4] (.cond (.t 4) (qS [q 2 (.mv (.c (.nils)))] [2] (.lift 2 none 1 .byte .ret)) .skip)) (qS [q 5 (.bsl 1 .byte 0 []), q0 6 0, q5 7 6, q3 8 0 7, q4
 9 8, q 10 (.app 1 .byte (.t 5) (.t 9)), q0 2 10] [2] (.lift 2 none 1 .byte .ret)))
def r46 : List RT := [.t 2]
def a47 : AS := qS [q 4 (.mv (.c (.nils)))] [0,1] (.seq (qS [q0 7 1, q 8 (.bin .lss (.t 7) (.c (.int .u64 248)))] [0,1,8] (.cond (.t 8) (qS [q0 9 0, q0 10 1, q 11 (.cv .u8 (.t 10)), q 12 (.bsl 1 .byte 1 [(0, (.t 11))]), q 13 (.app 1 .byte (.t 9) (.t 12)),
 q0 4 13] [4] (.lift 4 none 1 .byte .ret)) .skip)) (qS [q 5 (.mv (qI 1))] [0,1,5] (.seq (.block 0 (.loop 1 [0,1,5] (.seq (qS [q0 14 5, q 15 (.bin .lss (.t 14) (qI 8)), q0 16 15, q1 17 1 16, q1 18 5 16, qT 19 (.bin .mul (qI 8) (.t 18)) 16, qT
 20 (.cv .u64 (.t 19)) 16, qT 21 (.bin .shr (.t 17) (.t 20)) 16, qT 22 (.bin .gtr (.t 21) (.c (.int .u64 0))) 16, q 23 (.pick (.t 16) (.t 22) qf)] [0,1,5,23] (.cond (.t 23) .skip (.exit 0))) (.block 1 (.reg [q0 24 5, q 25 (.bin .add (.t 24)
 (qI 1)), q0 5 25] [0,1,5]))))) (qS [q0 26 0, q0 27 5, q 28 (.bin .add (qI 247) (.t 27)), q 29 (.cv .u8 (.t 28)), q 30 (.bsl 1 .byte 1 [(0, (.t 29))]), q 31 (.app 1 .byte (.t 26) (.t 30)), q0 0 31] [0,1,5] (.seq (qS [q0 32 5, q 33 (.bin .sub
 (.t 32) (qI 1)), q0 6 33] [0,1,6] (.block 2 (.lift 0 none 1 .byte (.loop 2 [0,1,6] (.seq (qS [q0 34 6, q 35 (.bin .geq (.t 34) (qI 0))] [0,1,6,35] (.cond (.t 35) .skip (.exit 2))) (.seq (.block 3 (.reg [q0 38 0, q0 39 1, q0 40 6, q 41 (.bin
 .mul (qI 8) (.t 40)), q 42 (.cv .u64 (.t 41)), q 43 (.bin .shr (.t 39) (.t 42)), q 44 (.cv .u8 (.t 43)), q 45 (.bsl 1 .byte 1 [(0, (.t 44))]), q 46 (.app 1 .byte (.t 38) (.t 45)), q0 0 46] [0,1,6])) (.reg [q0 36 6, q 37 (.bin .sub (.t 36)
 (qI 1)), q0 6 37] [0,1,6]))))))) (qS [q0 47 0, q0 4 47] [4] (.lift 4 none 1 .byte .ret)))))))
def r47 : List RT := [.t 4]
def a48 : AS := qS [q 4 (.mv (.c (.nils)))] [0,1] (qS [q0 5 0, q0 6 1, q 7 (.len .i (.t 6)), q 8 (.cv .u64 (.t 7)), q 9 (.call 47 [none, none] [.t 5, .t 8]), q0 10 1, q 11 (.app 1 .byte (.t 9) (.t 10)), q0 4 11] [4] (.lift 4 none 1 .byte .ret))
def r48 : List RT := [.t 4]
def a49 : AS := qS [q 4 (.mv (.c (.nils)))] [0,1] (.seq (qS [q0 5 1, q 6 (.bin .geq (.t 5) (qI 0))] [0,1,6] (.cond (.t 6) (qS [q0 7 0, q0 8 1, q 9 (.cv .u64 (.t 8)), q 10 (.bin .shl (.t 9) (.c (.int .u64 1))), q 11 (.call 47 [none, none] [.t 7, .t 10]), q0
 4 11] [4] (.lift 4 none 1 .byte .ret)) .skip)) (qS [q0 12 0, q0 13 1, q 14 (.bin .add (.t 13) (qI 1)), q 15 (.neg (.t 14)), q 16 (.cv .u64 (.t 15)), q 17 (.bin .shl (.t 16) (.c (.int .u64 1))), q 18 (.bin .or (.t 17) (.c (.int .u64 1))), q
 19 (.call 47 [none, none] [.t 12, .t 18]), q0 4 19] [4] (.lift 4 none 1 .byte .ret)))
def r49 : List RT := [.t 4]
def a50 : AS := qS [q 2 (.mv (.c (.nilp)))] [0] (qS [q 3 (.bsl 1 .byte 0 []), q0 4 0, q 5 (.app 1 .byte (.t 3) (.t 4)), q 6 (.bld [.nils, .bool false] [(0, 1, (.t 5))]), q 7 (.box (.t 6)), q0 2 7] [2] (.lift 2 (some 0) 1 .byte (.lift 2 (some 0) 1 .byte
 .ret)))
def r50 : List RT := [.t 2, .f 2]
def a51 : AS := qS [q 2 (.mv (.c (.int .u64 0)))] [0] (.seq (qS [q0 8 0, q 9 (.eqn false .p (.t 8) (.c (.nilp))), q0 10 9, q2 11 0 10, qF 12 (.nck (.t 11)) 10, qF 13 (.fa 1 (.t 12)) 10, qF 14 (.ld (.t 13)) 10, q 15 (.pick (.t 10) qt (.t 14))] [0,15] (.cond
 (.t 15) (qS [q 2 (.mv (.c (.int .u64 0)))] [0,2] (.lift 0 (some 0) 1 .byte .ret)) .skip)) (.seq (qS [q0 16 0, q5 17 16, q3 18 0 17, q4 19 18, q 20 (.len .s (.t 19)), q 21 (.bin .eql (.t 20) (qI 0))] [0,21] (.cond (.t 21) (qS [q0 22 0, qX 70
 23 [.t 22]] [0] (qS [q 2 (.mv (.c (.int .u64 0)))] [0,2] (.lift 0 (some 0) 1 .byte .ret))) .skip)) (qS [q0 24 0, q5 25 24, q3 26 0 25, q4 27 26, q 28 (.ia 1 (.t 27) (qI 0)), q4 29 28, q0 3 29] [0,3] (.seq (qS [q0 30 3, q 31 (.bin .lss (.t
 30) (.c (.int .u8 248)))] [0,3,31] (.cond (.t 31) (qS [q0 32 0, q0 33 0, q5 34 33, q3 35 0 34, q4 36 35, q 37 (.slR 1 (.t 36) (some (qI 1)) none), q5 38 32, q3 39 0 38, q6 1 39 37] [0,3] (qS [q0 40 3, q 41 (.cv .u64 (.t 40)), q0 2 41] [0,2]
 (.lift 0 (some 0) 1 .byte .ret))) .skip)) (qS [q0 42 3, q 43 (.cv .i64 (.t 42)), q 44 (.bin .sub (.t 43) (qI 247)), q0 4 44] [0,4] (.seq (qS [q0 45 4, q0 46 0, q5 47 46, q3 48 0 47, q4 49 48, q 50 (.len .s (.t 49)), q 51 (.bin .sub (.t 50)
 (qI 1)), q 52 (.bin .gtr (.t 45) (.t 51))] [0,4,52] (.cond (.t 52) (qS [q0 53 0, qX 70 54 [.t 53]] [0] (qS [q 2 (.mv (.c (.int .u64 0)))] [0,2] (.lift 0 (some 0) 1 .byte .ret))) .skip)) (qS [q 5 (.mv (.c (.int .u64 0)))] [0,4,5] (.seq (qS
 [q0 55 0, q5 56 55, q3 57 0 56, q4 58 57, q0 59 4, q 60 (.bin .add (qI 1) (.t 59)), q 61 (.slR 1 (.t 58) (some (qI 1)) (some (.t 60))), q 62 (.len .s (.t 61)), q 63 (.mv (qI 0))] [0,4,5,61,62,63] (.block 0 (.lift 0 (some 0) 1 .byte (.loop 1
 [0,4,5,61,62,63] (qS [q 64 (.bin .lss (.t 63) (.t 62))] [0,4,5,61,62,63,64] (.seq (.cond (.t 64) .skip (.exit 0)) (.seq (.block 1 (qS [q 65 (.ia 1 (.t 61) (.t 63)), q4 66 65, q0 7 66] [0,4,5,7,61,62,63] (.reg [q0 67 5, q 68 (.bin .shl (.t
 67) (.c (.int .u64 8))), q0 69 7, q 70 (.cv .u64 (.t 69)), q 71 (.bin .or (.t 68) (.t 70)), q0 5 71] [0,4,5,61,62,63]))) (.reg [q 72 (.bin .add (.t 63) (qI 1)), q0 63 72] [0,4,5,61,62,63])))))))) (.seq (qS [q0 73 5, q 74 (.bin .lss (.t 73)
 (.c (.int .u64 248))), q0 75 74, q2 76 0 75, qF 77 (.nck (.t 76)) 75, qF 78 (.fa 0 (.t 77)) 75, qF 79 (.ld (.t 78)) 75, qF 80 (.ia 1 (.t 79) (qI 1)) 75, qF 81 (.ld (.t 80)) 75, qF 82 (.bin .eql (.t 81) (.c (.int .u8 0))) 75, q 83 (.pick (.t
 75) qt (.t 82))] [0,4,5,83] (.cond (.t 83) (qS [q0 84 0, qX 70 85 [.t 84]] [0] (qS [q 2 (.mv (.c (.int .u64 0)))] [0,2] (.lift 0 (some 0) 1 .byte .ret))) .skip)) (qS [q0 86 0, q0 87 0, q5 88 87, q3 89 0 88, q4 90 89, q0 91 4, q 92 (.bin .add
 (qI 1) (.t 91)), q 93 (.slR 1 (.t 90) (some (.t 92)) none), q5 94 86, q3 95 0 94, q6 1 95 93] [0,5] (qS [q0 96 5, q0 2 96] [0,2] (.lift 0 (some 0) 1 .byte .ret))))))))))))
def r51 : List RT := [.t 2, .f 0]
def a52 : AS := qS [q 2 (.mv (.c (qE)))] [0] (qS [q0 5 0, qX 51 6 [.t 5], q0 3 6] [0,3] (.seq (qS [q0 7 0, q 8 (.eqn false .p (.t 7) (.c (.nilp))), q0 9 8, q2 10 0 9, qF 11 (.nck (.t 10)) 9, qF 12 (.fa 1 (.t 11)) 9, qF 13 (.ld (.t 12)) 9, q 14 (.pick (.t 9)
 qt (.t 13))] [0,3,14] (.cond (.t 14) (qS [q 2 (.mv (.c (qE)))] [0,2] (.lift 0 (some 0) 1 .byte .ret)) .skip)) (.seq (qS [q0 15 3, q0 16 0, q5 17 16, q3 18 0 17, q4 19 18, q 20 (.len .s (.t 19)), q 21 (.cv .u64 (.t 20)), q 22 (.bin .gtr (.t
 15) (.t 21))] [0,3,22] (.cond (.t 22) (qS [q0 23 0, qX 70 24 [.t 23]] [0] (qS [q 2 (.mv (.c (qE)))] [0,2] (.lift 0 (some 0) 1 .byte .ret))) .skip)) (qS [q0 25 0, q5 26 25, q3 27 0 26, q4 28 27, q0 29 3, q 30 (.slR 1 (.t 28) none (some (.t
 29))), q 31 (.b2s (.t 30)), q0 4 31] [0,3,4] (qS [q0 32 0, q0 33 0, q5 34 33, q3 35 0 34, q4 36 35, q0 37 3, q 38 (.slR 1 (.t 36) (some (.t 37)) none), q5 39 32, q3 40 0 39, q6 1 40 38] [0,4] (qS [q0 41 4, q0 2 41] [0,2] (.lift 0 (some 0) 1
 .byte .ret)))))))
def r52 : List RT := [.t 2, .f 0]
def a53 : AS := qS [q 2 (.mv (qI 0))] [0] (qS [q0 4 0, qX 51 5 [.t 4], q0 3 5] [3] (qS [q0 6 3, q 7 (.bin .shr (.t 6) (.c (.int .u64 1))), q 8 (.cv .i64 (.t 7)), q0 9 3, q 10 (.bin .and (.t 9) (.c (.int .u64 1))), q 11 (.cv .i64 (.t 10)), q 12 (.neg (.t
 11)), q 13 (.bin .xor (.t 8) (.t 12)), q0 2 13] [2] .ret))
def r53 : List RT := [.t 2]
def a54 : AS := qS [q 2 (.mv qf)] [0] (qS [q0 3 0, q 4 (.eqn true .p (.t 3) (.c (.nilp))), q0 5 4, q1 6 0 5, qT 7 (.nck (.t 6)) 5, qT 8 (.fa 1 (.t 7)) 5, qT 9 (.ld (.t 8)) 5, qT 10 (.not (.t 9)) 5, q 11 (.pick (.t 5) (.t 10) qf), q0 12 11, q1 13 0 12, qT 14
 (.nck (.t 13)) 12, qT 15 (.fa 0 (.t 14)) 12, qT 16 (.ld (.t 15)) 12, qT 17 (.len .s (.t 16)) 12, qT 18 (.bin .eql (.t 17) (qI 0)) 12, q 19 (.pick (.t 12) (.t 18) qf), q0 2 19] [2] .ret)
def r54 : List RT := [.t 2]
def a55 : AS := qS [q 2 (.mv (.c (.nilp)))] [0] (qS [q0 3 0, q 4 (.bld [.nils, .bool false] [(0, 1, (.t 3))]), q 5 (.box (.t 4)), q0 2 5] [2] (.lift 2 (some 0) 1 .byte .ret))
def r55 : List RT := [.t 2]
def a56 : AS := qS [q 2 (.mv (.c (.int .u64 0)))] [0] (.seq (qS [q0 7 0, q5 8 7, q3 9 0 8, q4 10 9, q 11 (.len .s (.t 10)), q 12 (.bin .eql (.t 11) (qI 0))] [0,12] (.cond (.t 12) (qS [q0 13 0, qX 71 14 [.t 13]] [0] (qS [q 2 (.mv (.c (.int .u64 0)))] [0,2]
 (.lift 0 (some 0) 1 .byte .ret))) .skip)) (.seq (qS [q0 15 0, q5 16 15, q3 17 0 16, q4 18 17, q 19 (.ia 1 (.t 18) (qI 0)), q4 20 19, q 21 (.bin .lss (.t 20) (.c (.int .u8 248)))] [0,21] (.cond (.t 21) (qS [q0 22 0, q5 23 22, q3 24 0 23, q4
 25 24, q 26 (.ia 1 (.t 25) (qI 0)), q4 27 26, q 28 (.cv .u64 (.t 27)), q0 3 28] [0,3] (qS [q0 29 0, q0 30 0, q5 31 30, q3 32 0 31, q4 33 32, q 34 (.slR 1 (.t 33) (some (qI 1)) none), q5 35 29, q3 36 0 35, q6 1 36 34] [0,3] (qS [q0 37 3, q0 2
 37] [0,2] (.lift 0 (some 0) 1 .byte .ret)))) .skip)) (qS [q0 38 0, q5 39 38, q3 40 0 39, q4 41 40, q 42 (.ia 1 (.t 41) (qI 0)), q4 43 42, q 44 (.cv .i64 (.t 43)), q 45 (.bin .sub (.t 44) (qI 247)), q0 4 45] [0,4] (.seq (qS [q0 46 0, q5 47
 46, q3 48 0 47, q4 49 48, q 50 (.len .s (.t 49)), q0 51 4, q 52 (.bin .add (qI 1) (.t 51)), q 53 (.bin .lss (.t 50) (.t 52)), q0 54 53, q2 55 0 54, qF 56 (.nck (.t 55)) 54, qF 57 (.fa 0 (.t 56)) 54, qF 58 (.ld (.t 57)) 54, qF 59 (.ia 1 (.t
 58) (qI 1)) 54, qF 60 (.ld (.t 59)) 54, qF 61 (.bin .eql (.t 60) (.c (.int .u8 0))) 54, q 62 (.pick (.t 54) qt (.t 61))] [0,4,62] (.cond (.t 62) (qS [q0 63 0, qX 71 64 [.t 63]] [0] (qS [q 2 (.mv (.c (.int .u64 0)))] [0,2] (.lift 0 (some 0) 1
 .byte .ret))) .skip)) (qS [q 5 (.mv (.c (.int .u64 0)))] [0,4,5] (.seq (qS [q 6 (.mv (qI 1))] [0,4,5,6] (.block 0 (.lift 0 (some 0) 1 .byte (.loop 1 [0,4,5,6] (.seq (qS [q0 65 6, q0 66 4, q 67 (.bin .leq (.t 65) (.t 66))] [0,4,5,6,67] (.cond
 (.t 67) .skip (.exit 0))) (.seq (.block 1 (.reg [q0 70 5, q 71 (.bin .shl (.t 70) (.c (.int .u64 8))), q0 72 0, q5 73 72, q3 74 0 73, q4 75 74, q0 76 6, q 77 (.ia 1 (.t 75) (.t 76)), q4 78 77, q 79 (.cv .u64 (.t 78)), q 80 (.bin .or (.t 71)
 (.t 79)), q0 5 80] [0,4,5,6])) (.reg [q0 68 6, q 69 (.bin .add (.t 68) (qI 1)), q0 6 69] [0,4,5,6]))))))) (.seq (qS [q0 81 5, q 82 (.bin .lss (.t 81) (.c (.int .u64 248)))] [0,4,5,82] (.cond (.t 82) (qS [q0 83 0, qX 71 84 [.t 83]] [0] (qS [q
 2 (.mv (.c (.int .u64 0)))] [0,2] (.lift 0 (some 0) 1 .byte .ret))) .skip)) (qS [q0 85 0, q0 86 0, q5 87 86, q3 88 0 87, q4 89 88, q0 90 4, q 91 (.bin .add (qI 1) (.t 90)), q 92 (.slR 1 (.t 89) (some (.t 91)) none), q5 93 85, q3 94 0 93, q6
 1 94 92] [0,5] (qS [q0 95 5, q0 2 95] [0,2] (.lift 0 (some 0) 1 .byte .ret))))))))))
def r56 : List RT := [.t 2, .f 0]
def a57 : AS := qS [q 2 (.mv (.c (qE)))] [0] (qS [q0 5 0, qX 56 6 [.t 5], q0 3 6] [0,3] (.seq (qS [q0 7 3, q0 8 0, q5 9 8, q3 10 0 9, q4 11 10, q 12 (.len .s (.t 11)), q 13 (.cv .u64 (.t 12)), q 14 (.bin .gtr (.t 7) (.t 13))] [0,3,14] (.cond (.t 14) (qS [q0
 15 0, qX 71 16 [.t 15]] [0] (qS [q 2 (.mv (.c (qE)))] [0,2] (.lift 0 (some 0) 1 .byte .ret))) .skip)) (qS [q0 17 0, q5 18 17, q3 19 0 18, q4 20 19, q0 21 3, q 22 (.slR 1 (.t 20) none (some (.t 21))), q 23 (.b2s (.t 22)), q0 4 23] [0,3,4] (qS
 [q0 24 0, q0 25 0, q5 26 25, q3 27 0 26, q4 28 27, q0 29 3, q 30 (.slR 1 (.t 28) (some (.t 29)) none), q5 31 24, q3 32 0 31, q6 1 32 30] [0,4] (qS [q0 33 4, q0 2 33] [0,2] (.lift 0 (some 0) 1 .byte .ret))))))
def r57 : List RT := [.t 2, .f 0]
def a58 : AS := qS [q 2 (.mv (qI 0))] [0] (qS [q0 4 0, qX 56 5 [.t 4], q0 3 5] [3] (.seq (qS [q0 6 3, q 7 (.bin .rem (.t 6) (.c (.int .u64 2))), q 8 (.bin .eql (.t 7) (.c (.int .u64 1)))] [3,8] (.cond (.t 8) (qS [q0 9 3, q 10 (.bin .shr (.t 9) (.c (.int
 .u64 1))), q 11 (.cv .i64 (.t 10)), q 12 (.neg (.t 11)), q 13 (.bin .sub (.t 12) (qI 1)), q0 2 13] [2] .ret) .skip)) (qS [q0 14 3, q 15 (.bin .shr (.t 14) (.c (.int .u64 1))), q 16 (.cv .i64 (.t 15)), q0 2 16] [2] .ret)))
def r58 : List RT := [.t 2]
def a59 : AS := qS [q 2 (.mv qf)] [0] (qS [q0 3 0, q5 4 3, q3 5 1 4, q4 6 5, q 7 (.not (.t 6)), q0 8 7, q1 9 0 8, qT 10 (.nck (.t 9)) 8, qT 11 (.fa 0 (.t 10)) 8, qT 12 (.ld (.t 11)) 8, qT 13 (.len .s (.t 12)) 8, qT 14 (.bin .eql (.t 13) (qI 0)) 8, q 15
 (.pick (.t 8) (.t 14) qf), q0 2 15] [2] .ret)
def r59 : List RT := [.t 2]
def a63 : AS := qS [q 4 (.mv (.c (.nili)))] [0,1] (qS [q0 5 0, qX 67 6 [.t 5]] [0,1] (qS [q0 7 0, q0 8 0, q5 9 8, q3 10 1 9, q4 11 10, q0 12 1, q 13 (.bsl 1 .byte 1 [(0, (.t 12))]), q 14 (.app 1 .byte (.t 11) (.t 13)), q5 15 7, q3 16 1 15, q6 1 16 14] []
 (qS [q 4 (.mv (.c (.nili)))] [4] .ret)))
def r63 : List RT := [.t 4]
def a69 : AS := qS [q 2 (.mv (qI 0))] [0,2] (.seq (qS [q0 3 0, q 4 (.bin .geq (.t 3) (.c (.int .u64 4294967296)))] [0,2,4] (.cond (.t 4) (qS [q0 5 0, q 6 (.bin .shr (.t 5) (.c (.int .u64 32))), q0 0 6] [0] (.reg [q 2 (.mv (qI 32))] [0,2])) .skip)) (.seq (qS
 [q0 7 0, q 8 (.bin .geq (.t 7) (.c (.int .u64 65536)))] [0,2,8] (.cond (.t 8) (qS [q0 9 0, q 10 (.bin .shr (.t 9) (.c (.int .u64 16))), q0 0 10] [0,2] (.reg [q0 11 2, q 12 (.bin .add (.t 11) (qI 16)), q0 2 12] [0,2])) .skip)) (.seq (qS [q0
 13 0, q 14 (.bin .geq (.t 13) (.c (.int .u64 256)))] [0,2,14] (.cond (.t 14) (qS [q0 15 0, q 16 (.bin .shr (.t 15) (.c (.int .u64 8))), q0 0 16] [0,2] (.reg [q0 17 2, q 18 (.bin .add (.t 17) (qI 8)), q0 2 18] [0,2])) .skip)) (qS [q0 19 2, q0
 20 0, q 21 (.cv .u8 (.t 20)), q 22 (.ixS (.c (.str
 ⟨#[0,1,2,2,3,3,3,3,4,4,4,4,4,4,4,4,5,5,5,5,5,5,5,5,5,5,5,5,5,5,5,5,6,6,6,6,6,6,6,6,6,6,6,6,6,6,6,6,6,6,6,6,6,6,6,6,6,6,6,6,6,6,6,6,7,7,7,7,7,7,7,7,7,7,7,7,7,7,7,7,7,7,7,7,7,7,7,7,7,7,7,7,7,7,7,7,7,7,7,7,7,7,7,7,7,7,7,7,7,7,7,7,7,7,7,7,7,7,7,7,7,7,7,7,7,7,7,7,8,8,8,8,8,8,8,8,8,8,8,8,8,8,8,8,8,8,8,8,8,8,8,8,8,8,8,8,8,8,8,8,8,8,8,8,8,8,8,8,8,8,8,8,8,8,8,8,8,8,8,8,8,8,8,8,8,8,8,8,8,8,8,8,8,8,8,8,8,8,8,8,8,8,8,8,8,8,8,8,8,8,8,8,8,8,8,8,8,8,8,8,8,8,8,8,8,8,8,8,8,8,8,8,8,8,8,8,8,8,8,8,8,8,8,8,8,8,8,8,8,8,8,8,8,8,8,8]⟩))
 (.t 21)), q 23 (.cv .i64 (.t 22)), q 24 (.bin .add (.t 19) (.t 23)), q0 2 24] [2] .ret))))
def r69 : List RT := [.t 2]
def a70 : AS := .reg [q0 2 0, q0 3 0, q5 4 2, q3 5 0 4, ⟨none, .st 1 (.t 5) (.c (.nils)), none⟩, q5 6 3, q3 7 1 6, ⟨none, .st 1 (.t 7) qt, none⟩] []
def r70 : List RT := []
def a71 : AS := .reg [q0 2 0, q0 3 0, q5 4 2, q3 5 0 4, ⟨none, .st 1 (.t 5) (.c (.nils)), none⟩, q5 6 3, q3 7 1 6, ⟨none, .st 1 (.t 7) qt, none⟩] []
def r71 : List RT := []
theorem ok13 : okF Tryd.prog 13 a13 r13 1 = true := by decide +kernel
theorem ok15 : okF Tryd.prog 15 a15 r15 1 = true := by decide +kernel
theorem ok17 : okF Tryd.prog 17 a17 r17 1 = true := by decide +kernel
theorem ok18 : okF Tryd.prog 18 a18 r18 1 = true := by decide +kernel
theorem ok30 : okF Tryd.prog 30 a30 r30 2 = true := by decide +kernel
theorem ok32 : okF Tryd.prog 32 a32 r32 1 = true := by decide +kernel
theorem ok36 : okF Tryd.prog 36 a36 r36 1 = true := by decide +kernel
theorem ok37 : okF Tryd.prog 37 a37 r37 1 = true := by decide +kernel
theorem ok38 : okF Tryd.prog 38 a38 r38 2 = true := by decide +kernel
theorem ok39 : okF Tryd.prog 39 a39 r39 1 = true := by decide +kernel
theorem ok40 : okF Tryd.prog 40 a40 r40 2 = true := by decide +kernel
theorem ok41 : okF Tryd.prog 41 a41 r41 2 = true := by decide +kernel
theorem ok42 : okF Tryd.prog 42 a42 r42 0 = true := by decide +kernel
theorem ok43 : okF Tryd.prog 43 a43 r43 2 = true := by decide +kernel
theorem ok44 : okF Tryd.prog 44 a44 r44 2 = true := by decide +kernel
theorem ok45 : okF Tryd.prog 45 a45 r45 2 = true := by decide +kernel
theorem ok46 : okF Tryd.prog 46 a46 r46 1 = true := by decide +kernel
theorem ok47 : okF Tryd.prog 47 a47 r47 2 = true := by decide +kernel
theorem ok48 : okF Tryd.prog 48 a48 r48 2 = true := by decide +kernel
theorem ok49 : okF Tryd.prog 49 a49 r49 2 = true := by decide +kernel
theorem ok50 : okF Tryd.prog 50 a50 r50 1 = true := by decide +kernel
theorem ok51 : okF Tryd.prog 51 a51 r51 1 = true := by decide +kernel
theorem ok52 : okF Tryd.prog 52 a52 r52 1 = true := by decide +kernel
theorem ok53 : okF Tryd.prog 53 a53 r53 1 = true := by decide +kernel
theorem ok54 : okF Tryd.prog 54 a54 r54 1 = true := by decide +kernel
theorem ok55 : okF Tryd.prog 55 a55 r55 1 = true := by decide +kernel
theorem ok56 : okF Tryd.prog 56 a56 r56 1 = true := by decide +kernel
theorem ok57 : okF Tryd.prog 57 a57 r57 1 = true := by decide +kernel
theorem ok58 : okF Tryd.prog 58 a58 r58 1 = true := by decide +kernel
theorem ok59 : okF Tryd.prog 59 a59 r59 1 = true := by decide +kernel
theorem ok63 : okF Tryd.prog 63 a63 r63 2 = true := by decide +kernel
theorem ok69 : okF Tryd.prog 69 a69 r69 1 = true := by decide +kernel
theorem ok70 : okF Tryd.prog 70 a70 r70 1 = true := by decide +kernel
theorem ok71 : okF Tryd.prog 71 a71 r71 1 = true := by decide +kernel
end Go.V
namespace Go.V
open Go.Proofs Go.Shelf Go.RowKit
set_option maxRecDepth 100000
set_option linter.unusedSimpArgs false
set_option linter.unnecessarySimpa false
set_option linter.unusedVariables false
theorem Chg.below {w w' : World} (h : Below w.heap.size w w') : Chg w w' (fun _ => False) := ⟨h.os, h.tape, h.output, h.size, fun b hb _ => h.block b hb⟩
theorem Chg.drewN (w : World) (k : Nat) : Chg w (w.drewN k) (fun _ => False) := ⟨rfl, rfl, rfl, Nat.le_refl _, fun _ _ _ => rfl⟩
theorem sound_plain {P : Program} {f : FuncId} {C : Contract} (h : ∀ args hp K, C args hp K → ∀ (E : En) vs, Gl P E → denL E args vs → Calls P f vs.toArray E.w fun e w' => ∃ r v, e = .returned v ∧ Chg E.w w' (fun _ => False) ∧ K r hp ∧ ∀ E', den E' r v) : Sound P f C := by
 intro args hp K hC E vs hs hg hd
 refine (h args hp K hC E vs hg hd).mono ?_
 rintro e w' ⟨r, v, rfl, hc, hk, hr⟩
 obtain ⟨h1, h2⟩ := hs.same hc
 exact ⟨r, hp, { E with w := w' }, v, rfl, rfl, hk, h1, hr _, ⟨hc.os, hc.tape, hc.output, hc.size, fun b hb _ => hc.keep b hb (fun h => h), fun b hb => .inl hb, fun _ h => h, fun _ h => .inl h, rfl⟩, Id.refl _ _⟩
def bsOf (l : List UInt8) : ByteArray := ⟨l.toArray⟩
theorem bsOf_size (l : List UInt8) : (bsOf l).size = l.length := by show l.toArray.size = _; simp
def idxB (s : ByteArray) (c : Int) : Int := Lib.indexByte s.data.toList c.toNat.toUInt8
def C62 : Contract := fun args hp K => match args, hp with
 | [.str s, .int .u8 c], [] => inR .i64 (idxB s c) ∧ K (.int .i64 (idxB s c)) []
 | _, _ => False
theorem s62 : Sound Tryd.prog 62 C62 := by
 refine sound_plain ?_
 intro args hp K h E vs hg hd
 unfold C62 at h
 split at h
 ·rename_i s c
  simp only [denL, den] at hd
  obtain ⟨v, r, rfl, ⟨rfl, hs⟩, v2, r2, rfl, ⟨rfl, hc⟩, rfl⟩ := hd
  refine (Any.strings_IndexByte Tryd.idx s c E.w).mono ?_
  rintro e w' ⟨rfl, rfl⟩
  exact ⟨_, _, rfl, Chg.refl _ _, h.2, fun E' => by simp only [den]; exact ⟨rfl, h.1⟩⟩
 ·exact h.elim
def cut1 (s sep : ByteArray) : ByteArray := bsOf (Lib.cut s.data.toList sep.data.toList).1
def cut2 (s sep : ByteArray) : ByteArray := bsOf (Lib.cut s.data.toList sep.data.toList).2.1
def cut3 (s sep : ByteArray) : Bool := (Lib.cut s.data.toList sep.data.toList).2.2
def C24 : Contract := fun args hp K => match args, hp with
 | [.str s, .str sep], [] => (s.size < 4294967281 ∧ (cut1 s sep).size ≤ maxLen ∧ (cut2 s sep).size ≤ maxLen) ∧ K (.tup [.str (cut1 s sep), .str (cut2 s sep), .bool (cut3 s sep)]) []
 | _, _ => False
theorem gl_cell {n : String} {g : Nat} {E : En} (hg : Gl Tryd.prog E) (hn : n ∈ gnames) (h : Tryd.prog.globalNamed n = some g) : ∃ cs, E.w.var? Tryd.prog n = some cs ∧ gvOk n cs := (hg n hn g h).2
theorem s24 : Sound Tryd.prog 24 C24 := by
 refine sound_plain ?_
 intro args hp K h E vs hg hd
 unfold C24 at h
 split at h
 ·rename_i s sep
  obtain ⟨⟨h1, h2, h3⟩, h⟩ := h
  simp only [denL, den] at hd
  obtain ⟨v, r, rfl, ⟨rfl, hs⟩, v2, r2, rfl, ⟨rfl, hc⟩, rfl⟩ := hd
  have hgn : Tryd.prog.globalNamed "internal/bytealg.MaxLen" = some (Tryd.cut_ren.g 1) := by kernel_rfl
  obtain ⟨cs, hv, hgv⟩ := gl_cell hg (by simp [gnames]) hgn
  obtain ⟨m, rfl⟩ := hgv.2.2.1 rfl
  have hcell := World.var?_cell hgn hv 0
  refine (Any.strings_Cut Tryd.cut s sep m E.w h1 (by simpa using hcell)).mono ?_
  rintro e w' ⟨rfl, n, rfl⟩
  exact ⟨_, _, rfl, Chg.drewN _ _, h, fun E' => by simp only [den, denL]; exact ⟨_, rfl, _, _, rfl, ⟨rfl, h2⟩, _, _, rfl, ⟨rfl, h3⟩, _, _, rfl, rfl, rfl⟩⟩
 ·exact h.elim
def cutp1 (s p : ByteArray) : ByteArray := bsOf (Lib.trimPrefix s.data.toList p.data.toList)
def cutp2 (s p : ByteArray) : Bool := Lib.hasPrefix s.data.toList p.data.toList
def C25 : Contract := fun args hp K => match args, hp with
 | [.str s, .str p], [] => (cutp1 s p).size ≤ maxLen ∧ K (.tup [.str (cutp1 s p), .bool (cutp2 s p)]) []
 | _, _ => False
theorem s25 : Sound Tryd.prog 25 C25 := by
 refine sound_plain ?_
 intro args hp K h E vs hg hd
 unfold C25 at h
 split at h
 ·rename_i s p
  obtain ⟨h1, h⟩ := h
  simp only [denL, den] at hd
  obtain ⟨v, r, rfl, ⟨rfl, hs⟩, v2, r2, rfl, ⟨rfl, hc⟩, rfl⟩ := hd
  refine (Any.strings_CutPrefix Tryd.cutp s p E.w).mono ?_
  rintro e w' ⟨rfl, rfl⟩
  exact ⟨_, _, rfl, Chg.refl _ _, h, fun E' => by simp only [den, denL]; exact ⟨_, rfl, _, _, rfl, ⟨rfl, h1⟩, _, _, rfl, rfl, rfl⟩⟩
 ·exact h.elim
theorem pow_tab {E : En} (hg : Gl Tryd.prog E) : Lib.TabIs Tryd.prog E.w "internal/strconv.uint64pow10" .u64 Lib.pow10Tab := by
 have hgn : Tryd.prog.globalNamed "internal/strconv.uint64pow10" = some 1 := by kernel_rfl
 obtain ⟨cs, hv, hgv⟩ := gl_cell hg (by simp [gnames]) hgn
 unfold Lib.TabIs
 rw [hv, hgv.2.2.2 rfl]
 simp [Lib.pow10Tab, Function.comp_def]
def itoaB (n : Int) : ByteArray := bsOf (Lib.itoa n)
def C33 : Contract := fun args hp K => match args, hp with
 | [.int .i64 n, .int .i64 10], [] => (itoaB n).size ≤ maxLen ∧ K (.str (itoaB n)) []
 | _, _ => False
theorem s33 : Sound Tryd.prog 33 C33 := by
 refine sound_plain ?_
 intro args hp K h E vs hg hd
 unfold C33 at h
 split at h
 ·rename_i n
  obtain ⟨h1, h⟩ := h
  simp only [denL, den] at hd
  obtain ⟨v, r, rfl, ⟨rfl, hs⟩, v2, r2, rfl, ⟨rfl, hc⟩, rfl⟩ := hd
  have e1 : IntKind.i64.min = -9223372036854775808 := by decide
  have e2 : IntKind.i64.max = 9223372036854775807 := by decide
  rw [e1, e2] at hs
  refine (Any.strconv_FormatInt_10 Tryd.fmt n hs.1 hs.2 E.w (pow_tab hg)).mono ?_
  rintro e w' ⟨rfl, k, os, rfl⟩
  exact ⟨_, _, rfl, Chg.below (Lib.below_grow _ _ (Nat.le_refl _) _ _), h, fun E' => by simp only [den]; exact ⟨rfl, h1⟩⟩
 ·exact h.elim
end Go.V
namespace Go.V
open Go.Proofs Go.Shelf Go.RowKit
set_option maxRecDepth 100000
set_option maxHeartbeats 2000000
set_option linter.unusedSimpArgs false
set_option linter.unnecessarySimpa false
set_option linter.unusedVariables false
theorem i64_min : IntKind.i64.min = -9223372036854775808 := by decide
theorem i64_max : IntKind.i64.max = 9223372036854775807 := by decide
def intP (s : ByteArray) : Option Int :=
 match Lib.parseIntB 64 s.data.toList with
 | .ok v => if itoaB v = s then some v else none
 | _ => none
theorem err_var {E : En} (hg : Gl Tryd.prog E) : (∃ tp p, E.w.var? Tryd.prog "strconv.ErrSyntax" = some #[.iface tp p]) ∧ (∃ tp p, E.w.var? Tryd.prog "strconv.ErrRange" = some #[.iface tp p]) := by
 have h1 : Tryd.prog.globalNamed "strconv.ErrSyntax" = some (Tryd.pars_ren.g 15) := Tryd.pars.m15
 have h2 : Tryd.prog.globalNamed "strconv.ErrRange" = some (Tryd.pars_ren.g 16) := Tryd.pars.m16
 obtain ⟨cs, hv, hgv⟩ := gl_cell hg (by simp [gnames]) h1
 obtain ⟨tp, p, rfl⟩ := hgv.1 rfl
 obtain ⟨cs, hv2, hgv2⟩ := gl_cell hg (by simp [gnames]) h2
 obtain ⟨tp2, p2, rfl⟩ := hgv2.2.1 rfl
 exact ⟨⟨tp, p, hv⟩, tp2, p2, hv2⟩
theorem int_bad (s : ByteArray) (w : World) (n : Int) (h : Calls Tryd.prog 75 #[.string s, .int .i64 10, .int .i64 64] w fun e w' => ∃ N t, e = .returned (.tuple #[.int .i64 n, .iface t (.pointer (some ⟨N, 0, none⟩))]) ∧ Below w.heap.size w w') :
  Calls Tryd.prog 64 #[.string s] w fun e w' => e = .returned (.tuple #[.int .i64 n, .bool false]) ∧ Below w.heap.size w w' := by
 go_enter Tryd.func64, Tryd.ntmps64
 go_wp2_with (go_at_call 75; refine h.mono ?_; rintro e w' ⟨N, t, rfl, hb⟩)
 go_wp2
 all_goals go_ret2
 all_goals exact ⟨rfl, hb⟩
theorem int_ok (s : ByteArray) (w : World) (v : Int) (h0 : -9223372036854775808 ≤ v) (h1 : v ≤ 9223372036854775807)
  (h : Calls Tryd.prog 75 #[.string s, .int .i64 10, .int .i64 64] w fun e w' => e = .returned (.tuple #[.int .i64 v, .nilIface]) ∧ Below w.heap.size w w' ∧ Lib.TabIs Tryd.prog w' "internal/strconv.uint64pow10" .u64 Lib.pow10Tab) :
  Calls Tryd.prog 64 #[.string s] w fun e w' => e = .returned (.tuple #[.int .i64 v, .bool (decide (itoaB v = s))]) ∧ Below w.heap.size w w' := by
 go_enter Tryd.func64, Tryd.ntmps64
 go_wp2_with (go_at_call 75; refine h.mono ?_; rintro e w' ⟨rfl, hb, ht⟩)
 go_wp2_with (go_at_call 33; refine (Any.strconv_FormatInt_10 Tryd.fmt v h0 h1 _ ht).mono ?_; rintro e w2 ⟨rfl, k, os, rfl⟩)
 go_wp2
 all_goals go_ret2
 have e : (Lib.itoa v == s.toList) = decide (itoaB v = s) := by
  have e1 : s.toList = s.data.toList := by first | rfl | exact Lib.toList_data s | simp
  rw [e1, Bool.eq_iff_iff, beq_iff_eq, decide_eq_true_eq]
  constructor
  ·intro h
   unfold itoaB bsOf
   rw [h]
  ·intro h
   rw [← h]
   simp [itoaB, bsOf]
 rw [← e]
 exact ⟨rfl, hb.trans (Lib.below_grow _ _ hb.size _ _)⟩
def C64 : Contract := fun args hp K => match args, hp with
 | [.str s], [] => s.size ≤ 281474976710656 ∧ ∀ n b, inR .i64 n → (b = true → intP s = some n) → (b = false → intP s = none) → K (.tup [.int .i64 n, .bool b]) []
 | _, _ => False
theorem s64 : Sound Tryd.prog 64 C64 := by
 refine sound_plain ?_
 intro args hp K h E vs hg hd
 unfold C64 at h
 split at h
 ·rename_i s
  obtain ⟨hs, h⟩ := h
  simp only [denL, den] at hd
  obtain ⟨v, r, rfl, ⟨rfl, _⟩, rfl⟩ := hd
  obtain ⟨⟨tp, p, e1⟩, tp2, p2, e2⟩ := err_var hg
  have fin : ∀ (n : Int) (b : Bool) w', inR .i64 n → (b = true → intP s = some n) → (b = false → intP s = none) → Below E.w.heap.size E.w w' →
    ∃ r v, Ending.returned (.tuple #[.int .i64 n, .bool b]) = .returned v ∧ Chg E.w w' (fun _ => False) ∧ K r [] ∧ ∀ E', den E' r v := by
   intro n b w' hn h1 h2 hb
   exact ⟨_, _, rfl, Chg.below hb, h n b hn h1 h2, fun E' => by simp only [den, denL]; exact ⟨_, rfl, _, _, rfl, ⟨rfl, hn⟩, _, _, rfl, rfl, rfl⟩⟩
  rcases hp : Lib.parseIntB 64 s.data.toList with v | _ | _
  ·
   have hb := Lib.parseIntB_bounds hp
   have e3 : ((2 ^ (64 - 1) : Nat) : Int) = 9223372036854775808 := by decide
   rw [e3] at hb
   refine (int_ok s E.w v hb.1 (by omega) ((Any.strconv_ParseInt_10_at64_ok Tryd.pars s (by omega) v hp E.w).mono ?_)).mono ?_
   ·rintro e w' ⟨rfl, rfl | ⟨t, rfl⟩⟩
    ·exact ⟨rfl, Below.refl _ _, pow_tab hg⟩
    ·exact ⟨rfl, Lib.bytesWorld_below _ _ _, Lib.bytesWorld_var _ _ _ (pow_tab hg)⟩
   ·rintro e w' ⟨rfl, hb2⟩
    have hin : inR .i64 v := by unfold inR; rw [i64_min, i64_max]; omega
    by_cases hv : itoaB v = s
    ·rw [decide_eq_true hv]
     exact fin v true w' hin (fun _ => by unfold intP; simp only [hp, hv, if_true]) (fun h => by cases h) hb2
    ·rw [decide_eq_false hv]
     exact fin v false w' hin (fun h => by cases h) (fun _ => by unfold intP; simp only [hp, hv, if_false]) hb2
  ·
   refine (int_bad s E.w 0 ((Any.strconv_ParseInt_10_at64_syntax_var Tryd.pars s hs hp tp p E.w e1).mono ?_)).mono ?_
   ·rintro e w' ⟨N, rfl, _, _, hb⟩
    exact ⟨N, _, rfl, hb⟩
   ·rintro e w' ⟨rfl, hb2⟩
    exact fin 0 false w' (by unfold inR; rw [i64_min, i64_max]; omega) (fun h => by cases h) (fun _ => by unfold intP; simp only [hp]) hb2
  ·
   have hin : inR .i64 (Lib.intSat 64 s.data.toList) := by
    unfold inR Lib.intSat
    rw [i64_min, i64_max]
    split <;> decide
   refine (int_bad s E.w (Lib.intSat 64 s.data.toList) ((Any.strconv_ParseInt_10_at64_range_var Tryd.pars s hs hp tp2 p2 E.w e2).mono ?_)).mono ?_
   ·rintro e w' ⟨N, rfl, _, _, hb⟩
    exact ⟨N, _, rfl, hb⟩
   ·rintro e w' ⟨rfl, hb2⟩
    exact fin _ false w' hin (fun h => by cases h) (fun _ => by unfold intP; simp only [hp]) hb2
 ·exact h.elim
end Go.V
