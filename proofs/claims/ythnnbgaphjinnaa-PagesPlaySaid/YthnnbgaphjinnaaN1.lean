/- A part of the proof layer, or functions of the given program in it: contracts and their proofs. -/
import Derived.Test.YthnnbgaphjinnaaVy
import Derived.Test.YthnnbgaphjinnaaProg
namespace Go.V
set_option linter.unusedSimpArgs false
set_option linter.unnecessarySimpa false
open Go.Proofs
/-- reeve/disk.New -/
def a11 : AS :=
 .seq (
 .reg [
 ⟨some 2, .mv (.c (.nilp)), none⟩] [0]) (
 .seq (
 .reg [
 ⟨some 3, .mv (.t 0), none⟩,
 ⟨some 4, .mm true (.t 3) (.c (.int .i64 0)), none⟩,
 ⟨some 5, .mm false (.t 4) (.c (.int .i64 65536)), none⟩,
 ⟨some 6, .mks 24 (.sl 1 .byte) (.t 5) (.t 5), none⟩,
 ⟨some 7, .bld [.nils, .nils, .int .i64 0, .bool false] [(0, 1, (.t 6)), (2, 1, (.c (.int .i64 (-1))))], none⟩,
 ⟨some 8, .box (.t 7), none⟩,
 ⟨some 2, .mv (.t 8), none⟩] [2]) (
 .lift 2 (some 0) 24 (.sl 1 .byte) (
 .lift 2 (some 1) 32 (.pair (.int .i64) (.sl 1 .byte)) (
 .ret))))
def r11 : List RT := [.t 2]

/-- reeve/reeveref10.TextBlocks -/
def a13 : AS :=
 .seq (
 .reg [
 ⟨some 2, .mv (.c (.int .i64 0)), none⟩] [0]) (
 .seq (
 .reg [
 ⟨some 3, .mv (.t 0), none⟩,
 ⟨some 4, .bin .add (.t 3) (.c (.int .i64 237)), none⟩,
 ⟨some 5, .bin .quo (.t 4) (.c (.int .i64 238)), none⟩,
 ⟨some 6, .mm true (.t 5) (.c (.int .i64 1)), none⟩,
 ⟨some 2, .mv (.t 6), none⟩] [2]) (
 .ret))
def r13 : List RT := [.t 2]

/-- (*reeve/disk.Disk).Writes -/
def a20 : AS :=
 .seq (
 .reg [
 ⟨some 2, .mv (.c (.int .i64 0)), none⟩] [0]) (
 .seq (
 .seq (
 .reg [
 ⟨some 3, .mv (.t 0), none⟩,
 ⟨some 4, .eqn false .p (.t 3) (.c (.nilp)), none⟩] [0, 4]) (
 .cond (.t 4) (
 .seq (
 .reg [
 ⟨some 2, .mv (.c (.int .i64 0)), none⟩] [2]) (
 .ret)) (
 .skip))) (
 .seq (
 .reg [
 ⟨some 5, .mv (.t 0), none⟩,
 ⟨some 6, .nck (.t 5), none⟩,
 ⟨some 7, .fa 1 (.t 6), none⟩,
 ⟨some 8, .ld (.t 7), none⟩,
 ⟨some 9, .len .s (.t 8), none⟩,
 ⟨some 2, .mv (.t 9), none⟩] [2]) (
 .ret)))
def r20 : List RT := [.t 2]

/-- (*reeve/disk.Disk).SetFuse -/
def a24 : AS :=
 .seq (
 .reg [
 ⟨some 4, .mv (.t 0), none⟩,
 ⟨some 5, .eqn true .p (.t 4) (.c (.nilp)), none⟩] [0, 1, 5]) (
 .cond (.t 5) (
 .reg [
 ⟨some 6, .mv (.t 0), none⟩,
 ⟨some 7, .mv (.t 1), none⟩,
 ⟨some 8, .mm true (.t 7) (.c (.int .i64 (-1))), none⟩,
 ⟨some 9, .nck (.t 6), none⟩,
 ⟨some 10, .fa 2 (.t 9), none⟩,
 ⟨none, .st 1 (.t 10) (.t 8), none⟩] []) (
 .skip))
def r24 : List RT := []

/-- (*reeve/disk.Disk).Restart -/
def a25 : AS :=
 .seq (
 .reg [
 ⟨some 2, .mv (.t 0), none⟩,
 ⟨some 3, .eqn true .p (.t 2) (.c (.nilp)), none⟩] [0, 3]) (
 .cond (.t 3) (
 .reg [
 ⟨some 4, .mv (.t 0), none⟩,
 ⟨some 5, .mv (.t 0), none⟩,
 ⟨some 6, .nck (.t 4), none⟩,
 ⟨some 7, .fa 3 (.t 6), none⟩,
 ⟨none, .st 1 (.t 7) (.c (.bool false)), none⟩,
 ⟨some 8, .nck (.t 5), none⟩,
 ⟨some 9, .fa 2 (.t 8), none⟩,
 ⟨none, .st 1 (.t 9) (.c (.int .i64 (-1))), none⟩] []) (
 .skip))
def r25 : List RT := []

/-- reeve/log.Area -/
def a26 : AS :=
 .seq (
 .reg [
 ⟨some 6, .mv (.c (.bool false)), none⟩] [0, 1, 2]) (
 .seq (
 .reg [
 ⟨some 7, .mv (.t 0), none⟩,
 ⟨some 8, .eqn true .p (.t 7) (.c (.nilp)), none⟩,
 ⟨some 9, .mv (.t 8), none⟩,
 ⟨some 10, .mv (.t 2), (some (9, true))⟩,
 ⟨some 11, .bin .geq (.t 10) (.c (.int .i64 1)), (some (9, true))⟩,
 ⟨some 12, .pick (.t 9) (.t 11) (.c (.bool false)), none⟩,
 ⟨some 13, .mv (.t 12), none⟩,
 ⟨some 14, .mv (.t 1), (some (13, true))⟩,
 ⟨some 15, .bin .geq (.t 14) (.c (.int .i64 0)), (some (13, true))⟩,
 ⟨some 16, .pick (.t 13) (.t 15) (.c (.bool false)), none⟩,
 ⟨some 17, .mv (.t 16), none⟩,
 ⟨some 18, .mv (.t 1), (some (17, true))⟩,
 ⟨some 19, .mv (.t 0), (some (17, true))⟩,
 ⟨some 20, .call 38 [none] [(.t 19)], (some (17, true))⟩,
 ⟨some 21, .bin .leq (.t 18) (.t 20), (some (17, true))⟩,
 ⟨some 22, .pick (.t 17) (.t 21) (.c (.bool false)), none⟩,
 ⟨some 23, .mv (.t 22), none⟩,
 ⟨some 24, .mv (.t 2), (some (23, true))⟩,
 ⟨some 25, .mv (.t 0), (some (23, true))⟩,
 ⟨some 26, .call 38 [none] [(.t 25)], (some (23, true))⟩,
 ⟨some 27, .mv (.t 1), (some (23, true))⟩,
 ⟨some 28, .bin .sub (.t 26) (.t 27), (some (23, true))⟩,
 ⟨some 29, .bin .leq (.t 24) (.t 28), (some (23, true))⟩,
 ⟨some 30, .pick (.t 23) (.t 29) (.c (.bool false)), none⟩,
 ⟨some 6, .mv (.t 30), none⟩] [6]) (
 .ret))
def r26 : List RT := [.t 6]

/-- (*reeve/disk.Disk).Down -/
def a27 : AS :=
 .seq (
 .reg [
 ⟨some 2, .mv (.c (.bool false)), none⟩] [0]) (
 .seq (
 .reg [
 ⟨some 3, .mv (.t 0), none⟩,
 ⟨some 4, .eqn false .p (.t 3) (.c (.nilp)), none⟩,
 ⟨some 5, .mv (.t 4), none⟩,
 ⟨some 6, .mv (.t 0), (some (5, false))⟩,
 ⟨some 7, .nck (.t 6), (some (5, false))⟩,
 ⟨some 8, .fa 3 (.t 7), (some (5, false))⟩,
 ⟨some 9, .ld (.t 8), (some (5, false))⟩,
 ⟨some 10, .pick (.t 5) (.c (.bool true)) (.t 9), none⟩,
 ⟨some 2, .mv (.t 10), none⟩] [2]) (
 .ret))
def r27 : List RT := [.t 2]

/-- reeve/sum.Seal -/
def a29 : AS :=
 .seq (
 .reg [
 ⟨some 6, .mv (.c (.nils)), none⟩,
 ⟨some 7, .mv (.c (.int .i64 0)), none⟩] [0, 1, 2]) (
 .seq (
 .seq (
 .reg [
 ⟨some 12, .mv (.t 2), none⟩,
 ⟨some 13, .len .s (.t 12), none⟩,
 ⟨some 14, .bin .gtr (.t 13) (.c (.int .i64 242)), none⟩] [0, 1, 2, 14]) (
 .cond (.t 14) (
 .seq (
 .reg [
 ⟨some 6, .mv (.c (.nils)), none⟩,
 ⟨some 7, .mv (.c (.int .i64 4)), none⟩] [6, 7]) (
 .lift 6 none 1 .byte (
 .ret))) (
 .skip))) (
 .seq (
 .reg [
 ⟨some 15, .mks 1 .byte (.c (.int .i64 256)) (.c (.int .i64 256)), none⟩,
 ⟨some 8, .mv (.t 15), none⟩] [0, 1, 2, 8]) (
 .seq (
 .reg [
 ⟨some 16, .mv (.t 8), none⟩,
 ⟨some 17, .mv (.t 0), none⟩,
 ⟨some 18, .ia 1 (.t 16) (.c (.int .i64 8)), none⟩,
 ⟨none, .st 1 (.t 18) (.t 17), none⟩] [1, 2, 8]) (
 .seq (
 .seq (
 .reg [
 ⟨some 19, .mv (.c (.int .i64 0)), none⟩] [1, 2, 8, 19]) (
 .block 0 (
 .loop 1 [1, 2, 8, 19] (
 .seq (
 .reg [
 ⟨some 20, .bin .lss (.t 19) (.c (.int .i64 4)), none⟩] [1, 2, 8, 19, 20]) (
 .seq (
 .cond (.t 20) (
 .skip) (
 .exit 0)) (
 .seq (
 .block 1 (
 .seq (
 .reg [
 ⟨some 21, .mv (.t 19), none⟩,
 ⟨some 9, .mv (.t 21), none⟩] [1, 2, 8, 9, 19]) (
 .reg [
 ⟨some 22, .mv (.t 8), none⟩,
 ⟨some 23, .mv (.t 9), none⟩,
 ⟨some 24, .bin .add (.c (.int .i64 9)) (.t 23), none⟩,
 ⟨some 25, .mv (.t 1), none⟩,
 ⟨some 26, .mv (.t 9), none⟩,
 ⟨some 27, .bin .mul (.c (.int .i64 8)) (.t 26), none⟩,
 ⟨some 28, .bin .sub (.c (.int .i64 24)) (.t 27), none⟩,
 ⟨some 29, .bin .shr (.t 25) (.t 28), none⟩,
 ⟨some 30, .cv .u8 (.t 29), none⟩,
 ⟨some 31, .ia 1 (.t 22) (.t 24), none⟩,
 ⟨none, .st 1 (.t 31) (.t 30), none⟩] [1, 2, 8, 19]))) (
 .reg [
 ⟨some 32, .bin .add (.t 19) (.c (.int .i64 1)), none⟩,
 ⟨some 19, .mv (.t 32), none⟩] [1, 2, 8, 19]))))))) (
 .seq (
 .reg [
 ⟨some 33, .mv (.t 8), none⟩,
 ⟨some 34, .mv (.t 2), none⟩,
 ⟨some 35, .len .s (.t 34), none⟩,
 ⟨some 36, .cv .u8 (.t 35), none⟩,
 ⟨some 37, .ia 1 (.t 33) (.c (.int .i64 13)), none⟩,
 ⟨none, .st 1 (.t 37) (.t 36), none⟩] [2, 8]) (
 .seq (
 .reg [
 ⟨some 38, .mv (.t 8), none⟩,
 ⟨some 39, .slR 1 (.t 38) (some (.c (.int .i64 14))) none, none⟩,
 ⟨some 40, .mv (.t 2), none⟩,
 ⟨some 41, .cpy .byte (.t 39) (.t 40), none⟩] [8]) (
 .seq (
 .reg [
 ⟨some 42, .mv (.t 8), none⟩,
 ⟨some 43, .slR 1 (.t 42) (some (.c (.int .i64 8))) none, none⟩,
 ⟨some 44, .call 40 [(some (1, .byte))] [(.t 43)], none⟩,
 ⟨some 10, .mv (.t 44), none⟩] [8, 10]) (
 .seq (
 .seq (
 .reg [
 ⟨some 45, .mv (.c (.int .i64 0)), none⟩] [8, 10, 45]) (
 .block 2 (
 .loop 2 [8, 10, 45] (
 .seq (
 .reg [
 ⟨some 46, .bin .lss (.t 45) (.c (.int .i64 8)), none⟩] [8, 10, 45, 46]) (
 .seq (
 .cond (.t 46) (
 .skip) (
 .exit 2)) (
 .seq (
 .block 3 (
 .seq (
 .reg [
 ⟨some 47, .mv (.t 45), none⟩,
 ⟨some 11, .mv (.t 47), none⟩] [8, 10, 11, 45]) (
 .reg [
 ⟨some 48, .mv (.t 8), none⟩,
 ⟨some 49, .mv (.t 11), none⟩,
 ⟨some 50, .mv (.t 10), none⟩,
 ⟨some 51, .mv (.t 11), none⟩,
 ⟨some 52, .bin .mul (.c (.int .i64 8)) (.t 51), none⟩,
 ⟨some 53, .bin .sub (.c (.int .i64 56)) (.t 52), none⟩,
 ⟨some 54, .bin .shr (.t 50) (.t 53), none⟩,
 ⟨some 55, .cv .u8 (.t 54), none⟩,
 ⟨some 56, .ia 1 (.t 48) (.t 49), none⟩,
 ⟨none, .st 1 (.t 56) (.t 55), none⟩] [8, 10, 45]))) (
 .reg [
 ⟨some 57, .bin .add (.t 45) (.c (.int .i64 1)), none⟩,
 ⟨some 45, .mv (.t 57), none⟩] [8, 10, 45]))))))) (
 .seq (
 .reg [
 ⟨some 58, .mv (.t 8), none⟩,
 ⟨some 6, .mv (.t 58), none⟩,
 ⟨some 7, .mv (.c (.int .i64 0)), none⟩] [6, 7]) (
 .lift 6 none 1 .byte (
 .ret)))))))))))
def r29 : List RT := [.t 6, .t 7]

/-- (*reeve/disk.Disk).Write -/
def a30 : AS :=
 .seq (
 .reg [
 ⟨some 6, .mv (.c (.int .i64 0)), none⟩] [0, 1, 2]) (
 .seq (
 .block 0 (
 .seq (
 .reg [
 ⟨some 8, .mv (.t 0), none⟩,
 ⟨some 9, .eqn false .p (.t 8) (.c (.nilp)), none⟩,
 ⟨some 10, .mv (.t 9), none⟩,
 ⟨some 11, .mv (.t 0), (some (10, false))⟩,
 ⟨some 12, .nck (.t 11), (some (10, false))⟩,
 ⟨some 13, .fa 3 (.t 12), (some (10, false))⟩,
 ⟨some 14, .ld (.t 13), (some (10, false))⟩,
 ⟨some 15, .pick (.t 10) (.c (.bool true)) (.t 14), none⟩,
 ⟨some 7, .mv (.t 15), none⟩] [0, 1, 2, 7]) (
 .cond (.t 7) (
 .seq (
 .reg [
 ⟨some 6, .mv (.c (.int .i64 9)), none⟩] [6]) (
 .ret)) (
 .seq (
 .reg [
 ⟨some 17, .mv (.t 1), none⟩,
 ⟨some 18, .bin .lss (.t 17) (.c (.int .i64 0)), none⟩,
 ⟨some 19, .mv (.t 18), none⟩,
 ⟨some 20, .mv (.t 1), (some (19, false))⟩,
 ⟨some 21, .mv (.t 0), (some (19, false))⟩,
 ⟨some 22, .nck (.t 21), (some (19, false))⟩,
 ⟨some 23, .fa 0 (.t 22), (some (19, false))⟩,
 ⟨some 24, .ld (.t 23), (some (19, false))⟩,
 ⟨some 25, .len .s (.t 24), (some (19, false))⟩,
 ⟨some 26, .bin .geq (.t 20) (.t 25), (some (19, false))⟩,
 ⟨some 27, .pick (.t 19) (.c (.bool true)) (.t 26), none⟩,
 ⟨some 28, .mv (.t 27), none⟩,
 ⟨some 29, .mv (.t 2), (some (28, false))⟩,
 ⟨some 30, .len .s (.t 29), (some (28, false))⟩,
 ⟨some 31, .bin .neq (.t 30) (.c (.int .i64 256)), (some (28, false))⟩,
 ⟨some 32, .pick (.t 28) (.c (.bool true)) (.t 31), none⟩,
 ⟨some 16, .mv (.t 32), none⟩] [0, 1, 2, 16]) (
 .cond (.t 16) (
 .seq (
 .reg [
 ⟨some 6, .mv (.c (.int .i64 1)), none⟩] [6]) (
 .ret)) (
 .seq (
 .reg [
 ⟨some 34, .mv (.t 0), none⟩,
 ⟨some 35, .nck (.t 34), none⟩,
 ⟨some 36, .fa 2 (.t 35), none⟩,
 ⟨some 37, .ld (.t 36), none⟩,
 ⟨some 38, .bin .eql (.t 37) (.c (.int .i64 0)), none⟩,
 ⟨some 33, .mv (.t 38), none⟩] [0, 1, 2, 33]) (
 .cond (.t 33) (
 .seq (
 .reg [
 ⟨some 39, .mv (.t 0), none⟩,
 ⟨some 40, .nck (.t 39), none⟩,
 ⟨some 41, .fa 3 (.t 40), none⟩,
 ⟨none, .st 1 (.t 41) (.c (.bool true)), none⟩] []) (
 .seq (
 .reg [
 ⟨some 6, .mv (.c (.int .i64 9)), none⟩] [6]) (
 .ret))) (
 .seq (
 .reg [
 ⟨some 43, .mv (.t 0), none⟩,
 ⟨some 44, .nck (.t 43), none⟩,
 ⟨some 45, .fa 2 (.t 44), none⟩,
 ⟨some 46, .ld (.t 45), none⟩,
 ⟨some 47, .bin .gtr (.t 46) (.c (.int .i64 0)), none⟩,
 ⟨some 42, .mv (.t 47), none⟩] [0, 1, 2, 42]) (
 .cond (.t 42) (
 .reg [
 ⟨some 48, .mv (.t 0), none⟩,
 ⟨some 49, .nck (.t 48), none⟩,
 ⟨some 50, .fa 2 (.t 49), none⟩,
 ⟨some 51, .ld (.t 50), none⟩,
 ⟨some 52, .bin .sub (.t 51) (.c (.int .i64 1)), none⟩,
 ⟨some 53, .nck (.t 48), none⟩,
 ⟨some 54, .fa 2 (.t 53), none⟩,
 ⟨none, .st 1 (.t 54) (.t 52), none⟩] [0, 1, 2]) (
 .skip)))))))))) (
 .seq (
 .regD [
 ⟨some 55, .mv (.t 0), none⟩,
 ⟨some 56, .nck (.t 55), none⟩,
 ⟨some 57, .fa 0 (.t 56), none⟩,
 ⟨some 58, .ld (.t 57), none⟩,
 ⟨some 59, .mv (.t 1), none⟩,
 ⟨some 60, .mv (.t 2), none⟩,
 ⟨some 61, .call 41 [(some (1, .byte))] [(.t 60)], none⟩,
 ⟨some 62, .ia 1 (.t 58) (.t 59), none⟩,
 ⟨none, .st 1 (.t 62) (.t 61), none⟩] [.q 0, .q 1, .q 2, .q 3, .q 4, .q 5, .e 6 [0, 1, 2, 3, 4], .q 7, .e 8 []] [0, 1]) (
 .seq (
 .regD [
 ⟨some 63, .mv (.t 0), none⟩,
 ⟨some 64, .mv (.t 0), none⟩,
 ⟨some 65, .nck (.t 64), none⟩,
 ⟨some 66, .fa 1 (.t 65), none⟩,
 ⟨some 67, .ld (.t 66), none⟩,
 ⟨some 68, .mv (.t 1), none⟩,
 ⟨some 69, .mv (.t 0), none⟩,
 ⟨some 70, .nck (.t 69), none⟩,
 ⟨some 71, .fa 0 (.t 70), none⟩,
 ⟨some 72, .ld (.t 71), none⟩,
 ⟨some 73, .mv (.t 1), none⟩,
 ⟨some 74, .ia 1 (.t 72) (.t 73), none⟩,
 ⟨some 75, .ld (.t 74), none⟩,
 ⟨some 76, .bld [.int .i64 0, .nils] [(0, 1, (.t 68)), (1, 1, (.t 75))], none⟩,
 ⟨some 77, .bsl 32 (.pair (.int .i64) (.sl 1 .byte)) 1 [(0, (.t 76))], none⟩,
 ⟨some 78, .app 32 (.pair (.int .i64) (.sl 1 .byte)) (.t 67) (.t 77), none⟩,
 ⟨some 79, .nck (.t 63), none⟩,
 ⟨some 80, .fa 1 (.t 79), none⟩,
 ⟨none, .st 1 (.t 80) (.t 78), none⟩] [.q 0, .q 1, .q 2, .q 3, .q 4, .q 5, .q 6, .q 7, .q 8, .q 9, .q 10, .q 11, .q 12, .q 13, .e 14 [0, 1, 2, 3, 4], .e 15 [0], .q 16, .q 17, .e 18 []] []) (
 .seq (
 .reg [
 ⟨some 6, .mv (.c (.int .i64 0)), none⟩] [6]) (
 .ret)))))
def r30 : List RT := [.t 6, .w 1 0 0, .w 2 0 1]

/-- (*reeve/disk.Disk).Read -/
def a31 : AS :=
 .seq (
 .reg [
 ⟨some 4, .mv (.c (.nils)), none⟩,
 ⟨some 5, .mv (.c (.int .i64 0)), none⟩] [0, 1]) (
 .seq (
 .block 0 (
 .seq (
 .reg [
 ⟨some 7, .mv (.t 0), none⟩,
 ⟨some 8, .eqn false .p (.t 7) (.c (.nilp)), none⟩,
 ⟨some 9, .mv (.t 8), none⟩,
 ⟨some 10, .mv (.t 0), (some (9, false))⟩,
 ⟨some 11, .nck (.t 10), (some (9, false))⟩,
 ⟨some 12, .fa 3 (.t 11), (some (9, false))⟩,
 ⟨some 13, .ld (.t 12), (some (9, false))⟩,
 ⟨some 14, .pick (.t 9) (.c (.bool true)) (.t 13), none⟩,
 ⟨some 6, .mv (.t 14), none⟩] [0, 1, 6]) (
 .cond (.t 6) (
 .seq (
 .reg [
 ⟨some 4, .mv (.c (.nils)), none⟩,
 ⟨some 5, .mv (.c (.int .i64 9)), none⟩] [4, 5]) (
 .lift 4 none 1 .byte (
 .ret))) (
 .seq (
 .reg [
 ⟨some 16, .mv (.t 1), none⟩,
 ⟨some 17, .bin .lss (.t 16) (.c (.int .i64 0)), none⟩,
 ⟨some 18, .mv (.t 17), none⟩,
 ⟨some 19, .mv (.t 1), (some (18, false))⟩,
 ⟨some 20, .mv (.t 0), (some (18, false))⟩,
 ⟨some 21, .nck (.t 20), (some (18, false))⟩,
 ⟨some 22, .fa 0 (.t 21), (some (18, false))⟩,
 ⟨some 23, .ld (.t 22), (some (18, false))⟩,
 ⟨some 24, .len .s (.t 23), (some (18, false))⟩,
 ⟨some 25, .bin .geq (.t 19) (.t 24), (some (18, false))⟩,
 ⟨some 26, .pick (.t 18) (.c (.bool true)) (.t 25), none⟩,
 ⟨some 15, .mv (.t 26), none⟩] [0, 1, 15]) (
 .cond (.t 15) (
 .seq (
 .reg [
 ⟨some 4, .mv (.c (.nils)), none⟩,
 ⟨some 5, .mv (.c (.int .i64 1)), none⟩] [4, 5]) (
 .lift 4 none 1 .byte (
 .ret))) (
 .seq (
 .reg [
 ⟨some 28, .mv (.t 0), none⟩,
 ⟨some 29, .nck (.t 28), none⟩,
 ⟨some 30, .fa 0 (.t 29), none⟩,
 ⟨some 31, .ld (.t 30), none⟩,
 ⟨some 32, .mv (.t 1), none⟩,
 ⟨some 33, .ia 1 (.t 31) (.t 32), none⟩,
 ⟨some 34, .ld (.t 33), none⟩,
 ⟨some 35, .isn false (.t 34), none⟩,
 ⟨some 27, .mv (.t 35), none⟩] [0, 1, 27]) (
 .cond (.t 27) (
 .seq (
 .reg [
 ⟨some 36, .mks 1 .byte (.c (.int .i64 256)) (.c (.int .i64 256)), none⟩,
 ⟨some 4, .mv (.t 36), none⟩,
 ⟨some 5, .mv (.c (.int .i64 0)), none⟩] [4, 5]) (
 .lift 4 none 1 .byte (
 .ret))) (
 .skip)))))))) (
 .seq (
 .reg [
 ⟨some 37, .mv (.t 0), none⟩,
 ⟨some 38, .nck (.t 37), none⟩,
 ⟨some 39, .fa 0 (.t 38), none⟩,
 ⟨some 40, .ld (.t 39), none⟩,
 ⟨some 41, .mv (.t 1), none⟩,
 ⟨some 42, .ia 1 (.t 40) (.t 41), none⟩,
 ⟨some 43, .ld (.t 42), none⟩,
 ⟨some 44, .call 41 [(some (1, .byte))] [(.t 43)], none⟩,
 ⟨some 4, .mv (.t 44), none⟩,
 ⟨some 5, .mv (.c (.int .i64 0)), none⟩] [4, 5]) (
 .lift 4 none 1 .byte (
 .ret))))
def r31 : List RT := [.t 4, .t 5]

/-- reeve/sum.Open -/
def a32 : AS :=
 .seq (
 .reg [
 ⟨some 6, .mv (.c (.nils)), none⟩,
 ⟨some 7, .mv (.c (.bool false)), none⟩] [0, 1, 2]) (
 .seq (
 .seq (
 .reg [
 ⟨some 11, .mv (.t 2), none⟩,
 ⟨some 12, .len .s (.t 11), none⟩,
 ⟨some 13, .bin .neq (.t 12) (.c (.int .i64 256)), none⟩,
 ⟨some 14, .mv (.t 13), none⟩,
 ⟨some 15, .mv (.t 2), (some (14, false))⟩,
 ⟨some 16, .ia 1 (.t 15) (.c (.int .i64 13)), (some (14, false))⟩,
 ⟨some 17, .ld (.t 16), (some (14, false))⟩,
 ⟨some 18, .cv .i64 (.t 17), (some (14, false))⟩,
 ⟨some 19, .bin .gtr (.t 18) (.c (.int .i64 242)), (some (14, false))⟩,
 ⟨some 20, .pick (.t 14) (.c (.bool true)) (.t 19), none⟩] [0, 1, 2, 20]) (
 .cond (.t 20) (
 .seq (
 .reg [
 ⟨some 6, .mv (.c (.nils)), none⟩,
 ⟨some 7, .mv (.c (.bool false)), none⟩] [6, 7]) (
 .lift 6 none 1 .byte (
 .ret))) (
 .skip))) (
 .seq (
 .reg [
 ⟨some 21, .mv (.t 2), none⟩,
 ⟨some 22, .mv (.t 2), none⟩,
 ⟨some 23, .ia 1 (.t 22) (.c (.int .i64 13)), none⟩,
 ⟨some 24, .ld (.t 23), none⟩,
 ⟨some 25, .cv .i64 (.t 24), none⟩,
 ⟨some 26, .bin .add (.c (.int .i64 14)) (.t 25), none⟩,
 ⟨some 27, .slR 1 (.t 21) (some (.c (.int .i64 14))) (some (.t 26)), none⟩,
 ⟨some 8, .mv (.t 27), none⟩] [0, 1, 2, 8]) (
 .seq (
 .reg [
 ⟨some 29, .mv (.t 0), none⟩,
 ⟨some 30, .mv (.t 1), none⟩,
 ⟨some 31, .mv (.t 8), none⟩,
 ⟨some 32, .call 29 [none, none, (some (1, .byte))] [(.t 29), (.t 30), (.t 31)], none⟩,
 ⟨some 28, .mv (.t 32), none⟩,
 ⟨some 33, .ext (.t 28) 0, none⟩,
 ⟨some 34, .ext (.t 28) 1, none⟩,
 ⟨some 9, .mv (.t 33), none⟩,
 ⟨some 10, .mv (.t 34), none⟩] [2, 8, 9]) (
 .seq (
 .seq (
 .reg [
 ⟨some 35, .mv (.t 9), none⟩,
 ⟨some 36, .mv (.t 2), none⟩,
 ⟨some 37, .call 42 [(some (1, .byte)), (some (1, .byte))] [(.t 35), (.t 36)], none⟩,
 ⟨some 38, .not (.t 37), none⟩] [8, 38]) (
 .cond (.t 38) (
 .seq (
 .reg [
 ⟨some 6, .mv (.c (.nils)), none⟩,
 ⟨some 7, .mv (.c (.bool false)), none⟩] [6, 7]) (
 .lift 6 none 1 .byte (
 .ret))) (
 .skip))) (
 .seq (
 .reg [
 ⟨some 39, .mv (.t 8), none⟩,
 ⟨some 40, .call 41 [(some (1, .byte))] [(.t 39)], none⟩,
 ⟨some 6, .mv (.t 40), none⟩,
 ⟨some 7, .mv (.c (.bool true)), none⟩] [6, 7]) (
 .lift 6 none 1 .byte (
 .ret)))))))
def r32 : List RT := [.t 6, .t 7]

/-- maps.Keys[map[int]bool,int,bool] -/
def a34 : AS :=
 .seq (
 .reg [
 ⟨some 1, .box (.t 0), none⟩,
 ⟨some 2, .mv (.c (.nilf)), none⟩] [1]) (
 .seq (
 .reg [
 ⟨some 3, .mkf 45 [(.t 1)], none⟩,
 ⟨some 2, .mv (.t 3), none⟩] [2]) (
 .ret))
def r34 : List RT := [.t 2]

/-- maps.Keys[map[int][]int,int,[]int] -/
def a36 : AS :=
 .seq (
 .reg [
 ⟨some 1, .box (.t 0), none⟩,
 ⟨some 2, .mv (.c (.nilf)), none⟩] [1]) (
 .seq (
 .reg [
 ⟨some 3, .mkf 46 [(.t 1)], none⟩,
 ⟨some 2, .mv (.t 3), none⟩] [2]) (
 .ret))
def r36 : List RT := [.t 2]

/-- slices.Clone[[]int,int] -/
def a35 : AS :=
 .seq (
 .reg [
 ⟨some 2, .mv (.c (.nils)), none⟩] [0]) (
 .seq (
 .seq (
 .reg [
 ⟨some 3, .mv (.t 0), none⟩,
 ⟨some 4, .isn false (.t 3), none⟩] [0, 4]) (
 .cond (.t 4) (
 .seq (
 .reg [
 ⟨some 2, .mv (.c (.nils)), none⟩] [2]) (
 .lift 2 none 8 (.int .i64) (
 .ret))) (
 .skip))) (
 .seq (
 .reg [
 ⟨some 5, .bsl 8 (.int .i64) 0 [], none⟩,
 ⟨some 6, .mv (.t 0), none⟩,
 ⟨some 7, .app 8 (.int .i64) (.t 5) (.t 6), none⟩,
 ⟨some 2, .mv (.t 7), none⟩] [2]) (
 .lift 2 none 8 (.int .i64) (
 .ret))))
def r35 : List RT := [.t 2]

/-- (*reeve/disk.Disk).Blocks -/
def a38 : AS :=
 .seq (
 .reg [
 ⟨some 2, .mv (.c (.int .i64 0)), none⟩] [0]) (
 .seq (
 .seq (
 .reg [
 ⟨some 3, .mv (.t 0), none⟩,
 ⟨some 4, .eqn false .p (.t 3) (.c (.nilp)), none⟩] [0, 4]) (
 .cond (.t 4) (
 .seq (
 .reg [
 ⟨some 2, .mv (.c (.int .i64 0)), none⟩] [2]) (
 .ret)) (
 .skip))) (
 .seq (
 .reg [
 ⟨some 5, .mv (.t 0), none⟩,
 ⟨some 6, .nck (.t 5), none⟩,
 ⟨some 7, .fa 0 (.t 6), none⟩,
 ⟨some 8, .ld (.t 7), none⟩,
 ⟨some 9, .len .s (.t 8), none⟩,
 ⟨some 2, .mv (.t 9), none⟩] [2]) (
 .ret)))
def r38 : List RT := [.t 2]

/-- slices.Contains[[]int,int] -/
def a39 : AS :=
 .seq (
 .reg [
 ⟨some 4, .mv (.c (.bool false)), none⟩] [0, 1]) (
 .seq (
 .reg [
 ⟨some 5, .mv (.t 0), none⟩,
 ⟨some 6, .mv (.t 1), none⟩,
 ⟨some 7, .call 47 [(some (8, (.int .i64))), none] [(.t 5), (.t 6)], none⟩,
 ⟨some 8, .bin .geq (.t 7) (.c (.int .i64 0)), none⟩,
 ⟨some 4, .mv (.t 8), none⟩] [4]) (
 .ret))
def r39 : List RT := [.t 4]

/-- reeve/sum.Sum -/
def a40 : AS :=
 .seq (
 .reg [
 ⟨some 2, .mv (.c (.int .u64 0)), none⟩] [0]) (
 .seq (
 .reg [
 ⟨some 3, .mv (.c (.int .u64 14695981039346656037)), none⟩] [0, 3]) (
 .seq (
 .seq (
 .reg [
 ⟨some 6, .mv (.t 0), none⟩,
 ⟨some 7, .len .s (.t 6), none⟩,
 ⟨some 8, .mv (.c (.int .i64 0)), none⟩] [3, 6, 7, 8]) (
 .block 0 (
 .loop 1 [3, 6, 7, 8] (
 .seq (
 .reg [
 ⟨some 9, .bin .lss (.t 8) (.t 7), none⟩] [3, 6, 7, 8, 9]) (
 .seq (
 .cond (.t 9) (
 .skip) (
 .exit 0)) (
 .seq (
 .block 1 (
 .seq (
 .reg [
 ⟨some 10, .ia 1 (.t 6) (.t 8), none⟩,
 ⟨some 11, .ld (.t 10), none⟩,
 ⟨some 5, .mv (.t 11), none⟩] [3, 5, 6, 7, 8]) (
 .seq (
 .reg [
 ⟨some 12, .mv (.t 3), none⟩,
 ⟨some 13, .mv (.t 5), none⟩,
 ⟨some 14, .cv .u64 (.t 13), none⟩,
 ⟨some 15, .bin .xor (.t 12) (.t 14), none⟩,
 ⟨some 3, .mv (.t 15), none⟩] [3, 6, 7, 8]) (
 .reg [
 ⟨some 16, .mv (.t 3), none⟩,
 ⟨some 17, .bin .mul (.t 16) (.c (.int .u64 1099511628211)), none⟩,
 ⟨some 3, .mv (.t 17), none⟩] [3, 6, 7, 8])))) (
 .reg [
 ⟨some 18, .bin .add (.t 8) (.c (.int .i64 1)), none⟩,
 ⟨some 8, .mv (.t 18), none⟩] [3, 6, 7, 8]))))))) (
 .seq (
 .reg [
 ⟨some 19, .mv (.t 3), none⟩,
 ⟨some 2, .mv (.t 19), none⟩] [2]) (
 .ret))))
def r40 : List RT := [.t 2]

/-- slices.Clone[[]byte,byte] -/
def a41 : AS :=
 .seq (
 .reg [
 ⟨some 2, .mv (.c (.nils)), none⟩] [0]) (
 .seq (
 .seq (
 .reg [
 ⟨some 3, .mv (.t 0), none⟩,
 ⟨some 4, .isn false (.t 3), none⟩] [0, 4]) (
 .cond (.t 4) (
 .seq (
 .reg [
 ⟨some 2, .mv (.c (.nils)), none⟩] [2]) (
 .lift 2 none 1 .byte (
 .ret))) (
 .skip))) (
 .seq (
 .reg [
 ⟨some 5, .bsl 1 .byte 0 [], none⟩,
 ⟨some 6, .mv (.t 0), none⟩,
 ⟨some 7, .app 1 .byte (.t 5) (.t 6), none⟩,
 ⟨some 2, .mv (.t 7), none⟩] [2]) (
 .lift 2 none 1 .byte (
 .ret))))
def r41 : List RT := [.t 2]

/-- bytes.Equal -/
def a42 : AS :=
 .seq (
 .reg [
 ⟨some 4, .mv (.c (.bool false)), none⟩] [0, 1]) (
 .seq (
 .reg [
 ⟨some 5, .mv (.t 0), none⟩,
 ⟨some 6, .b2s (.t 5), none⟩,
 ⟨some 7, .mv (.t 1), none⟩,
 ⟨some 8, .b2s (.t 7), none⟩,
 ⟨some 9, .bin .eql (.t 6) (.t 8), none⟩,
 ⟨some 4, .mv (.t 9), none⟩] [4]) (
 .ret))
def r42 : List RT := [.t 4]

/-- slices.Index[[]int,int] -/
def a47 : AS :=
 .seq (
 .reg [
 ⟨some 4, .mv (.c (.int .i64 0)), none⟩] [0, 1]) (
 .seq (
 .seq (
 .reg [
 ⟨some 6, .mv (.t 0), none⟩,
 ⟨some 7, .len .s (.t 6), none⟩,
 ⟨some 8, .mv (.c (.int .i64 0)), none⟩] [0, 1, 7, 8]) (
 .block 0 (
 .loop 1 [0, 1, 7, 8] (
 .seq (
 .reg [
 ⟨some 9, .bin .lss (.t 8) (.t 7), none⟩] [0, 1, 7, 8, 9]) (
 .seq (
 .cond (.t 9) (
 .skip) (
 .exit 0)) (
 .seq (
 .block 1 (
 .seq (
 .reg [
 ⟨some 10, .mv (.t 8), none⟩,
 ⟨some 5, .mv (.t 10), none⟩] [0, 1, 5, 7, 8]) (
 .seq (
 .reg [
 ⟨some 11, .mv (.t 1), none⟩,
 ⟨some 12, .mv (.t 0), none⟩,
 ⟨some 13, .mv (.t 5), none⟩,
 ⟨some 14, .ia 1 (.t 12) (.t 13), none⟩,
 ⟨some 15, .ld (.t 14), none⟩,
 ⟨some 16, .bin .eql (.t 11) (.t 15), none⟩] [0, 1, 5, 7, 8, 16]) (
 .cond (.t 16) (
 .seq (
 .reg [
 ⟨some 17, .mv (.t 5), none⟩,
 ⟨some 4, .mv (.t 17), none⟩] [4]) (
 .ret)) (
 .skip))))) (
 .reg [
 ⟨some 18, .bin .add (.t 8) (.c (.int .i64 1)), none⟩,
 ⟨some 8, .mv (.t 18), none⟩] [0, 1, 7, 8]))))))) (
 .seq (
 .reg [
 ⟨some 4, .mv (.c (.int .i64 (-1))), none⟩] [4]) (
 .ret)))
def r47 : List RT := [.t 4]

theorem ok11 : okF Try.prog 11 a11 r11 1 = true := by decide +kernel
theorem ok13 : okF Try.prog 13 a13 r13 1 = true := by decide +kernel
theorem ok20 : okF Try.prog 20 a20 r20 1 = true := by decide +kernel
theorem ok24 : okF Try.prog 24 a24 r24 2 = true := by decide +kernel
theorem ok25 : okF Try.prog 25 a25 r25 1 = true := by decide +kernel
theorem ok26 : okF Try.prog 26 a26 r26 3 = true := by decide +kernel
theorem ok27 : okF Try.prog 27 a27 r27 1 = true := by decide +kernel
theorem ok29 : okF Try.prog 29 a29 r29 3 = true := by decide +kernel
theorem ok30 : okF Try.prog 30 a30 r30 3 = true := by decide +kernel
theorem ok31 : okF Try.prog 31 a31 r31 2 = true := by decide +kernel
theorem ok32 : okF Try.prog 32 a32 r32 3 = true := by decide +kernel
theorem ok34 : okF Try.prog 34 a34 r34 1 = true := by decide +kernel
theorem ok36 : okF Try.prog 36 a36 r36 1 = true := by decide +kernel
theorem ok35 : okF Try.prog 35 a35 r35 1 = true := by decide +kernel
theorem ok38 : okF Try.prog 38 a38 r38 1 = true := by decide +kernel
theorem ok39 : okF Try.prog 39 a39 r39 2 = true := by decide +kernel
theorem ok40 : okF Try.prog 40 a40 r40 1 = true := by decide +kernel
theorem ok41 : okF Try.prog 41 a41 r41 1 = true := by decide +kernel
theorem ok42 : okF Try.prog 42 a42 r42 2 = true := by decide +kernel
theorem ok47 : okF Try.prog 47 a47 r47 2 = true := by decide +kernel
end Go.V
