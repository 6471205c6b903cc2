/- A part of the proof layer, or functions of the given program in it: contracts and their proofs. -/
import Derived.Test.YthnnbgaphjinnaaN1
import Derived.Test.YthnnbgaphjinnaaProg
namespace Go.V
set_option linter.unusedSimpArgs false
set_option linter.unnecessarySimpa false
open Go.Proofs
/-- reeve/reevelaw08.awake -/
def a9 : AS :=
 .seq (
 .reg [
 ⟨some 0, .mv (.c (.bool false)), none⟩] []) (
 .seq (
 .reg [
 ⟨some 8, .call 11 [none] [(.c (.int .i64 4))], none⟩,
 ⟨some 9, .call 10 [none, none, none, (some (8, (.int .i64)))] [(.t 8), (.c (.int .i64 1)), (.c (.int .i64 3)), (.c (.nils))], none⟩,
 ⟨some 7, .mv (.t 9), none⟩,
 ⟨some 10, .ext (.t 7) 0, none⟩,
 ⟨some 11, .ext (.t 7) 1, none⟩,
 ⟨some 1, .mv (.t 10), none⟩,
 ⟨some 2, .mv (.t 11), none⟩] [1, 2]) (
 .seq (
 .seq (
 .reg [
 ⟨some 12, .mv (.t 2), none⟩,
 ⟨some 13, .bin .neq (.t 12) (.c (.int .i64 0)), none⟩,
 ⟨some 14, .mv (.t 13), none⟩,
 ⟨some 15, .mv (.t 1), (some (14, false))⟩,
 ⟨some 16, .eqn false .p (.t 15) (.c (.nilp)), (some (14, false))⟩,
 ⟨some 17, .pick (.t 14) (.c (.bool true)) (.t 16), none⟩] [1, 17]) (
 .cond (.t 17) (
 .seq (
 .reg [
 ⟨some 0, .mv (.c (.bool false)), none⟩] [0]) (
 .ret)) (
 .skip))) (
 .seq (
 .reg [
 ⟨some 19, .mv (.t 1), none⟩,
 ⟨some 20, .bsl 1 .byte 2 [(0, (.c (.int .u8 97))), (1, (.c (.int .u8 98)))], none⟩,
 ⟨some 21, .mkb (.t 20), none⟩,
 ⟨some 22, .call 12 [none, (some (1, .byte))] [(.t 19), (.t 21)], none⟩,
 ⟨some 18, .mv (.t 22), none⟩,
 ⟨some 23, .ext (.t 18) 0, none⟩,
 ⟨some 24, .ext (.t 18) 1, none⟩,
 ⟨some 3, .mv (.t 23), none⟩,
 ⟨some 4, .mv (.t 24), none⟩] [1, 3, 4]) (
 .seq (
 .reg [
 ⟨some 26, .mv (.t 1), none⟩,
 ⟨some 27, .mv (.t 3), none⟩,
 ⟨some 28, .call 14 [none, none] [(.t 26), (.t 27)], none⟩,
 ⟨some 25, .mv (.t 28), none⟩,
 ⟨some 29, .ext (.t 25) 0, none⟩,
 ⟨some 30, .ext (.t 25) 1, none⟩,
 ⟨some 5, .mv (.t 29), none⟩,
 ⟨some 6, .mv (.t 30), none⟩] [1, 4, 5, 6]) (
 .seq (
 .reg [
 ⟨some 31, .mv (.t 4), none⟩,
 ⟨some 32, .bin .eql (.t 31) (.c (.int .i64 0)), none⟩,
 ⟨some 33, .mv (.t 32), none⟩,
 ⟨some 34, .mv (.t 6), (some (33, true))⟩,
 ⟨some 35, .bin .eql (.t 34) (.c (.int .i64 0)), (some (33, true))⟩,
 ⟨some 36, .pick (.t 33) (.t 35) (.c (.bool false)), none⟩,
 ⟨some 37, .mv (.t 36), none⟩,
 ⟨some 38, .mv (.t 5), (some (37, true))⟩,
 ⟨some 39, .b2s (.t 38), (some (37, true))⟩,
 ⟨some 40, .bin .eql (.t 39) (.c (.str ⟨#[97, 98]⟩)), (some (37, true))⟩,
 ⟨some 41, .pick (.t 37) (.t 40) (.c (.bool false)), none⟩,
 ⟨some 42, .mv (.t 41), none⟩,
 ⟨some 43, .mv (.t 1), (some (42, true))⟩,
 ⟨some 44, .call 15 [none] [(.t 43)], (some (42, true))⟩,
 ⟨some 45, .len .s (.t 44), (some (42, true))⟩,
 ⟨some 46, .bin .eql (.t 45) (.c (.int .i64 2)), (some (42, true))⟩,
 ⟨some 47, .pick (.t 42) (.t 46) (.c (.bool false)), none⟩,
 ⟨some 0, .mv (.t 47), none⟩] [0]) (
 .ret))))))
def r9 : List RT := [.t 0]

/-- reeve/pages.Open -/
def a10 : AS :=
 .seq (
 .reg [
 ⟨some 8, .mv (.c (.nilp)), none⟩,
 ⟨some 9, .mv (.c (.int .i64 0)), none⟩] [0, 1, 2, 3]) (
 .seq (
 .seq (
 .reg [
 ⟨some 19, .mv (.t 0), none⟩,
 ⟨some 20, .mv (.t 1), none⟩,
 ⟨some 21, .mv (.t 2), none⟩,
 ⟨some 22, .call 26 [none, none, none] [(.t 19), (.t 20), (.t 21)], none⟩,
 ⟨some 23, .not (.t 22), none⟩] [0, 1, 2, 3, 23]) (
 .cond (.t 23) (
 .seq (
 .reg [
 ⟨some 8, .mv (.c (.nilp)), none⟩,
 ⟨some 9, .mv (.c (.int .i64 1)), none⟩] [8, 9]) (
 .ret)) (
 .skip))) (
 .seq (
 .reg [
 ⟨some 24, .mv (.t 0), none⟩,
 ⟨some 25, .mv (.t 1), none⟩,
 ⟨some 26, .mkm false (.int .i64) (.sl 8 (.int .i64)), none⟩,
 ⟨some 27, .mkm false (.int .i64) .bool, none⟩,
 ⟨some 28, .bld [.nilp, .int .i64 0, .nilm, .nilm] [(0, 1, (.t 24)), (1, 1, (.t 25)), (2, 1, (.t 26)), (3, 1, (.t 27))], none⟩,
 ⟨some 29, .box (.t 28), none⟩,
 ⟨some 10, .mv (.t 29), none⟩] [0, 1, 2, 3, 10]) (
 .seq (
 .seq (
 .reg [
 ⟨some 30, .mv (.t 2), none⟩,
 ⟨some 31, .mv (.c (.int .i64 0)), none⟩] [0, 1, 2, 3, 10, 30, 31]) (
 .block 0 (
 .lift 0 (some 0) 24 (.sl 1 .byte) (
 .lift 0 (some 1) 32 (.pair (.int .i64) (.sl 1 .byte)) (
 .loop 1 [0, 1, 2, 3, 10, 30, 31] (
 .seq (
 .reg [
 ⟨some 32, .bin .lss (.t 31) (.t 30), none⟩] [0, 1, 2, 3, 10, 30, 31, 32]) (
 .seq (
 .cond (.t 32) (
 .skip) (
 .exit 0)) (
 .seq (
 .block 1 (
 .seq (
 .reg [
 ⟨some 33, .mv (.t 31), none⟩,
 ⟨some 11, .mv (.t 33), none⟩] [0, 1, 2, 3, 10, 11, 30, 31]) (
 .reg [
 ⟨some 34, .mv (.t 10), none⟩,
 ⟨some 35, .nck (.t 34), none⟩,
 ⟨some 36, .fa 3 (.t 35), none⟩,
 ⟨some 37, .ld (.t 36), none⟩,
 ⟨some 38, .mv (.t 1), none⟩,
 ⟨some 39, .mv (.t 11), none⟩,
 ⟨some 40, .bin .add (.t 38) (.t 39), none⟩,
 ⟨none, .mu false (.int .i64) .bool (.t 37) (.t 40) (.c (.bool true)), none⟩] [0, 1, 2, 3, 10, 30, 31]))) (
 .reg [
 ⟨some 41, .bin .add (.t 31) (.c (.int .i64 1)), none⟩,
 ⟨some 31, .mv (.t 41), none⟩] [0, 1, 2, 3, 10, 30, 31]))))))))) (
 .seq (
 .seq (
 .reg [
 ⟨some 42, .mv (.t 0), none⟩,
 ⟨some 43, .call 27 [none] [(.t 42)], none⟩] [0, 1, 2, 3, 10, 43]) (
 .cond (.t 43) (
 .seq (
 .reg [
 ⟨some 8, .mv (.c (.nilp)), none⟩,
 ⟨some 9, .mv (.c (.int .i64 9)), none⟩] [8, 9]) (
 .ret)) (
 .skip))) (
 .seq (
 .seq (
 .reg [
 ⟨some 44, .mv (.t 3), none⟩,
 ⟨some 45, .len .s (.t 44), none⟩,
 ⟨some 46, .mv (.c (.int .i64 0)), none⟩] [0, 1, 2, 10, 44, 45, 46]) (
 .block 2 (
 .lift 0 (some 0) 24 (.sl 1 .byte) (
 .lift 0 (some 1) 32 (.pair (.int .i64) (.sl 1 .byte)) (
 .loop 2 [0, 1, 2, 10, 44, 45, 46] (
 .seq (
 .reg [
 ⟨some 47, .bin .lss (.t 46) (.t 45), none⟩] [0, 1, 2, 10, 44, 45, 46, 47]) (
 .seq (
 .cond (.t 47) (
 .skip) (
 .exit 2)) (
 .seq (
 .block 3 (
 .seq (
 .reg [
 ⟨some 48, .ia 1 (.t 44) (.t 46), none⟩,
 ⟨some 49, .ld (.t 48), none⟩,
 ⟨some 13, .mv (.t 49), none⟩] [0, 1, 2, 10, 13, 44, 45, 46]) (
 .seq (
 .reg [
 ⟨some 51, .mv (.t 0), none⟩,
 ⟨some 52, .mv (.t 1), none⟩,
 ⟨some 53, .mv (.t 2), none⟩,
 ⟨some 54, .mv (.t 13), none⟩,
 ⟨some 55, .call 28 [none, none, none, none] [(.t 51), (.t 52), (.t 53), (.t 54)], none⟩,
 ⟨some 50, .mv (.t 55), none⟩,
 ⟨some 56, .ext (.t 50) 0, none⟩,
 ⟨some 57, .ext (.t 50) 1, none⟩,
 ⟨some 58, .ext (.t 50) 2, none⟩,
 ⟨some 14, .mv (.t 56), none⟩,
 ⟨some 15, .mv (.t 57), none⟩,
 ⟨some 16, .mv (.t 58), none⟩] [0, 1, 2, 10, 13, 15, 16, 44, 45, 46]) (
 .seq (
 .seq (
 .reg [
 ⟨some 59, .mv (.t 16), none⟩,
 ⟨some 60, .bin .neq (.t 59) (.c (.int .i64 0)), none⟩] [0, 1, 2, 10, 13, 15, 16, 44, 45, 46, 60]) (
 .cond (.t 60) (
 .seq (
 .reg [
 ⟨some 61, .mv (.t 16), none⟩,
 ⟨some 8, .mv (.c (.nilp)), none⟩,
 ⟨some 9, .mv (.t 61), none⟩] [8, 9]) (
 .ret)) (
 .skip))) (
 .seq (
 .seq (
 .reg [
 ⟨some 62, .mv (.t 15), none⟩,
 ⟨some 63, .len .s (.t 62), none⟩,
 ⟨some 64, .mv (.c (.int .i64 0)), none⟩] [0, 1, 2, 10, 13, 15, 44, 45, 46, 62, 63, 64]) (
 .block 4 (
 .lift 0 (some 0) 24 (.sl 1 .byte) (
 .lift 0 (some 1) 32 (.pair (.int .i64) (.sl 1 .byte)) (
 .loop 3 [0, 1, 2, 10, 13, 15, 44, 45, 46, 62, 63, 64] (
 .seq (
 .reg [
 ⟨some 65, .bin .lss (.t 64) (.t 63), none⟩] [0, 1, 2, 10, 13, 15, 44, 45, 46, 62, 63, 64, 65]) (
 .seq (
 .cond (.t 65) (
 .skip) (
 .exit 4)) (
 .seq (
 .block 5 (
 .seq (
 .reg [
 ⟨some 66, .ia 1 (.t 62) (.t 64), none⟩,
 ⟨some 67, .ld (.t 66), none⟩,
 ⟨some 18, .mv (.t 67), none⟩] [0, 1, 2, 10, 13, 15, 18, 44, 45, 46, 62, 63, 64]) (
 .seq (
 .seq (
 .reg [
 ⟨some 68, .mv (.t 10), none⟩,
 ⟨some 69, .nck (.t 68), none⟩,
 ⟨some 70, .fa 3 (.t 69), none⟩,
 ⟨some 71, .ld (.t 70), none⟩,
 ⟨some 72, .mv (.t 18), none⟩,
 ⟨some 73, .lk false (.int .i64) .bool false (.t 71) (.t 72), none⟩,
 ⟨some 74, .not (.t 73), none⟩] [0, 1, 2, 10, 13, 15, 18, 44, 45, 46, 62, 63, 64, 74]) (
 .cond (.t 74) (
 .seq (
 .reg [
 ⟨some 8, .mv (.c (.nilp)), none⟩,
 ⟨some 9, .mv (.c (.int .i64 2)), none⟩] [8, 9]) (
 .ret)) (
 .skip))) (
 .reg [
 ⟨some 75, .mv (.t 10), none⟩,
 ⟨some 76, .nck (.t 75), none⟩,
 ⟨some 77, .fa 3 (.t 76), none⟩,
 ⟨some 78, .ld (.t 77), none⟩,
 ⟨some 79, .mv (.t 18), none⟩,
 ⟨none, .dl (.int .i64) (.t 78) (.t 79), none⟩] [0, 1, 2, 10, 13, 15, 44, 45, 46, 62, 63, 64])))) (
 .reg [
 ⟨some 80, .bin .add (.t 64) (.c (.int .i64 1)), none⟩,
 ⟨some 64, .mv (.t 80), none⟩] [0, 1, 2, 10, 13, 15, 44, 45, 46, 62, 63, 64]))))))))) (
 .reg [
 ⟨some 81, .mv (.t 10), none⟩,
 ⟨some 82, .nck (.t 81), none⟩,
 ⟨some 83, .fa 2 (.t 82), none⟩,
 ⟨some 84, .ld (.t 83), none⟩,
 ⟨some 85, .mv (.t 13), none⟩,
 ⟨some 86, .mv (.t 15), none⟩,
 ⟨none, .mu false (.int .i64) (.sl 8 (.int .i64)) (.t 84) (.t 85) (.t 86), none⟩] [0, 1, 2, 10, 44, 45, 46])))))) (
 .reg [
 ⟨some 87, .bin .add (.t 46) (.c (.int .i64 1)), none⟩,
 ⟨some 46, .mv (.t 87), none⟩] [0, 1, 2, 10, 44, 45, 46]))))))))) (
 .seq (
 .reg [
 ⟨some 88, .mv (.t 10), none⟩,
 ⟨some 8, .mv (.t 88), none⟩,
 ⟨some 9, .mv (.c (.int .i64 0)), none⟩] [8, 9]) (
 .ret)))))))
def r10 : List RT := [.t 8, .t 9]

/-- (*reeve/pages.Pages).Put -/
def a12 : AS :=
 .seq (
 .reg [
 ⟨some 4, .mv (.c (.int .i64 0)), none⟩,
 ⟨some 5, .mv (.c (.int .i64 0)), none⟩] [0, 1]) (
 .seq (
 .reg [
 ⟨some 17, .mv (.t 1), none⟩,
 ⟨some 18, .len .s (.t 17), none⟩,
 ⟨some 19, .bin .add (.t 18) (.c (.int .i64 238)), none⟩,
 ⟨some 20, .bin .sub (.t 19) (.c (.int .i64 1)), none⟩,
 ⟨some 21, .bin .quo (.t 20) (.c (.int .i64 238)), none⟩,
 ⟨some 22, .mm true (.t 21) (.c (.int .i64 1)), none⟩,
 ⟨some 6, .mv (.t 22), none⟩] [0, 1, 6]) (
 .seq (
 .block 0 (
 .seq (
 .reg [
 ⟨some 24, .mv (.t 0), none⟩,
 ⟨some 25, .eqn false .p (.t 24) (.c (.nilp)), none⟩,
 ⟨some 23, .mv (.t 25), none⟩] [0, 1, 6, 23]) (
 .cond (.t 23) (
 .seq (
 .reg [
 ⟨some 4, .mv (.c (.int .i64 0)), none⟩,
 ⟨some 5, .mv (.c (.int .i64 1)), none⟩] [4, 5]) (
 .ret)) (
 .seq (
 .reg [
 ⟨some 27, .mv (.t 1), none⟩,
 ⟨some 28, .len .s (.t 27), none⟩,
 ⟨some 29, .bin .gtr (.t 28) (.c (.int .i64 20000)), none⟩,
 ⟨some 26, .mv (.t 29), none⟩] [0, 1, 6, 26]) (
 .cond (.t 26) (
 .seq (
 .reg [
 ⟨some 4, .mv (.c (.int .i64 0)), none⟩,
 ⟨some 5, .mv (.c (.int .i64 4)), none⟩] [4, 5]) (
 .ret)) (
 .seq (
 .reg [
 ⟨some 31, .mv (.t 6), none⟩,
 ⟨some 32, .mv (.t 0), none⟩,
 ⟨some 33, .nck (.t 32), none⟩,
 ⟨some 34, .fa 3 (.t 33), none⟩,
 ⟨some 35, .ld (.t 34), none⟩,
 ⟨some 36, .len .m (.t 35), none⟩,
 ⟨some 37, .bin .gtr (.t 31) (.t 36), none⟩,
 ⟨some 30, .mv (.t 37), none⟩] [0, 1, 6, 30]) (
 .cond (.t 30) (
 .seq (
 .reg [
 ⟨some 4, .mv (.c (.int .i64 0)), none⟩,
 ⟨some 5, .mv (.c (.int .i64 6)), none⟩] [4, 5]) (
 .ret)) (
 .skip)))))))) (
 .seq (
 .reg [
 ⟨some 38, .mv (.t 0), none⟩,
 ⟨some 39, .call 15 [none] [(.t 38)], none⟩,
 ⟨some 40, .mv (.t 6), none⟩,
 ⟨some 41, .slR 1 (.t 39) none (some (.t 40)), none⟩,
 ⟨some 7, .mv (.t 41), none⟩] [0, 1, 6, 7]) (
 .seq (
 .seq (
 .frz 7 (
 .reg [
 ⟨some 42, .mv (.t 7), none⟩,
 ⟨some 43, .len .s (.t 42), none⟩,
 ⟨some 44, .mv (.c (.int .i64 0)), none⟩] [0, 1, 6, 7, 42, 43, 44])) (
 .block 1 (
 .swp 2 1 0 (
 .swp 3 1 1 (
 .loop 1 [0, 1, 6, 7, 42, 43, 44] (
 .seq (
 .reg [
 ⟨some 45, .bin .lss (.t 44) (.t 43), none⟩] [0, 1, 6, 7, 42, 43, 44, 45]) (
 .seq (
 .cond (.t 45) (
 .skip) (
 .exit 1)) (
 .seq (
 .block 2 (
 .seq (
 .reg [
 ⟨some 46, .mv (.t 44), none⟩,
 ⟨some 47, .ia 1 (.t 42) (.t 44), none⟩,
 ⟨some 48, .ld (.t 47), none⟩,
 ⟨some 8, .mv (.t 46), none⟩,
 ⟨some 9, .mv (.t 48), none⟩] [0, 1, 6, 7, 8, 9, 42, 43, 44]) (
 .seq (
 .reg [
 ⟨some 49, .mks 1 .byte (.c (.int .i64 4)) (.c (.int .i64 4)), none⟩,
 ⟨some 10, .mv (.t 49), none⟩] [0, 1, 6, 7, 8, 9, 10, 42, 43, 44]) (
 .seq (
 .seq (
 .reg [
 ⟨some 50, .mv (.t 8), none⟩,
 ⟨some 51, .bin .eql (.t 50) (.c (.int .i64 0)), none⟩] [0, 1, 6, 7, 8, 9, 10, 42, 43, 44, 51]) (
 .cond (.t 51) (
 .reg [
 ⟨some 52, .mv (.t 10), none⟩,
 ⟨some 53, .ia 1 (.t 52) (.c (.int .i64 0)), none⟩,
 ⟨none, .st 1 (.t 53) (.c (.int .u8 1)), none⟩] [0, 1, 6, 7, 8, 9, 10, 42, 43, 44]) (
 .skip))) (
 .seq (
 .seq (
 .reg [
 ⟨some 54, .mv (.t 8), none⟩,
 ⟨some 55, .bin .add (.t 54) (.c (.int .i64 1)), none⟩,
 ⟨some 56, .mv (.t 6), none⟩,
 ⟨some 57, .bin .lss (.t 55) (.t 56), none⟩] [0, 1, 6, 7, 8, 9, 10, 42, 43, 44, 57]) (
 .cond (.t 57) (
 .seq (
 .reg [
 ⟨some 58, .mv (.t 7), none⟩,
 ⟨some 59, .mv (.t 8), none⟩,
 ⟨some 60, .bin .add (.t 59) (.c (.int .i64 1)), none⟩,
 ⟨some 61, .ia 1 (.t 58) (.t 60), none⟩,
 ⟨some 62, .ld (.t 61), none⟩,
 ⟨some 63, .bin .add (.t 62) (.c (.int .i64 1)), none⟩,
 ⟨some 11, .mv (.t 63), none⟩] [0, 1, 6, 7, 8, 9, 10, 11, 42, 43, 44]) (
 .reg [
 ⟨some 64, .mv (.t 10), none⟩,
 ⟨some 65, .mv (.t 10), none⟩,
 ⟨some 66, .mv (.t 10), none⟩,
 ⟨some 67, .mv (.t 11), none⟩,
 ⟨some 68, .cv .u8 (.t 67), none⟩,
 ⟨some 69, .mv (.t 11), none⟩,
 ⟨some 70, .bin .shr (.t 69) (.c (.int .u64 8)), none⟩,
 ⟨some 71, .cv .u8 (.t 70), none⟩,
 ⟨some 72, .mv (.t 11), none⟩,
 ⟨some 73, .bin .shr (.t 72) (.c (.int .u64 16)), none⟩,
 ⟨some 74, .cv .u8 (.t 73), none⟩,
 ⟨some 75, .ia 1 (.t 64) (.c (.int .i64 1)), none⟩,
 ⟨none, .st 1 (.t 75) (.t 68), none⟩,
 ⟨some 76, .ia 1 (.t 65) (.c (.int .i64 2)), none⟩,
 ⟨none, .st 1 (.t 76) (.t 71), none⟩,
 ⟨some 77, .ia 1 (.t 66) (.c (.int .i64 3)), none⟩,
 ⟨none, .st 1 (.t 77) (.t 74), none⟩] [0, 1, 6, 7, 8, 9, 10, 42, 43, 44])) (
 .skip))) (
 .seq (
 .reg [
 ⟨some 78, .mv (.t 1), none⟩,
 ⟨some 79, .mv (.t 8), none⟩,
 ⟨some 80, .bin .mul (.t 79) (.c (.int .i64 238)), none⟩,
 ⟨some 81, .mv (.t 8), none⟩,
 ⟨some 82, .bin .add (.t 81) (.c (.int .i64 1)), none⟩,
 ⟨some 83, .bin .mul (.t 82) (.c (.int .i64 238)), none⟩,
 ⟨some 84, .mv (.t 1), none⟩,
 ⟨some 85, .len .s (.t 84), none⟩,
 ⟨some 86, .mm false (.t 83) (.t 85), none⟩,
 ⟨some 87, .slR 1 (.t 78) (some (.t 80)) (some (.t 86)), none⟩,
 ⟨some 12, .mv (.t 87), none⟩] [0, 1, 6, 7, 9, 10, 12, 42, 43, 44]) (
 .seq (
 .reg [
 ⟨some 89, .mv (.t 9), none⟩,
 ⟨some 90, .cv .u32 (.t 89), none⟩,
 ⟨some 91, .mv (.t 10), none⟩,
 ⟨some 92, .mv (.t 12), none⟩,
 ⟨some 93, .app 1 .byte (.t 91) (.t 92), none⟩,
 ⟨some 94, .call 29 [none, none, (some (1, .byte))] [(.c (.int .u8 80)), (.t 90), (.t 93)], none⟩,
 ⟨some 88, .mv (.t 94), none⟩,
 ⟨some 95, .ext (.t 88) 0, none⟩,
 ⟨some 96, .ext (.t 88) 1, none⟩,
 ⟨some 13, .mv (.t 95), none⟩,
 ⟨some 14, .mv (.t 96), none⟩] [0, 1, 6, 7, 9, 13, 42, 43, 44]) (
 .seq (
 .reg [
 ⟨some 97, .mv (.t 0), none⟩,
 ⟨some 98, .nck (.t 97), none⟩,
 ⟨some 99, .fa 0 (.t 98), none⟩,
 ⟨some 100, .ld (.t 99), none⟩,
 ⟨some 101, .mv (.t 9), none⟩,
 ⟨some 102, .mv (.t 13), none⟩,
 ⟨some 103, .call 30 [none, none, (some (1, .byte))] [(.t 100), (.t 101), (.t 102)], none⟩,
 ⟨some 104, .bin .neq (.t 103) (.c (.int .i64 0)), none⟩] [0, 1, 6, 7, 42, 43, 44, 104]) (
 .cond (.t 104) (
 .seq (
 .reg [
 ⟨some 4, .mv (.c (.int .i64 0)), none⟩,
 ⟨some 5, .mv (.c (.int .i64 9)), none⟩] [4, 5]) (
 .ret)) (
 .skip)))))))))) (
 .reg [
 ⟨some 105, .bin .add (.t 44) (.c (.int .i64 1)), none⟩,
 ⟨some 44, .mv (.t 105), none⟩] [0, 1, 6, 7, 42, 43, 44]))))))))) (
 .seq (
 .seq (
 .reg [
 ⟨some 106, .mv (.t 7), none⟩,
 ⟨some 107, .len .s (.t 106), none⟩,
 ⟨some 108, .mv (.c (.int .i64 0)), none⟩] [0, 7, 106, 107, 108]) (
 .block 3 (
 .loop 2 [0, 7, 106, 107, 108] (
 .seq (
 .reg [
 ⟨some 109, .bin .lss (.t 108) (.t 107), none⟩] [0, 7, 106, 107, 108, 109]) (
 .seq (
 .cond (.t 109) (
 .skip) (
 .exit 3)) (
 .seq (
 .block 4 (
 .seq (
 .reg [
 ⟨some 110, .ia 1 (.t 106) (.t 108), none⟩,
 ⟨some 111, .ld (.t 110), none⟩,
 ⟨some 16, .mv (.t 111), none⟩] [0, 7, 16, 106, 107, 108]) (
 .reg [
 ⟨some 112, .mv (.t 0), none⟩,
 ⟨some 113, .nck (.t 112), none⟩,
 ⟨some 114, .fa 3 (.t 113), none⟩,
 ⟨some 115, .ld (.t 114), none⟩,
 ⟨some 116, .mv (.t 16), none⟩,
 ⟨none, .dl (.int .i64) (.t 115) (.t 116), none⟩] [0, 7, 106, 107, 108]))) (
 .reg [
 ⟨some 117, .bin .add (.t 108) (.c (.int .i64 1)), none⟩,
 ⟨some 108, .mv (.t 117), none⟩] [0, 7, 106, 107, 108]))))))) (
 .seq (
 .regD [
 ⟨some 118, .mv (.t 0), none⟩,
 ⟨some 119, .nck (.t 118), none⟩,
 ⟨some 120, .fa 2 (.t 119), none⟩,
 ⟨some 121, .ld (.t 120), none⟩,
 ⟨some 122, .mv (.t 7), none⟩,
 ⟨some 123, .ia 1 (.t 122) (.c (.int .i64 0)), none⟩,
 ⟨some 124, .ld (.t 123), none⟩,
 ⟨some 125, .mv (.t 7), none⟩,
 ⟨none, .mu false (.int .i64) (.sl 8 (.int .i64)) (.t 121) (.t 124) (.t 125), none⟩] [.q 0, .q 1, .q 2, .q 3, .q 4, .q 5, .q 6, .q 7, .e 8 []] [7]) (
 .seq (
 .reg [
 ⟨some 126, .mv (.t 7), none⟩,
 ⟨some 127, .ia 1 (.t 126) (.c (.int .i64 0)), none⟩,
 ⟨some 128, .ld (.t 127), none⟩,
 ⟨some 4, .mv (.t 128), none⟩,
 ⟨some 5, .mv (.c (.int .i64 0)), none⟩] [4, 5]) (
 .ret))))))))
def r12 : List RT := [.t 4, .t 5, .w 2 1 0, .w 3 1 1]

/-- (*reeve/pages.Pages).Get -/
def a14 : AS :=
 .seq (
 .reg [
 ⟨some 4, .mv (.c (.nils)), none⟩,
 ⟨some 5, .mv (.c (.int .i64 0)), none⟩] [0, 1]) (
 .seq (
 .seq (
 .reg [
 ⟨some 15, .mv (.t 0), none⟩,
 ⟨some 16, .eqn false .p (.t 15) (.c (.nilp)), none⟩] [0, 1, 16]) (
 .cond (.t 16) (
 .seq (
 .reg [
 ⟨some 4, .mv (.c (.nils)), none⟩,
 ⟨some 5, .mv (.c (.int .i64 1)), none⟩] [4, 5]) (
 .lift 4 none 1 .byte (
 .ret))) (
 .skip))) (
 .seq (
 .reg [
 ⟨some 18, .mv (.t 0), none⟩,
 ⟨some 19, .nck (.t 18), none⟩,
 ⟨some 20, .fa 2 (.t 19), none⟩,
 ⟨some 21, .ld (.t 20), none⟩,
 ⟨some 22, .mv (.t 1), none⟩,
 ⟨some 23, .lk false (.int .i64) (.sl 8 (.int .i64)) true (.t 21) (.t 22), none⟩,
 ⟨some 17, .mv (.t 23), none⟩,
 ⟨some 24, .ext (.t 17) 0, none⟩,
 ⟨some 25, .ext (.t 17) 1, none⟩,
 ⟨some 6, .mv (.t 24), none⟩,
 ⟨some 7, .mv (.t 25), none⟩] [0, 6, 7]) (
 .seq (
 .seq (
 .reg [
 ⟨some 26, .mv (.t 7), none⟩,
 ⟨some 27, .not (.t 26), none⟩] [0, 6, 27]) (
 .cond (.t 27) (
 .seq (
 .reg [
 ⟨some 4, .mv (.c (.nils)), none⟩,
 ⟨some 5, .mv (.c (.int .i64 5)), none⟩] [4, 5]) (
 .lift 4 none 1 .byte (
 .ret))) (
 .skip))) (
 .seq (
 .reg [
 ⟨some 8, .mv (.c (.nils)), none⟩] [0, 6, 8]) (
 .seq (
 .seq (
 .reg [
 ⟨some 28, .mv (.t 6), none⟩,
 ⟨some 29, .len .s (.t 28), none⟩,
 ⟨some 30, .mv (.c (.int .i64 0)), none⟩] [0, 8, 28, 29, 30]) (
 .block 0 (
 .lift 8 none 1 .byte (
 .loop 1 [0, 8, 28, 29, 30] (
 .seq (
 .reg [
 ⟨some 31, .bin .lss (.t 30) (.t 29), none⟩] [0, 8, 28, 29, 30, 31]) (
 .seq (
 .cond (.t 31) (
 .skip) (
 .exit 0)) (
 .seq (
 .block 1 (
 .seq (
 .reg [
 ⟨some 32, .ia 1 (.t 28) (.t 30), none⟩,
 ⟨some 33, .ld (.t 32), none⟩,
 ⟨some 10, .mv (.t 33), none⟩] [0, 8, 10, 28, 29, 30]) (
 .seq (
 .reg [
 ⟨some 35, .mv (.t 0), none⟩,
 ⟨some 36, .nck (.t 35), none⟩,
 ⟨some 37, .fa 0 (.t 36), none⟩,
 ⟨some 38, .ld (.t 37), none⟩,
 ⟨some 39, .mv (.t 10), none⟩,
 ⟨some 40, .call 31 [none, none] [(.t 38), (.t 39)], none⟩,
 ⟨some 34, .mv (.t 40), none⟩,
 ⟨some 41, .ext (.t 34) 0, none⟩,
 ⟨some 42, .ext (.t 34) 1, none⟩,
 ⟨some 11, .mv (.t 41), none⟩,
 ⟨some 12, .mv (.t 42), none⟩] [0, 8, 10, 11, 12, 28, 29, 30]) (
 .seq (
 .seq (
 .reg [
 ⟨some 43, .mv (.t 12), none⟩,
 ⟨some 44, .bin .neq (.t 43) (.c (.int .i64 0)), none⟩] [0, 8, 10, 11, 28, 29, 30, 44]) (
 .cond (.t 44) (
 .seq (
 .reg [
 ⟨some 4, .mv (.c (.nils)), none⟩,
 ⟨some 5, .mv (.c (.int .i64 9)), none⟩] [4, 5]) (
 .lift 4 none 1 .byte (
 .ret))) (
 .skip))) (
 .seq (
 .reg [
 ⟨some 46, .mv (.t 10), none⟩,
 ⟨some 47, .cv .u32 (.t 46), none⟩,
 ⟨some 48, .mv (.t 11), none⟩,
 ⟨some 49, .call 32 [none, none, (some (1, .byte))] [(.c (.int .u8 80)), (.t 47), (.t 48)], none⟩,
 ⟨some 45, .mv (.t 49), none⟩,
 ⟨some 50, .ext (.t 45) 0, none⟩,
 ⟨some 51, .ext (.t 45) 1, none⟩,
 ⟨some 13, .mv (.t 50), none⟩,
 ⟨some 14, .mv (.t 51), none⟩] [0, 8, 13, 14, 28, 29, 30]) (
 .seq (
 .seq (
 .reg [
 ⟨some 52, .mv (.t 14), none⟩,
 ⟨some 53, .not (.t 52), none⟩,
 ⟨some 54, .mv (.t 53), none⟩,
 ⟨some 55, .mv (.t 13), (some (54, false))⟩,
 ⟨some 56, .len .s (.t 55), (some (54, false))⟩,
 ⟨some 57, .bin .lss (.t 56) (.c (.int .i64 4)), (some (54, false))⟩,
 ⟨some 58, .pick (.t 54) (.c (.bool true)) (.t 57), none⟩] [0, 8, 13, 28, 29, 30, 58]) (
 .cond (.t 58) (
 .seq (
 .reg [
 ⟨some 4, .mv (.c (.nils)), none⟩,
 ⟨some 5, .mv (.c (.int .i64 9)), none⟩] [4, 5]) (
 .lift 4 none 1 .byte (
 .ret))) (
 .skip))) (
 .reg [
 ⟨some 59, .mv (.t 8), none⟩,
 ⟨some 60, .mv (.t 13), none⟩,
 ⟨some 61, .slR 1 (.t 60) (some (.c (.int .i64 4))) none, none⟩,
 ⟨some 62, .app 1 .byte (.t 59) (.t 61), none⟩,
 ⟨some 8, .mv (.t 62), none⟩] [0, 8, 28, 29, 30]))))))) (
 .reg [
 ⟨some 63, .bin .add (.t 30) (.c (.int .i64 1)), none⟩,
 ⟨some 30, .mv (.t 63), none⟩] [0, 8, 28, 29, 30])))))))) (
 .seq (
 .reg [
 ⟨some 64, .mv (.t 8), none⟩,
 ⟨some 4, .mv (.t 64), none⟩,
 ⟨some 5, .mv (.c (.int .i64 0)), none⟩] [4, 5]) (
 .lift 4 none 1 .byte (
 .ret))))))))
def r14 : List RT := [.t 4, .t 5]

/-- (*reeve/pages.Pages).Free -/
def a15 : AS :=
 .seq (
 .reg [
 ⟨some 2, .mv (.c (.nils)), none⟩] [0]) (
 .seq (
 .seq (
 .reg [
 ⟨some 3, .mv (.t 0), none⟩,
 ⟨some 4, .eqn false .p (.t 3) (.c (.nilp)), none⟩] [0, 4]) (
 .cond (.t 4) (
 .seq (
 .reg [
 ⟨some 2, .mv (.c (.nils)), none⟩] [2]) (
 .lift 2 none 8 (.int .i64) (
 .ret))) (
 .skip))) (
 .seq (
 .reg [
 ⟨some 5, .mv (.t 0), none⟩,
 ⟨some 6, .nck (.t 5), none⟩,
 ⟨some 7, .fa 3 (.t 6), none⟩,
 ⟨some 8, .ld (.t 7), none⟩,
 ⟨some 9, .call 34 [none] [(.t 8)], none⟩,
 ⟨some 10, .call 33 [none] [(.t 9)], none⟩,
 ⟨some 2, .mv (.t 10), none⟩] [2]) (
 .lift 2 none 8 (.int .i64) (
 .ret))))
def r15 : List RT := [.t 2]

/-- reeve/reevelaw08.text -/
def a16 : AS :=
 .seq (
 .reg [
 ⟨some 1, .box (.t 0), none⟩,
 ⟨some 2, .mv (.c (.nils)), none⟩] [1]) (
 .seq (
 .reg [
 ⟨some 3, .mv (.c (.nils)), none⟩] [1, 3]) (
 .seq (
 .seq (
 .reg [
 ⟨some 4, .fa 1 (.t 1), none⟩,
 ⟨some 5, .ld (.t 4), none⟩,
 ⟨some 6, .mm true (.t 5) (.c (.int .i64 0)), none⟩,
 ⟨some 7, .mm false (.t 6) (.c (.int .i64 60)), none⟩,
 ⟨some 8, .mv (.c (.int .i64 0)), none⟩] [1, 3, 7, 8]) (
 .block 0 (
 .lift 3 none 1 .byte (
 .loop 1 [1, 3, 7, 8] (
 .seq (
 .reg [
 ⟨some 9, .bin .lss (.t 8) (.t 7), none⟩] [1, 3, 7, 8, 9]) (
 .seq (
 .cond (.t 9) (
 .skip) (
 .exit 0)) (
 .seq (
 .block 1 (
 .seq (
 .reg [
 ⟨some 10, .mv (.t 3), none⟩,
 ⟨some 11, .len .s (.t 10), none⟩,
 ⟨some 12, .fa 2 (.t 1), none⟩,
 ⟨some 13, .ld (.t 12), none⟩,
 ⟨some 14, .len .s (.t 13), none⟩,
 ⟨some 15, .bin .add (.t 11) (.t 14), none⟩,
 ⟨some 16, .bin .leq (.t 15) (.c (.int .i64 6000)), none⟩] [1, 3, 7, 8, 16]) (
 .cond (.t 16) (
 .reg [
 ⟨some 17, .mv (.t 3), none⟩,
 ⟨some 18, .fa 2 (.t 1), none⟩,
 ⟨some 19, .ld (.t 18), none⟩,
 ⟨some 20, .app 1 .byte (.t 17) (.t 19), none⟩,
 ⟨some 3, .mv (.t 20), none⟩] [1, 3, 7, 8]) (
 .skip)))) (
 .reg [
 ⟨some 21, .bin .add (.t 8) (.c (.int .i64 1)), none⟩,
 ⟨some 8, .mv (.t 21), none⟩] [1, 3, 7, 8])))))))) (
 .seq (
 .reg [
 ⟨some 22, .mv (.t 3), none⟩,
 ⟨some 2, .mv (.t 22), none⟩] [2]) (
 .lift 2 none 1 .byte (
 .ret)))))
def r16 : List RT := [.t 2]

/-- (*reeve/pages.Pages).Blocks -/
def a17 : AS :=
 .seq (
 .reg [
 ⟨some 4, .mv (.c (.nils)), none⟩] [0, 1]) (
 .seq (
 .seq (
 .reg [
 ⟨some 5, .mv (.t 0), none⟩,
 ⟨some 6, .eqn false .p (.t 5) (.c (.nilp)), none⟩] [0, 1, 6]) (
 .cond (.t 6) (
 .seq (
 .reg [
 ⟨some 4, .mv (.c (.nils)), none⟩] [4]) (
 .lift 4 none 8 (.int .i64) (
 .ret))) (
 .skip))) (
 .seq (
 .reg [
 ⟨some 7, .mv (.t 0), none⟩,
 ⟨some 8, .nck (.t 7), none⟩,
 ⟨some 9, .fa 2 (.t 8), none⟩,
 ⟨some 10, .ld (.t 9), none⟩,
 ⟨some 11, .mv (.t 1), none⟩,
 ⟨some 12, .lk false (.int .i64) (.sl 8 (.int .i64)) false (.t 10) (.t 11), none⟩,
 ⟨some 13, .call 35 [(some (8, (.int .i64)))] [(.t 12)], none⟩,
 ⟨some 4, .mv (.t 13), none⟩] [4]) (
 .lift 4 none 8 (.int .i64) (
 .ret))))
def r17 : List RT := [.t 4]

/-- (*reeve/pages.Pages).Drop -/
def a18 : AS :=
 .seq (
 .reg [
 ⟨some 4, .mv (.c (.int .i64 0)), none⟩] [0, 1]) (
 .seq (
 .seq (
 .reg [
 ⟨some 9, .mv (.t 0), none⟩,
 ⟨some 10, .eqn false .p (.t 9) (.c (.nilp)), none⟩] [0, 1, 10]) (
 .cond (.t 10) (
 .seq (
 .reg [
 ⟨some 4, .mv (.c (.int .i64 1)), none⟩] [4]) (
 .ret)) (
 .skip))) (
 .seq (
 .reg [
 ⟨some 12, .mv (.t 0), none⟩,
 ⟨some 13, .nck (.t 12), none⟩,
 ⟨some 14, .fa 2 (.t 13), none⟩,
 ⟨some 15, .ld (.t 14), none⟩,
 ⟨some 16, .mv (.t 1), none⟩,
 ⟨some 17, .lk false (.int .i64) (.sl 8 (.int .i64)) true (.t 15) (.t 16), none⟩,
 ⟨some 11, .mv (.t 17), none⟩,
 ⟨some 18, .ext (.t 11) 0, none⟩,
 ⟨some 19, .ext (.t 11) 1, none⟩,
 ⟨some 5, .mv (.t 18), none⟩,
 ⟨some 6, .mv (.t 19), none⟩] [0, 1, 5, 6]) (
 .seq (
 .seq (
 .reg [
 ⟨some 20, .mv (.t 6), none⟩,
 ⟨some 21, .not (.t 20), none⟩] [0, 1, 5, 21]) (
 .cond (.t 21) (
 .seq (
 .reg [
 ⟨some 4, .mv (.c (.int .i64 5)), none⟩] [4]) (
 .ret)) (
 .skip))) (
 .seq (
 .seq (
 .reg [
 ⟨some 22, .mv (.t 5), none⟩,
 ⟨some 23, .len .s (.t 22), none⟩,
 ⟨some 24, .mv (.c (.int .i64 0)), none⟩] [0, 1, 22, 23, 24]) (
 .block 0 (
 .loop 1 [0, 1, 22, 23, 24] (
 .seq (
 .reg [
 ⟨some 25, .bin .lss (.t 24) (.t 23), none⟩] [0, 1, 22, 23, 24, 25]) (
 .seq (
 .cond (.t 25) (
 .skip) (
 .exit 0)) (
 .seq (
 .block 1 (
 .seq (
 .reg [
 ⟨some 26, .ia 1 (.t 22) (.t 24), none⟩,
 ⟨some 27, .ld (.t 26), none⟩,
 ⟨some 8, .mv (.t 27), none⟩] [0, 1, 8, 22, 23, 24]) (
 .reg [
 ⟨some 28, .mv (.t 0), none⟩,
 ⟨some 29, .nck (.t 28), none⟩,
 ⟨some 30, .fa 3 (.t 29), none⟩,
 ⟨some 31, .ld (.t 30), none⟩,
 ⟨some 32, .mv (.t 8), none⟩,
 ⟨none, .mu false (.int .i64) .bool (.t 31) (.t 32) (.c (.bool true)), none⟩] [0, 1, 22, 23, 24]))) (
 .reg [
 ⟨some 33, .bin .add (.t 24) (.c (.int .i64 1)), none⟩,
 ⟨some 24, .mv (.t 33), none⟩] [0, 1, 22, 23, 24]))))))) (
 .seq (
 .reg [
 ⟨some 34, .mv (.t 0), none⟩,
 ⟨some 35, .nck (.t 34), none⟩,
 ⟨some 36, .fa 2 (.t 35), none⟩,
 ⟨some 37, .ld (.t 36), none⟩,
 ⟨some 38, .mv (.t 1), none⟩,
 ⟨none, .dl (.int .i64) (.t 37) (.t 38), none⟩] []) (
 .seq (
 .reg [
 ⟨some 4, .mv (.c (.int .i64 0)), none⟩] [4]) (
 .ret)))))))
def r18 : List RT := [.t 4]

/-- (*reeve/pages.Pages).Names -/
def a19 : AS :=
 .seq (
 .reg [
 ⟨some 2, .mv (.c (.nils)), none⟩] [0]) (
 .seq (
 .seq (
 .reg [
 ⟨some 3, .mv (.t 0), none⟩,
 ⟨some 4, .eqn false .p (.t 3) (.c (.nilp)), none⟩] [0, 4]) (
 .cond (.t 4) (
 .seq (
 .reg [
 ⟨some 2, .mv (.c (.nils)), none⟩] [2]) (
 .lift 2 none 8 (.int .i64) (
 .ret))) (
 .skip))) (
 .seq (
 .reg [
 ⟨some 5, .mv (.t 0), none⟩,
 ⟨some 6, .nck (.t 5), none⟩,
 ⟨some 7, .fa 2 (.t 6), none⟩,
 ⟨some 8, .ld (.t 7), none⟩,
 ⟨some 9, .call 36 [none] [(.t 8)], none⟩,
 ⟨some 10, .call 33 [none] [(.t 9)], none⟩,
 ⟨some 2, .mv (.t 10), none⟩] [2]) (
 .lift 2 none 8 (.int .i64) (
 .ret))))
def r19 : List RT := [.t 2]

/-- reeve/reevelaw08.names -/
def a22 : AS :=
 .seq (
 .reg [
 ⟨some 2, .mv (.c (.nils)), none⟩] [0]) (
 .seq (
 .reg [
 ⟨some 3, .mv (.c (.nils)), none⟩] [0, 3]) (
 .seq (
 .seq (
 .reg [
 ⟨some 5, .mv (.t 0), none⟩,
 ⟨some 6, .len .s (.t 5), none⟩,
 ⟨some 7, .mv (.c (.int .i64 0)), none⟩] [0, 3, 6, 7]) (
 .block 0 (
 .lift 3 none 8 (.int .i64) (
 .loop 1 [0, 3, 6, 7] (
 .seq (
 .reg [
 ⟨some 8, .bin .lss (.t 7) (.t 6), none⟩] [0, 3, 6, 7, 8]) (
 .seq (
 .cond (.t 8) (
 .skip) (
 .exit 0)) (
 .seq (
 .block 1 (
 .seq (
 .reg [
 ⟨some 9, .mv (.t 7), none⟩,
 ⟨some 4, .mv (.t 9), none⟩] [0, 3, 4, 6, 7]) (
 .reg [
 ⟨some 10, .mv (.t 3), none⟩,
 ⟨some 11, .mv (.t 0), none⟩,
 ⟨some 12, .mv (.t 4), none⟩,
 ⟨some 13, .ia 2 (.t 11) (.t 12), none⟩,
 ⟨some 14, .fa 0 (.t 13), none⟩,
 ⟨some 15, .ld (.t 14), none⟩,
 ⟨some 16, .bsl 8 (.int .i64) 1 [(0, (.t 15))], none⟩,
 ⟨some 17, .app 8 (.int .i64) (.t 10) (.t 16), none⟩,
 ⟨some 3, .mv (.t 17), none⟩] [0, 3, 6, 7]))) (
 .reg [
 ⟨some 18, .bin .add (.t 7) (.c (.int .i64 1)), none⟩,
 ⟨some 7, .mv (.t 18), none⟩] [0, 3, 6, 7])))))))) (
 .seq (
 .reg [
 ⟨some 19, .mv (.t 3), none⟩,
 ⟨some 2, .mv (.t 19), none⟩] [2]) (
 .lift 2 none 8 (.int .i64) (
 .ret)))))
def r22 : List RT := [.t 2]

/-- reeve/reevelaw08.alike -/
def a23 : AS :=
 .seq (
 .reg [
 ⟨some 8, .mv (.c (.bool false)), none⟩] [0, 1, 2, 3]) (
 .seq (
 .reg [
 ⟨some 16, .mv (.t 0), none⟩,
 ⟨some 17, .call 19 [none] [(.t 16)], none⟩,
 ⟨some 9, .mv (.t 17), none⟩] [0, 1, 2, 3, 9]) (
 .seq (
 .seq (
 .reg [
 ⟨some 18, .mv (.t 9), none⟩,
 ⟨some 19, .len .s (.t 18), none⟩,
 ⟨some 20, .mv (.t 1), none⟩,
 ⟨some 21, .len .s (.t 20), none⟩,
 ⟨some 22, .bin .neq (.t 19) (.t 21), none⟩] [0, 1, 2, 3, 9, 22]) (
 .cond (.t 22) (
 .seq (
 .reg [
 ⟨some 8, .mv (.c (.bool false)), none⟩] [8]) (
 .ret)) (
 .skip))) (
 .seq (
 .reg [
 ⟨some 23, .mv (.t 0), none⟩,
 ⟨some 24, .call 15 [none] [(.t 23)], none⟩,
 ⟨some 25, .bsl 24 (.sl 8 (.int .i64)) 1 [(0, (.t 24))], none⟩,
 ⟨some 10, .mv (.t 25), none⟩] [0, 1, 2, 3, 9, 10]) (
 .seq (
 .seq (
 .reg [
 ⟨some 26, .mv (.t 1), none⟩,
 ⟨some 27, .len .s (.t 26), none⟩,
 ⟨some 28, .mv (.c (.int .i64 0)), none⟩] [0, 1, 2, 3, 9, 10, 27, 28]) (
 .block 0 (
 .lift 10 none 24 (.sl 8 (.int .i64)) (
 .loop 1 [0, 1, 2, 3, 9, 10, 27, 28] (
 .seq (
 .reg [
 ⟨some 29, .bin .lss (.t 28) (.t 27), none⟩] [0, 1, 2, 3, 9, 10, 27, 28, 29]) (
 .seq (
 .cond (.t 29) (
 .skip) (
 .exit 0)) (
 .seq (
 .block 1 (
 .seq (
 .reg [
 ⟨some 30, .mv (.t 28), none⟩,
 ⟨some 11, .mv (.t 30), none⟩] [0, 1, 2, 3, 9, 10, 11, 27, 28]) (
 .seq (
 .reg [
 ⟨some 32, .mv (.t 0), none⟩,
 ⟨some 33, .mv (.t 1), none⟩,
 ⟨some 34, .mv (.t 11), none⟩,
 ⟨some 35, .ia 2 (.t 33) (.t 34), none⟩,
 ⟨some 36, .fa 0 (.t 35), none⟩,
 ⟨some 37, .ld (.t 36), none⟩,
 ⟨some 38, .call 14 [none, none] [(.t 32), (.t 37)], none⟩,
 ⟨some 31, .mv (.t 38), none⟩,
 ⟨some 39, .ext (.t 31) 0, none⟩,
 ⟨some 40, .ext (.t 31) 1, none⟩,
 ⟨some 12, .mv (.t 39), none⟩,
 ⟨some 13, .mv (.t 40), none⟩] [0, 1, 2, 3, 9, 10, 11, 12, 13, 27, 28]) (
 .seq (
 .reg [
 ⟨some 41, .mv (.t 0), none⟩,
 ⟨some 42, .mv (.t 1), none⟩,
 ⟨some 43, .mv (.t 11), none⟩,
 ⟨some 44, .ia 2 (.t 42) (.t 43), none⟩,
 ⟨some 45, .fa 0 (.t 44), none⟩,
 ⟨some 46, .ld (.t 45), none⟩,
 ⟨some 47, .call 17 [none, none] [(.t 41), (.t 46)], none⟩,
 ⟨some 14, .mv (.t 47), none⟩] [0, 1, 2, 3, 9, 10, 11, 12, 13, 14, 27, 28]) (
 .seq (
 .seq (
 .regD [
 ⟨some 48, .mv (.t 13), none⟩,
 ⟨some 49, .bin .neq (.t 48) (.c (.int .i64 0)), none⟩,
 ⟨some 50, .mv (.t 49), none⟩,
 ⟨some 51, .mv (.t 12), (some (50, false))⟩,
 ⟨some 52, .b2s (.t 51), (some (50, false))⟩,
 ⟨some 53, .mv (.t 1), (some (50, false))⟩,
 ⟨some 54, .mv (.t 11), (some (50, false))⟩,
 ⟨some 55, .ia 2 (.t 53) (.t 54), (some (50, false))⟩,
 ⟨some 56, .fa 1 (.t 55), (some (50, false))⟩,
 ⟨some 57, .ld (.t 56), (some (50, false))⟩,
 ⟨some 58, .bin .neq (.t 52) (.t 57), (some (50, false))⟩,
 ⟨some 59, .pick (.t 50) (.c (.bool true)) (.t 58), none⟩,
 ⟨some 60, .mv (.t 59), none⟩,
 ⟨some 61, .mv (.t 14), (some (60, false))⟩,
 ⟨some 62, .len .s (.t 61), (some (60, false))⟩,
 ⟨some 63, .mv (.t 12), (some (60, false))⟩,
 ⟨some 64, .len .s (.t 63), (some (60, false))⟩,
 ⟨some 65, .call 13 [none] [(.t 64)], (some (60, false))⟩,
 ⟨some 66, .bin .neq (.t 62) (.t 65), (some (60, false))⟩,
 ⟨some 67, .pick (.t 60) (.c (.bool true)) (.t 66), none⟩,
 ⟨some 68, .mv (.t 67), none⟩,
 ⟨some 69, .mv (.t 14), (some (68, false))⟩,
 ⟨some 70, .ia 1 (.t 69) (.c (.int .i64 0)), (some (68, false))⟩,
 ⟨some 71, .ld (.t 70), (some (68, false))⟩,
 ⟨some 72, .mv (.t 1), (some (68, false))⟩,
 ⟨some 73, .mv (.t 11), (some (68, false))⟩,
 ⟨some 74, .ia 2 (.t 72) (.t 73), (some (68, false))⟩,
 ⟨some 75, .fa 0 (.t 74), (some (68, false))⟩,
 ⟨some 76, .ld (.t 75), (some (68, false))⟩,
 ⟨some 77, .bin .neq (.t 71) (.t 76), (some (68, false))⟩,
 ⟨some 78, .pick (.t 68) (.c (.bool true)) (.t 77), none⟩,
 ⟨some 79, .mv (.t 78), none⟩,
 ⟨some 80, .mv (.t 11), (some (79, false))⟩,
 ⟨some 81, .bin .gtr (.t 80) (.c (.int .i64 0)), (some (79, false))⟩,
 ⟨some 82, .mv (.t 81), (some (79, false))⟩,
 ⟨some 83, .mv (.t 9), (some (82, true))⟩,
 ⟨some 84, .mv (.t 11), (some (82, true))⟩,
 ⟨some 85, .bin .sub (.t 84) (.c (.int .i64 1)), (some (82, true))⟩,
 ⟨some 86, .ia 1 (.t 83) (.t 85), (some (82, true))⟩,
 ⟨some 87, .ld (.t 86), (some (82, true))⟩,
 ⟨some 88, .mv (.t 9), (some (82, true))⟩,
 ⟨some 89, .mv (.t 11), (some (82, true))⟩,
 ⟨some 90, .ia 1 (.t 88) (.t 89), (some (82, true))⟩,
 ⟨some 91, .ld (.t 90), (some (82, true))⟩,
 ⟨some 92, .bin .geq (.t 87) (.t 91), (some (82, true))⟩,
 ⟨some 93, .pick (.t 82) (.t 92) (.c (.bool false)), (some (79, false))⟩,
 ⟨some 94, .pick (.t 79) (.c (.bool true)) (.t 93), none⟩] [.q 0, .q 1, .q 2, .q 3, .q 4, .q 5, .q 6, .q 7, .q 8, .q 9, .q 10, .q 11, .q 12, .q 13, .q 14, .q 15, .q 16, .e 17 [13, 14], .q 18, .q 19, .q 20, .q 21, .q 22, .q 23, .q 24, .q 25, .q 26, .q 27, .q 28, .q 29, .q 30, .q 31, .q 32, .q 33, .q 34, .q 35, .q 36, .q 37, .q 38, .q 39, .q 40, .q 41, .q 42, .q 43, .q 44, .q 45, .q 46] [0, 1, 2, 3, 9, 10, 14, 27, 28, 94]) (
 .cond (.t 94) (
 .seq (
 .reg [
 ⟨some 8, .mv (.c (.bool false)), none⟩] [8]) (
 .ret)) (
 .skip))) (
 .seq (
 .reg [
 ⟨some 95, .mv (.t 14), none⟩,
 ⟨some 96, .len .s (.t 95), none⟩,
 ⟨some 97, .mv (.c (.int .i64 0)), none⟩] [0, 1, 2, 3, 9, 10, 14, 27, 28, 96, 97]) (
 .block 2 (
 .lift 10 none 24 (.sl 8 (.int .i64)) (
 .loop 2 [0, 1, 2, 3, 9, 10, 14, 27, 28, 96, 97] (
 .seq (
 .reg [
 ⟨some 98, .bin .lss (.t 97) (.t 96), none⟩] [0, 1, 2, 3, 9, 10, 14, 27, 28, 96, 97, 98]) (
 .seq (
 .cond (.t 98) (
 .skip) (
 .exit 2)) (
 .seq (
 .block 3 (
 .seq (
 .reg [
 ⟨some 99, .mv (.t 97), none⟩,
 ⟨some 15, .mv (.t 99), none⟩] [0, 1, 2, 3, 9, 10, 14, 15, 27, 28, 96, 97]) (
 .reg [
 ⟨some 100, .mv (.t 10), none⟩,
 ⟨some 101, .mv (.t 14), none⟩,
 ⟨some 102, .mv (.t 15), none⟩,
 ⟨some 103, .ia 1 (.t 101) (.t 102), none⟩,
 ⟨some 104, .ld (.t 103), none⟩,
 ⟨some 105, .bsl 8 (.int .i64) 1 [(0, (.t 104))], none⟩,
 ⟨some 106, .bsl 24 (.sl 8 (.int .i64)) 1 [(0, (.t 105))], none⟩,
 ⟨some 107, .app 24 (.sl 8 (.int .i64)) (.t 100) (.t 106), none⟩,
 ⟨some 10, .mv (.t 107), none⟩] [0, 1, 2, 3, 9, 10, 14, 27, 28, 96, 97]))) (
 .reg [
 ⟨some 108, .bin .add (.t 97) (.c (.int .i64 1)), none⟩,
 ⟨some 97, .mv (.t 108), none⟩] [0, 1, 2, 3, 9, 10, 14, 27, 28, 96, 97]))))))))))))) (
 .reg [
 ⟨some 109, .bin .add (.t 28) (.c (.int .i64 1)), none⟩,
 ⟨some 28, .mv (.t 109), none⟩] [0, 1, 2, 3, 9, 10, 27, 28])))))))) (
 .seq (
 .reg [
 ⟨some 110, .mv (.t 2), none⟩,
 ⟨some 111, .mv (.t 2), none⟩,
 ⟨some 112, .mv (.t 3), none⟩,
 ⟨some 113, .bin .add (.t 111) (.t 112), none⟩,
 ⟨some 114, .mv (.t 10), none⟩,
 ⟨some 115, .call 37 [none, none, (some (24, (.sl 8 (.int .i64))))] [(.t 110), (.t 113), (.t 114)], none⟩,
 ⟨some 8, .mv (.t 115), none⟩] [8]) (
 .ret))))))
def r23 : List RT := [.t 8]

/-- reeve/pages.Text -/
def a28 : AS :=
 .seq (
 .reg [
 ⟨some 8, .mv (.c (.nils)), none⟩,
 ⟨some 9, .mv (.c (.nils)), none⟩,
 ⟨some 10, .mv (.c (.int .i64 0)), none⟩] [0, 1, 2, 3]) (
 .seq (
 .reg [
 ⟨some 11, .mv (.c (.nils)), none⟩] [0, 1, 2, 3, 11]) (
 .seq (
 .reg [
 ⟨some 12, .mv (.c (.nils)), none⟩] [0, 1, 2, 3, 11, 12]) (
 .seq (
 .reg [
 ⟨some 18, .mv (.t 3), none⟩,
 ⟨some 13, .mv (.t 18), none⟩] [0, 1, 2, 3, 11, 12, 13]) (
 .block 0 (
 .lift 11 none 1 .byte (
 .lift 12 none 8 (.int .i64) (
 .lift 0 (some 0) 24 (.sl 1 .byte) (
 .lift 0 (some 1) 32 (.pair (.int .i64) (.sl 1 .byte)) (
 .loop 1 [0, 1, 2, 3, 11, 12, 13] (
 .block 1 (
 .seq (
 .seq (
 .reg [
 ⟨some 19, .mv (.t 13), none⟩,
 ⟨some 20, .mv (.t 1), none⟩,
 ⟨some 21, .bin .lss (.t 19) (.t 20), none⟩,
 ⟨some 22, .mv (.t 21), none⟩,
 ⟨some 23, .mv (.t 13), (some (22, false))⟩,
 ⟨some 24, .mv (.t 1), (some (22, false))⟩,
 ⟨some 25, .mv (.t 2), (some (22, false))⟩,
 ⟨some 26, .bin .add (.t 24) (.t 25), (some (22, false))⟩,
 ⟨some 27, .bin .geq (.t 23) (.t 26), (some (22, false))⟩,
 ⟨some 28, .pick (.t 22) (.c (.bool true)) (.t 27), none⟩,
 ⟨some 29, .mv (.t 28), none⟩,
 ⟨some 30, .mv (.t 12), (some (29, false))⟩,
 ⟨some 31, .len .s (.t 30), (some (29, false))⟩,
 ⟨some 32, .bin .eql (.t 31) (.c (.int .i64 85)), (some (29, false))⟩,
 ⟨some 33, .pick (.t 29) (.c (.bool true)) (.t 32), none⟩] [0, 1, 2, 3, 11, 12, 13, 33]) (
 .cond (.t 33) (
 .seq (
 .reg [
 ⟨some 8, .mv (.c (.nils)), none⟩,
 ⟨some 9, .mv (.c (.nils)), none⟩,
 ⟨some 10, .mv (.c (.int .i64 2)), none⟩] [8, 9, 10]) (
 .lift 8 none 1 .byte (
 .lift 9 none 8 (.int .i64) (
 .ret)))) (
 .skip))) (
 .seq (
 .reg [
 ⟨some 35, .mv (.t 0), none⟩,
 ⟨some 36, .mv (.t 13), none⟩,
 ⟨some 37, .call 31 [none, none] [(.t 35), (.t 36)], none⟩,
 ⟨some 34, .mv (.t 37), none⟩,
 ⟨some 38, .ext (.t 34) 0, none⟩,
 ⟨some 39, .ext (.t 34) 1, none⟩,
 ⟨some 14, .mv (.t 38), none⟩,
 ⟨some 15, .mv (.t 39), none⟩] [0, 1, 2, 3, 11, 12, 13, 14, 15]) (
 .seq (
 .seq (
 .reg [
 ⟨some 40, .mv (.t 15), none⟩,
 ⟨some 41, .bin .neq (.t 40) (.c (.int .i64 0)), none⟩] [0, 1, 2, 3, 11, 12, 13, 14, 41]) (
 .cond (.t 41) (
 .seq (
 .reg [
 ⟨some 8, .mv (.c (.nils)), none⟩,
 ⟨some 9, .mv (.c (.nils)), none⟩,
 ⟨some 10, .mv (.c (.int .i64 9)), none⟩] [8, 9, 10]) (
 .lift 8 none 1 .byte (
 .lift 9 none 8 (.int .i64) (
 .ret)))) (
 .skip))) (
 .seq (
 .reg [
 ⟨some 43, .mv (.t 13), none⟩,
 ⟨some 44, .cv .u32 (.t 43), none⟩,
 ⟨some 45, .mv (.t 14), none⟩,
 ⟨some 46, .call 32 [none, none, (some (1, .byte))] [(.c (.int .u8 80)), (.t 44), (.t 45)], none⟩,
 ⟨some 42, .mv (.t 46), none⟩,
 ⟨some 47, .ext (.t 42) 0, none⟩,
 ⟨some 48, .ext (.t 42) 1, none⟩,
 ⟨some 16, .mv (.t 47), none⟩,
 ⟨some 17, .mv (.t 48), none⟩] [0, 1, 2, 3, 11, 12, 13, 16, 17]) (
 .seq (
 .seq (
 .reg [
 ⟨some 49, .mv (.t 17), none⟩,
 ⟨some 50, .not (.t 49), none⟩,
 ⟨some 51, .mv (.t 50), none⟩,
 ⟨some 52, .mv (.t 16), (some (51, false))⟩,
 ⟨some 53, .len .s (.t 52), (some (51, false))⟩,
 ⟨some 54, .bin .lss (.t 53) (.c (.int .i64 4)), (some (51, false))⟩,
 ⟨some 55, .pick (.t 51) (.c (.bool true)) (.t 54), none⟩,
 ⟨some 56, .mv (.t 55), none⟩,
 ⟨some 57, .mv (.t 16), (some (56, false))⟩,
 ⟨some 58, .ia 1 (.t 57) (.c (.int .i64 0)), (some (56, false))⟩,
 ⟨some 59, .ld (.t 58), (some (56, false))⟩,
 ⟨some 60, .bin .eql (.t 59) (.c (.int .u8 1)), (some (56, false))⟩,
 ⟨some 61, .mv (.t 13), (some (56, false))⟩,
 ⟨some 62, .mv (.t 3), (some (56, false))⟩,
 ⟨some 63, .bin .eql (.t 61) (.t 62), (some (56, false))⟩,
 ⟨some 64, .binB true (.t 60) (.t 63), (some (56, false))⟩,
 ⟨some 65, .pick (.t 56) (.c (.bool true)) (.t 64), none⟩] [0, 1, 2, 3, 11, 12, 13, 16, 65]) (
 .cond (.t 65) (
 .seq (
 .reg [
 ⟨some 8, .mv (.c (.nils)), none⟩,
 ⟨some 9, .mv (.c (.nils)), none⟩,
 ⟨some 10, .mv (.c (.int .i64 2)), none⟩] [8, 9, 10]) (
 .lift 8 none 1 .byte (
 .lift 9 none 8 (.int .i64) (
 .ret)))) (
 .skip))) (
 .seq (
 .reg [
 ⟨some 66, .mv (.t 11), none⟩,
 ⟨some 67, .mv (.t 16), none⟩,
 ⟨some 68, .slR 1 (.t 67) (some (.c (.int .i64 4))) none, none⟩,
 ⟨some 69, .app 1 .byte (.t 66) (.t 68), none⟩,
 ⟨some 11, .mv (.t 69), none⟩] [0, 1, 2, 3, 11, 12, 13, 16]) (
 .seq (
 .reg [
 ⟨some 70, .mv (.t 12), none⟩,
 ⟨some 71, .mv (.t 13), none⟩,
 ⟨some 72, .bsl 8 (.int .i64) 1 [(0, (.t 71))], none⟩,
 ⟨some 73, .app 8 (.int .i64) (.t 70) (.t 72), none⟩,
 ⟨some 12, .mv (.t 73), none⟩] [0, 1, 2, 3, 11, 12, 16]) (
 .seq (
 .regD [
 ⟨some 74, .mv (.t 16), none⟩,
 ⟨some 75, .ia 1 (.t 74) (.c (.int .i64 1)), none⟩,
 ⟨some 76, .ld (.t 75), none⟩,
 ⟨some 77, .cv .i64 (.t 76), none⟩,
 ⟨some 78, .mv (.t 16), none⟩,
 ⟨some 79, .ia 1 (.t 78) (.c (.int .i64 2)), none⟩,
 ⟨some 80, .ld (.t 79), none⟩,
 ⟨some 81, .cv .i64 (.t 80), none⟩,
 ⟨some 82, .bin .shl (.t 81) (.c (.int .u64 8)), none⟩,
 ⟨some 83, .bin .or (.t 77) (.t 82), none⟩,
 ⟨some 84, .mv (.t 16), none⟩,
 ⟨some 85, .ia 1 (.t 84) (.c (.int .i64 3)), none⟩,
 ⟨some 86, .ld (.t 85), none⟩,
 ⟨some 87, .cv .i64 (.t 86), none⟩,
 ⟨some 88, .bin .shl (.t 87) (.c (.int .u64 16)), none⟩,
 ⟨some 89, .bin .or (.t 83) (.t 88), none⟩,
 ⟨some 13, .mv (.t 89), none⟩] [.q 0, .q 1, .q 2, .q 3, .q 4, .q 5, .q 6, .q 7, .q 8, .q 9, .q 10, .q 11, .q 12, .q 13, .q 14, .q 15, .q 16] [0, 1, 2, 3, 11, 12, 13]) (
 .seq (
 .seq (
 .reg [
 ⟨some 90, .mv (.t 13), none⟩,
 ⟨some 91, .bin .eql (.t 90) (.c (.int .i64 0)), none⟩] [0, 1, 2, 3, 11, 12, 13, 91]) (
 .cond (.t 91) (
 .seq (
 .reg [
 ⟨some 92, .mv (.t 11), none⟩,
 ⟨some 93, .mv (.t 12), none⟩,
 ⟨some 8, .mv (.t 92), none⟩,
 ⟨some 9, .mv (.t 93), none⟩,
 ⟨some 10, .mv (.c (.int .i64 0)), none⟩] [8, 9, 10]) (
 .lift 8 none 1 .byte (
 .lift 9 none 8 (.int .i64) (
 .ret)))) (
 .skip))) (
 .seq (
 .reg [
 ⟨some 94, .mv (.t 13), none⟩,
 ⟨some 95, .bin .sub (.t 94) (.c (.int .i64 1)), none⟩,
 ⟨some 13, .mv (.t 95), none⟩] [0, 1, 2, 3, 11, 12, 13]) (
 .seq (
 .reg [
 ⟨some 96, .mv (.t 12), none⟩,
 ⟨some 97, .mv (.t 13), none⟩,
 ⟨some 98, .call 39 [(some (8, (.int .i64))), none] [(.t 96), (.t 97)], none⟩] [0, 1, 2, 3, 11, 12, 13, 98]) (
 .cond (.t 98) (
 .seq (
 .reg [
 ⟨some 8, .mv (.c (.nils)), none⟩,
 ⟨some 9, .mv (.c (.nils)), none⟩,
 ⟨some 10, .mv (.c (.int .i64 2)), none⟩] [8, 9, 10]) (
 .lift 8 none 1 .byte (
 .lift 9 none 8 (.int .i64) (
 .ret)))) (
 .skip)))))))))))))))))))))))
def r28 : List RT := [.t 8, .t 9, .t 10]

/-- reeve/reeveref10.Whole -/
def a37 : AS :=
 .seq (
 .reg [
 ⟨some 6, .mv (.c (.bool false)), none⟩] [0, 1, 2]) (
 .seq (
 .reg [
 ⟨some 12, .mv (.t 1), none⟩,
 ⟨some 13, .mv (.t 0), none⟩,
 ⟨some 14, .bin .sub (.t 12) (.t 13), none⟩,
 ⟨some 15, .mm true (.t 14) (.c (.int .i64 0)), none⟩,
 ⟨some 16, .mks 1 .bool (.t 15) (.t 15), none⟩,
 ⟨some 7, .mv (.t 16), none⟩] [0, 1, 2, 7]) (
 .seq (
 .reg [
 ⟨some 8, .mv (.c (.int .i64 0)), none⟩] [0, 1, 2, 7, 8]) (
 .seq (
 .seq (
 .reg [
 ⟨some 17, .mv (.t 2), none⟩,
 ⟨some 18, .len .s (.t 17), none⟩,
 ⟨some 19, .mv (.c (.int .i64 0)), none⟩] [0, 1, 2, 7, 8, 18, 19]) (
 .block 0 (
 .loop 1 [0, 1, 2, 7, 8, 18, 19] (
 .seq (
 .reg [
 ⟨some 20, .bin .lss (.t 19) (.t 18), none⟩] [0, 1, 2, 7, 8, 18, 19, 20]) (
 .seq (
 .cond (.t 20) (
 .skip) (
 .exit 0)) (
 .seq (
 .block 1 (
 .seq (
 .reg [
 ⟨some 21, .mv (.t 19), none⟩,
 ⟨some 9, .mv (.t 21), none⟩] [0, 1, 2, 7, 8, 9, 18, 19]) (
 .seq (
 .reg [
 ⟨some 22, .mv (.t 2), none⟩,
 ⟨some 23, .mv (.t 9), none⟩,
 ⟨some 24, .ia 1 (.t 22) (.t 23), none⟩,
 ⟨some 25, .ld (.t 24), none⟩,
 ⟨some 26, .len .s (.t 25), none⟩,
 ⟨some 27, .mv (.c (.int .i64 0)), none⟩] [0, 1, 2, 7, 8, 9, 18, 19, 25, 26, 27]) (
 .block 2 (
 .loop 2 [0, 1, 2, 7, 8, 9, 18, 19, 25, 26, 27] (
 .seq (
 .reg [
 ⟨some 28, .bin .lss (.t 27) (.t 26), none⟩] [0, 1, 2, 7, 8, 9, 18, 19, 25, 26, 27, 28]) (
 .seq (
 .cond (.t 28) (
 .skip) (
 .exit 2)) (
 .seq (
 .block 3 (
 .seq (
 .reg [
 ⟨some 29, .mv (.t 27), none⟩,
 ⟨some 30, .ia 1 (.t 25) (.t 27), none⟩,
 ⟨some 31, .ld (.t 30), none⟩,
 ⟨some 10, .mv (.t 29), none⟩,
 ⟨some 11, .mv (.t 31), none⟩] [0, 1, 2, 7, 8, 9, 10, 11, 18, 19, 25, 26, 27]) (
 .seq (
 .seq (
 .reg [
 ⟨some 32, .mv (.t 11), none⟩,
 ⟨some 33, .mv (.t 0), none⟩,
 ⟨some 34, .bin .lss (.t 32) (.t 33), none⟩,
 ⟨some 35, .mv (.t 34), none⟩,
 ⟨some 36, .mv (.t 11), (some (35, false))⟩,
 ⟨some 37, .mv (.t 1), (some (35, false))⟩,
 ⟨some 38, .bin .geq (.t 36) (.t 37), (some (35, false))⟩,
 ⟨some 39, .pick (.t 35) (.c (.bool true)) (.t 38), none⟩,
 ⟨some 40, .mv (.t 39), none⟩,
 ⟨some 41, .mv (.t 7), (some (40, false))⟩,
 ⟨some 42, .mv (.t 11), (some (40, false))⟩,
 ⟨some 43, .mv (.t 0), (some (40, false))⟩,
 ⟨some 44, .bin .sub (.t 42) (.t 43), (some (40, false))⟩,
 ⟨some 45, .ia 1 (.t 41) (.t 44), (some (40, false))⟩,
 ⟨some 46, .ld (.t 45), (some (40, false))⟩,
 ⟨some 47, .pick (.t 40) (.c (.bool true)) (.t 46), none⟩,
 ⟨some 48, .mv (.t 47), none⟩,
 ⟨some 49, .mv (.t 10), (some (48, false))⟩,
 ⟨some 50, .bin .gtr (.t 49) (.c (.int .i64 0)), (some (48, false))⟩,
 ⟨some 51, .mv (.t 50), (some (48, false))⟩,
 ⟨some 52, .mv (.t 2), (some (51, true))⟩,
 ⟨some 53, .mv (.t 9), (some (51, true))⟩,
 ⟨some 54, .ia 1 (.t 52) (.t 53), (some (51, true))⟩,
 ⟨some 55, .ld (.t 54), (some (51, true))⟩,
 ⟨some 56, .mv (.t 10), (some (51, true))⟩,
 ⟨some 57, .bin .sub (.t 56) (.c (.int .i64 1)), (some (51, true))⟩,
 ⟨some 58, .ia 1 (.t 55) (.t 57), (some (51, true))⟩,
 ⟨some 59, .ld (.t 58), (some (51, true))⟩,
 ⟨some 60, .mv (.t 11), (some (51, true))⟩,
 ⟨some 61, .bin .geq (.t 59) (.t 60), (some (51, true))⟩,
 ⟨some 62, .pick (.t 51) (.t 61) (.c (.bool false)), (some (48, false))⟩,
 ⟨some 63, .pick (.t 48) (.c (.bool true)) (.t 62), none⟩] [0, 1, 2, 7, 8, 9, 11, 18, 19, 25, 26, 27, 63]) (
 .cond (.t 63) (
 .seq (
 .reg [
 ⟨some 6, .mv (.c (.bool false)), none⟩] [6]) (
 .ret)) (
 .skip))) (
 .seq (
 .reg [
 ⟨some 64, .mv (.t 7), none⟩,
 ⟨some 65, .mv (.t 11), none⟩,
 ⟨some 66, .mv (.t 0), none⟩,
 ⟨some 67, .bin .sub (.t 65) (.t 66), none⟩,
 ⟨some 68, .ia 1 (.t 64) (.t 67), none⟩,
 ⟨none, .st 1 (.t 68) (.c (.bool true)), none⟩] [0, 1, 2, 7, 8, 9, 18, 19, 25, 26, 27]) (
 .reg [
 ⟨some 69, .mv (.t 8), none⟩,
 ⟨some 70, .bin .add (.t 69) (.c (.int .i64 1)), none⟩,
 ⟨some 8, .mv (.t 70), none⟩] [0, 1, 2, 7, 8, 9, 18, 19, 25, 26, 27]))))) (
 .reg [
 ⟨some 71, .bin .add (.t 27) (.c (.int .i64 1)), none⟩,
 ⟨some 27, .mv (.t 71), none⟩] [0, 1, 2, 7, 8, 9, 18, 19, 25, 26, 27]))))))))) (
 .reg [
 ⟨some 72, .bin .add (.t 19) (.c (.int .i64 1)), none⟩,
 ⟨some 19, .mv (.t 72), none⟩] [0, 1, 2, 7, 8, 18, 19]))))))) (
 .seq (
 .reg [
 ⟨some 73, .mv (.t 8), none⟩,
 ⟨some 74, .mv (.t 7), none⟩,
 ⟨some 75, .len .s (.t 74), none⟩,
 ⟨some 76, .bin .eql (.t 73) (.t 75), none⟩,
 ⟨some 6, .mv (.t 76), none⟩] [6]) (
 .ret)))))
def r37 : List RT := [.t 6]

/-- reeve/reevelaw08.PagesLong -/
def a3 : AS :=
 .seq (
 .reg [
 ⟨some 4, .mv (.c (.bool false)), none⟩] [0, 1]) (
 .seq (
 .seq (
 .reg [
 ⟨some 13, .call 9 [] [], none⟩,
 ⟨some 14, .not (.t 13), none⟩] [0, 1, 14]) (
 .cond (.t 14) (
 .seq (
 .reg [
 ⟨some 4, .mv (.c (.bool false)), none⟩] [4]) (
 .ret)) (
 .skip))) (
 .seq (
 .reg [
 ⟨some 16, .call 11 [none] [(.c (.int .i64 100))], none⟩,
 ⟨some 17, .mv (.t 1), none⟩,
 ⟨some 18, .bin .rem (.t 17) (.c (.int .u8 16)), none⟩,
 ⟨some 19, .cv .i64 (.t 18), none⟩,
 ⟨some 20, .bin .add (.c (.int .i64 84)) (.t 19), none⟩,
 ⟨some 21, .call 10 [none, none, none, (some (8, (.int .i64)))] [(.t 16), (.c (.int .i64 0)), (.t 20), (.c (.nils))], none⟩,
 ⟨some 15, .mv (.t 21), none⟩,
 ⟨some 22, .ext (.t 15) 0, none⟩,
 ⟨some 23, .ext (.t 15) 1, none⟩,
 ⟨some 5, .mv (.t 22), none⟩,
 ⟨some 6, .mv (.t 23), none⟩] [0, 1, 5]) (
 .seq (
 .reg [
 ⟨some 24, .mv (.t 0), none⟩,
 ⟨some 25, .cv .i64 (.t 24), none⟩,
 ⟨some 26, .bin .add (.c (.int .i64 19872)) (.t 25), none⟩,
 ⟨some 7, .mv (.t 26), none⟩] [1, 5, 7]) (
 .seq (
 .reg [
 ⟨some 28, .mv (.t 5), none⟩,
 ⟨some 29, .mv (.t 7), none⟩,
 ⟨some 30, .mks 1 .byte (.t 29) (.t 29), none⟩,
 ⟨some 31, .call 12 [none, (some (1, .byte))] [(.t 28), (.t 30)], none⟩,
 ⟨some 27, .mv (.t 31), none⟩,
 ⟨some 32, .ext (.t 27) 0, none⟩,
 ⟨some 33, .ext (.t 27) 1, none⟩,
 ⟨some 8, .mv (.t 32), none⟩,
 ⟨some 9, .mv (.t 33), none⟩] [1, 5, 7, 8, 9]) (
 .seq (
 .reg [
 ⟨some 10, .mv (.c (.int .i64 0)), none⟩] [1, 5, 7, 8, 9, 10]) (
 .seq (
 .seq (
 .reg [
 ⟨some 34, .mv (.t 7), none⟩,
 ⟨some 35, .call 13 [none] [(.t 34)], none⟩,
 ⟨some 36, .mv (.t 1), none⟩,
 ⟨some 37, .bin .rem (.t 36) (.c (.int .u8 16)), none⟩,
 ⟨some 38, .cv .i64 (.t 37), none⟩,
 ⟨some 39, .bin .add (.c (.int .i64 84)) (.t 38), none⟩,
 ⟨some 40, .bin .gtr (.t 35) (.t 39), none⟩] [1, 5, 7, 8, 9, 10, 40]) (
 .cond (.t 40) (
 .reg [
 ⟨some 10, .mv (.c (.int .i64 6)), none⟩] [1, 5, 7, 8, 9, 10]) (
 .skip))) (
 .seq (
 .seq (
 .reg [
 ⟨some 41, .mv (.t 7), none⟩,
 ⟨some 42, .bin .gtr (.t 41) (.c (.int .i64 20000)), none⟩] [1, 5, 7, 8, 9, 10, 42]) (
 .cond (.t 42) (
 .reg [
 ⟨some 10, .mv (.c (.int .i64 4)), none⟩] [1, 5, 7, 8, 9, 10]) (
 .skip))) (
 .seq (
 .reg [
 ⟨some 44, .mv (.t 5), none⟩,
 ⟨some 45, .mv (.t 8), none⟩,
 ⟨some 46, .call 14 [none, none] [(.t 44), (.t 45)], none⟩,
 ⟨some 43, .mv (.t 46), none⟩,
 ⟨some 47, .ext (.t 43) 0, none⟩,
 ⟨some 48, .ext (.t 43) 1, none⟩,
 ⟨some 11, .mv (.t 47), none⟩,
 ⟨some 12, .mv (.t 48), none⟩] [1, 5, 7, 9, 10, 11, 12]) (
 .seq (
 .reg [
 ⟨some 49, .mv (.t 9), none⟩,
 ⟨some 50, .mv (.t 10), none⟩,
 ⟨some 51, .bin .eql (.t 49) (.t 50), none⟩,
 ⟨some 52, .mv (.t 51), none⟩,
 ⟨some 53, .mv (.t 9), (some (52, true))⟩,
 ⟨some 54, .bin .neq (.t 53) (.c (.int .i64 0)), (some (52, true))⟩,
 ⟨some 55, .mv (.t 54), (some (52, true))⟩,
 ⟨some 56, .mv (.t 12), (some (55, false))⟩,
 ⟨some 57, .bin .eql (.t 56) (.c (.int .i64 0)), (some (55, false))⟩,
 ⟨some 58, .mv (.t 57), (some (55, false))⟩,
 ⟨some 59, .mv (.t 11), (some (58, true))⟩,
 ⟨some 60, .len .s (.t 59), (some (58, true))⟩,
 ⟨some 61, .mv (.t 7), (some (58, true))⟩,
 ⟨some 62, .bin .eql (.t 60) (.t 61), (some (58, true))⟩,
 ⟨some 63, .pick (.t 58) (.t 62) (.c (.bool false)), (some (55, false))⟩,
 ⟨some 64, .pick (.t 55) (.c (.bool true)) (.t 63), (some (52, true))⟩,
 ⟨some 65, .pick (.t 52) (.t 64) (.c (.bool false)), none⟩,
 ⟨some 66, .mv (.t 65), none⟩,
 ⟨some 67, .mv (.t 9), (some (66, true))⟩,
 ⟨some 68, .bin .eql (.t 67) (.c (.int .i64 0)), (some (66, true))⟩,
 ⟨some 69, .mv (.t 68), (some (66, true))⟩,
 ⟨some 70, .mv (.t 5), (some (69, false))⟩,
 ⟨some 71, .call 15 [none] [(.t 70)], (some (69, false))⟩,
 ⟨some 72, .len .s (.t 71), (some (69, false))⟩,
 ⟨some 73, .mv (.t 1), (some (69, false))⟩,
 ⟨some 74, .bin .rem (.t 73) (.c (.int .u8 16)), (some (69, false))⟩,
 ⟨some 75, .cv .i64 (.t 74), (some (69, false))⟩,
 ⟨some 76, .bin .add (.c (.int .i64 84)) (.t 75), (some (69, false))⟩,
 ⟨some 77, .bin .eql (.t 72) (.t 76), (some (69, false))⟩,
 ⟨some 78, .pick (.t 69) (.c (.bool true)) (.t 77), (some (66, true))⟩,
 ⟨some 79, .pick (.t 66) (.t 78) (.c (.bool false)), none⟩,
 ⟨some 4, .mv (.t 79), none⟩] [4]) (
 .ret))))))))))
def r3 : List RT := [.t 4]

/-- reeve/reevelaw08.PagesNames -/
def a4 : AS :=
 .seq (
 .reg [
 ⟨some 4, .mv (.c (.bool false)), none⟩] [0, 1]) (
 .seq (
 .seq (
 .reg [
 ⟨some 26, .call 9 [] [], none⟩,
 ⟨some 27, .not (.t 26), none⟩,
 ⟨some 28, .mv (.t 27), none⟩,
 ⟨some 29, .mv (.t 0), (some (28, false))⟩,
 ⟨some 30, .len .s (.t 29), (some (28, false))⟩,
 ⟨some 31, .bin .gtr (.t 30) (.c (.int .i64 20)), (some (28, false))⟩,
 ⟨some 32, .pick (.t 28) (.c (.bool true)) (.t 31), none⟩] [0, 1, 32]) (
 .cond (.t 32) (
 .seq (
 .reg [
 ⟨some 33, .call 9 [] [], none⟩,
 ⟨some 4, .mv (.t 33), none⟩] [4]) (
 .ret)) (
 .skip))) (
 .seq (
 .reg [
 ⟨some 34, .call 11 [none] [(.c (.int .i64 100))], none⟩,
 ⟨some 5, .mv (.t 34), none⟩] [0, 1, 5]) (
 .seq (
 .reg [
 ⟨some 36, .mv (.t 5), none⟩,
 ⟨some 37, .call 10 [none, none, none, (some (8, (.int .i64)))] [(.t 36), (.c (.int .i64 10)), (.c (.int .i64 80)), (.c (.nils))], none⟩,
 ⟨some 35, .mv (.t 37), none⟩,
 ⟨some 38, .ext (.t 35) 0, none⟩,
 ⟨some 39, .ext (.t 35) 1, none⟩,
 ⟨some 6, .mv (.t 38), none⟩,
 ⟨some 7, .mv (.t 39), none⟩] [0, 1, 5, 6]) (
 .seq (
 .reg [
 ⟨some 8, .mv (.c (.nils)), none⟩] [0, 1, 5, 6, 8]) (
 .seq (
 .seq (
 .reg [
 ⟨some 40, .mv (.t 0), none⟩,
 ⟨some 41, .len .s (.t 40), none⟩,
 ⟨some 42, .mv (.c (.int .i64 0)), none⟩] [0, 1, 5, 6, 8, 41, 42]) (
 .block 0 (
 .lift 8 none 8 (.int .i64) (
 .lift 5 (some 0) 24 (.sl 1 .byte) (
 .lift 5 (some 1) 32 (.pair (.int .i64) (.sl 1 .byte)) (
 .loop 1 [0, 1, 5, 6, 8, 41, 42] (
 .seq (
 .reg [
 ⟨some 43, .bin .lss (.t 42) (.t 41), none⟩] [0, 1, 5, 6, 8, 41, 42, 43]) (
 .seq (
 .cond (.t 43) (
 .skip) (
 .exit 0)) (
 .seq (
 .block 1 (
 .seq (
 .reg [
 ⟨some 44, .mv (.t 42), none⟩,
 ⟨some 9, .mv (.t 44), none⟩] [0, 1, 5, 6, 8, 9, 41, 42]) (
 .seq (
 .reg [
 ⟨some 46, .mv (.t 6), none⟩,
 ⟨some 47, .mv (.t 0), none⟩,
 ⟨some 48, .mv (.t 9), none⟩,
 ⟨some 49, .ia 3 (.t 47) (.t 48), none⟩,
 ⟨some 50, .ldA 3 (.t 49), none⟩,
 ⟨some 51, .call 16 [none] [(.t 50)], none⟩,
 ⟨some 52, .call 12 [none, (some (1, .byte))] [(.t 46), (.t 51)], none⟩,
 ⟨some 45, .mv (.t 52), none⟩,
 ⟨some 53, .ext (.t 45) 0, none⟩,
 ⟨some 54, .ext (.t 45) 1, none⟩,
 ⟨some 10, .mv (.t 53), none⟩,
 ⟨some 11, .mv (.t 54), none⟩] [0, 1, 5, 6, 8, 10, 11, 41, 42]) (
 .seq (
 .reg [
 ⟨some 55, .mv (.t 11), none⟩,
 ⟨some 56, .bin .eql (.t 55) (.c (.int .i64 0)), none⟩] [0, 1, 5, 6, 8, 10, 41, 42, 56]) (
 .cond (.t 56) (
 .reg [
 ⟨some 57, .mv (.t 8), none⟩,
 ⟨some 58, .mv (.t 10), none⟩,
 ⟨some 59, .bsl 8 (.int .i64) 1 [(0, (.t 58))], none⟩,
 ⟨some 60, .app 8 (.int .i64) (.t 57) (.t 59), none⟩,
 ⟨some 8, .mv (.t 60), none⟩] [0, 1, 5, 6, 8, 41, 42]) (
 .skip)))))) (
 .reg [
 ⟨some 61, .bin .add (.t 42) (.c (.int .i64 1)), none⟩,
 ⟨some 42, .mv (.t 61), none⟩] [0, 1, 5, 6, 8, 41, 42])))))))))) (
 .seq (
 .reg [
 ⟨some 62, .mv (.t 6), none⟩,
 ⟨some 63, .call 15 [none] [(.t 62)], none⟩,
 ⟨some 12, .mv (.t 63), none⟩] [1, 5, 6, 8, 12]) (
 .seq (
 .seq (
 .reg [
 ⟨some 64, .mv (.t 12), none⟩,
 ⟨some 65, .len .s (.t 64), none⟩,
 ⟨some 66, .bin .gtr (.t 65) (.c (.int .i64 0)), none⟩] [1, 5, 6, 8, 12, 66]) (
 .cond (.t 66) (
 .seq (
 .reg [
 ⟨some 68, .mv (.t 5), none⟩,
 ⟨some 69, .mv (.t 12), none⟩,
 ⟨some 70, .mv (.t 1), none⟩,
 ⟨some 71, .cv .u64 (.t 70), none⟩,
 ⟨some 72, .mv (.t 12), none⟩,
 ⟨some 73, .len .s (.t 72), none⟩,
 ⟨some 74, .cv .u64 (.t 73), none⟩,
 ⟨some 75, .bin .rem (.t 71) (.t 74), none⟩,
 ⟨some 76, .cv .i64 (.t 75), none⟩,
 ⟨some 77, .ia 1 (.t 69) (.t 76), none⟩,
 ⟨some 78, .ld (.t 77), none⟩,
 ⟨some 79, .bsl 8 (.int .i64) 1 [(0, (.t 78))], none⟩,
 ⟨some 80, .call 10 [none, none, none, (some (8, (.int .i64)))] [(.t 68), (.c (.int .i64 10)), (.c (.int .i64 80)), (.t 79)], none⟩,
 ⟨some 67, .mv (.t 80), none⟩,
 ⟨some 81, .ext (.t 67) 0, none⟩,
 ⟨some 82, .ext (.t 67) 1, none⟩,
 ⟨some 13, .mv (.t 81), none⟩,
 ⟨some 14, .mv (.t 82), none⟩] [5, 6, 8, 14]) (
 .seq (
 .reg [
 ⟨some 83, .mv (.t 14), none⟩,
 ⟨some 84, .bin .neq (.t 83) (.c (.int .i64 2)), none⟩] [5, 6, 8, 84]) (
 .cond (.t 84) (
 .seq (
 .reg [
 ⟨some 4, .mv (.c (.bool false)), none⟩] [4]) (
 .ret)) (
 .skip)))) (
 .skip))) (
 .seq (
 .seq (
 .reg [
 ⟨some 85, .mv (.t 8), none⟩,
 ⟨some 86, .len .s (.t 85), none⟩,
 ⟨some 87, .bin .gtr (.t 86) (.c (.int .i64 0)), none⟩] [5, 6, 8, 87]) (
 .cond (.t 87) (
 .seq (
 .seq (
 .regT [
 ⟨some 89, .mv (.t 5), none⟩,
 ⟨some 90, .bsl 8 (.int .i64) 0 [], none⟩,
 ⟨some 91, .mv (.t 8), none⟩,
 ⟨some 92, .app 8 (.int .i64) (.t 90) (.t 91), none⟩,
 ⟨some 93, .mv (.t 8), none⟩,
 ⟨some 94, .ia 1 (.t 93) (.c (.int .i64 0)), none⟩,
 ⟨some 95, .ld (.t 94), none⟩,
 ⟨some 96, .bsl 8 (.int .i64) 1 [(0, (.t 95))], none⟩,
 ⟨some 97, .app 8 (.int .i64) (.t 92) (.t 96), none⟩,
 ⟨some 98, .call 10 [none, none, none, (some (8, (.int .i64)))] [(.t 89), (.c (.int .i64 10)), (.c (.int .i64 80)), (.t 97)], none⟩,
 ⟨some 88, .mv (.t 98), none⟩,
 ⟨some 99, .ext (.t 88) 0, none⟩,
 ⟨some 100, .ext (.t 88) 1, none⟩,
 ⟨some 15, .mv (.t 99), none⟩,
 ⟨some 16, .mv (.t 100), none⟩] (.q 0 (.q 2 (.q 4 (.q 5 (.q 6 (.e 1 [0, 2, 4, 5, 6] (.e 3 [0, 4, 5, 6] (.e 7 [0, 2] (.e 8 [0] (.e 9 [] (.q 10 (.q 11 (.q 12 (.q 13 (.q 14 .done))))) .no) .no) .no) (.e 7 [0, 2] (.e 3 [0, 4, 5, 6] (.e 8 [0] (.e 9 [] (.q 10 (.q 11 (.q 12 (.q 13 (.q 14 .done))))) .no) .no) .no) .no)) (.e 7 [0, 2] (.e 1 [0, 2, 4, 5, 6] (.e 3 [0, 4, 5, 6] (.e 8 [0] (.e 9 [] (.q 10 (.q 11 (.q 12 (.q 13 (.q 14 .done))))) .no) .no) .no) .no) .no))))))) [5, 6, 8, 16]) (
 .seq (
 .reg [
 ⟨some 101, .mv (.t 16), none⟩,
 ⟨some 102, .bin .neq (.t 101) (.c (.int .i64 2)), none⟩] [5, 6, 8, 102]) (
 .cond (.t 102) (
 .seq (
 .reg [
 ⟨some 4, .mv (.c (.bool false)), none⟩] [4]) (
 .ret)) (
 .skip)))) (
 .seq (
 .reg [
 ⟨some 103, .mv (.t 6), none⟩,
 ⟨some 104, .mv (.t 8), none⟩,
 ⟨some 105, .ia 1 (.t 104) (.c (.int .i64 0)), none⟩,
 ⟨some 106, .ld (.t 105), none⟩,
 ⟨some 107, .call 17 [none, none] [(.t 103), (.t 106)], none⟩,
 ⟨some 17, .mv (.t 107), none⟩] [5, 8, 17]) (
 .seq (
 .reg [
 ⟨some 108, .mv (.t 17), none⟩,
 ⟨some 109, .len .s (.t 108), none⟩,
 ⟨some 110, .bin .gtr (.t 109) (.c (.int .i64 1)), none⟩] [5, 8, 17, 110]) (
 .cond (.t 110) (
 .seq (
 .reg [
 ⟨some 112, .mv (.t 5), none⟩,
 ⟨some 113, .mv (.t 17), none⟩,
 ⟨some 114, .slR 1 (.t 113) (some (.c (.int .i64 1))) (some (.c (.int .i64 2))), none⟩,
 ⟨some 115, .call 10 [none, none, none, (some (8, (.int .i64)))] [(.t 112), (.c (.int .i64 10)), (.c (.int .i64 80)), (.t 114)], none⟩,
 ⟨some 111, .mv (.t 115), none⟩,
 ⟨some 116, .ext (.t 111) 0, none⟩,
 ⟨some 117, .ext (.t 111) 1, none⟩,
 ⟨some 18, .mv (.t 116), none⟩,
 ⟨some 19, .mv (.t 117), none⟩] [5, 8, 19]) (
 .seq (
 .reg [
 ⟨some 118, .mv (.t 19), none⟩,
 ⟨some 119, .bin .neq (.t 118) (.c (.int .i64 2)), none⟩] [5, 8, 119]) (
 .cond (.t 119) (
 .seq (
 .reg [
 ⟨some 4, .mv (.c (.bool false)), none⟩] [4]) (
 .ret)) (
 .skip)))) (
 .skip))))) (
 .skip))) (
 .seq (
 .reg [
 ⟨some 121, .mv (.t 5), none⟩,
 ⟨some 122, .bsl 8 (.int .i64) 1 [(0, (.c (.int .i64 90)))], none⟩,
 ⟨some 123, .call 10 [none, none, none, (some (8, (.int .i64)))] [(.t 121), (.c (.int .i64 10)), (.c (.int .i64 80)), (.t 122)], none⟩,
 ⟨some 120, .mv (.t 123), none⟩,
 ⟨some 124, .ext (.t 120) 0, none⟩,
 ⟨some 125, .ext (.t 120) 1, none⟩,
 ⟨some 20, .mv (.t 124), none⟩,
 ⟨some 21, .mv (.t 125), none⟩] [5, 8, 21]) (
 .seq (
 .reg [
 ⟨some 127, .mv (.t 5), none⟩,
 ⟨some 128, .bsl 8 (.int .i64) 1 [(0, (.c (.int .i64 9)))], none⟩,
 ⟨some 129, .call 10 [none, none, none, (some (8, (.int .i64)))] [(.t 127), (.c (.int .i64 10)), (.c (.int .i64 80)), (.t 128)], none⟩,
 ⟨some 126, .mv (.t 129), none⟩,
 ⟨some 130, .ext (.t 126) 0, none⟩,
 ⟨some 131, .ext (.t 126) 1, none⟩,
 ⟨some 22, .mv (.t 130), none⟩,
 ⟨some 23, .mv (.t 131), none⟩] [5, 8, 21, 23]) (
 .seq (
 .reg [
 ⟨some 133, .mv (.t 5), none⟩,
 ⟨some 134, .mv (.t 8), none⟩,
 ⟨some 135, .call 10 [none, none, none, (some (8, (.int .i64)))] [(.t 133), (.c (.int .i64 10)), (.c (.int .i64 80)), (.t 134)], none⟩,
 ⟨some 132, .mv (.t 135), none⟩,
 ⟨some 136, .ext (.t 132) 0, none⟩,
 ⟨some 137, .ext (.t 132) 1, none⟩,
 ⟨some 24, .mv (.t 136), none⟩,
 ⟨some 25, .mv (.t 137), none⟩] [21, 23, 25]) (
 .seq (
 .reg [
 ⟨some 138, .mv (.t 21), none⟩,
 ⟨some 139, .bin .eql (.t 138) (.c (.int .i64 2)), none⟩,
 ⟨some 140, .mv (.t 139), none⟩,
 ⟨some 141, .mv (.t 23), (some (140, true))⟩,
 ⟨some 142, .bin .eql (.t 141) (.c (.int .i64 2)), (some (140, true))⟩,
 ⟨some 143, .pick (.t 140) (.t 142) (.c (.bool false)), none⟩,
 ⟨some 144, .mv (.t 143), none⟩,
 ⟨some 145, .mv (.t 25), (some (144, true))⟩,
 ⟨some 146, .bin .eql (.t 145) (.c (.int .i64 0)), (some (144, true))⟩,
 ⟨some 147, .pick (.t 144) (.t 146) (.c (.bool false)), none⟩,
 ⟨some 4, .mv (.t 147), none⟩] [4]) (
 .ret)))))))))))))
def r4 : List RT := [.t 4]

/-- reeve/reevelaw08.PagesAgain -/
def a5 : AS :=
 .seq (
 .reg [
 ⟨some 4, .box (.t 1), none⟩,
 ⟨some 6, .mv (.c (.bool false)), none⟩] [0, 2, 4]) (
 .seq (
 .seq (
 .reg [
 ⟨some 17, .call 9 [] [], none⟩,
 ⟨some 18, .not (.t 17), none⟩,
 ⟨some 19, .mv (.t 18), none⟩,
 ⟨some 20, .mv (.t 0), (some (19, false))⟩,
 ⟨some 21, .len .s (.t 20), (some (19, false))⟩,
 ⟨some 22, .bin .gtr (.t 21) (.c (.int .i64 2000)), (some (19, false))⟩,
 ⟨some 23, .pick (.t 19) (.c (.bool true)) (.t 22), none⟩] [0, 2, 4, 23]) (
 .cond (.t 23) (
 .seq (
 .reg [
 ⟨some 24, .call 9 [] [], none⟩,
 ⟨some 6, .mv (.t 24), none⟩] [6]) (
 .ret)) (
 .skip))) (
 .seq (
 .reg [
 ⟨some 26, .call 11 [none] [(.c (.int .i64 60))], none⟩,
 ⟨some 27, .call 10 [none, none, none, (some (8, (.int .i64)))] [(.t 26), (.c (.int .i64 0)), (.c (.int .i64 60)), (.c (.nils))], none⟩,
 ⟨some 25, .mv (.t 27), none⟩,
 ⟨some 28, .ext (.t 25) 0, none⟩,
 ⟨some 29, .ext (.t 25) 1, none⟩,
 ⟨some 7, .mv (.t 28), none⟩,
 ⟨some 8, .mv (.t 29), none⟩] [0, 2, 4, 7]) (
 .seq (
 .reg [
 ⟨some 31, .mv (.t 7), none⟩,
 ⟨some 32, .mv (.t 0), none⟩,
 ⟨some 33, .call 12 [none, (some (1, .byte))] [(.t 31), (.t 32)], none⟩,
 ⟨some 30, .mv (.t 33), none⟩,
 ⟨some 34, .ext (.t 30) 0, none⟩,
 ⟨some 35, .ext (.t 30) 1, none⟩,
 ⟨some 9, .mv (.t 34), none⟩,
 ⟨some 10, .mv (.t 35), none⟩] [0, 2, 4, 7, 9, 10]) (
 .seq (
 .reg [
 ⟨some 36, .ldA 3 (.t 4), none⟩,
 ⟨some 37, .call 16 [none] [(.t 36)], none⟩,
 ⟨some 11, .mv (.t 37), none⟩] [0, 2, 7, 9, 10, 11]) (
 .seq (
 .reg [
 ⟨some 38, .mv (.t 7), none⟩,
 ⟨some 39, .call 15 [none] [(.t 38)], none⟩,
 ⟨some 40, .len .s (.t 39), none⟩,
 ⟨some 12, .mv (.t 40), none⟩] [0, 2, 7, 9, 10, 11, 12]) (
 .seq (
 .seq (
 .reg [
 ⟨some 41, .mv (.t 10), none⟩,
 ⟨some 42, .bin .neq (.t 41) (.c (.int .i64 0)), none⟩,
 ⟨some 43, .mv (.t 42), none⟩,
 ⟨some 44, .mv (.t 11), (some (43, false))⟩,
 ⟨some 45, .len .s (.t 44), (some (43, false))⟩,
 ⟨some 46, .call 13 [none] [(.t 45)], (some (43, false))⟩,
 ⟨some 47, .mv (.t 12), (some (43, false))⟩,
 ⟨some 48, .bin .gtr (.t 46) (.t 47), (some (43, false))⟩,
 ⟨some 49, .pick (.t 43) (.c (.bool true)) (.t 48), none⟩] [0, 2, 7, 9, 10, 11, 12, 49]) (
 .cond (.t 49) (
 .seq (
 .reg [
 ⟨some 50, .mv (.t 10), none⟩,
 ⟨some 51, .bin .eql (.t 50) (.c (.int .i64 0)), none⟩,
 ⟨some 6, .mv (.t 51), none⟩] [6]) (
 .ret)) (
 .skip))) (
 .seq (
 .seq (
 .reg [
 ⟨some 52, .mv (.t 2), none⟩,
 ⟨some 53, .mv (.c (.int .u8 0)), none⟩] [0, 7, 9, 11, 12, 52, 53]) (
 .block 0 (
 .loop 1 [0, 7, 9, 11, 12, 52, 53] (
 .seq (
 .reg [
 ⟨some 54, .bin .lss (.t 53) (.t 52), none⟩] [0, 7, 9, 11, 12, 52, 53, 54]) (
 .seq (
 .cond (.t 54) (
 .skip) (
 .exit 0)) (
 .seq (
 .block 1 (
 .seq (
 .reg [
 ⟨some 56, .mv (.t 7), none⟩,
 ⟨some 57, .mv (.t 11), none⟩,
 ⟨some 58, .call 12 [none, (some (1, .byte))] [(.t 56), (.t 57)], none⟩,
 ⟨some 55, .mv (.t 58), none⟩,
 ⟨some 59, .ext (.t 55) 0, none⟩,
 ⟨some 60, .ext (.t 55) 1, none⟩,
 ⟨some 13, .mv (.t 59), none⟩,
 ⟨some 14, .mv (.t 60), none⟩] [0, 7, 9, 11, 12, 13, 14, 52, 53]) (
 .seq (
 .reg [
 ⟨some 62, .mv (.t 7), none⟩,
 ⟨some 63, .mv (.t 9), none⟩,
 ⟨some 64, .call 14 [none, none] [(.t 62), (.t 63)], none⟩,
 ⟨some 61, .mv (.t 64), none⟩,
 ⟨some 65, .ext (.t 61) 0, none⟩,
 ⟨some 66, .ext (.t 61) 1, none⟩,
 ⟨some 15, .mv (.t 65), none⟩,
 ⟨some 16, .mv (.t 66), none⟩] [0, 7, 9, 11, 12, 13, 14, 15, 16, 52, 53]) (
 .seq (
 .reg [
 ⟨some 67, .mv (.t 14), none⟩,
 ⟨some 68, .bin .neq (.t 67) (.c (.int .i64 0)), none⟩,
 ⟨some 69, .mv (.t 68), none⟩,
 ⟨some 70, .mv (.t 16), (some (69, false))⟩,
 ⟨some 71, .bin .neq (.t 70) (.c (.int .i64 0)), (some (69, false))⟩,
 ⟨some 72, .pick (.t 69) (.c (.bool true)) (.t 71), none⟩,
 ⟨some 73, .mv (.t 72), none⟩,
 ⟨some 74, .mv (.t 15), (some (73, false))⟩,
 ⟨some 75, .b2s (.t 74), (some (73, false))⟩,
 ⟨some 76, .mv (.t 0), (some (73, false))⟩,
 ⟨some 77, .b2s (.t 76), (some (73, false))⟩,
 ⟨some 78, .bin .neq (.t 75) (.t 77), (some (73, false))⟩,
 ⟨some 79, .pick (.t 73) (.c (.bool true)) (.t 78), none⟩,
 ⟨some 80, .mv (.t 79), none⟩,
 ⟨some 81, .mv (.t 13), (some (80, false))⟩,
 ⟨some 82, .mv (.t 9), (some (80, false))⟩,
 ⟨some 83, .bin .eql (.t 81) (.t 82), (some (80, false))⟩,
 ⟨some 84, .pick (.t 80) (.c (.bool true)) (.t 83), none⟩,
 ⟨some 85, .mv (.t 84), none⟩,
 ⟨some 86, .mv (.t 7), (some (85, false))⟩,
 ⟨some 87, .mv (.t 13), (some (85, false))⟩,
 ⟨some 88, .call 18 [none, none] [(.t 86), (.t 87)], (some (85, false))⟩,
 ⟨some 89, .bin .neq (.t 88) (.c (.int .i64 0)), (some (85, false))⟩,
 ⟨some 90, .pick (.t 85) (.c (.bool true)) (.t 89), none⟩,
 ⟨some 91, .mv (.t 90), none⟩,
 ⟨some 92, .mv (.t 7), (some (91, false))⟩,
 ⟨some 93, .call 15 [none] [(.t 92)], (some (91, false))⟩,
 ⟨some 94, .len .s (.t 93), (some (91, false))⟩,
 ⟨some 95, .mv (.t 12), (some (91, false))⟩,
 ⟨some 96, .bin .neq (.t 94) (.t 95), (some (91, false))⟩,
 ⟨some 97, .pick (.t 91) (.c (.bool true)) (.t 96), none⟩] [0, 7, 9, 11, 12, 52, 53, 97]) (
 .cond (.t 97) (
 .seq (
 .reg [
 ⟨some 6, .mv (.c (.bool false)), none⟩] [6]) (
 .ret)) (
 .skip)))))) (
 .reg [
 ⟨some 98, .bin .add (.t 53) (.c (.int .u8 1)), none⟩,
 ⟨some 53, .mv (.t 98), none⟩] [0, 7, 9, 11, 12, 52, 53]))))))) (
 .seq (
 .reg [
 ⟨some 99, .mv (.t 7), none⟩,
 ⟨some 100, .call 19 [none] [(.t 99)], none⟩,
 ⟨some 101, .len .s (.t 100), none⟩,
 ⟨some 102, .bin .eql (.t 101) (.c (.int .i64 1)), none⟩,
 ⟨some 6, .mv (.t 102), none⟩] [6]) (
 .ret)))))))))
def r5 : List RT := [.t 6]

/-- reeve/reevelaw08.PagesPlay -/
def a8 : AS :=
 .seq (
 .reg [
 ⟨some 6, .mv (.c (.bool false)), none⟩] [0, 1, 2]) (
 .seq (
 .seq (
 .reg [
 ⟨some 23, .call 9 [] [], none⟩,
 ⟨some 24, .not (.t 23), none⟩,
 ⟨some 25, .mv (.t 24), none⟩,
 ⟨some 26, .mv (.t 2), (some (25, false))⟩,
 ⟨some 27, .len .s (.t 26), (some (25, false))⟩,
 ⟨some 28, .bin .gtr (.t 27) (.c (.int .i64 60)), (some (25, false))⟩,
 ⟨some 29, .pick (.t 25) (.c (.bool true)) (.t 28), none⟩] [0, 1, 2, 29]) (
 .cond (.t 29) (
 .seq (
 .reg [
 ⟨some 30, .call 9 [] [], none⟩,
 ⟨some 6, .mv (.t 30), none⟩] [6]) (
 .ret)) (
 .skip))) (
 .seq (
 .reg [
 ⟨some 31, .mv (.t 0), none⟩,
 ⟨some 32, .cv .i64 (.t 31), none⟩,
 ⟨some 33, .mv (.t 1), none⟩,
 ⟨some 34, .cv .i64 (.t 33), none⟩,
 ⟨some 35, .bin .add (.t 32) (.t 34), none⟩,
 ⟨some 36, .call 11 [none] [(.t 35)], none⟩,
 ⟨some 7, .mv (.t 36), none⟩] [0, 1, 2, 7]) (
 .seq (
 .reg [
 ⟨some 38, .mv (.t 7), none⟩,
 ⟨some 39, .mv (.t 1), none⟩,
 ⟨some 40, .cv .i64 (.t 39), none⟩,
 ⟨some 41, .mv (.t 0), none⟩,
 ⟨some 42, .cv .i64 (.t 41), none⟩,
 ⟨some 43, .call 10 [none, none, none, (some (8, (.int .i64)))] [(.t 38), (.t 40), (.t 42), (.c (.nils))], none⟩,
 ⟨some 37, .mv (.t 43), none⟩,
 ⟨some 44, .ext (.t 37) 0, none⟩,
 ⟨some 45, .ext (.t 37) 1, none⟩,
 ⟨some 8, .mv (.t 44), none⟩,
 ⟨some 9, .mv (.t 45), none⟩] [0, 1, 2, 7, 8, 9]) (
 .seq (
 .seq (
 .reg [
 ⟨some 46, .mv (.t 0), none⟩,
 ⟨some 47, .bin .eql (.t 46) (.c (.int .u8 0)), none⟩] [0, 1, 2, 7, 8, 9, 47]) (
 .cond (.t 47) (
 .seq (
 .reg [
 ⟨some 48, .mv (.t 8), none⟩,
 ⟨some 49, .eqn false .p (.t 48) (.c (.nilp)), none⟩,
 ⟨some 50, .mv (.t 49), none⟩,
 ⟨some 51, .mv (.t 9), (some (50, true))⟩,
 ⟨some 52, .bin .eql (.t 51) (.c (.int .i64 1)), (some (50, true))⟩,
 ⟨some 53, .pick (.t 50) (.t 52) (.c (.bool false)), none⟩,
 ⟨some 6, .mv (.t 53), none⟩] [6]) (
 .ret)) (
 .skip))) (
 .seq (
 .reg [
 ⟨some 10, .mv (.c (.nils)), none⟩] [0, 1, 2, 7, 8, 9, 10]) (
 .seq (
 .seq (
 .reg [
 ⟨some 54, .mv (.t 2), none⟩,
 ⟨some 55, .len .s (.t 54), none⟩,
 ⟨some 56, .mv (.c (.int .i64 0)), none⟩] [0, 1, 2, 7, 8, 9, 10, 55, 56]) (
 .block 0 (
 .lift 10 none 24 (.pair (.int .i64) .str) (
 .lift 7 (some 0) 24 (.sl 1 .byte) (
 .lift 7 (some 1) 32 (.pair (.int .i64) (.sl 1 .byte)) (
 .loop 1 [0, 1, 2, 7, 8, 9, 10, 55, 56] (
 .seq (
 .reg [
 ⟨some 57, .bin .lss (.t 56) (.t 55), none⟩] [0, 1, 2, 7, 8, 9, 10, 55, 56, 57]) (
 .seq (
 .cond (.t 57) (
 .skip) (
 .exit 0)) (
 .seq (
 .block 1 (
 .seq (
 .reg [
 ⟨some 58, .mv (.t 56), none⟩,
 ⟨some 11, .mv (.t 58), none⟩] [0, 1, 2, 7, 8, 9, 10, 11, 55, 56]) (
 .seq (
 .reg [
 ⟨some 59, .mv (.t 2), none⟩,
 ⟨some 60, .mv (.t 11), none⟩,
 ⟨some 61, .ia 3 (.t 59) (.t 60), none⟩,
 ⟨some 62, .ldA 3 (.t 61), none⟩,
 ⟨some 12, .alc [.int .i64 0, .int .i64 0, .nils], none⟩,
 ⟨none, .st 3 (.t 12) (.t 62), none⟩] [0, 1, 2, 7, 8, 9, 10, 12, 55, 56]) (
 .seq (
 .reg [
 ⟨some 63, .ldA 3 (.t 12), none⟩,
 ⟨some 64, .call 16 [none] [(.t 63)], none⟩,
 ⟨some 13, .mv (.t 64), none⟩] [0, 1, 2, 7, 8, 9, 10, 12, 13, 55, 56]) (
 .seq (
 .reg [
 ⟨some 65, .mv (.t 13), none⟩,
 ⟨some 66, .len .s (.t 65), none⟩,
 ⟨some 67, .call 13 [none] [(.t 66)], none⟩,
 ⟨some 14, .mv (.t 67), none⟩] [0, 1, 2, 7, 8, 9, 10, 12, 13, 14, 55, 56]) (
 .seq (
 .reg [
 ⟨some 15, .mv (.c (.int .i64 0)), none⟩] [0, 1, 2, 7, 8, 9, 10, 12, 13, 14, 15, 55, 56]) (
 .seq (
 .seq (
 .reg [
 ⟨some 68, .mv (.t 14), none⟩,
 ⟨some 69, .mv (.t 8), none⟩,
 ⟨some 70, .call 15 [none] [(.t 69)], none⟩,
 ⟨some 71, .len .s (.t 70), none⟩,
 ⟨some 72, .bin .gtr (.t 68) (.t 71), none⟩] [0, 1, 2, 7, 8, 9, 10, 12, 13, 14, 15, 55, 56, 72]) (
 .cond (.t 72) (
 .reg [
 ⟨some 15, .mv (.c (.int .i64 6)), none⟩] [0, 1, 2, 7, 8, 9, 10, 12, 13, 14, 15, 55, 56]) (
 .skip))) (
 .seq (
 .seq (
 .reg [
 ⟨some 73, .fa 0 (.t 12), none⟩,
 ⟨some 74, .ld (.t 73), none⟩] [0, 1, 2, 7, 8, 9, 10, 12, 13, 14, 15, 55, 56, 74]) (
 .block 2 (
 .seq (
 .reg [
 ⟨some 76, .bin .eql (.t 74) (.c (.int .i64 1)), none⟩,
 ⟨some 75, .mv (.t 76), none⟩] [0, 1, 2, 7, 8, 9, 10, 12, 13, 14, 15, 55, 56, 74, 75]) (
 .cond (.t 75) (
 .seq (
 .reg [
 ⟨some 77, .mv (.t 7), none⟩,
 ⟨some 78, .call 20 [none] [(.t 77)], none⟩,
 ⟨some 16, .mv (.t 78), none⟩] [0, 1, 2, 7, 8, 9, 10, 13, 14, 15, 16, 55, 56]) (
 .seq (
 .reg [
 ⟨some 80, .mv (.t 8), none⟩,
 ⟨some 81, .mv (.t 13), none⟩,
 ⟨some 82, .call 12 [none, (some (1, .byte))] [(.t 80), (.t 81)], none⟩,
 ⟨some 79, .mv (.t 82), none⟩,
 ⟨some 83, .ext (.t 79) 0, none⟩,
 ⟨some 84, .ext (.t 79) 1, none⟩,
 ⟨some 17, .mv (.t 83), none⟩,
 ⟨some 18, .mv (.t 84), none⟩] [0, 1, 2, 7, 8, 9, 10, 13, 14, 15, 16, 17, 18, 55, 56]) (
 .seq (
 .seq (
 .reg [
 ⟨some 85, .mv (.t 18), none⟩,
 ⟨some 86, .mv (.t 15), none⟩,
 ⟨some 87, .bin .neq (.t 85) (.t 86), none⟩,
 ⟨some 88, .mv (.t 87), none⟩,
 ⟨some 89, .mv (.t 18), (some (88, false))⟩,
 ⟨some 90, .bin .eql (.t 89) (.c (.int .i64 0)), (some (88, false))⟩,
 ⟨some 91, .mv (.t 90), (some (88, false))⟩,
 ⟨some 92, .mv (.t 7), (some (91, true))⟩,
 ⟨some 93, .call 20 [none] [(.t 92)], (some (91, true))⟩,
 ⟨some 94, .mv (.t 16), (some (91, true))⟩,
 ⟨some 95, .mv (.t 14), (some (91, true))⟩,
 ⟨some 96, .bin .add (.t 94) (.t 95), (some (91, true))⟩,
 ⟨some 97, .bin .neq (.t 93) (.t 96), (some (91, true))⟩,
 ⟨some 98, .pick (.t 91) (.t 97) (.c (.bool false)), (some (88, false))⟩,
 ⟨some 99, .pick (.t 88) (.c (.bool true)) (.t 98), none⟩,
 ⟨some 100, .mv (.t 99), none⟩,
 ⟨some 101, .mv (.t 18), (some (100, false))⟩,
 ⟨some 102, .bin .neq (.t 101) (.c (.int .i64 0)), (some (100, false))⟩,
 ⟨some 103, .mv (.t 102), (some (100, false))⟩,
 ⟨some 104, .mv (.t 17), (some (103, true))⟩,
 ⟨some 105, .bin .neq (.t 104) (.c (.int .i64 0)), (some (103, true))⟩,
 ⟨some 106, .pick (.t 103) (.t 105) (.c (.bool false)), (some (100, false))⟩,
 ⟨some 107, .pick (.t 100) (.c (.bool true)) (.t 106), none⟩] [0, 1, 2, 7, 8, 9, 10, 13, 17, 18, 55, 56, 107]) (
 .cond (.t 107) (
 .seq (
 .reg [
 ⟨some 6, .mv (.c (.bool false)), none⟩] [6]) (
 .ret)) (
 .skip))) (
 .seq (
 .reg [
 ⟨some 108, .mv (.t 18), none⟩,
 ⟨some 109, .bin .eql (.t 108) (.c (.int .i64 0)), none⟩] [0, 1, 2, 7, 8, 9, 10, 13, 17, 55, 56, 109]) (
 .cond (.t 109) (
 .reg [
 ⟨some 110, .mv (.t 10), none⟩,
 ⟨some 111, .mv (.t 17), none⟩,
 ⟨some 112, .mv (.t 13), none⟩,
 ⟨some 113, .b2s (.t 112), none⟩,
 ⟨some 114, .bld [.int .i64 0, .str ByteArray.empty] [(0, 1, (.t 111)), (1, 1, (.t 113))], none⟩,
 ⟨some 115, .bsl 24 (.pair (.int .i64) .str) 1 [(0, (.t 114))], none⟩,
 ⟨some 116, .app 24 (.pair (.int .i64) .str) (.t 110) (.t 115), none⟩,
 ⟨some 10, .mv (.t 116), none⟩] [0, 1, 2, 7, 8, 9, 10, 55, 56]) (
 .skip)))))) (
 .seq (
 .reg [
 ⟨some 118, .bin .eql (.t 74) (.c (.int .i64 2)), none⟩,
 ⟨some 117, .mv (.t 118), none⟩] [0, 1, 2, 7, 8, 9, 10, 12, 13, 14, 15, 55, 56, 74, 117]) (
 .cond (.t 117) (
 .seq (
 .reg [
 ⟨some 119, .mv (.t 10), none⟩,
 ⟨some 120, .len .s (.t 119), none⟩,
 ⟨some 121, .bin .gtr (.t 120) (.c (.int .i64 0)), none⟩] [0, 1, 2, 7, 8, 9, 10, 12, 55, 56, 121]) (
 .cond (.t 121) (
 .seq (
 .reg [
 ⟨some 122, .fa 1 (.t 12), none⟩,
 ⟨some 123, .ld (.t 122), none⟩,
 ⟨some 124, .cv .u64 (.t 123), none⟩,
 ⟨some 125, .mv (.t 10), none⟩,
 ⟨some 126, .len .s (.t 125), none⟩,
 ⟨some 127, .cv .u64 (.t 126), none⟩,
 ⟨some 128, .bin .rem (.t 124) (.t 127), none⟩,
 ⟨some 129, .cv .i64 (.t 128), none⟩,
 ⟨some 19, .mv (.t 129), none⟩] [0, 1, 2, 7, 8, 9, 10, 19, 55, 56]) (
 .seq (
 .seq (
 .reg [
 ⟨some 130, .mv (.t 8), none⟩,
 ⟨some 131, .mv (.t 10), none⟩,
 ⟨some 132, .mv (.t 19), none⟩,
 ⟨some 133, .ia 2 (.t 131) (.t 132), none⟩,
 ⟨some 134, .fa 0 (.t 133), none⟩,
 ⟨some 135, .ld (.t 134), none⟩,
 ⟨some 136, .call 18 [none, none] [(.t 130), (.t 135)], none⟩,
 ⟨some 137, .bin .neq (.t 136) (.c (.int .i64 0)), none⟩,
 ⟨some 138, .mv (.t 137), none⟩,
 ⟨some 139, .mv (.t 8), (some (138, false))⟩,
 ⟨some 140, .mv (.t 10), (some (138, false))⟩,
 ⟨some 141, .mv (.t 19), (some (138, false))⟩,
 ⟨some 142, .ia 2 (.t 140) (.t 141), (some (138, false))⟩,
 ⟨some 143, .fa 0 (.t 142), (some (138, false))⟩,
 ⟨some 144, .ld (.t 143), (some (138, false))⟩,
 ⟨some 145, .call 18 [none, none] [(.t 139), (.t 144)], (some (138, false))⟩,
 ⟨some 146, .bin .neq (.t 145) (.c (.int .i64 5)), (some (138, false))⟩,
 ⟨some 147, .pick (.t 138) (.c (.bool true)) (.t 146), none⟩] [0, 1, 2, 7, 8, 9, 10, 19, 55, 56, 147]) (
 .cond (.t 147) (
 .seq (
 .reg [
 ⟨some 6, .mv (.c (.bool false)), none⟩] [6]) (
 .ret)) (
 .skip))) (
 .regD [
 ⟨some 148, .bsl 24 (.pair (.int .i64) .str) 0 [], none⟩,
 ⟨some 149, .mv (.t 10), none⟩,
 ⟨some 150, .mv (.t 19), none⟩,
 ⟨some 151, .slR 2 (.t 149) none (some (.t 150)), none⟩,
 ⟨some 152, .app 24 (.pair (.int .i64) .str) (.t 148) (.t 151), none⟩,
 ⟨some 153, .mv (.t 10), none⟩,
 ⟨some 154, .mv (.t 19), none⟩,
 ⟨some 155, .bin .add (.t 154) (.c (.int .i64 1)), none⟩,
 ⟨some 156, .slR 2 (.t 153) (some (.t 155)) none, none⟩,
 ⟨some 157, .app 24 (.pair (.int .i64) .str) (.t 152) (.t 156), none⟩,
 ⟨some 10, .mv (.t 157), none⟩] [.q 1, .q 2, .q 3, .q 5, .q 6, .q 7, .q 8, .e 0 [1, 2, 3, 5, 6, 7, 8], .e 4 [5, 6, 7, 8], .e 9 [], .e 10 []] [0, 1, 2, 7, 8, 9, 10, 55, 56]))) (
 .skip))) (
 .seq (
 .reg [
 ⟨some 159, .bin .eql (.t 74) (.c (.int .i64 3)), none⟩,
 ⟨some 158, .mv (.t 159), none⟩] [0, 1, 2, 7, 8, 9, 10, 12, 13, 14, 15, 55, 56, 74, 158]) (
 .cond (.t 158) (
 .reg [
 ⟨some 161, .mv (.t 7), none⟩,
 ⟨some 162, .mv (.t 1), none⟩,
 ⟨some 163, .cv .i64 (.t 162), none⟩,
 ⟨some 164, .mv (.t 0), none⟩,
 ⟨some 165, .cv .i64 (.t 164), none⟩,
 ⟨some 166, .mv (.t 10), none⟩,
 ⟨some 167, .call 22 [(some (24, (.pair (.int .i64) .str)))] [(.t 166)], none⟩,
 ⟨some 168, .call 10 [none, none, none, (some (8, (.int .i64)))] [(.t 161), (.t 163), (.t 165), (.t 167)], none⟩,
 ⟨some 160, .mv (.t 168), none⟩,
 ⟨some 169, .ext (.t 160) 0, none⟩,
 ⟨some 170, .ext (.t 160) 1, none⟩,
 ⟨some 8, .mv (.t 169), none⟩,
 ⟨some 9, .mv (.t 170), none⟩] [0, 1, 2, 7, 8, 9, 10, 55, 56]) (
 .seq (
 .reg [
 ⟨some 172, .bin .eql (.t 74) (.c (.int .i64 4)), none⟩,
 ⟨some 171, .mv (.t 172), none⟩] [0, 1, 2, 7, 8, 9, 10, 12, 13, 14, 15, 55, 56, 171]) (
 .cond (.t 171) (
 .seq (
 .reg [
 ⟨some 173, .fa 1 (.t 12), none⟩,
 ⟨some 174, .ld (.t 173), none⟩,
 ⟨some 175, .cv .u64 (.t 174), none⟩,
 ⟨some 176, .bin .rem (.t 175) (.c (.int .u64 5)), none⟩,
 ⟨some 177, .cv .i64 (.t 176), none⟩,
 ⟨some 20, .mv (.t 177), none⟩] [0, 1, 2, 7, 8, 10, 13, 14, 15, 20, 55, 56]) (
 .seq (
 .reg [
 ⟨some 178, .mv (.t 7), none⟩,
 ⟨some 179, .mv (.t 20), none⟩,
 ⟨some 180, .call 24 [none, none] [(.t 178), (.t 179)], none⟩] [0, 1, 2, 7, 8, 10, 13, 14, 15, 20, 55, 56]) (
 .seq (
 .reg [
 ⟨some 182, .mv (.t 8), none⟩,
 ⟨some 183, .mv (.t 13), none⟩,
 ⟨some 184, .call 12 [none, (some (1, .byte))] [(.t 182), (.t 183)], none⟩,
 ⟨some 181, .mv (.t 184), none⟩,
 ⟨some 185, .ext (.t 181) 0, none⟩,
 ⟨some 186, .ext (.t 181) 1, none⟩,
 ⟨some 21, .mv (.t 185), none⟩,
 ⟨some 22, .mv (.t 186), none⟩] [0, 1, 2, 7, 10, 13, 14, 15, 20, 21, 22, 55, 56]) (
 .seq (
 .seq (
 .reg [
 ⟨some 187, .mv (.t 15), none⟩,
 ⟨some 188, .bin .eql (.t 187) (.c (.int .i64 0)), none⟩,
 ⟨some 189, .mv (.t 188), none⟩,
 ⟨some 190, .mv (.t 20), (some (189, true))⟩,
 ⟨some 191, .mv (.t 14), (some (189, true))⟩,
 ⟨some 192, .bin .lss (.t 190) (.t 191), (some (189, true))⟩,
 ⟨some 193, .pick (.t 189) (.t 192) (.c (.bool false)), none⟩] [0, 1, 2, 7, 10, 13, 15, 21, 22, 55, 56, 193]) (
 .cond (.t 193) (
 .reg [
 ⟨some 15, .mv (.c (.int .i64 9)), none⟩] [0, 1, 2, 7, 10, 13, 15, 21, 22, 55, 56]) (
 .skip))) (
 .seq (
 .seq (
 .reg [
 ⟨some 194, .mv (.t 22), none⟩,
 ⟨some 195, .mv (.t 15), none⟩,
 ⟨some 196, .bin .neq (.t 194) (.t 195), none⟩] [0, 1, 2, 7, 10, 13, 21, 22, 55, 56, 196]) (
 .cond (.t 196) (
 .seq (
 .reg [
 ⟨some 6, .mv (.c (.bool false)), none⟩] [6]) (
 .ret)) (
 .skip))) (
 .seq (
 .seq (
 .reg [
 ⟨some 197, .mv (.t 22), none⟩,
 ⟨some 198, .bin .eql (.t 197) (.c (.int .i64 0)), none⟩] [0, 1, 2, 7, 10, 13, 21, 55, 56, 198]) (
 .cond (.t 198) (
 .reg [
 ⟨some 199, .mv (.t 10), none⟩,
 ⟨some 200, .mv (.t 21), none⟩,
 ⟨some 201, .mv (.t 13), none⟩,
 ⟨some 202, .b2s (.t 201), none⟩,
 ⟨some 203, .bld [.int .i64 0, .str ByteArray.empty] [(0, 1, (.t 200)), (1, 1, (.t 202))], none⟩,
 ⟨some 204, .bsl 24 (.pair (.int .i64) .str) 1 [(0, (.t 203))], none⟩,
 ⟨some 205, .app 24 (.pair (.int .i64) .str) (.t 199) (.t 204), none⟩,
 ⟨some 10, .mv (.t 205), none⟩] [0, 1, 2, 7, 10, 55, 56]) (
 .skip))) (
 .seq (
 .reg [
 ⟨some 206, .mv (.t 7), none⟩,
 ⟨some 207, .call 25 [none] [(.t 206)], none⟩] [0, 1, 2, 7, 10, 55, 56]) (
 .reg [
 ⟨some 209, .mv (.t 7), none⟩,
 ⟨some 210, .mv (.t 1), none⟩,
 ⟨some 211, .cv .i64 (.t 210), none⟩,
 ⟨some 212, .mv (.t 0), none⟩,
 ⟨some 213, .cv .i64 (.t 212), none⟩,
 ⟨some 214, .mv (.t 10), none⟩,
 ⟨some 215, .call 22 [(some (24, (.pair (.int .i64) .str)))] [(.t 214)], none⟩,
 ⟨some 216, .call 10 [none, none, none, (some (8, (.int .i64)))] [(.t 209), (.t 211), (.t 213), (.t 215)], none⟩,
 ⟨some 208, .mv (.t 216), none⟩,
 ⟨some 217, .ext (.t 208) 0, none⟩,
 ⟨some 218, .ext (.t 208) 1, none⟩,
 ⟨some 8, .mv (.t 217), none⟩,
 ⟨some 9, .mv (.t 218), none⟩] [0, 1, 2, 7, 8, 9, 10, 55, 56])))))))) (
 .skip))))))))))) (
 .seq (
 .reg [
 ⟨some 219, .mv (.t 9), none⟩,
 ⟨some 220, .bin .neq (.t 219) (.c (.int .i64 0)), none⟩,
 ⟨some 221, .mv (.t 220), none⟩,
 ⟨some 222, .mv (.t 8), (some (221, false))⟩,
 ⟨some 223, .mv (.t 10), (some (221, false))⟩,
 ⟨some 224, .mv (.t 1), (some (221, false))⟩,
 ⟨some 225, .cv .i64 (.t 224), (some (221, false))⟩,
 ⟨some 226, .mv (.t 0), (some (221, false))⟩,
 ⟨some 227, .cv .i64 (.t 226), (some (221, false))⟩,
 ⟨some 228, .call 23 [none, (some (24, (.pair (.int .i64) .str))), none, none] [(.t 222), (.t 223), (.t 225), (.t 227)], (some (221, false))⟩,
 ⟨some 229, .not (.t 228), (some (221, false))⟩,
 ⟨some 230, .pick (.t 221) (.c (.bool true)) (.t 229), none⟩] [0, 1, 2, 7, 8, 9, 10, 55, 56, 230]) (
 .cond (.t 230) (
 .seq (
 .reg [
 ⟨some 6, .mv (.c (.bool false)), none⟩] [6]) (
 .ret)) (
 .skip))))))))))) (
 .reg [
 ⟨some 231, .bin .add (.t 56) (.c (.int .i64 1)), none⟩,
 ⟨some 56, .mv (.t 231), none⟩] [0, 1, 2, 7, 8, 9, 10, 55, 56])))))))))) (
 .seq (
 .reg [
 ⟨some 6, .mv (.c (.bool true)), none⟩] [6]) (
 .ret))))))))
def r8 : List RT := [.t 6]

theorem ok9 : okF Try.prog 9 a9 r9 0 = true := by decide +kernel
theorem ok10 : okF Try.prog 10 a10 r10 4 = true := by decide +kernel
theorem ok12 : okF Try.prog 12 a12 r12 2 = true := by decide +kernel
theorem ok14 : okF Try.prog 14 a14 r14 2 = true := by decide +kernel
theorem ok15 : okF Try.prog 15 a15 r15 1 = true := by decide +kernel
theorem ok16 : okF Try.prog 16 a16 r16 1 = true := by decide +kernel
theorem ok17 : okF Try.prog 17 a17 r17 2 = true := by decide +kernel
theorem ok18 : okF Try.prog 18 a18 r18 2 = true := by decide +kernel
theorem ok19 : okF Try.prog 19 a19 r19 1 = true := by decide +kernel
theorem ok22 : okF Try.prog 22 a22 r22 1 = true := by decide +kernel
theorem ok23 : okF Try.prog 23 a23 r23 4 = true := by decide +kernel
theorem ok28 : okF Try.prog 28 a28 r28 4 = true := by decide +kernel
theorem ok37 : okF Try.prog 37 a37 r37 3 = true := by decide +kernel
theorem ok8 : okF Try.prog 8 a8 r8 3 = true := by decide +kernel
end Go.V
