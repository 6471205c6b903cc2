/- A part of the proof layer, or functions of the given program in it: contracts and their proofs. -/
import Derived.Test.YtbcmjkfdeikkhaaGreatN4
import Derived.Test.YtbcmjkfdeikkhaaGreatProg
import Derived.Test.YtbcmjkfdeikkhaaGreatMA71
namespace Go.V
set_option linter.unusedSimpArgs false
set_option linter.unnecessarySimpa false
open Go.Proofs
/-- reeve/reevelaw20.TurnLetters -/
def a3 : AS :=
 .seq (
 .reg [
 ⟨some 3, .box (.t 0), none⟩,
 ⟨some 4, .box (.t 1), none⟩,
 ⟨some 6, .mv (.c (.bool false)), none⟩] [2, 3, 4]) (
 .seq (
 .seq (
 .reg [
 ⟨some 16, .call 6 [] [], none⟩,
 ⟨some 17, .not (.t 16), none⟩,
 ⟨some 18, .mv (.t 17), none⟩,
 ⟨some 19, .ldA 5 (.t 4), (some (18, false))⟩,
 ⟨some 20, .ldA 2 (.t 3), (some (18, false))⟩,
 ⟨some 21, .call 7 [none, none] [(.t 19), (.t 20)], (some (18, false))⟩,
 ⟨some 22, .not (.t 21), (some (18, false))⟩,
 ⟨some 23, .pick (.t 18) (.c (.bool true)) (.t 22), none⟩] [2, 3, 4, 23]) (
 .cond (.t 23) (
 .seq (
 .reg [
 ⟨some 24, .call 6 [] [], none⟩,
 ⟨some 6, .mv (.t 24), none⟩] [6]) (
 .ret)) (
 .skip))) (
 .seq (
 .reg [
 ⟨some 26, .fa 0 (.t 4), none⟩,
 ⟨some 27, .ld (.t 26), none⟩,
 ⟨some 28, .fa 2 (.t 4), none⟩,
 ⟨some 29, .ld (.t 28), none⟩,
 ⟨some 30, .fa 3 (.t 4), none⟩,
 ⟨some 31, .ld (.t 30), none⟩,
 ⟨some 32, .fa 4 (.t 4), none⟩,
 ⟨some 33, .ld (.t 32), none⟩,
 ⟨some 34, .fa 1 (.t 4), none⟩,
 ⟨some 35, .ld (.t 34), none⟩,
 ⟨some 36, .call 8 [none, (some (56, (.pair .str (.pair (.int .u64) (.pair (.int .i64) (.sl 8 (.int .i64))))))), (some (16, .str)), (some (16, (.pair (.int .i64) (.int .i64)))), none, (some (56, (.pair .str (.pair (.int .u64) (.pair (.int .i64) (.sl 8 (.int .i64)))))))] [(.c (.str ⟨#[109, 101]⟩)), (.t 27), (.t 29), (.t 31), (.t 33), (.t 35)], none⟩,
 ⟨some 25, .mv (.t 36), none⟩,
 ⟨some 37, .ext (.t 25) 0, none⟩,
 ⟨some 38, .ext (.t 25) 1, none⟩,
 ⟨some 7, .mv (.t 37), none⟩,
 ⟨some 8, .mv (.t 38), none⟩] [2, 3, 7, 8]) (
 .seq (
 .regD [
 ⟨some 39, .mv (.t 8), none⟩,
 ⟨some 40, .nck (.t 39), none⟩,
 ⟨some 41, .fa 1 (.t 40), none⟩,
 ⟨some 42, .ld (.t 41), none⟩,
 ⟨some 43, .nck (.t 42), none⟩,
 ⟨some 44, .fa 0 (.t 43), none⟩,
 ⟨some 45, .ld (.t 44), none⟩,
 ⟨some 46, .len .s (.t 45), none⟩,
 ⟨some 47, .mv (.t 8), none⟩,
 ⟨some 48, .nck (.t 47), none⟩,
 ⟨some 49, .fa 4 (.t 48), none⟩,
 ⟨some 50, .ld (.t 49), none⟩,
 ⟨some 51, .len .s (.t 50), none⟩,
 ⟨some 9, .mv (.t 46), none⟩,
 ⟨some 10, .mv (.t 51), none⟩] [.q 0, .q 1, .q 2, .q 3, .q 4, .q 5, .q 6, .q 7, .q 8, .q 9, .q 10, .q 11, .q 12, .q 13, .q 14] [2, 3, 7, 9, 10]) (
 .seq (
 .reg [
 ⟨some 53, .ldA 2 (.t 3), none⟩,
 ⟨some 54, .call 10 [none] [(.t 53)], none⟩,
 ⟨some 55, .mv (.t 7), none⟩,
 ⟨some 56, .mv (.t 2), none⟩,
 ⟨some 57, .call 9 [none, none, none] [(.t 54), (.t 55), (.t 56)], none⟩,
 ⟨some 52, .mv (.t 57), none⟩,
 ⟨some 58, .ext (.t 52) 0, none⟩,
 ⟨some 59, .ext (.t 52) 1, none⟩,
 ⟨some 11, .alc [.bool false, .bool false, .int .i64 0, .int .i64 0, .nils], none⟩,
 ⟨none, .st 5 (.t 11) (.t 58), none⟩,
 ⟨some 12, .mv (.t 59), none⟩] [7, 9, 10, 11, 12]) (
 .seq (
 .reg [
 ⟨some 60, .mv (.t 12), none⟩,
 ⟨some 61, .bin .eql (.t 60) (.c (.int .i64 0)), none⟩,
 ⟨some 62, .mv (.t 61), none⟩,
 ⟨some 63, .fa 0 (.t 11), (some (62, true))⟩,
 ⟨some 64, .ld (.t 63), (some (62, true))⟩,
 ⟨some 65, .mv (.t 64), (some (62, true))⟩,
 ⟨some 66, .fa 1 (.t 11), (some (65, false))⟩,
 ⟨some 67, .ld (.t 66), (some (65, false))⟩,
 ⟨some 68, .pick (.t 65) (.c (.bool true)) (.t 67), (some (62, true))⟩,
 ⟨some 69, .pick (.t 62) (.t 68) (.c (.bool false)), none⟩,
 ⟨some 13, .mv (.t 69), none⟩] [7, 9, 10, 11, 12, 13]) (
 .seq (
 .seq (
 .reg [
 ⟨some 70, .mv (.t 12), none⟩,
 ⟨some 71, .bin .eql (.t 70) (.c (.int .i64 0)), none⟩,
 ⟨some 72, .mv (.t 71), none⟩,
 ⟨some 73, .fa 0 (.t 11), (some (72, true))⟩,
 ⟨some 74, .ld (.t 73), (some (72, true))⟩,
 ⟨some 75, .fa 2 (.t 11), (some (72, true))⟩,
 ⟨some 76, .ld (.t 75), (some (72, true))⟩,
 ⟨some 77, .bin .neq (.t 76) (.c (.int .i64 0)), (some (72, true))⟩,
 ⟨some 78, .binB false (.t 74) (.t 77), (some (72, true))⟩,
 ⟨some 79, .pick (.t 72) (.t 78) (.c (.bool false)), none⟩,
 ⟨some 80, .mv (.t 79), none⟩,
 ⟨some 81, .fa 0 (.t 11), (some (80, false))⟩,
 ⟨some 82, .ld (.t 81), (some (80, false))⟩,
 ⟨some 83, .mv (.t 82), (some (80, false))⟩,
 ⟨some 84, .fa 1 (.t 11), (some (83, true))⟩,
 ⟨some 85, .ld (.t 84), (some (83, true))⟩,
 ⟨some 86, .pick (.t 83) (.t 85) (.c (.bool false)), (some (80, false))⟩,
 ⟨some 87, .pick (.t 80) (.c (.bool true)) (.t 86), none⟩] [7, 9, 10, 11, 12, 13, 87]) (
 .cond (.t 87) (
 .seq (
 .reg [
 ⟨some 6, .mv (.c (.bool false)), none⟩] [6]) (
 .ret)) (
 .skip))) (
 .seq (
 .reg [
 ⟨some 88, .mv (.t 9), none⟩,
 ⟨some 14, .mv (.t 88), none⟩] [7, 9, 10, 11, 12, 13, 14]) (
 .seq (
 .seq (
 .reg [
 ⟨some 89, .mv (.t 13), none⟩] [7, 9, 10, 11, 12, 13, 14, 89]) (
 .cond (.t 89) (
 .reg [
 ⟨some 90, .mv (.t 9), none⟩,
 ⟨some 91, .bin .sub (.t 90) (.c (.int .i64 1)), none⟩,
 ⟨some 14, .mv (.t 91), none⟩] [7, 10, 11, 12, 13, 14]) (
 .skip))) (
 .seq (
 .reg [
 ⟨some 92, .mv (.t 10), none⟩,
 ⟨some 15, .mv (.t 92), none⟩] [7, 10, 11, 12, 13, 14, 15]) (
 .seq (
 .seq (
 .reg [
 ⟨some 93, .fa 1 (.t 11), none⟩,
 ⟨some 94, .ld (.t 93), none⟩] [7, 10, 11, 12, 13, 14, 15, 94]) (
 .cond (.t 94) (
 .reg [
 ⟨some 95, .mv (.t 10), none⟩,
 ⟨some 96, .bin .add (.t 95) (.c (.int .i64 1)), none⟩,
 ⟨some 15, .mv (.t 96), none⟩] [7, 11, 12, 13, 14, 15]) (
 .skip))) (
 .seq (
 .reg [
 ⟨some 97, .mv (.t 7), none⟩,
 ⟨some 98, .nck (.t 97), none⟩,
 ⟨some 99, .fa 1 (.t 98), none⟩,
 ⟨some 100, .ld (.t 99), none⟩,
 ⟨some 101, .call 11 [none] [(.t 100)], none⟩,
 ⟨some 102, .mv (.t 14), none⟩,
 ⟨some 103, .bin .eql (.t 101) (.t 102), none⟩,
 ⟨some 104, .mv (.t 103), none⟩,
 ⟨some 105, .mv (.t 7), (some (104, true))⟩,
 ⟨some 106, .nck (.t 105), (some (104, true))⟩,
 ⟨some 107, .fa 4 (.t 106), (some (104, true))⟩,
 ⟨some 108, .ld (.t 107), (some (104, true))⟩,
 ⟨some 109, .len .s (.t 108), (some (104, true))⟩,
 ⟨some 110, .mv (.t 15), (some (104, true))⟩,
 ⟨some 111, .bin .eql (.t 109) (.t 110), (some (104, true))⟩,
 ⟨some 112, .pick (.t 104) (.t 111) (.c (.bool false)), none⟩,
 ⟨some 113, .mv (.t 112), none⟩,
 ⟨some 114, .mv (.t 13), (some (113, true))⟩,
 ⟨some 115, .not (.t 114), (some (113, true))⟩,
 ⟨some 116, .mv (.t 115), (some (113, true))⟩,
 ⟨some 117, .mv (.t 7), (some (116, false))⟩,
 ⟨some 118, .nck (.t 117), (some (116, false))⟩,
 ⟨some 119, .fa 3 (.t 118), (some (116, false))⟩,
 ⟨some 120, .ld (.t 119), (some (116, false))⟩,
 ⟨some 121, .bin .eql (.t 120) (.c (.int .i64 0)), (some (116, false))⟩,
 ⟨some 122, .pick (.t 116) (.c (.bool true)) (.t 121), (some (113, true))⟩,
 ⟨some 123, .pick (.t 113) (.t 122) (.c (.bool false)), none⟩,
 ⟨some 124, .mv (.t 123), none⟩,
 ⟨some 125, .mv (.t 12), (some (124, true))⟩,
 ⟨some 126, .bin .neq (.t 125) (.c (.int .i64 0)), (some (124, true))⟩,
 ⟨some 127, .mv (.t 126), (some (124, true))⟩,
 ⟨some 128, .fa 3 (.t 11), (some (127, false))⟩,
 ⟨some 129, .ld (.t 128), (some (127, false))⟩,
 ⟨some 130, .bin .leq (.t 129) (.c (.int .i64 500)), (some (127, false))⟩,
 ⟨some 131, .pick (.t 127) (.c (.bool true)) (.t 130), (some (124, true))⟩,
 ⟨some 132, .pick (.t 124) (.t 131) (.c (.bool false)), none⟩,
 ⟨some 6, .mv (.t 132), none⟩] [6]) (
 .ret))))))))))))
def r3 : List RT := [.t 6]

/-- reeve/reevelaw20.TurnTakes -/
def a4 : AS :=
 .seq (
 .reg [
 ⟨some 4, .box (.t 0), none⟩,
 ⟨some 5, .box (.t 1), none⟩,
 ⟨some 8, .mv (.c (.bool false)), none⟩] [2, 3, 4, 5]) (
 .seq (
 .seq (
 .reg [
 ⟨some 16, .call 6 [] [], none⟩,
 ⟨some 17, .not (.t 16), none⟩,
 ⟨some 18, .mv (.t 17), none⟩,
 ⟨some 19, .ldA 5 (.t 5), (some (18, false))⟩,
 ⟨some 20, .ldA 2 (.t 4), (some (18, false))⟩,
 ⟨some 21, .call 7 [none, none] [(.t 19), (.t 20)], (some (18, false))⟩,
 ⟨some 22, .not (.t 21), (some (18, false))⟩,
 ⟨some 23, .pick (.t 18) (.c (.bool true)) (.t 22), none⟩] [2, 3, 4, 5, 23]) (
 .cond (.t 23) (
 .seq (
 .reg [
 ⟨some 24, .call 6 [] [], none⟩,
 ⟨some 8, .mv (.t 24), none⟩] [8]) (
 .ret)) (
 .skip))) (
 .seq (
 .reg [
 ⟨some 26, .fa 0 (.t 5), none⟩,
 ⟨some 27, .ld (.t 26), none⟩,
 ⟨some 28, .fa 2 (.t 5), none⟩,
 ⟨some 29, .ld (.t 28), none⟩,
 ⟨some 30, .fa 3 (.t 5), none⟩,
 ⟨some 31, .ld (.t 30), none⟩,
 ⟨some 32, .fa 4 (.t 5), none⟩,
 ⟨some 33, .ld (.t 32), none⟩,
 ⟨some 34, .fa 1 (.t 5), none⟩,
 ⟨some 35, .ld (.t 34), none⟩,
 ⟨some 36, .call 8 [none, (some (56, (.pair .str (.pair (.int .u64) (.pair (.int .i64) (.sl 8 (.int .i64))))))), (some (16, .str)), (some (16, (.pair (.int .i64) (.int .i64)))), none, (some (56, (.pair .str (.pair (.int .u64) (.pair (.int .i64) (.sl 8 (.int .i64)))))))] [(.c (.str ⟨#[109, 101]⟩)), (.t 27), (.t 29), (.t 31), (.t 33), (.t 35)], none⟩,
 ⟨some 25, .mv (.t 36), none⟩,
 ⟨some 37, .ext (.t 25) 0, none⟩,
 ⟨some 38, .ext (.t 25) 1, none⟩,
 ⟨some 9, .mv (.t 37), none⟩,
 ⟨some 10, .mv (.t 38), none⟩] [2, 3, 4, 9, 10]) (
 .seq (
 .seq (
 .reg [
 ⟨some 39, .mv (.t 3), none⟩,
 ⟨some 40, .bin .rem (.t 39) (.c (.int .u8 12)), none⟩,
 ⟨some 41, .mv (.c (.int .u8 0)), none⟩] [2, 4, 9, 10, 40, 41]) (
 .block 0 (
 .lift 9 (some 4) 56 (.pair .str (.pair (.int .u64) (.pair (.int .i64) (.sl 8 (.int .i64))))) (
 .lift 10 (some 4) 56 (.pair .str (.pair (.int .u64) (.pair (.int .i64) (.sl 8 (.int .i64))))) (
 .loop 1 [2, 4, 9, 10, 40, 41] (
 .seq (
 .reg [
 ⟨some 42, .bin .lss (.t 41) (.t 40), none⟩] [2, 4, 9, 10, 40, 41, 42]) (
 .seq (
 .cond (.t 42) (
 .skip) (
 .exit 0)) (
 .seq (
 .block 1 (
 .seq (
 .reg [
 ⟨some 44, .ldA 2 (.t 4), none⟩,
 ⟨some 45, .call 10 [none] [(.t 44)], none⟩,
 ⟨some 46, .mv (.t 9), none⟩,
 ⟨some 47, .mv (.t 2), none⟩,
 ⟨some 48, .call 9 [none, none, none] [(.t 45), (.t 46), (.t 47)], none⟩,
 ⟨some 43, .mv (.t 48), none⟩,
 ⟨some 49, .ext (.t 43) 0, none⟩,
 ⟨some 50, .ext (.t 43) 1, none⟩,
 ⟨some 11, .alc [.bool false, .bool false, .int .i64 0, .int .i64 0, .nils], none⟩,
 ⟨none, .st 5 (.t 11) (.t 49), none⟩,
 ⟨some 12, .mv (.t 50), none⟩] [2, 4, 9, 10, 11, 12, 40, 41]) (
 .seq (
 .reg [
 ⟨some 52, .ldA 2 (.t 4), none⟩,
 ⟨some 53, .mv (.t 10), none⟩,
 ⟨some 54, .mv (.t 2), none⟩,
 ⟨some 55, .call 12 [none, none, none] [(.t 52), (.t 53), (.t 54)], none⟩,
 ⟨some 51, .mv (.t 55), none⟩,
 ⟨some 56, .ext (.t 51) 0, none⟩,
 ⟨some 57, .ext (.t 51) 1, none⟩,
 ⟨some 58, .ext (.t 51) 2, none⟩,
 ⟨some 14, .alc [.bool false, .bool false, .int .i64 0, .int .i64 0, .nils], none⟩,
 ⟨some 13, .mv (.t 56), none⟩,
 ⟨none, .st 5 (.t 14) (.t 57), none⟩,
 ⟨some 15, .mv (.t 58), none⟩] [2, 4, 9, 11, 12, 13, 14, 15, 40, 41]) (
 .seq (
 .reg [
 ⟨some 59, .mv (.t 13), none⟩,
 ⟨some 10, .mv (.t 59), none⟩] [2, 4, 9, 10, 11, 12, 14, 15, 40, 41]) (
 .seq (
 .regD [
 ⟨some 60, .mv (.t 12), none⟩,
 ⟨some 61, .mv (.t 15), none⟩,
 ⟨some 62, .bin .neq (.t 60) (.t 61), none⟩,
 ⟨some 63, .mv (.t 62), none⟩,
 ⟨some 64, .ldA 5 (.t 11), (some (63, false))⟩,
 ⟨some 65, .call 14 [none] [(.t 64)], (some (63, false))⟩,
 ⟨some 66, .ldA 5 (.t 14), (some (63, false))⟩,
 ⟨some 67, .call 13 [none, none] [(.t 65), (.t 66)], (some (63, false))⟩,
 ⟨some 68, .not (.t 67), (some (63, false))⟩,
 ⟨some 69, .pick (.t 63) (.c (.bool true)) (.t 68), none⟩,
 ⟨some 70, .mv (.t 69), none⟩,
 ⟨some 71, .mv (.t 9), (some (70, false))⟩,
 ⟨some 72, .mv (.t 10), (some (70, false))⟩,
 ⟨some 73, .call 15 [none, none] [(.t 71), (.t 72)], (some (70, false))⟩,
 ⟨some 74, .not (.t 73), (some (70, false))⟩,
 ⟨some 75, .pick (.t 70) (.c (.bool true)) (.t 74), none⟩] [.q 0, .q 1, .q 2, .q 3, .q 4, .q 6, .e 5 [6], .e 7 [], .q 8, .q 9, .q 10, .q 11, .q 12, .e 13 [], .q 14, .q 15] [2, 4, 9, 10, 40, 41, 75]) (
 .cond (.t 75) (
 .seq (
 .reg [
 ⟨some 8, .mv (.c (.bool false)), none⟩] [8]) (
 .ret)) (
 .skip))))))) (
 .reg [
 ⟨some 76, .bin .add (.t 41) (.c (.int .u8 1)), none⟩,
 ⟨some 41, .mv (.t 76), none⟩] [2, 4, 9, 10, 40, 41]))))))))) (
 .seq (
 .reg [
 ⟨some 8, .mv (.c (.bool true)), none⟩] [8]) (
 .ret)))))
def r4 : List RT := [.t 8]

/-- reeve/reevelaw20.TurnCopies -/
def a5 : AS :=
 .seq (
 .reg [
 ⟨some 3, .box (.t 0), none⟩,
 ⟨some 4, .box (.t 1), none⟩,
 ⟨some 6, .mv (.c (.bool false)), none⟩] [2, 3, 4]) (
 .seq (
 .seq (
 .reg [
 ⟨some 21, .call 6 [] [], none⟩,
 ⟨some 22, .not (.t 21), none⟩,
 ⟨some 23, .mv (.t 22), none⟩,
 ⟨some 24, .ldA 5 (.t 4), (some (23, false))⟩,
 ⟨some 25, .ldA 2 (.t 3), (some (23, false))⟩,
 ⟨some 26, .call 7 [none, none] [(.t 24), (.t 25)], (some (23, false))⟩,
 ⟨some 27, .not (.t 26), (some (23, false))⟩,
 ⟨some 28, .pick (.t 23) (.c (.bool true)) (.t 27), none⟩] [2, 3, 4, 28]) (
 .cond (.t 28) (
 .seq (
 .reg [
 ⟨some 29, .call 6 [] [], none⟩,
 ⟨some 6, .mv (.t 29), none⟩] [6]) (
 .ret)) (
 .skip))) (
 .seq (
 .reg [
 ⟨some 31, .fa 0 (.t 4), none⟩,
 ⟨some 32, .ld (.t 31), none⟩,
 ⟨some 33, .fa 2 (.t 4), none⟩,
 ⟨some 34, .ld (.t 33), none⟩,
 ⟨some 35, .fa 3 (.t 4), none⟩,
 ⟨some 36, .ld (.t 35), none⟩,
 ⟨some 37, .fa 4 (.t 4), none⟩,
 ⟨some 38, .ld (.t 37), none⟩,
 ⟨some 39, .fa 1 (.t 4), none⟩,
 ⟨some 40, .ld (.t 39), none⟩,
 ⟨some 41, .call 8 [none, (some (56, (.pair .str (.pair (.int .u64) (.pair (.int .i64) (.sl 8 (.int .i64))))))), (some (16, .str)), (some (16, (.pair (.int .i64) (.int .i64)))), none, (some (56, (.pair .str (.pair (.int .u64) (.pair (.int .i64) (.sl 8 (.int .i64)))))))] [(.c (.str ⟨#[109, 101]⟩)), (.t 32), (.t 34), (.t 36), (.t 38), (.t 40)], none⟩,
 ⟨some 30, .mv (.t 41), none⟩,
 ⟨some 42, .ext (.t 30) 0, none⟩,
 ⟨some 43, .ext (.t 30) 1, none⟩,
 ⟨some 7, .mv (.t 42), none⟩,
 ⟨some 8, .mv (.t 43), none⟩] [2, 3, 7]) (
 .seq (
 .reg [
 ⟨some 45, .mv (.t 7), none⟩,
 ⟨some 46, .call 16 [none] [(.t 45)], none⟩,
 ⟨some 44, .mv (.t 46), none⟩,
 ⟨some 47, .ext (.t 44) 0, none⟩,
 ⟨some 48, .ext (.t 44) 1, none⟩,
 ⟨some 9, .mv (.t 47), none⟩,
 ⟨some 10, .mv (.t 48), none⟩] [2, 3, 7, 9, 10]) (
 .seq (
 .seq (
 .reg [
 ⟨some 49, .mv (.t 10), none⟩,
 ⟨some 50, .bin .neq (.t 49) (.c (.int .i64 0)), none⟩] [2, 3, 7, 9, 50]) (
 .cond (.t 50) (
 .seq (
 .reg [
 ⟨some 6, .mv (.c (.bool true)), none⟩] [6]) (
 .ret)) (
 .skip))) (
 .seq (
 .reg [
 ⟨some 52, .mv (.t 9), none⟩,
 ⟨some 53, .call 17 [(some (1, .byte))] [(.t 52)], none⟩,
 ⟨some 51, .mv (.t 53), none⟩,
 ⟨some 54, .ext (.t 51) 0, none⟩,
 ⟨some 55, .ext (.t 51) 1, none⟩,
 ⟨some 11, .mv (.t 54), none⟩,
 ⟨some 12, .mv (.t 55), none⟩] [2, 3, 7, 11, 12]) (
 .seq (
 .seq (
 .reg [
 ⟨some 56, .mv (.t 12), none⟩,
 ⟨some 57, .bin .neq (.t 56) (.c (.int .i64 0)), none⟩] [2, 3, 7, 11, 57]) (
 .cond (.t 57) (
 .seq (
 .reg [
 ⟨some 6, .mv (.c (.bool false)), none⟩] [6]) (
 .ret)) (
 .skip))) (
 .seq (
 .reg [
 ⟨some 59, .ldA 2 (.t 3), none⟩,
 ⟨some 60, .call 10 [none] [(.t 59)], none⟩,
 ⟨some 61, .mv (.t 7), none⟩,
 ⟨some 62, .mv (.t 2), none⟩,
 ⟨some 63, .call 9 [none, none, none] [(.t 60), (.t 61), (.t 62)], none⟩,
 ⟨some 58, .mv (.t 63), none⟩,
 ⟨some 64, .ext (.t 58) 0, none⟩,
 ⟨some 65, .ext (.t 58) 1, none⟩,
 ⟨some 13, .alc [.bool false, .bool false, .int .i64 0, .int .i64 0, .nils], none⟩,
 ⟨none, .st 5 (.t 13) (.t 64), none⟩,
 ⟨some 14, .mv (.t 65), none⟩] [2, 3, 7, 11, 13, 14]) (
 .seq (
 .reg [
 ⟨some 67, .ldA 2 (.t 3), none⟩,
 ⟨some 68, .call 10 [none] [(.t 67)], none⟩,
 ⟨some 69, .mv (.t 11), none⟩,
 ⟨some 70, .mv (.t 2), none⟩,
 ⟨some 71, .call 9 [none, none, none] [(.t 68), (.t 69), (.t 70)], none⟩,
 ⟨some 66, .mv (.t 71), none⟩,
 ⟨some 72, .ext (.t 66) 0, none⟩,
 ⟨some 73, .ext (.t 66) 1, none⟩,
 ⟨some 15, .alc [.bool false, .bool false, .int .i64 0, .int .i64 0, .nils], none⟩,
 ⟨none, .st 5 (.t 15) (.t 72), none⟩,
 ⟨some 16, .mv (.t 73), none⟩] [7, 11, 13, 14, 15, 16]) (
 .seq (
 .reg [
 ⟨some 75, .mv (.t 7), none⟩,
 ⟨some 76, .call 16 [none] [(.t 75)], none⟩,
 ⟨some 74, .mv (.t 76), none⟩,
 ⟨some 77, .ext (.t 74) 0, none⟩,
 ⟨some 78, .ext (.t 74) 1, none⟩,
 ⟨some 17, .mv (.t 77), none⟩,
 ⟨some 18, .mv (.t 78), none⟩] [11, 13, 14, 15, 16, 17]) (
 .seq (
 .reg [
 ⟨some 80, .mv (.t 11), none⟩,
 ⟨some 81, .call 16 [none] [(.t 80)], none⟩,
 ⟨some 79, .mv (.t 81), none⟩,
 ⟨some 82, .ext (.t 79) 0, none⟩,
 ⟨some 83, .ext (.t 79) 1, none⟩,
 ⟨some 19, .mv (.t 82), none⟩,
 ⟨some 20, .mv (.t 83), none⟩] [13, 14, 15, 16, 17, 19]) (
 .seq (
 .regD [
 ⟨some 84, .ldA 5 (.t 13), none⟩,
 ⟨some 85, .call 14 [none] [(.t 84)], none⟩,
 ⟨some 86, .ldA 5 (.t 15), none⟩,
 ⟨some 87, .call 14 [none] [(.t 86)], none⟩,
 ⟨some 88, .call 13 [none, none] [(.t 85), (.t 87)], none⟩,
 ⟨some 89, .mv (.t 88), none⟩,
 ⟨some 90, .mv (.t 14), (some (89, true))⟩,
 ⟨some 91, .mv (.t 16), (some (89, true))⟩,
 ⟨some 92, .bin .eql (.t 90) (.t 91), (some (89, true))⟩,
 ⟨some 93, .pick (.t 89) (.t 92) (.c (.bool false)), none⟩,
 ⟨some 94, .mv (.t 93), none⟩,
 ⟨some 95, .mv (.t 17), (some (94, true))⟩,
 ⟨some 96, .b2s (.t 95), (some (94, true))⟩,
 ⟨some 97, .mv (.t 19), (some (94, true))⟩,
 ⟨some 98, .b2s (.t 97), (some (94, true))⟩,
 ⟨some 99, .bin .eql (.t 96) (.t 98), (some (94, true))⟩,
 ⟨some 100, .pick (.t 94) (.t 99) (.c (.bool false)), none⟩,
 ⟨some 6, .mv (.t 100), none⟩] [.q 0, .q 2, .e 1 [2], .e 3 [], .e 4 [], .q 5, .q 6, .q 7, .q 8, .q 9, .q 10, .q 11, .q 12, .q 13, .q 14, .q 15, .q 16, .q 17] [6]) (
 .ret))))))))))))
def r5 : List RT := [.t 6]

/-- reeve/reevelaw20.few -/
def a7 : AS :=
 .seq (
 .reg [
 ⟨some 2, .box (.t 0), none⟩,
 ⟨some 3, .box (.t 1), none⟩,
 ⟨some 4, .mv (.c (.bool false)), none⟩] [2, 3]) (
 .seq (
 .reg [
 ⟨some 5, .mv (.c (.int .i64 0)), none⟩] [2, 3, 5]) (
 .seq (
 .seq (
 .reg [
 ⟨some 9, .fa 0 (.t 2), none⟩,
 ⟨some 10, .ld (.t 9), none⟩,
 ⟨some 11, .len .s (.t 10), none⟩,
 ⟨some 12, .mv (.c (.int .i64 0)), none⟩] [2, 3, 5, 11, 12]) (
 .block 0 (
 .loop 1 [2, 3, 5, 11, 12] (
 .seq (
 .reg [
 ⟨some 13, .bin .lss (.t 12) (.t 11), none⟩] [2, 3, 5, 11, 12, 13]) (
 .seq (
 .cond (.t 13) (
 .skip) (
 .exit 0)) (
 .seq (
 .block 1 (
 .seq (
 .reg [
 ⟨some 14, .mv (.t 12), none⟩,
 ⟨some 6, .mv (.t 14), none⟩] [2, 3, 5, 6, 11, 12]) (
 .regD [
 ⟨some 15, .mv (.t 5), none⟩,
 ⟨some 16, .fa 0 (.t 2), none⟩,
 ⟨some 17, .ld (.t 16), none⟩,
 ⟨some 18, .mv (.t 6), none⟩,
 ⟨some 19, .ia 4 (.t 17) (.t 18), none⟩,
 ⟨some 20, .fa 3 (.t 19), none⟩,
 ⟨some 21, .ld (.t 20), none⟩,
 ⟨some 22, .len .s (.t 21), none⟩,
 ⟨some 23, .bin .add (.t 15) (.t 22), none⟩,
 ⟨some 24, .fa 0 (.t 2), none⟩,
 ⟨some 25, .ld (.t 24), none⟩,
 ⟨some 26, .mv (.t 6), none⟩,
 ⟨some 27, .ia 4 (.t 25) (.t 26), none⟩,
 ⟨some 28, .fa 0 (.t 27), none⟩,
 ⟨some 29, .ld (.t 28), none⟩,
 ⟨some 30, .len .i (.t 29), none⟩,
 ⟨some 31, .bin .add (.t 23) (.t 30), none⟩,
 ⟨some 32, .bin .add (.t 31) (.c (.int .i64 1)), none⟩,
 ⟨some 5, .mv (.t 32), none⟩] [.q 0, .q 1, .q 2, .q 3, .q 4, .q 5, .q 6, .q 7, .q 8, .q 9, .q 10, .q 11, .q 12, .q 13, .q 14, .q 15, .q 16, .q 17, .e 18 []] [2, 3, 5, 11, 12]))) (
 .reg [
 ⟨some 33, .bin .add (.t 12) (.c (.int .i64 1)), none⟩,
 ⟨some 12, .mv (.t 33), none⟩] [2, 3, 5, 11, 12]))))))) (
 .seq (
 .seq (
 .reg [
 ⟨some 34, .fa 1 (.t 2), none⟩,
 ⟨some 35, .ld (.t 34), none⟩,
 ⟨some 36, .len .s (.t 35), none⟩,
 ⟨some 37, .mv (.c (.int .i64 0)), none⟩] [2, 3, 5, 36, 37]) (
 .block 2 (
 .loop 2 [2, 3, 5, 36, 37] (
 .seq (
 .reg [
 ⟨some 38, .bin .lss (.t 37) (.t 36), none⟩] [2, 3, 5, 36, 37, 38]) (
 .seq (
 .cond (.t 38) (
 .skip) (
 .exit 2)) (
 .seq (
 .block 3 (
 .seq (
 .reg [
 ⟨some 39, .mv (.t 37), none⟩,
 ⟨some 7, .mv (.t 39), none⟩] [2, 3, 5, 7, 36, 37]) (
 .regD [
 ⟨some 40, .mv (.t 5), none⟩,
 ⟨some 41, .fa 1 (.t 2), none⟩,
 ⟨some 42, .ld (.t 41), none⟩,
 ⟨some 43, .mv (.t 7), none⟩,
 ⟨some 44, .ia 4 (.t 42) (.t 43), none⟩,
 ⟨some 45, .fa 3 (.t 44), none⟩,
 ⟨some 46, .ld (.t 45), none⟩,
 ⟨some 47, .len .s (.t 46), none⟩,
 ⟨some 48, .bin .add (.t 40) (.t 47), none⟩,
 ⟨some 49, .fa 1 (.t 2), none⟩,
 ⟨some 50, .ld (.t 49), none⟩,
 ⟨some 51, .mv (.t 7), none⟩,
 ⟨some 52, .ia 4 (.t 50) (.t 51), none⟩,
 ⟨some 53, .fa 0 (.t 52), none⟩,
 ⟨some 54, .ld (.t 53), none⟩,
 ⟨some 55, .len .i (.t 54), none⟩,
 ⟨some 56, .bin .add (.t 48) (.t 55), none⟩,
 ⟨some 57, .bin .add (.t 56) (.c (.int .i64 1)), none⟩,
 ⟨some 5, .mv (.t 57), none⟩] [.q 0, .q 1, .q 2, .q 3, .q 4, .q 5, .q 6, .q 7, .q 8, .q 9, .q 10, .q 11, .q 12, .q 13, .q 14, .q 15, .q 16, .q 17, .e 18 []] [2, 3, 5, 36, 37]))) (
 .reg [
 ⟨some 58, .bin .add (.t 37) (.c (.int .i64 1)), none⟩,
 ⟨some 37, .mv (.t 58), none⟩] [2, 3, 5, 36, 37]))))))) (
 .seq (
 .seq (
 .reg [
 ⟨some 59, .fa 2 (.t 2), none⟩,
 ⟨some 60, .ld (.t 59), none⟩,
 ⟨some 61, .len .s (.t 60), none⟩,
 ⟨some 62, .mv (.c (.int .i64 0)), none⟩] [2, 3, 5, 61, 62]) (
 .block 4 (
 .loop 3 [2, 3, 5, 61, 62] (
 .seq (
 .reg [
 ⟨some 63, .bin .lss (.t 62) (.t 61), none⟩] [2, 3, 5, 61, 62, 63]) (
 .seq (
 .cond (.t 63) (
 .skip) (
 .exit 4)) (
 .seq (
 .block 5 (
 .seq (
 .reg [
 ⟨some 64, .mv (.t 62), none⟩,
 ⟨some 8, .mv (.t 64), none⟩] [2, 3, 5, 8, 61, 62]) (
 .reg [
 ⟨some 65, .mv (.t 5), none⟩,
 ⟨some 66, .fa 2 (.t 2), none⟩,
 ⟨some 67, .ld (.t 66), none⟩,
 ⟨some 68, .mv (.t 8), none⟩,
 ⟨some 69, .ia 1 (.t 67) (.t 68), none⟩,
 ⟨some 70, .ld (.t 69), none⟩,
 ⟨some 71, .len .i (.t 70), none⟩,
 ⟨some 72, .bin .add (.t 65) (.t 71), none⟩,
 ⟨some 73, .bin .add (.t 72) (.c (.int .i64 1)), none⟩,
 ⟨some 5, .mv (.t 73), none⟩] [2, 3, 5, 61, 62]))) (
 .reg [
 ⟨some 74, .bin .add (.t 62) (.c (.int .i64 1)), none⟩,
 ⟨some 62, .mv (.t 74), none⟩] [2, 3, 5, 61, 62]))))))) (
 .seq (
 .reg [
 ⟨some 75, .mv (.t 5), none⟩,
 ⟨some 76, .bin .lss (.t 75) (.c (.int .i64 10000)), none⟩,
 ⟨some 77, .mv (.t 76), none⟩,
 ⟨some 78, .fa 3 (.t 2), (some (77, true))⟩,
 ⟨some 79, .ld (.t 78), (some (77, true))⟩,
 ⟨some 80, .len .s (.t 79), (some (77, true))⟩,
 ⟨some 81, .bin .lss (.t 80) (.c (.int .i64 300)), (some (77, true))⟩,
 ⟨some 82, .pick (.t 77) (.t 81) (.c (.bool false)), none⟩,
 ⟨some 83, .mv (.t 82), none⟩,
 ⟨some 84, .ldA 2 (.t 3), (some (83, true))⟩,
 ⟨some 85, .call 21 [none] [(.t 84)], (some (83, true))⟩,
 ⟨some 86, .pick (.t 83) (.t 85) (.c (.bool false)), none⟩,
 ⟨some 4, .mv (.t 86), none⟩] [4]) (
 .ret))))))
def r7 : List RT := [.t 4]

/-- reeve/reeveref20.SameOutcome -/
def a13 : AS :=
 .seq (
 .reg [
 ⟨some 2, .box (.t 0), none⟩,
 ⟨some 3, .box (.t 1), none⟩,
 ⟨some 4, .mv (.c (.bool false)), none⟩] [2, 3]) (
 .seq (
 .reg [
 ⟨some 5, .fa 0 (.t 2), none⟩,
 ⟨some 6, .ld (.t 5), none⟩,
 ⟨some 7, .fa 0 (.t 3), none⟩,
 ⟨some 8, .ld (.t 7), none⟩,
 ⟨some 9, .binB false (.t 6) (.t 8), none⟩,
 ⟨some 10, .mv (.t 9), none⟩,
 ⟨some 11, .fa 1 (.t 2), (some (10, true))⟩,
 ⟨some 12, .ld (.t 11), (some (10, true))⟩,
 ⟨some 13, .fa 1 (.t 3), (some (10, true))⟩,
 ⟨some 14, .ld (.t 13), (some (10, true))⟩,
 ⟨some 15, .binB false (.t 12) (.t 14), (some (10, true))⟩,
 ⟨some 16, .pick (.t 10) (.t 15) (.c (.bool false)), none⟩,
 ⟨some 17, .mv (.t 16), none⟩,
 ⟨some 18, .fa 2 (.t 2), (some (17, true))⟩,
 ⟨some 19, .ld (.t 18), (some (17, true))⟩,
 ⟨some 20, .fa 2 (.t 3), (some (17, true))⟩,
 ⟨some 21, .ld (.t 20), (some (17, true))⟩,
 ⟨some 22, .bin .eql (.t 19) (.t 21), (some (17, true))⟩,
 ⟨some 23, .pick (.t 17) (.t 22) (.c (.bool false)), none⟩,
 ⟨some 24, .mv (.t 23), none⟩,
 ⟨some 25, .fa 3 (.t 2), (some (24, true))⟩,
 ⟨some 26, .ld (.t 25), (some (24, true))⟩,
 ⟨some 27, .fa 3 (.t 3), (some (24, true))⟩,
 ⟨some 28, .ld (.t 27), (some (24, true))⟩,
 ⟨some 29, .bin .eql (.t 26) (.t 28), (some (24, true))⟩,
 ⟨some 30, .pick (.t 24) (.t 29) (.c (.bool false)), none⟩,
 ⟨some 31, .mv (.t 30), none⟩,
 ⟨some 32, .fa 4 (.t 2), (some (31, true))⟩,
 ⟨some 33, .ld (.t 32), (some (31, true))⟩,
 ⟨some 34, .fa 4 (.t 3), (some (31, true))⟩,
 ⟨some 35, .ld (.t 34), (some (31, true))⟩,
 ⟨some 36, .call 42 [none, none] [(.t 33), (.t 35)], (some (31, true))⟩,
 ⟨some 37, .pick (.t 31) (.t 36) (.c (.bool false)), none⟩,
 ⟨some 4, .mv (.t 37), none⟩] [4]) (
 .ret))
def r13 : List RT := [.t 4]

/-- reeve/reevelaw20.Ours -/
def a14 : AS :=
 .seq (
 .reg [
 ⟨some 1, .box (.t 0), none⟩,
 ⟨some 2, .alc [.bool false, .bool false, .int .i64 0, .int .i64 0, .nils], none⟩] [1, 2]) (
 .seq (
 .regD [
 ⟨some 3, .fa 0 (.t 1), none⟩,
 ⟨some 4, .ld (.t 3), none⟩,
 ⟨some 5, .fa 1 (.t 1), none⟩,
 ⟨some 6, .ld (.t 5), none⟩,
 ⟨some 7, .fa 2 (.t 1), none⟩,
 ⟨some 8, .ld (.t 7), none⟩,
 ⟨some 9, .fa 3 (.t 1), none⟩,
 ⟨some 10, .ld (.t 9), none⟩,
 ⟨some 11, .fa 4 (.t 1), none⟩,
 ⟨some 12, .ld (.t 11), none⟩,
 ⟨some 13, .call 43 [none] [(.t 12)], none⟩,
 ⟨some 14, .bld [.bool false, .bool false, .int .i64 0, .int .i64 0, .nils] [(0, 1, (.t 4)), (1, 1, (.t 6)), (2, 1, (.t 8)), (3, 1, (.t 10)), (4, 1, (.t 13))], none⟩,
 ⟨none, .st 5 (.t 2) (.t 14), none⟩] [.q 0, .q 1, .q 2, .q 3, .q 4, .q 5, .q 6, .q 7, .q 8, .q 9, .e 10 [0, 1, 2, 3, 4, 5, 6, 7], .q 11, .e 12 []] [2]) (
 .ret))
def r14 : List RT := [.c 2 (some 5), .f 2]

/-- reeve/actor.Decode -/
def a17 : AS :=
 .seq (
 .reg [
 ⟨some 2, .mv (.c (.nilp)), none⟩,
 ⟨some 3, .mv (.c (.int .i64 0)), none⟩] [0]) (
 .seq (
 .reg [
 ⟨some 8, .mv (.t 0), none⟩,
 ⟨some 9, .call 64 [(some (1, .byte))] [(.t 8)], none⟩,
 ⟨some 4, .mv (.t 9), none⟩] [4]) (
 .seq (
 .reg [
 ⟨some 10, .mv (.t 4), none⟩,
 ⟨some 11, .call 65 [none] [(.t 10)], none⟩,
 ⟨some 5, .mv (.t 11), none⟩] [4, 5]) (
 .seq (
 .reg [
 ⟨some 12, .mv (.t 5), none⟩,
 ⟨some 13, .mm false (.t 12) (.c (.int .u64 3)), none⟩,
 ⟨some 14, .cv .i64 (.t 13), none⟩,
 ⟨some 15, .bld [.nilp, .nilp, .nilp, .int .i64 0, .nils] [(3, 1, (.t 14))], none⟩,
 ⟨some 16, .box (.t 15), none⟩,
 ⟨some 6, .mv (.t 16), none⟩] [4, 6]) (
 .seq (
 .reg [
 ⟨some 7, .alc [.arr 4 (.int .i64) (List.replicate 4 (Ty.dflt (.int .i64)))], none⟩] [4, 6, 7]) (
 .seq (
 .reg [
 ⟨some 18, .mv (.t 6), none⟩,
 ⟨some 19, .mv (.t 4), none⟩,
 ⟨some 20, .call 67 [none] [(.t 19)], none⟩,
 ⟨some 21, .s2b (.t 20), none⟩,
 ⟨some 22, .call 66 [(some (1, .byte))] [(.t 21)], none⟩,
 ⟨some 17, .mv (.t 22), none⟩,
 ⟨some 23, .ext (.t 17) 0, none⟩,
 ⟨some 24, .ext (.t 17) 1, none⟩,
 ⟨some 25, .nck (.t 18), none⟩,
 ⟨some 26, .fa 0 (.t 25), none⟩,
 ⟨none, .st 1 (.t 26) (.t 23), none⟩,
 ⟨some 27, .iaA 4 1 (.t 7) (.c (.int .i64 0)), none⟩,
 ⟨none, .st 1 (.t 27) (.t 24), none⟩] [4, 6, 7]) (
 .seq (
 .reg [
 ⟨some 29, .mv (.t 6), none⟩,
 ⟨some 30, .mv (.t 4), none⟩,
 ⟨some 31, .call 67 [none] [(.t 30)], none⟩,
 ⟨some 32, .s2b (.t 31), none⟩,
 ⟨some 33, .call 68 [(some (1, .byte))] [(.t 32)], none⟩,
 ⟨some 28, .mv (.t 33), none⟩,
 ⟨some 34, .ext (.t 28) 0, none⟩,
 ⟨some 35, .ext (.t 28) 1, none⟩,
 ⟨some 36, .nck (.t 29), none⟩,
 ⟨some 37, .fa 1 (.t 36), none⟩,
 ⟨none, .st 1 (.t 37) (.t 34), none⟩,
 ⟨some 38, .iaA 4 1 (.t 7) (.c (.int .i64 1)), none⟩,
 ⟨none, .st 1 (.t 38) (.t 35), none⟩] [4, 6, 7]) (
 .seq (
 .reg [
 ⟨some 40, .mv (.t 6), none⟩,
 ⟨some 41, .mv (.t 4), none⟩,
 ⟨some 42, .call 67 [none] [(.t 41)], none⟩,
 ⟨some 43, .s2b (.t 42), none⟩,
 ⟨some 44, .call 33 [(some (1, .byte))] [(.t 43)], none⟩,
 ⟨some 39, .mv (.t 44), none⟩,
 ⟨some 45, .ext (.t 39) 0, none⟩,
 ⟨some 46, .ext (.t 39) 1, none⟩,
 ⟨some 47, .nck (.t 40), none⟩,
 ⟨some 48, .fa 2 (.t 47), none⟩,
 ⟨none, .st 1 (.t 48) (.t 45), none⟩,
 ⟨some 49, .iaA 4 1 (.t 7) (.c (.int .i64 2)), none⟩,
 ⟨none, .st 1 (.t 49) (.t 46), none⟩] [4, 6, 7]) (
 .seq (
 .reg [
 ⟨some 51, .mv (.t 6), none⟩,
 ⟨some 52, .mv (.t 4), none⟩,
 ⟨some 53, .call 67 [none] [(.t 52)], none⟩,
 ⟨some 54, .s2b (.t 53), none⟩,
 ⟨some 55, .call 69 [(some (1, .byte))] [(.t 54)], none⟩,
 ⟨some 50, .mv (.t 55), none⟩,
 ⟨some 56, .ext (.t 50) 0, none⟩,
 ⟨some 57, .ext (.t 50) 1, none⟩,
 ⟨some 58, .nck (.t 51), none⟩,
 ⟨some 59, .fa 4 (.t 58), none⟩,
 ⟨none, .st 1 (.t 59) (.t 56), none⟩,
 ⟨some 60, .iaA 4 1 (.t 7) (.c (.int .i64 3)), none⟩,
 ⟨none, .st 1 (.t 60) (.t 57), none⟩] [4, 6, 7]) (
 .seq (
 .seq (
 .frz 6 (
 .reg [
 ⟨some 61, .mv (.t 4), none⟩,
 ⟨some 62, .call 70 [none] [(.t 61)], none⟩,
 ⟨some 63, .not (.t 62), none⟩,
 ⟨some 64, .mv (.t 63), none⟩,
 ⟨some 65, .ldA 4 (.t 7), (some (64, false))⟩,
 ⟨some 66, .bldA [.int .i64 0, .int .i64 0, .int .i64 0, .int .i64 0] 4 (.int .i64) [], (some (64, false))⟩,
 ⟨some 67, .eqR true 4 (.t 65) (.t 66), (some (64, false))⟩,
 ⟨some 68, .pick (.t 64) (.c (.bool true)) (.t 67), none⟩,
 ⟨some 69, .mv (.t 68), none⟩,
 ⟨some 70, .mv (.t 6), (some (69, false))⟩,
 ⟨some 71, .call 56 [none] [(.t 70)], (some (69, false))⟩,
 ⟨some 72, .not (.t 71), (some (69, false))⟩,
 ⟨some 73, .pick (.t 69) (.c (.bool true)) (.t 72), none⟩] [6, 73])) (
 .cond (.t 73) (
 .seq (
 .reg [
 ⟨some 2, .mv (.c (.nilp)), none⟩,
 ⟨some 3, .mv (.c (.int .i64 2)), none⟩] [2, 3]) (
 .lift 2 (some 4) 56 (.pair .str (.pair (.int .u64) (.pair (.int .i64) (.sl 8 (.int .i64))))) (
 .ret))) (
 .skip))) (
 .seq (
 .reg [
 ⟨some 74, .mv (.t 6), none⟩,
 ⟨some 2, .mv (.t 74), none⟩,
 ⟨some 3, .mv (.c (.int .i64 0)), none⟩] [2, 3]) (
 .lift 2 (some 4) 56 (.pair .str (.pair (.int .u64) (.pair (.int .i64) (.sl 8 (.int .i64))))) (
 .ret))))))))))))
def r17 : List RT := [.t 2, .t 3]

/-- (*reeve/reeveref11.Inbox).Pop -/
def a41 : AS :=
 .seq (
 .reg [
 ⟨some 2, .alc [.str ByteArray.empty, .int .u64 0, .int .i64 0, .nils], none⟩,
 ⟨some 3, .mv (.c (.bool false)), none⟩] [0, 2]) (
 .seq (
 .seq (
 .reg [
 ⟨some 5, .mv (.t 0), none⟩,
 ⟨some 6, .nck (.t 5), none⟩,
 ⟨some 7, .fa 0 (.t 6), none⟩,
 ⟨some 8, .ld (.t 7), none⟩,
 ⟨some 9, .len .s (.t 8), none⟩,
 ⟨some 10, .bin .eql (.t 9) (.c (.int .i64 0)), none⟩] [0, 2, 10]) (
 .cond (.t 10) (
 .seq (
 .reg [
 ⟨some 11, .bld [.str ByteArray.empty, .int .u64 0, .int .i64 0, .nils] [], none⟩,
 ⟨none, .st 4 (.t 2) (.t 11), none⟩,
 ⟨some 3, .mv (.c (.bool false)), none⟩] [2, 3]) (
 .ret)) (
 .skip))) (
 .seq (
 .reg [
 ⟨some 12, .mv (.t 0), none⟩,
 ⟨some 13, .nck (.t 12), none⟩,
 ⟨some 14, .fa 0 (.t 13), none⟩,
 ⟨some 15, .ld (.t 14), none⟩,
 ⟨some 16, .ia 4 (.t 15) (.c (.int .i64 0)), none⟩,
 ⟨some 17, .ldA 4 (.t 16), none⟩,
 ⟨some 4, .alc [.str ByteArray.empty, .int .u64 0, .int .i64 0, .nils], none⟩,
 ⟨none, .st 4 (.t 4) (.t 17), none⟩] [0, 2, 4]) (
 .seq (
 .reg [
 ⟨some 18, .mv (.t 0), none⟩,
 ⟨some 19, .bsl 56 (.pair .str (.pair (.int .u64) (.pair (.int .i64) (.sl 8 (.int .i64))))) 0 [], none⟩,
 ⟨some 20, .mv (.t 0), none⟩,
 ⟨some 21, .nck (.t 20), none⟩,
 ⟨some 22, .fa 0 (.t 21), none⟩,
 ⟨some 23, .ld (.t 22), none⟩,
 ⟨some 24, .slR 4 (.t 23) (some (.c (.int .i64 1))) none, none⟩,
 ⟨some 25, .app 56 (.pair .str (.pair (.int .u64) (.pair (.int .i64) (.sl 8 (.int .i64))))) (.t 19) (.t 24), none⟩,
 ⟨some 26, .nck (.t 18), none⟩,
 ⟨some 27, .fa 0 (.t 26), none⟩,
 ⟨none, .st 1 (.t 27) (.t 25), none⟩] [2, 4]) (
 .seq (
 .reg [
 ⟨some 28, .ldA 4 (.t 4), none⟩,
 ⟨none, .st 4 (.t 2) (.t 28), none⟩,
 ⟨some 3, .mv (.c (.bool true)), none⟩] [2, 3]) (
 .ret)))))
/-- reeve/reeveref18.SameTimers -/
def a42 : AS :=
 .seq (
 .reg [
 ⟨some 4, .mv (.c (.bool false)), none⟩] [0, 1]) (
 .seq (
 .seq (
 .reg [
 ⟨some 6, .mv (.t 0), none⟩,
 ⟨some 7, .len .s (.t 6), none⟩,
 ⟨some 8, .mv (.t 1), none⟩,
 ⟨some 9, .len .s (.t 8), none⟩,
 ⟨some 10, .bin .neq (.t 7) (.t 9), none⟩] [0, 1, 10]) (
 .cond (.t 10) (
 .seq (
 .reg [
 ⟨some 4, .mv (.c (.bool false)), none⟩] [4]) (
 .ret)) (
 .skip))) (
 .seq (
 .seq (
 .reg [
 ⟨some 11, .mv (.t 0), none⟩,
 ⟨some 12, .len .s (.t 11), none⟩,
 ⟨some 13, .mv (.c (.int .i64 0)), none⟩] [0, 1, 12, 13]) (
 .block 0 (
 .loop 1 [0, 1, 12, 13] (
 .seq (
 .reg [
 ⟨some 14, .bin .lss (.t 13) (.t 12), none⟩] [0, 1, 12, 13, 14]) (
 .seq (
 .cond (.t 14) (
 .skip) (
 .exit 0)) (
 .seq (
 .block 1 (
 .seq (
 .reg [
 ⟨some 15, .mv (.t 13), none⟩,
 ⟨some 5, .mv (.t 15), none⟩] [0, 1, 5, 12, 13]) (
 .seq (
 .regD [
 ⟨some 16, .mv (.t 0), none⟩,
 ⟨some 17, .mv (.t 5), none⟩,
 ⟨some 18, .ia 5 (.t 16) (.t 17), none⟩,
 ⟨some 19, .ldA 5 (.t 18), none⟩,
 ⟨some 20, .mv (.t 1), none⟩,
 ⟨some 21, .mv (.t 5), none⟩,
 ⟨some 22, .ia 5 (.t 20) (.t 21), none⟩,
 ⟨some 23, .ldA 5 (.t 22), none⟩,
 ⟨some 24, .eqS true [.str, .bool, .int .i64, .int .i64, .int .i64] (.t 19) (.t 23), none⟩] [.q 0, .q 1, .q 2, .q 3, .q 4, .q 5, .q 6, .q 7, .q 8] [0, 1, 12, 13, 24]) (
 .cond (.t 24) (
 .seq (
 .reg [
 ⟨some 4, .mv (.c (.bool false)), none⟩] [4]) (
 .ret)) (
 .skip))))) (
 .reg [
 ⟨some 25, .bin .add (.t 13) (.c (.int .i64 1)), none⟩,
 ⟨some 13, .mv (.t 25), none⟩] [0, 1, 12, 13]))))))) (
 .seq (
 .reg [
 ⟨some 4, .mv (.c (.bool true)), none⟩] [4]) (
 .ret))))
def r42 : List RT := [.t 4]

/-- reeve/reevelaw18.Timers -/
def a43 : AS :=
 .seq (
 .reg [
 ⟨some 2, .mv (.c (.nils)), none⟩] [0]) (
 .seq (
 .reg [
 ⟨some 3, .mv (.c (.nils)), none⟩] [0, 3]) (
 .seq (
 .seq (
 .reg [
 ⟨some 5, .mv (.t 0), none⟩,
 ⟨some 6, .len .s (.t 5), none⟩,
 ⟨some 7, .mv (.c (.int .i64 0)), none⟩] [0, 3, 6, 7]) (
 .block 0 (
 .lift 3 none 48 (.pair .str (.pair .bool (.pair (.int .i64) (.pair (.int .i64) (.int .i64))))) (
 .loop 1 [0, 3, 6, 7] (
 .seq (
 .reg [
 ⟨some 8, .bin .lss (.t 7) (.t 6), none⟩] [0, 3, 6, 7, 8]) (
 .seq (
 .cond (.t 8) (
 .skip) (
 .exit 0)) (
 .seq (
 .block 1 (
 .seq (
 .reg [
 ⟨some 9, .mv (.t 7), none⟩,
 ⟨some 4, .mv (.t 9), none⟩] [0, 3, 4, 6, 7]) (
 .reg [
 ⟨some 10, .mv (.t 3), none⟩,
 ⟨some 11, .mv (.t 0), none⟩,
 ⟨some 12, .mv (.t 4), none⟩,
 ⟨some 13, .ia 5 (.t 11) (.t 12), none⟩,
 ⟨some 14, .ldA 5 (.t 13), none⟩,
 ⟨some 15, .bsl 48 (.pair .str (.pair .bool (.pair (.int .i64) (.pair (.int .i64) (.int .i64))))) 1 [(0, (.t 14))], none⟩,
 ⟨some 16, .app 48 (.pair .str (.pair .bool (.pair (.int .i64) (.pair (.int .i64) (.int .i64))))) (.t 10) (.t 15), none⟩,
 ⟨some 3, .mv (.t 16), none⟩] [0, 3, 6, 7]))) (
 .reg [
 ⟨some 17, .bin .add (.t 7) (.c (.int .i64 1)), none⟩,
 ⟨some 7, .mv (.t 17), none⟩] [0, 3, 6, 7])))))))) (
 .seq (
 .reg [
 ⟨some 18, .mv (.t 3), none⟩,
 ⟨some 2, .mv (.t 18), none⟩] [2]) (
 .lift 2 none 48 (.pair .str (.pair .bool (.pair (.int .i64) (.pair (.int .i64) (.int .i64))))) (
 .ret)))))
def r43 : List RT := [.t 2]

/-- (*reeve/inbox.Inbox).All -/
def a46 : AS :=
 .seq (
 .reg [
 ⟨some 2, .mv (.c (.nils)), none⟩] [0]) (
 .seq (
 .seq (
 .reg [
 ⟨some 3, .mv (.t 0), none⟩,
 ⟨some 4, .eqn false .p (.t 3) (.c (.nilp)), none⟩] [0, 4]) (
 .cond (.t 4) (
 .seq (
 .reg [
 ⟨some 2, .mv (.c (.nils)), none⟩] [2]) (
 .lift 2 none 56 (.pair .str (.pair (.int .u64) (.pair (.int .i64) (.sl 8 (.int .i64))))) (
 .ret))) (
 .skip))) (
 .seq (
 .reg [
 ⟨some 5, .mv (.t 0), none⟩,
 ⟨some 6, .nck (.t 5), none⟩,
 ⟨some 7, .fa 0 (.t 6), none⟩,
 ⟨some 8, .ld (.t 7), none⟩,
 ⟨some 9, .call 92 [(some (56, (.pair .str (.pair (.int .u64) (.pair (.int .i64) (.sl 8 (.int .i64)))))))] [(.t 8)], none⟩,
 ⟨some 2, .mv (.t 9), none⟩] [2]) (
 .lift 2 none 56 (.pair .str (.pair (.int .u64) (.pair (.int .i64) (.sl 8 (.int .i64))))) (
 .ret))))
/-- (*reeve/journal.Journal).Base -/
def a53 : AS :=
 .seq (
 .reg [
 ⟨some 2, .alc [.arr 8 (.int .i64) (List.replicate 8 (Ty.dflt (.int .i64)))], none⟩] [0, 2]) (
 .seq (
 .seq (
 .reg [
 ⟨some 3, .mv (.t 0), none⟩,
 ⟨some 4, .eqn false .p (.t 3) (.c (.nilp)), none⟩] [0, 2, 4]) (
 .cond (.t 4) (
 .seq (
 .reg [
 ⟨some 5, .bldA [.int .i64 0, .int .i64 0, .int .i64 0, .int .i64 0, .int .i64 0, .int .i64 0, .int .i64 0, .int .i64 0] 8 (.int .i64) [], none⟩,
 ⟨none, .st 8 (.t 2) (.t 5), none⟩] [2]) (
 .ret)) (
 .skip))) (
 .seq (
 .reg [
 ⟨some 6, .mv (.t 0), none⟩,
 ⟨some 7, .nck (.t 6), none⟩,
 ⟨some 8, .fa 0 (.t 7), none⟩,
 ⟨some 9, .ldA 8 (.t 8), none⟩,
 ⟨none, .st 8 (.t 2) (.t 9), none⟩] [2]) (
 .ret)))
/-- reeve/journal.Decode -/
def a66 : AS :=
 .seq (
 .reg [
 ⟨some 2, .mv (.c (.nilp)), none⟩,
 ⟨some 3, .mv (.c (.int .i64 0)), none⟩] [0]) (
 .seq (
 .reg [
 ⟨some 9, .mv (.t 0), none⟩,
 ⟨some 10, .call 64 [(some (1, .byte))] [(.t 9)], none⟩,
 ⟨some 4, .mv (.t 10), none⟩] [4]) (
 .seq (
 .reg [
 ⟨some 11, .mv (.t 4), none⟩,
 ⟨some 12, .call 65 [none] [(.t 11)], none⟩,
 ⟨some 13, .bld [.arr 8 (.int .i64) (List.replicate 8 (Ty.dflt (.int .i64))), .nils, .int .u64 0] [(9, 1, (.t 12))], none⟩,
 ⟨some 14, .box (.t 13), none⟩,
 ⟨some 5, .mv (.t 14), none⟩] [4, 5]) (
 .seq (
 .seq (
 .reg [
 ⟨some 15, .mv (.c (.int .i64 0)), none⟩] [4, 5, 15]) (
 .block 0 (
 .lift 4 (some 0) 1 .byte (
 .lift 5 (some 8) 16 (.pair (.int .i64) (.int .i64)) (
 .loop 1 [4, 5, 15] (
 .seq (
 .reg [
 ⟨some 16, .bin .lss (.t 15) (.c (.int .i64 8)), none⟩] [4, 5, 15, 16]) (
 .seq (
 .cond (.t 16) (
 .skip) (
 .exit 0)) (
 .seq (
 .block 1 (
 .seq (
 .reg [
 ⟨some 17, .mv (.t 15), none⟩,
 ⟨some 6, .mv (.t 17), none⟩] [4, 5, 6, 15]) (
 .regD [
 ⟨some 18, .mv (.t 5), none⟩,
 ⟨some 19, .mv (.t 6), none⟩,
 ⟨some 20, .mv (.t 4), none⟩,
 ⟨some 21, .call 110 [none] [(.t 20)], none⟩,
 ⟨some 22, .nck (.t 18), none⟩,
 ⟨some 23, .fa 0 (.t 22), none⟩,
 ⟨some 24, .iaA 8 1 (.t 23) (.t 19), none⟩,
 ⟨none, .st 1 (.t 24) (.t 21), none⟩] [.q 0, .q 1, .q 2, .q 4, .q 5, .e 3 [0, 1, 4, 5], .q 6, .e 7 []] [4, 5, 15]))) (
 .reg [
 ⟨some 25, .bin .add (.t 15) (.c (.int .i64 1)), none⟩,
 ⟨some 15, .mv (.t 25), none⟩] [4, 5, 15]))))))))) (
 .seq (
 .reg [
 ⟨some 26, .mv (.t 4), none⟩,
 ⟨some 27, .call 65 [none] [(.t 26)], none⟩,
 ⟨some 7, .mv (.t 27), none⟩] [4, 5, 7]) (
 .seq (
 .seq (
 .reg [
 ⟨some 28, .mv (.t 7), none⟩,
 ⟨some 29, .bin .gtr (.t 28) (.c (.int .u64 16)), none⟩,
 ⟨some 30, .mv (.t 29), none⟩,
 ⟨some 31, .mv (.t 7), (some (30, false))⟩,
 ⟨some 32, .mv (.t 5), (some (30, false))⟩,
 ⟨some 33, .nck (.t 32), (some (30, false))⟩,
 ⟨some 34, .fa 9 (.t 33), (some (30, false))⟩,
 ⟨some 35, .ld (.t 34), (some (30, false))⟩,
 ⟨some 36, .bin .gtr (.t 31) (.t 35), (some (30, false))⟩,
 ⟨some 37, .pick (.t 30) (.c (.bool true)) (.t 36), none⟩] [4, 5, 7, 37]) (
 .cond (.t 37) (
 .seq (
 .reg [
 ⟨some 2, .mv (.c (.nilp)), none⟩,
 ⟨some 3, .mv (.c (.int .i64 2)), none⟩] [2, 3]) (
 .lift 2 (some 8) 16 (.pair (.int .i64) (.int .i64)) (
 .ret))) (
 .skip))) (
 .seq (
 .seq (
 .reg [
 ⟨some 38, .mv (.t 7), none⟩,
 ⟨some 39, .mv (.c (.int .u64 0)), none⟩] [4, 5, 38, 39]) (
 .block 2 (
 .lift 4 (some 0) 1 .byte (
 .lift 5 (some 8) 16 (.pair (.int .i64) (.int .i64)) (
 .loop 2 [4, 5, 38, 39] (
 .seq (
 .reg [
 ⟨some 40, .bin .lss (.t 39) (.t 38), none⟩] [4, 5, 38, 39, 40]) (
 .seq (
 .cond (.t 40) (
 .skip) (
 .exit 2)) (
 .seq (
 .block 3 (
 .seq (
 .reg [
 ⟨some 41, .mv (.t 4), none⟩,
 ⟨some 42, .call 65 [none] [(.t 41)], none⟩,
 ⟨some 8, .mv (.t 42), none⟩] [4, 5, 8, 38, 39]) (
 .seq (
 .seq (
 .reg [
 ⟨some 43, .mv (.t 8), none⟩,
 ⟨some 44, .bin .geq (.t 43) (.c (.int .u64 8)), none⟩] [4, 5, 8, 38, 39, 44]) (
 .cond (.t 44) (
 .seq (
 .reg [
 ⟨some 2, .mv (.c (.nilp)), none⟩,
 ⟨some 3, .mv (.c (.int .i64 2)), none⟩] [2, 3]) (
 .lift 2 (some 8) 16 (.pair (.int .i64) (.int .i64)) (
 .ret))) (
 .skip))) (
 .regD [
 ⟨some 45, .mv (.t 5), none⟩,
 ⟨some 46, .mv (.t 5), none⟩,
 ⟨some 47, .nck (.t 46), none⟩,
 ⟨some 48, .fa 8 (.t 47), none⟩,
 ⟨some 49, .ld (.t 48), none⟩,
 ⟨some 50, .mv (.t 8), none⟩,
 ⟨some 51, .cv .i64 (.t 50), none⟩,
 ⟨some 52, .mv (.t 4), none⟩,
 ⟨some 53, .call 110 [none] [(.t 52)], none⟩,
 ⟨some 54, .bld [.int .i64 0, .int .i64 0] [(0, 1, (.t 51)), (1, 1, (.t 53))], none⟩,
 ⟨some 55, .bsl 16 (.pair (.int .i64) (.int .i64)) 1 [(0, (.t 54))], none⟩,
 ⟨some 56, .app 16 (.pair (.int .i64) (.int .i64)) (.t 49) (.t 55), none⟩,
 ⟨some 57, .nck (.t 45), none⟩,
 ⟨some 58, .fa 8 (.t 57), none⟩,
 ⟨none, .st 1 (.t 58) (.t 56), none⟩] [.q 0, .q 1, .q 2, .q 3, .q 4, .q 5, .q 6, .q 7, .e 8 [0, 1, 2, 3, 4, 5, 6], .q 9, .e 10 [0, 1, 2, 3, 4], .e 11 [0], .q 12, .q 13, .e 14 []] [4, 5, 38, 39])))) (
 .reg [
 ⟨some 59, .bin .add (.t 39) (.c (.int .u64 1)), none⟩,
 ⟨some 39, .mv (.t 59), none⟩] [4, 5, 38, 39]))))))))) (
 .seq (
 .seq (
 .reg [
 ⟨some 60, .mv (.t 4), none⟩,
 ⟨some 61, .call 70 [none] [(.t 60)], none⟩,
 ⟨some 62, .not (.t 61), none⟩] [5, 62]) (
 .cond (.t 62) (
 .seq (
 .reg [
 ⟨some 2, .mv (.c (.nilp)), none⟩,
 ⟨some 3, .mv (.c (.int .i64 2)), none⟩] [2, 3]) (
 .lift 2 (some 8) 16 (.pair (.int .i64) (.int .i64)) (
 .ret))) (
 .skip))) (
 .seq (
 .reg [
 ⟨some 63, .mv (.t 5), none⟩,
 ⟨some 2, .mv (.t 63), none⟩,
 ⟨some 3, .mv (.c (.int .i64 0)), none⟩] [2, 3]) (
 .lift 2 (some 8) 16 (.pair (.int .i64) (.int .i64)) (
 .ret))))))))))
def r66 : List RT := [.t 2, .t 3]

/-- reeve/inbox.Decode -/
def a68 : AS :=
 .seq (
 .reg [
 ⟨some 2, .mv (.c (.nilp)), none⟩,
 ⟨some 3, .mv (.c (.int .i64 0)), none⟩] [0]) (
 .seq (
 .reg [
 ⟨some 7, .mv (.t 0), none⟩,
 ⟨some 8, .call 69 [(some (1, .byte))] [(.t 7)], none⟩,
 ⟨some 6, .mv (.t 8), none⟩,
 ⟨some 9, .ext (.t 6) 0, none⟩,
 ⟨some 10, .ext (.t 6) 1, none⟩,
 ⟨some 4, .mv (.t 9), none⟩,
 ⟨some 5, .mv (.t 10), none⟩] [4, 5]) (
 .seq (
 .seq (
 .reg [
 ⟨some 11, .mv (.t 5), none⟩,
 ⟨some 12, .bin .neq (.t 11) (.c (.int .i64 0)), none⟩,
 ⟨some 13, .mv (.t 12), none⟩,
 ⟨some 14, .mv (.t 4), (some (13, false))⟩,
 ⟨some 15, .len .s (.t 14), (some (13, false))⟩,
 ⟨some 16, .bin .gtr (.t 15) (.c (.int .i64 8)), (some (13, false))⟩,
 ⟨some 17, .pick (.t 13) (.c (.bool true)) (.t 16), none⟩] [4, 17]) (
 .cond (.t 17) (
 .seq (
 .reg [
 ⟨some 2, .mv (.c (.nilp)), none⟩,
 ⟨some 3, .mv (.c (.int .i64 2)), none⟩] [2, 3]) (
 .lift 2 (some 0) 56 (.pair .str (.pair (.int .u64) (.pair (.int .i64) (.sl 8 (.int .i64))))) (
 .ret))) (
 .skip))) (
 .seq (
 .reg [
 ⟨some 18, .mv (.t 4), none⟩,
 ⟨some 19, .bld [.nils] [(0, 1, (.t 18))], none⟩,
 ⟨some 20, .box (.t 19), none⟩,
 ⟨some 2, .mv (.t 20), none⟩,
 ⟨some 3, .mv (.c (.int .i64 0)), none⟩] [2, 3]) (
 .lift 2 (some 0) 56 (.pair .str (.pair (.int .u64) (.pair (.int .i64) (.sl 8 (.int .i64))))) (
 .ret)))))
def r68 : List RT := [.t 2, .t 3]

/-- reeve/letter.Unpack -/
def a69 : AS :=
 .seq (
 .reg [
 ⟨some 2, .mv (.c (.nils)), none⟩,
 ⟨some 3, .mv (.c (.int .i64 0)), none⟩] [0]) (
 .seq (
 .reg [
 ⟨some 9, .mv (.t 0), none⟩,
 ⟨some 10, .call 64 [(some (1, .byte))] [(.t 9)], none⟩,
 ⟨some 4, .mv (.t 10), none⟩] [4]) (
 .seq (
 .reg [
 ⟨some 11, .mv (.t 4), none⟩,
 ⟨some 12, .call 65 [none] [(.t 11)], none⟩,
 ⟨some 5, .mv (.t 12), none⟩] [4, 5]) (
 .seq (
 .seq (
 .reg [
 ⟨some 13, .mv (.t 5), none⟩,
 ⟨some 14, .mv (.t 4), none⟩,
 ⟨some 15, .call 111 [none] [(.t 14)], none⟩,
 ⟨some 16, .cv .u64 (.t 15), none⟩,
 ⟨some 17, .bin .gtr (.t 13) (.t 16), none⟩] [4, 5, 17]) (
 .cond (.t 17) (
 .seq (
 .reg [
 ⟨some 2, .mv (.c (.nils)), none⟩,
 ⟨some 3, .mv (.c (.int .i64 2)), none⟩] [2, 3]) (
 .lift 2 none 56 (.pair .str (.pair (.int .u64) (.pair (.int .i64) (.sl 8 (.int .i64))))) (
 .ret))) (
 .skip))) (
 .seq (
 .reg [
 ⟨some 6, .mv (.c (.nils)), none⟩] [4, 5, 6]) (
 .seq (
 .seq (
 .reg [
 ⟨some 18, .mv (.t 5), none⟩,
 ⟨some 19, .mv (.c (.int .u64 0)), none⟩] [4, 6, 18, 19]) (
 .block 0 (
 .lift 6 none 56 (.pair .str (.pair (.int .u64) (.pair (.int .i64) (.sl 8 (.int .i64))))) (
 .lift 4 (some 0) 1 .byte (
 .loop 1 [4, 6, 18, 19] (
 .seq (
 .reg [
 ⟨some 20, .bin .lss (.t 19) (.t 18), none⟩] [4, 6, 18, 19, 20]) (
 .seq (
 .cond (.t 20) (
 .skip) (
 .exit 0)) (
 .seq (
 .block 1 (
 .seq (
 .reg [
 ⟨some 22, .mv (.t 4), none⟩,
 ⟨some 23, .call 112 [none] [(.t 22)], none⟩,
 ⟨some 21, .mv (.t 23), none⟩,
 ⟨some 24, .ext (.t 21) 0, none⟩,
 ⟨some 25, .ext (.t 21) 1, none⟩,
 ⟨some 7, .alc [.str ByteArray.empty, .int .u64 0, .int .i64 0, .nils], none⟩,
 ⟨none, .st 4 (.t 7) (.t 24), none⟩,
 ⟨some 8, .mv (.t 25), none⟩] [4, 6, 7, 8, 18, 19]) (
 .seq (
 .seq (
 .reg [
 ⟨some 26, .mv (.t 8), none⟩,
 ⟨some 27, .not (.t 26), none⟩] [4, 6, 7, 18, 19, 27]) (
 .cond (.t 27) (
 .seq (
 .reg [
 ⟨some 2, .mv (.c (.nils)), none⟩,
 ⟨some 3, .mv (.c (.int .i64 2)), none⟩] [2, 3]) (
 .lift 2 none 56 (.pair .str (.pair (.int .u64) (.pair (.int .i64) (.sl 8 (.int .i64))))) (
 .ret))) (
 .skip))) (
 .reg [
 ⟨some 28, .mv (.t 6), none⟩,
 ⟨some 29, .ldA 4 (.t 7), none⟩,
 ⟨some 30, .bsl 56 (.pair .str (.pair (.int .u64) (.pair (.int .i64) (.sl 8 (.int .i64))))) 1 [(0, (.t 29))], none⟩,
 ⟨some 31, .app 56 (.pair .str (.pair (.int .u64) (.pair (.int .i64) (.sl 8 (.int .i64))))) (.t 28) (.t 30), none⟩,
 ⟨some 6, .mv (.t 31), none⟩] [4, 6, 18, 19])))) (
 .reg [
 ⟨some 32, .bin .add (.t 19) (.c (.int .u64 1)), none⟩,
 ⟨some 19, .mv (.t 32), none⟩] [4, 6, 18, 19]))))))))) (
 .seq (
 .seq (
 .reg [
 ⟨some 33, .mv (.t 4), none⟩,
 ⟨some 34, .call 70 [none] [(.t 33)], none⟩,
 ⟨some 35, .not (.t 34), none⟩] [6, 35]) (
 .cond (.t 35) (
 .seq (
 .reg [
 ⟨some 2, .mv (.c (.nils)), none⟩,
 ⟨some 3, .mv (.c (.int .i64 2)), none⟩] [2, 3]) (
 .lift 2 none 56 (.pair .str (.pair (.int .u64) (.pair (.int .i64) (.sl 8 (.int .i64))))) (
 .ret))) (
 .skip))) (
 .seq (
 .reg [
 ⟨some 36, .mv (.t 6), none⟩,
 ⟨some 2, .mv (.t 36), none⟩,
 ⟨some 3, .mv (.c (.int .i64 0)), none⟩] [2, 3]) (
 .lift 2 none 56 (.pair .str (.pair (.int .u64) (.pair (.int .i64) (.sl 8 (.int .i64))))) (
 .ret)))))))))
def r69 : List RT := [.t 2, .t 3]

/-- (*reeve/codec.Reader).Left -/
def a111 : AS :=
 .seq (
 .reg [
 ⟨some 2, .mv (.c (.int .i64 0)), none⟩] [0]) (
 .seq (
 .seq (
 .reg [
 ⟨some 3, .mv (.t 0), none⟩,
 ⟨some 4, .eqn false .p (.t 3) (.c (.nilp)), none⟩] [0, 4]) (
 .cond (.t 4) (
 .seq (
 .reg [
 ⟨some 2, .mv (.c (.int .i64 0)), none⟩] [2]) (
 .ret)) (
 .skip))) (
 .seq (
 .reg [
 ⟨some 5, .mv (.t 0), none⟩,
 ⟨some 6, .nck (.t 5), none⟩,
 ⟨some 7, .fa 0 (.t 6), none⟩,
 ⟨some 8, .ld (.t 7), none⟩,
 ⟨some 9, .len .s (.t 8), none⟩,
 ⟨some 2, .mv (.t 9), none⟩] [2]) (
 .ret)))
def r111 : List RT := [.t 2]

theorem ok5 : okF Tryz.prog 5 a5 r5 3 = true := by decide +kernel
theorem ok7 : okF Tryz.prog 7 a7 r7 2 = true := by decide +kernel
theorem ok13 : okF Tryz.prog 13 a13 r13 2 = true := by decide +kernel
theorem ok14 : okF Tryz.prog 14 a14 r14 1 = true := by decide +kernel
theorem ok17 : okF Tryz.prog 17 a17 r17 1 = true := by decide +kernel
theorem ok42 : okF Tryz.prog 42 a42 r42 2 = true := by decide +kernel
theorem ok43 : okF Tryz.prog 43 a43 r43 1 = true := by decide +kernel
theorem ok66 : okF Tryz.prog 66 a66 r66 1 = true := by decide +kernel
theorem ok68 : okF Tryz.prog 68 a68 r68 1 = true := by decide +kernel
theorem ok69 : okF Tryz.prog 69 a69 r69 1 = true := by decide +kernel
theorem ok111 : okF Tryz.prog 111 a111 r111 1 = true := by decide +kernel
end Go.V
namespace Go.V
open Go.Proofs
set_option maxRecDepth 100000
set_option maxHeartbeats 8000000
set_option linter.unusedSimpArgs false
set_option linter.unnecessarySimpa false
set_option linter.unusedVariables false
/-! ### what an actor has at first -/
def staH (letters poison : List LetT.den) (to : List ByteArray) (events : List EvT.den) (tries : Int) (p1 p2 p3 p4 p5 p6 : Bool) (names : List ByteArray) (code : List EvT.den) : List SB :=
  [.struct [.sl p1 56 LetT letters, .sl p2 56 LetT poison, .sl p3 16 .str to, .sl p4 16 EvT events, .int .i64 tries], .struct [.sl p5 16 .str names, .sl p6 16 EvT code]]
def cntN (a b len i : Nat) (H : List SB) (N : Nat) : LoopAnn := { G := Int × Nat, I := fun g => ⟨[(2, .ptr 0 0), (3, .ptr 1 0), (5, .int .i64 g.1), (a, .int .i64 len), (b, .int .i64 g.2)], H⟩, R := fun _ g => g.2 ≤ len, μ := fun g => len - g.2 }
theorem cntN_I {a b len i H N} (g : Int × Nat) : (cntN a b len i H N).I g = ⟨[(2, .ptr 0 0), (3, .ptr 1 0), (5, .int .i64 g.1), (a, .int .i64 len), (b, .int .i64 g.2)], H⟩ := rfl
/-- few -/
def C7 : Contract := fun args hp K => match args, hp with
  | [.agg [.sl p1 56 (.pair .str (.pair (.int .u64) (.pair (.int .i64) (.sl 8 (.int .i64))))) letters, .sl p2 56 (.pair .str (.pair (.int .u64) (.pair (.int .i64) (.sl 8 (.int .i64))))) poison, .sl p3 16 .str to, .sl p4 16 (.pair (.int .i64) (.int .i64)) events, .int .i64 tries], .agg [.sl p5 16 .str names, .sl p6 16 (.pair (.int .i64) (.int .i64)) code]], [] =>
      ∀ b : Bool, (b = true → (events : List EvT.den).length < 300 ∧ fewP names code = true) → K (.bool b) []
  | _, _ => False
theorem s7 : Sound Tryz.prog 7 C7 := by
  refine sound_of_okF ok7 (Γ := [(21, C21)]) (.cons s21 (callable_of_okF ok21) .nil) ?_
  intro args hp K h
  unfold C7 at h
  split at h
  · rename_i p1 letters p2 poison p3 to p4 events tries p5 names p6 code
    refine ⟨by simp, [(1, cntN 11 12 letters.length 0 (staH letters poison to events tries p1 p2 p3 p4 p5 p6 names code) 0), (2, cntN 36 37 poison.length 0 (staH letters poison to events tries p1 p2 p3 p4 p5 p6 names code) 0), (3, cntN 61 62 to.length 0 (staH letters poison to events tries p1 p2 p3 p4 p5 p6 names code) 0)], ?_⟩
    have hmx := maxLen_val
    simp (maxSteps := 2000000) only [a7, r7, go_sem, Nat.reduceBEq, Nat.reduceAdd]
    rintro _ _ m rfl
    refine loop_intro (A := cntN 11 12 letters.length 0 (staH letters poison to events tries p1 p2 p3 p4 p5 p6 names code) 0) ((0 : Int), (0 : Nat)) ?_ (Nat.zero_le _) ?_
    · simp (maxSteps := 2000000) only [cntN_I, staH, go_sem, Nat.reduceBEq]
      rfl
    rintro ⟨n, i⟩ (hi : i ≤ letters.length)
    simp (maxSteps := 2000000) only [cntN_I, staH, go_sem, eq_self, Nat.le_refl, Int.natCast_nonneg, Int.ofNat_lt, Nat.reduceLeDiff, Nat.reduceSub, Nat.reduceBEq, Nat.reduceAdd]
    rintro c rfl
    refine sw_intro (fun hc => ?_) (fun hc => ?_) <;> simp only [decide_eq_true_eq, decide_eq_false_iff_not] at hc
    · refine nd_intro hc ?_
      rintro _ _ m1 _ _ _ m2 _
      refine nd_intro hc ?_
      rintro _ m3 _ _ _ m4 _ _ _ m5 _ _ _ m hm
      rw [w64 (by omega)] at hm
      subst hm
      refine lpE_intro (A := cntN 11 12 letters.length 0 (staH letters poison to events tries p1 p2 p3 p4 p5 p6 names code) 0) (m5, i + 1) (by simp (maxSteps := 2000000) only [cntN_I, go_sem, Nat.reduceBEq]; rfl) (by show i + 1 ≤ letters.length; omega) (by show letters.length - (i + 1) < letters.length - i; omega)
    rintro _ _ m rfl
    refine loop_intro (A := cntN 36 37 poison.length 0 (staH letters poison to events tries p1 p2 p3 p4 p5 p6 names code) 0) (n, (0 : Nat)) ?_ (Nat.zero_le _) ?_
    · simp (maxSteps := 2000000) only [cntN_I, staH, go_sem, Nat.reduceBEq]
      rfl
    rintro ⟨n2, i2⟩ (hi2 : i2 ≤ poison.length)
    simp (maxSteps := 2000000) only [cntN_I, staH, go_sem, eq_self, Nat.le_refl, Int.natCast_nonneg, Int.ofNat_lt, Nat.reduceLeDiff, Nat.reduceSub, Nat.reduceBEq, Nat.reduceAdd]
    rintro c rfl
    refine sw_intro (fun hc2 => ?_) (fun hc2 => ?_) <;> simp only [decide_eq_true_eq, decide_eq_false_iff_not] at hc2
    · refine nd_intro hc2 ?_
      rintro _ _ m1 _ _ _ m2 _
      refine nd_intro hc2 ?_
      rintro _ m3 _ _ _ m4 _ _ _ m5 _ _ _ m hm
      rw [w64 (by omega)] at hm
      subst hm
      refine lpE_intro (A := cntN 36 37 poison.length 0 (staH letters poison to events tries p1 p2 p3 p4 p5 p6 names code) 0) (m5, i2 + 1) (by simp (maxSteps := 2000000) only [cntN_I, go_sem, Nat.reduceBEq]; rfl) (by show i2 + 1 ≤ poison.length; omega) (by show poison.length - (i2 + 1) < poison.length - i2; omega)
    rintro _ _ m rfl
    refine loop_intro (A := cntN 61 62 to.length 0 (staH letters poison to events tries p1 p2 p3 p4 p5 p6 names code) 0) (n2, (0 : Nat)) ?_ (Nat.zero_le _) ?_
    · simp (maxSteps := 2000000) only [cntN_I, staH, go_sem, Nat.reduceBEq]
      rfl
    rintro ⟨n3, i3⟩ (hi3 : i3 ≤ to.length)
    simp (maxSteps := 2000000) only [cntN_I, staH, C21, go_sem, eq_self, Nat.le_refl, Int.natCast_nonneg, Int.ofNat_lt, Nat.reduceLeDiff, Nat.reduceSub, Nat.reduceBEq, Nat.reduceAdd]
    rintro c rfl
    refine sw_intro (fun hc3 => ?_) (fun hc3 => ?_) <;> simp only [decide_eq_true_eq, decide_eq_false_iff_not] at hc3
    · refine nd_intro hc3 ?_
      rintro _ m1 _ _ _ m2 _ _ _ m5 _ _ _ m hm
      rw [w64 (by omega)] at hm
      subst hm
      refine lpE_intro (A := cntN 61 62 to.length 0 (staH letters poison to events tries p1 p2 p3 p4 p5 p6 names code) 0) (m5, i3 + 1) (by simp (maxSteps := 2000000) only [cntN_I, go_sem, Nat.reduceBEq]; rfl) (by show i3 + 1 ≤ to.length; omega) (by show to.length - (i3 + 1) < to.length - i3; omega)
    rintro c _
    refine sw_intro (fun _ => ?_) (fun _ => h false (fun h9 => by cases h9))
    rintro _ _ m rfl c rfl
    refine sw_intro (fun h9 => h _ (fun h8 => ⟨by have := of_decide_eq_true h9; omega, h8⟩)) (fun _ => h false (fun h9 => by cases h9))
  · exact h.elim
end Go.V
