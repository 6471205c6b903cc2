/- A part of the proof layer, or functions of the given program in it: contracts and their proofs. -/
import Derived.Test.YtbcmjkfdeikkhaaN2
import Derived.Test.YtbcmjkfdeikkhaaProg
namespace Go.V
set_option linter.unusedSimpArgs false
set_option linter.unnecessarySimpa false
open Go.Proofs
/-- reeve/reevelaw19.ActorEncodes -/
def a3 : AS :=
 .seq (
 .reg [
 ⟨some 12, .mv (.c (.bool false)), none⟩] [0, 1, 2, 3, 4, 5]) (
 .seq (
 .seq (
 .reg [
 ⟨some 21, .call 8 [] [], none⟩,
 ⟨some 22, .not (.t 21), none⟩,
 ⟨some 23, .mv (.t 22), none⟩,
 ⟨some 24, .mv (.t 1), (some (23, false))⟩,
 ⟨some 25, .mv (.t 5), (some (23, false))⟩,
 ⟨some 26, .mv (.t 2), (some (23, false))⟩,
 ⟨some 27, .mv (.t 3), (some (23, false))⟩,
 ⟨some 28, .call 9 [(some (56, (.pair .str (.pair (.int .u64) (.pair (.int .i64) (.sl 8 (.int .i64))))))), (some (56, (.pair .str (.pair (.int .u64) (.pair (.int .i64) (.sl 8 (.int .i64))))))), (some (16, .str)), (some (16, (.pair (.int .i64) (.int .i64))))] [(.t 24), (.t 25), (.t 26), (.t 27)], (some (23, false))⟩,
 ⟨some 29, .not (.t 28), (some (23, false))⟩,
 ⟨some 30, .pick (.t 23) (.c (.bool true)) (.t 29), none⟩,
 ⟨some 31, .mv (.t 30), none⟩,
 ⟨some 32, .mv (.t 0), (some (31, false))⟩,
 ⟨some 33, .len .i (.t 32), (some (31, false))⟩,
 ⟨some 34, .bin .gtr (.t 33) (.c (.int .i64 1000)), (some (31, false))⟩,
 ⟨some 35, .pick (.t 31) (.c (.bool true)) (.t 34), none⟩] [0, 1, 2, 3, 4, 5, 35]) (
 .cond (.t 35) (
 .seq (
 .reg [
 ⟨some 36, .call 8 [] [], none⟩,
 ⟨some 12, .mv (.t 36), none⟩] [12]) (
 .ret)) (
 .skip))) (
 .seq (
 .reg [
 ⟨some 38, .mv (.t 0), none⟩,
 ⟨some 39, .mv (.t 1), none⟩,
 ⟨some 40, .mv (.t 2), none⟩,
 ⟨some 41, .mv (.t 3), none⟩,
 ⟨some 42, .mv (.t 4), none⟩,
 ⟨some 43, .mv (.t 5), none⟩,
 ⟨some 44, .call 10 [none, (some (56, (.pair .str (.pair (.int .u64) (.pair (.int .i64) (.sl 8 (.int .i64))))))), (some (16, .str)), (some (16, (.pair (.int .i64) (.int .i64)))), none, (some (56, (.pair .str (.pair (.int .u64) (.pair (.int .i64) (.sl 8 (.int .i64)))))))] [(.t 38), (.t 39), (.t 40), (.t 41), (.t 42), (.t 43)], none⟩,
 ⟨some 37, .mv (.t 44), none⟩,
 ⟨some 45, .ext (.t 37) 0, none⟩,
 ⟨some 46, .ext (.t 37) 1, none⟩,
 ⟨some 13, .mv (.t 45), none⟩,
 ⟨some 14, .mv (.t 46), none⟩] [0, 13, 14]) (
 .seq (
 .seq (
 .reg [
 ⟨some 47, .mv (.t 13), none⟩,
 ⟨some 48, .eqn false .p (.t 47) (.c (.nilp)), none⟩] [0, 13, 14, 48]) (
 .cond (.t 48) (
 .seq (
 .reg [
 ⟨some 50, .mv (.t 0), none⟩,
 ⟨some 51, .call 11 [none] [(.t 50)], none⟩,
 ⟨some 49, .mv (.t 51), none⟩,
 ⟨some 52, .ext (.t 49) 0, none⟩,
 ⟨some 53, .ext (.t 49) 1, none⟩,
 ⟨some 15, .mv (.t 52), none⟩,
 ⟨some 16, .mv (.t 53), none⟩] [0, 16]) (
 .seq (
 .reg [
 ⟨some 54, .mv (.t 16), none⟩,
 ⟨some 55, .bin .eql (.t 54) (.c (.int .i64 1)), none⟩,
 ⟨some 56, .mv (.t 55), none⟩,
 ⟨some 57, .mv (.t 0), (some (56, true))⟩,
 ⟨some 58, .call 12 [none] [(.t 57)], (some (56, true))⟩,
 ⟨some 59, .not (.t 58), (some (56, true))⟩,
 ⟨some 60, .pick (.t 56) (.t 59) (.c (.bool false)), none⟩,
 ⟨some 12, .mv (.t 60), none⟩] [12]) (
 .ret))) (
 .skip))) (
 .seq (
 .reg [
 ⟨some 62, .mv (.t 13), none⟩,
 ⟨some 63, .call 13 [none] [(.t 62)], none⟩,
 ⟨some 61, .mv (.t 63), none⟩,
 ⟨some 64, .ext (.t 61) 0, none⟩,
 ⟨some 65, .ext (.t 61) 1, none⟩,
 ⟨some 17, .mv (.t 64), none⟩,
 ⟨some 18, .mv (.t 65), none⟩] [0, 13, 14, 17, 18]) (
 .seq (
 .reg [
 ⟨some 67, .mv (.t 14), none⟩,
 ⟨some 68, .call 14 [none] [(.t 67)], none⟩,
 ⟨some 66, .mv (.t 68), none⟩,
 ⟨some 69, .ext (.t 66) 0, none⟩,
 ⟨some 70, .ext (.t 66) 1, none⟩,
 ⟨some 19, .mv (.t 69), none⟩,
 ⟨some 20, .mv (.t 70), none⟩] [0, 13, 14, 17, 18, 19, 20]) (
 .seq (
 .reg [
 ⟨some 71, .mv (.t 17), none⟩,
 ⟨some 72, .b2s (.t 71), none⟩,
 ⟨some 73, .mv (.t 19), none⟩,
 ⟨some 74, .b2s (.t 73), none⟩,
 ⟨some 75, .bin .eql (.t 72) (.t 74), none⟩,
 ⟨some 76, .mv (.t 75), none⟩,
 ⟨some 77, .mv (.t 18), (some (76, true))⟩,
 ⟨some 78, .mv (.t 20), (some (76, true))⟩,
 ⟨some 79, .bin .eql (.t 77) (.t 78), (some (76, true))⟩,
 ⟨some 80, .pick (.t 76) (.t 79) (.c (.bool false)), none⟩,
 ⟨some 81, .mv (.t 80), none⟩,
 ⟨some 82, .mv (.t 13), (some (81, true))⟩,
 ⟨some 83, .call 15 [none] [(.t 82)], (some (81, true))⟩,
 ⟨some 84, .mv (.t 14), (some (81, true))⟩,
 ⟨some 85, .call 16 [none] [(.t 84)], (some (81, true))⟩,
 ⟨some 86, .binB false (.t 83) (.t 85), (some (81, true))⟩,
 ⟨some 87, .pick (.t 81) (.t 86) (.c (.bool false)), none⟩,
 ⟨some 88, .mv (.t 87), none⟩,
 ⟨some 89, .mv (.t 13), (some (88, true))⟩,
 ⟨some 90, .call 17 [none] [(.t 89)], (some (88, true))⟩,
 ⟨some 91, .mv (.t 0), (some (88, true))⟩,
 ⟨some 92, .bin .eql (.t 90) (.t 91), (some (88, true))⟩,
 ⟨some 93, .pick (.t 88) (.t 92) (.c (.bool false)), none⟩,
 ⟨some 12, .mv (.t 93), none⟩] [12]) (
 .ret)))))))
def r3 : List RT := [.t 12]

/-- reeve/reevelaw19.ActorParts -/
def a4 : AS :=
 .seq (
 .reg [
 ⟨some 6, .mv (.c (.bool false)), none⟩] [0, 1, 2]) (
 .seq (
 .seq (
 .reg [
 ⟨some 17, .call 8 [] [], none⟩,
 ⟨some 18, .not (.t 17), none⟩,
 ⟨some 19, .mv (.t 18), none⟩,
 ⟨some 20, .mv (.t 1), (some (19, false))⟩,
 ⟨some 21, .call 9 [(some (56, (.pair .str (.pair (.int .u64) (.pair (.int .i64) (.sl 8 (.int .i64))))))), (some (56, (.pair .str (.pair (.int .u64) (.pair (.int .i64) (.sl 8 (.int .i64))))))), (some (16, .str)), (some (16, (.pair (.int .i64) (.int .i64))))] [(.c (.nils)), (.t 20), (.c (.nils)), (.c (.nils))], (some (19, false))⟩,
 ⟨some 22, .not (.t 21), (some (19, false))⟩,
 ⟨some 23, .pick (.t 19) (.c (.bool true)) (.t 22), none⟩] [0, 1, 2, 23]) (
 .cond (.t 23) (
 .seq (
 .reg [
 ⟨some 24, .call 8 [] [], none⟩,
 ⟨some 6, .mv (.t 24), none⟩] [6]) (
 .ret)) (
 .skip))) (
 .seq (
 .reg [
 ⟨some 26, .call 11 [none] [(.c (.str ⟨#[109, 101]⟩))], none⟩,
 ⟨some 25, .mv (.t 26), none⟩,
 ⟨some 27, .ext (.t 25) 0, none⟩,
 ⟨some 28, .ext (.t 25) 1, none⟩,
 ⟨some 7, .mv (.t 27), none⟩,
 ⟨some 8, .mv (.t 28), none⟩] [0, 1, 2, 7]) (
 .seq (
 .seq (
 .reg [
 ⟨some 29, .mv (.t 0), none⟩,
 ⟨some 30, .bin .rem (.t 29) (.c (.int .u8 6)), none⟩] [1, 2, 7, 30]) (
 .block 0 (
 .seq (
 .reg [
 ⟨some 63, .bin .eql (.t 30) (.c (.int .u8 0)), none⟩,
 ⟨some 62, .mv (.t 63), none⟩] [1, 2, 7, 30, 62]) (
 .cond (.t 62) (
 .reg [
 ⟨some 64, .mv (.t 7), none⟩,
 ⟨some 65, .nck (.t 64), none⟩,
 ⟨some 66, .fa 0 (.t 65), none⟩,
 ⟨none, .st 1 (.t 66) (.c (.nilp)), none⟩] [7]) (
 .seq (
 .reg [
 ⟨some 68, .bin .eql (.t 30) (.c (.int .u8 1)), none⟩,
 ⟨some 67, .mv (.t 68), none⟩] [1, 2, 7, 30, 67]) (
 .cond (.t 67) (
 .reg [
 ⟨some 69, .mv (.t 7), none⟩,
 ⟨some 70, .nck (.t 69), none⟩,
 ⟨some 71, .fa 1 (.t 70), none⟩,
 ⟨none, .st 1 (.t 71) (.c (.nilp)), none⟩] [7]) (
 .seq (
 .reg [
 ⟨some 73, .bin .eql (.t 30) (.c (.int .u8 2)), none⟩,
 ⟨some 72, .mv (.t 73), none⟩] [1, 2, 7, 30, 72]) (
 .cond (.t 72) (
 .reg [
 ⟨some 74, .mv (.t 7), none⟩,
 ⟨some 75, .nck (.t 74), none⟩,
 ⟨some 76, .fa 2 (.t 75), none⟩,
 ⟨none, .st 1 (.t 76) (.c (.nilp)), none⟩] [7]) (
 .seq (
 .reg [
 ⟨some 78, .bin .eql (.t 30) (.c (.int .u8 3)), none⟩,
 ⟨some 77, .mv (.t 78), none⟩] [1, 2, 7, 30, 77]) (
 .cond (.t 77) (
 .reg [
 ⟨some 7, .mv (.c (.nilp)), none⟩] [7]) (
 .seq (
 .reg [
 ⟨some 80, .bin .eql (.t 30) (.c (.int .u8 4)), none⟩,
 ⟨some 79, .mv (.t 80), none⟩] [1, 2, 7, 79]) (
 .cond (.t 79) (
 .reg [
 ⟨some 81, .bld [.nilp, .nilp, .nilp, .int .i64 0, .nils] [], none⟩,
 ⟨some 82, .box (.t 81), none⟩,
 ⟨some 7, .mv (.t 82), none⟩] [7]) (
 .seq (
 .reg [
 ⟨some 31, .mv (.t 7), none⟩,
 ⟨some 32, .call 18 [] [], none⟩,
 ⟨some 33, .nck (.t 31), none⟩,
 ⟨some 34, .fa 1 (.t 33), none⟩,
 ⟨none, .st 1 (.t 34) (.t 32), none⟩] [1, 2, 7]) (
 .seq (
 .reg [
 ⟨some 35, .mv (.t 7), none⟩,
 ⟨some 36, .mv (.t 7), none⟩,
 ⟨some 37, .mv (.t 2), none⟩,
 ⟨some 38, .mv (.t 1), none⟩,
 ⟨some 39, .nck (.t 35), none⟩,
 ⟨some 40, .fa 3 (.t 39), none⟩,
 ⟨none, .st 1 (.t 40) (.t 37), none⟩,
 ⟨some 41, .nck (.t 36), none⟩,
 ⟨some 42, .fa 4 (.t 41), none⟩,
 ⟨none, .st 1 (.t 42) (.t 38), none⟩] [1, 2, 7]) (
 .seq (
 .reg [
 ⟨some 44, .mv (.t 2), none⟩,
 ⟨some 45, .mv (.t 1), none⟩,
 ⟨some 46, .call 10 [none, (some (56, (.pair .str (.pair (.int .u64) (.pair (.int .i64) (.sl 8 (.int .i64))))))), (some (16, .str)), (some (16, (.pair (.int .i64) (.int .i64)))), none, (some (56, (.pair .str (.pair (.int .u64) (.pair (.int .i64) (.sl 8 (.int .i64)))))))] [(.c (.str ⟨#[109, 101]⟩)), (.c (.nils)), (.c (.nils)), (.c (.nils)), (.t 44), (.t 45)], none⟩,
 ⟨some 43, .mv (.t 46), none⟩,
 ⟨some 47, .ext (.t 43) 0, none⟩,
 ⟨some 48, .ext (.t 43) 1, none⟩,
 ⟨some 9, .mv (.t 47), none⟩,
 ⟨some 10, .mv (.t 48), none⟩] [7, 10]) (
 .seq (
 .reg [
 ⟨some 50, .mv (.t 7), none⟩,
 ⟨some 51, .call 13 [none] [(.t 50)], none⟩,
 ⟨some 49, .mv (.t 51), none⟩,
 ⟨some 52, .ext (.t 49) 0, none⟩,
 ⟨some 53, .ext (.t 49) 1, none⟩,
 ⟨some 11, .mv (.t 52), none⟩,
 ⟨some 12, .mv (.t 53), none⟩] [10, 12]) (
 .seq (
 .reg [
 ⟨some 55, .mv (.t 10), none⟩,
 ⟨some 56, .call 14 [none] [(.t 55)], none⟩,
 ⟨some 54, .mv (.t 56), none⟩,
 ⟨some 57, .ext (.t 54) 0, none⟩,
 ⟨some 58, .ext (.t 54) 1, none⟩,
 ⟨some 13, .mv (.t 57), none⟩,
 ⟨some 14, .mv (.t 58), none⟩] [12, 14]) (
 .seq (
 .reg [
 ⟨some 59, .mv (.t 12), none⟩,
 ⟨some 60, .mv (.t 14), none⟩,
 ⟨some 61, .bin .eql (.t 59) (.t 60), none⟩,
 ⟨some 6, .mv (.t 61), none⟩] [6]) (
 .ret))))))))))))))))))) (
 .seq (
 .reg [
 ⟨some 84, .mv (.t 7), none⟩,
 ⟨some 85, .call 13 [none] [(.t 84)], none⟩,
 ⟨some 83, .mv (.t 85), none⟩,
 ⟨some 86, .ext (.t 83) 0, none⟩,
 ⟨some 87, .ext (.t 83) 1, none⟩,
 ⟨some 15, .mv (.t 86), none⟩,
 ⟨some 16, .mv (.t 87), none⟩] [15, 16]) (
 .seq (
 .reg [
 ⟨some 88, .mv (.t 15), none⟩,
 ⟨some 89, .len .s (.t 88), none⟩,
 ⟨some 90, .bin .eql (.t 89) (.c (.int .i64 0)), none⟩,
 ⟨some 91, .mv (.t 90), none⟩,
 ⟨some 92, .mv (.t 16), (some (91, true))⟩,
 ⟨some 93, .bin .eql (.t 92) (.c (.int .i64 1)), (some (91, true))⟩,
 ⟨some 94, .pick (.t 91) (.t 93) (.c (.bool false)), none⟩,
 ⟨some 6, .mv (.t 94), none⟩] [6]) (
 .ret))))))
def r4 : List RT := [.t 6]

/-- reeve/reevelaw19.few -/
def a9 : AS :=
 .seq (
 .reg [
 ⟨some 8, .mv (.c (.bool false)), none⟩] [0, 1, 2, 3]) (
 .seq (
 .seq (
 .reg [
 ⟨some 12, .mv (.t 0), none⟩,
 ⟨some 13, .len .s (.t 12), none⟩,
 ⟨some 14, .mv (.c (.int .i64 0)), none⟩] [0, 1, 2, 3, 13, 14]) (
 .block 0 (
 .loop 1 [0, 1, 2, 3, 13, 14] (
 .seq (
 .reg [
 ⟨some 15, .bin .lss (.t 14) (.t 13), none⟩] [0, 1, 2, 3, 13, 14, 15]) (
 .seq (
 .cond (.t 15) (
 .skip) (
 .exit 0)) (
 .seq (
 .block 1 (
 .seq (
 .reg [
 ⟨some 16, .mv (.t 14), none⟩,
 ⟨some 9, .mv (.t 16), none⟩] [0, 1, 2, 3, 9, 13, 14]) (
 .seq (
 .reg [
 ⟨some 17, .mv (.t 0), none⟩,
 ⟨some 18, .mv (.t 9), none⟩,
 ⟨some 19, .ia 4 (.t 17) (.t 18), none⟩,
 ⟨some 20, .fa 3 (.t 19), none⟩,
 ⟨some 21, .ld (.t 20), none⟩,
 ⟨some 22, .len .s (.t 21), none⟩,
 ⟨some 23, .bin .gtr (.t 22) (.c (.int .i64 100)), none⟩,
 ⟨some 24, .mv (.t 23), none⟩,
 ⟨some 25, .mv (.t 0), (some (24, false))⟩,
 ⟨some 26, .mv (.t 9), (some (24, false))⟩,
 ⟨some 27, .ia 4 (.t 25) (.t 26), (some (24, false))⟩,
 ⟨some 28, .fa 0 (.t 27), (some (24, false))⟩,
 ⟨some 29, .ld (.t 28), (some (24, false))⟩,
 ⟨some 30, .len .i (.t 29), (some (24, false))⟩,
 ⟨some 31, .bin .gtr (.t 30) (.c (.int .i64 1000)), (some (24, false))⟩,
 ⟨some 32, .pick (.t 24) (.c (.bool true)) (.t 31), none⟩] [0, 1, 2, 3, 13, 14, 32]) (
 .cond (.t 32) (
 .seq (
 .reg [
 ⟨some 8, .mv (.c (.bool false)), none⟩] [8]) (
 .ret)) (
 .skip))))) (
 .reg [
 ⟨some 33, .bin .add (.t 14) (.c (.int .i64 1)), none⟩,
 ⟨some 14, .mv (.t 33), none⟩] [0, 1, 2, 3, 13, 14]))))))) (
 .seq (
 .seq (
 .reg [
 ⟨some 34, .mv (.t 1), none⟩,
 ⟨some 35, .len .s (.t 34), none⟩,
 ⟨some 36, .mv (.c (.int .i64 0)), none⟩] [0, 1, 2, 3, 35, 36]) (
 .block 2 (
 .loop 2 [0, 1, 2, 3, 35, 36] (
 .seq (
 .reg [
 ⟨some 37, .bin .lss (.t 36) (.t 35), none⟩] [0, 1, 2, 3, 35, 36, 37]) (
 .seq (
 .cond (.t 37) (
 .skip) (
 .exit 2)) (
 .seq (
 .block 3 (
 .seq (
 .reg [
 ⟨some 38, .mv (.t 36), none⟩,
 ⟨some 10, .mv (.t 38), none⟩] [0, 1, 2, 3, 10, 35, 36]) (
 .seq (
 .reg [
 ⟨some 39, .mv (.t 1), none⟩,
 ⟨some 40, .mv (.t 10), none⟩,
 ⟨some 41, .ia 4 (.t 39) (.t 40), none⟩,
 ⟨some 42, .fa 3 (.t 41), none⟩,
 ⟨some 43, .ld (.t 42), none⟩,
 ⟨some 44, .len .s (.t 43), none⟩,
 ⟨some 45, .bin .gtr (.t 44) (.c (.int .i64 100)), none⟩,
 ⟨some 46, .mv (.t 45), none⟩,
 ⟨some 47, .mv (.t 1), (some (46, false))⟩,
 ⟨some 48, .mv (.t 10), (some (46, false))⟩,
 ⟨some 49, .ia 4 (.t 47) (.t 48), (some (46, false))⟩,
 ⟨some 50, .fa 0 (.t 49), (some (46, false))⟩,
 ⟨some 51, .ld (.t 50), (some (46, false))⟩,
 ⟨some 52, .len .i (.t 51), (some (46, false))⟩,
 ⟨some 53, .bin .gtr (.t 52) (.c (.int .i64 1000)), (some (46, false))⟩,
 ⟨some 54, .pick (.t 46) (.c (.bool true)) (.t 53), none⟩] [0, 1, 2, 3, 35, 36, 54]) (
 .cond (.t 54) (
 .seq (
 .reg [
 ⟨some 8, .mv (.c (.bool false)), none⟩] [8]) (
 .ret)) (
 .skip))))) (
 .reg [
 ⟨some 55, .bin .add (.t 36) (.c (.int .i64 1)), none⟩,
 ⟨some 36, .mv (.t 55), none⟩] [0, 1, 2, 3, 35, 36]))))))) (
 .seq (
 .seq (
 .reg [
 ⟨some 56, .mv (.t 2), none⟩,
 ⟨some 57, .len .s (.t 56), none⟩,
 ⟨some 58, .mv (.c (.int .i64 0)), none⟩] [0, 1, 2, 3, 57, 58]) (
 .block 4 (
 .loop 3 [0, 1, 2, 3, 57, 58] (
 .seq (
 .reg [
 ⟨some 59, .bin .lss (.t 58) (.t 57), none⟩] [0, 1, 2, 3, 57, 58, 59]) (
 .seq (
 .cond (.t 59) (
 .skip) (
 .exit 4)) (
 .seq (
 .block 5 (
 .seq (
 .reg [
 ⟨some 60, .mv (.t 58), none⟩,
 ⟨some 11, .mv (.t 60), none⟩] [0, 1, 2, 3, 11, 57, 58]) (
 .seq (
 .reg [
 ⟨some 61, .mv (.t 2), none⟩,
 ⟨some 62, .mv (.t 11), none⟩,
 ⟨some 63, .ia 1 (.t 61) (.t 62), none⟩,
 ⟨some 64, .ld (.t 63), none⟩,
 ⟨some 65, .len .i (.t 64), none⟩,
 ⟨some 66, .bin .gtr (.t 65) (.c (.int .i64 1000)), none⟩] [0, 1, 2, 3, 57, 58, 66]) (
 .cond (.t 66) (
 .seq (
 .reg [
 ⟨some 8, .mv (.c (.bool false)), none⟩] [8]) (
 .ret)) (
 .skip))))) (
 .reg [
 ⟨some 67, .bin .add (.t 58) (.c (.int .i64 1)), none⟩,
 ⟨some 58, .mv (.t 67), none⟩] [0, 1, 2, 3, 57, 58]))))))) (
 .seq (
 .reg [
 ⟨some 68, .mv (.t 0), none⟩,
 ⟨some 69, .len .s (.t 68), none⟩,
 ⟨some 70, .bin .leq (.t 69) (.c (.int .i64 100)), none⟩,
 ⟨some 71, .mv (.t 70), none⟩,
 ⟨some 72, .mv (.t 1), (some (71, true))⟩,
 ⟨some 73, .len .s (.t 72), (some (71, true))⟩,
 ⟨some 74, .bin .leq (.t 73) (.c (.int .i64 100)), (some (71, true))⟩,
 ⟨some 75, .pick (.t 71) (.t 74) (.c (.bool false)), none⟩,
 ⟨some 76, .mv (.t 75), none⟩,
 ⟨some 77, .mv (.t 2), (some (76, true))⟩,
 ⟨some 78, .len .s (.t 77), (some (76, true))⟩,
 ⟨some 79, .bin .leq (.t 78) (.c (.int .i64 200)), (some (76, true))⟩,
 ⟨some 80, .pick (.t 76) (.t 79) (.c (.bool false)), none⟩,
 ⟨some 81, .mv (.t 80), none⟩,
 ⟨some 82, .mv (.t 3), (some (81, true))⟩,
 ⟨some 83, .len .s (.t 82), (some (81, true))⟩,
 ⟨some 84, .bin .leq (.t 83) (.c (.int .i64 500)), (some (81, true))⟩,
 ⟨some 85, .pick (.t 81) (.t 84) (.c (.bool false)), none⟩,
 ⟨some 8, .mv (.t 85), none⟩] [8]) (
 .ret)))))
/-- reeve/actor.New -/
def a11 : AS :=
 .seq (
 .reg [
 ⟨some 2, .mv (.c (.nilp)), none⟩,
 ⟨some 3, .mv (.c (.int .i64 0)), none⟩] [0]) (
 .seq (
 .reg [
 ⟨some 7, .mv (.t 0), none⟩,
 ⟨some 8, .call 36 [none] [(.t 7)], none⟩,
 ⟨some 6, .mv (.t 8), none⟩,
 ⟨some 9, .ext (.t 6) 0, none⟩,
 ⟨some 10, .ext (.t 6) 1, none⟩,
 ⟨some 4, .mv (.t 9), none⟩,
 ⟨some 5, .mv (.t 10), none⟩] [4, 5]) (
 .seq (
 .seq (
 .reg [
 ⟨some 11, .mv (.t 5), none⟩,
 ⟨some 12, .bin .neq (.t 11) (.c (.int .i64 0)), none⟩] [4, 5, 12]) (
 .cond (.t 12) (
 .seq (
 .reg [
 ⟨some 13, .mv (.t 5), none⟩,
 ⟨some 2, .mv (.c (.nilp)), none⟩,
 ⟨some 3, .mv (.t 13), none⟩] [2, 3]) (
 .lift 2 (some 4) 56 (.pair .str (.pair (.int .u64) (.pair (.int .i64) (.sl 8 (.int .i64))))) (
 .lift 2 (some 4) 56 (.pair .str (.pair (.int .u64) (.pair (.int .i64) (.sl 8 (.int .i64))))) (
 .ret)))) (
 .skip))) (
 .seq (
 .reg [
 ⟨some 14, .call 37 [] [], none⟩,
 ⟨some 15, .call 18 [] [], none⟩,
 ⟨some 16, .mv (.t 4), none⟩,
 ⟨some 17, .bld [.nilp, .nilp, .nilp, .int .i64 0, .nils] [(0, 1, (.t 14)), (1, 1, (.t 15)), (2, 1, (.t 16))], none⟩,
 ⟨some 18, .box (.t 17), none⟩,
 ⟨some 2, .mv (.t 18), none⟩,
 ⟨some 3, .mv (.c (.int .i64 0)), none⟩] [2, 3]) (
 .lift 2 (some 4) 56 (.pair .str (.pair (.int .u64) (.pair (.int .i64) (.sl 8 (.int .i64))))) (
 .lift 2 (some 4) 56 (.pair .str (.pair (.int .u64) (.pair (.int .i64) (.sl 8 (.int .i64))))) (
 .ret))))))
def r11 : List RT := [.t 2, .t 3, .f 2]

/-- (*reeve/actor.Actor).Encode -/
def a13 : AS :=
 .seq (
 .reg [
 ⟨some 2, .mv (.c (.nils)), none⟩,
 ⟨some 3, .mv (.c (.int .i64 0)), none⟩] [0]) (
 .seq (
 .seq (
 .reg [
 ⟨some 9, .mv (.t 0), none⟩,
 ⟨some 10, .call 38 [none] [(.t 9)], none⟩,
 ⟨some 11, .not (.t 10), none⟩] [0, 11]) (
 .cond (.t 11) (
 .seq (
 .reg [
 ⟨some 2, .mv (.c (.nils)), none⟩,
 ⟨some 3, .mv (.c (.int .i64 1)), none⟩] [2, 3]) (
 .lift 2 none 1 .byte (
 .ret))) (
 .skip))) (
 .seq (
 .reg [
 ⟨some 13, .mv (.t 0), none⟩,
 ⟨some 14, .nck (.t 13), none⟩,
 ⟨some 15, .fa 4 (.t 14), none⟩,
 ⟨some 16, .ld (.t 15), none⟩,
 ⟨some 17, .call 39 [(some (56, (.pair .str (.pair (.int .u64) (.pair (.int .i64) (.sl 8 (.int .i64)))))))] [(.t 16)], none⟩,
 ⟨some 12, .mv (.t 17), none⟩,
 ⟨some 18, .ext (.t 12) 0, none⟩,
 ⟨some 19, .ext (.t 12) 1, none⟩,
 ⟨some 4, .mv (.t 18), none⟩,
 ⟨some 5, .mv (.t 19), none⟩] [0, 4]) (
 .seq (
 .reg [
 ⟨some 20, .call 40 [] [], none⟩,
 ⟨some 6, .mv (.t 20), none⟩] [0, 4, 6]) (
 .seq (
 .reg [
 ⟨some 21, .mv (.t 6), none⟩,
 ⟨some 22, .mv (.t 0), none⟩,
 ⟨some 23, .nck (.t 22), none⟩,
 ⟨some 24, .fa 3 (.t 23), none⟩,
 ⟨some 25, .ld (.t 24), none⟩,
 ⟨some 26, .cv .u64 (.t 25), none⟩,
 ⟨some 27, .call 41 [none, none] [(.t 21), (.t 26)], none⟩] [0, 4, 6]) (
 .seq (
 .seq (
 .regD [
 ⟨some 28, .mv (.t 0), none⟩,
 ⟨some 29, .nck (.t 28), none⟩,
 ⟨some 30, .fa 0 (.t 29), none⟩,
 ⟨some 31, .ld (.t 30), none⟩,
 ⟨some 32, .call 42 [none] [(.t 31)], none⟩,
 ⟨some 33, .mv (.t 0), none⟩,
 ⟨some 34, .nck (.t 33), none⟩,
 ⟨some 35, .fa 1 (.t 34), none⟩,
 ⟨some 36, .ld (.t 35), none⟩,
 ⟨some 37, .call 43 [none] [(.t 36)], none⟩,
 ⟨some 38, .mv (.t 0), none⟩,
 ⟨some 39, .nck (.t 38), none⟩,
 ⟨some 40, .fa 2 (.t 39), none⟩,
 ⟨some 41, .ld (.t 40), none⟩,
 ⟨some 42, .call 44 [none] [(.t 41)], none⟩,
 ⟨some 43, .mv (.t 4), none⟩,
 ⟨some 44, .bsl 24 (.sl 1 .byte) 4 [(0, (.t 32)), (1, (.t 37)), (2, (.t 42)), (3, (.t 43))], none⟩,
 ⟨some 45, .len .s (.t 44), none⟩,
 ⟨some 46, .mv (.c (.int .i64 0)), none⟩] [.q 0, .q 1, .q 2, .q 3, .q 5, .q 6, .q 7, .q 8, .q 10, .q 11, .q 12, .q 13, .q 15, .q 18, .e 4 [5, 6, 7, 8, 10, 11, 12, 13, 15, 18], .e 9 [10, 11, 12, 13, 15, 18], .e 14 [15, 18], .e 16 [18], .q 17] [6, 44, 45, 46]) (
 .block 0 (
 .lift 6 (some 0) 1 .byte (
 .loop 1 [6, 44, 45, 46] (
 .seq (
 .reg [
 ⟨some 47, .bin .lss (.t 46) (.t 45), none⟩] [6, 44, 45, 46, 47]) (
 .seq (
 .cond (.t 47) (
 .skip) (
 .exit 0)) (
 .seq (
 .block 1 (
 .seq (
 .reg [
 ⟨some 48, .ia 1 (.t 44) (.t 46), none⟩,
 ⟨some 49, .ld (.t 48), none⟩,
 ⟨some 8, .mv (.t 49), none⟩] [6, 8, 44, 45, 46]) (
 .reg [
 ⟨some 50, .mv (.t 6), none⟩,
 ⟨some 51, .mv (.t 8), none⟩,
 ⟨some 52, .b2s (.t 51), none⟩,
 ⟨some 53, .call 45 [none, none] [(.t 50), (.t 52)], none⟩] [6, 44, 45, 46]))) (
 .reg [
 ⟨some 54, .bin .add (.t 46) (.c (.int .i64 1)), none⟩,
 ⟨some 46, .mv (.t 54), none⟩] [6, 44, 45, 46])))))))) (
 .seq (
 .reg [
 ⟨some 55, .mv (.t 6), none⟩,
 ⟨some 56, .call 46 [none] [(.t 55)], none⟩,
 ⟨some 2, .mv (.t 56), none⟩,
 ⟨some 3, .mv (.c (.int .i64 0)), none⟩] [2, 3]) (
 .lift 2 none 1 .byte (
 .ret))))))))
def r13 : List RT := [.t 2, .t 3]

/-- (*reeve/actor.Actor).Key -/
def a17 : AS :=
 .seq (
 .reg [
 ⟨some 2, .mv (.c (.str ByteArray.empty)), none⟩] [0]) (
 .seq (
 .seq (
 .reg [
 ⟨some 3, .mv (.t 0), none⟩,
 ⟨some 4, .eqn false .p (.t 3) (.c (.nilp)), none⟩] [0, 4]) (
 .cond (.t 4) (
 .seq (
 .reg [
 ⟨some 2, .mv (.c (.str ByteArray.empty)), none⟩] [2]) (
 .ret)) (
 .skip))) (
 .seq (
 .reg [
 ⟨some 5, .mv (.t 0), none⟩,
 ⟨some 6, .nck (.t 5), none⟩,
 ⟨some 7, .fa 2 (.t 6), none⟩,
 ⟨some 8, .ld (.t 7), none⟩,
 ⟨some 9, .call 55 [none] [(.t 8)], none⟩,
 ⟨some 2, .mv (.t 9), none⟩] [2]) (
 .ret)))
def r17 : List RT := [.t 2]

/-- reeve/inbox.New -/
def a18 : AS :=
 .seq (
 .reg [
 ⟨some 0, .mv (.c (.nilp)), none⟩] []) (
 .seq (
 .reg [
 ⟨some 1, .bld [.nils] [], none⟩,
 ⟨some 2, .box (.t 1), none⟩,
 ⟨some 0, .mv (.t 2), none⟩] [0]) (
 .lift 0 (some 0) 56 (.pair .str (.pair (.int .u64) (.pair (.int .i64) (.sl 8 (.int .i64))))) (
 .ret)))
def r18 : List RT := [.t 0]

/-- (*reeve/inbox.Inbox).Push -/
def a24 : AS :=
 .seq (
 .reg [
 ⟨some 3, .box (.t 1), none⟩,
 ⟨some 4, .mv (.c (.int .i64 0)), none⟩] [0, 3]) (
 .seq (
 .block 0 (
 .seq (
 .reg [
 ⟨some 6, .mv (.t 0), none⟩,
 ⟨some 7, .eqn false .p (.t 6) (.c (.nilp)), none⟩,
 ⟨some 8, .mv (.t 7), none⟩,
 ⟨some 9, .ldA 4 (.t 3), (some (8, false))⟩,
 ⟨some 10, .call 64 [none] [(.t 9)], (some (8, false))⟩,
 ⟨some 11, .not (.t 10), (some (8, false))⟩,
 ⟨some 12, .pick (.t 8) (.c (.bool true)) (.t 11), none⟩,
 ⟨some 5, .mv (.t 12), none⟩] [0, 3, 5]) (
 .cond (.t 5) (
 .seq (
 .reg [
 ⟨some 4, .mv (.c (.int .i64 1)), none⟩] [4]) (
 .ret)) (
 .seq (
 .reg [
 ⟨some 14, .mv (.t 0), none⟩,
 ⟨some 15, .nck (.t 14), none⟩,
 ⟨some 16, .fa 0 (.t 15), none⟩,
 ⟨some 17, .ld (.t 16), none⟩,
 ⟨some 18, .len .s (.t 17), none⟩,
 ⟨some 19, .bin .geq (.t 18) (.c (.int .i64 8)), none⟩,
 ⟨some 13, .mv (.t 19), none⟩] [0, 3, 13]) (
 .cond (.t 13) (
 .seq (
 .reg [
 ⟨some 4, .mv (.c (.int .i64 7)), none⟩] [4]) (
 .ret)) (
 .skip)))))) (
 .seq (
 .regD [
 ⟨some 20, .mv (.t 0), none⟩,
 ⟨some 21, .mv (.t 0), none⟩,
 ⟨some 22, .nck (.t 21), none⟩,
 ⟨some 23, .fa 0 (.t 22), none⟩,
 ⟨some 24, .ld (.t 23), none⟩,
 ⟨some 25, .ldA 4 (.t 3), none⟩,
 ⟨some 26, .call 65 [none] [(.t 25)], none⟩,
 ⟨some 27, .bsl 56 (.pair .str (.pair (.int .u64) (.pair (.int .i64) (.sl 8 (.int .i64))))) 1 [(0, (.t 26))], none⟩,
 ⟨some 28, .app 56 (.pair .str (.pair (.int .u64) (.pair (.int .i64) (.sl 8 (.int .i64))))) (.t 24) (.t 27), none⟩,
 ⟨some 29, .nck (.t 20), none⟩,
 ⟨some 30, .fa 0 (.t 29), none⟩,
 ⟨none, .st 1 (.t 30) (.t 28), none⟩] [.q 0, .q 1, .q 2, .q 3, .q 4, .q 5, .e 6 [0, 1, 2, 3, 4], .e 7 [0, 1, 2, 3, 4], .e 8 [0], .q 9, .q 10, .e 11 []] []) (
 .seq (
 .reg [
 ⟨some 4, .mv (.c (.int .i64 0)), none⟩] [4]) (
 .ret))))
def r24 : List RT := [.t 4]

/-- (*reeve/inbox.Inbox).Len -/
def a25 : AS :=
 .seq (
 .reg [
 ⟨some 2, .mv (.c (.int .i64 0)), none⟩] [0]) (
 .seq (
 .seq (
 .reg [
 ⟨some 3, .mv (.t 0), none⟩,
 ⟨some 4, .eqn false .p (.t 3) (.c (.nilp)), none⟩] [0, 4]) (
 .cond (.t 4) (
 .seq (
 .reg [
 ⟨some 2, .mv (.c (.int .i64 0)), none⟩] [2]) (
 .ret)) (
 .skip))) (
 .seq (
 .reg [
 ⟨some 5, .mv (.t 0), none⟩,
 ⟨some 6, .nck (.t 5), none⟩,
 ⟨some 7, .fa 0 (.t 6), none⟩,
 ⟨some 8, .ld (.t 7), none⟩,
 ⟨some 9, .len .s (.t 8), none⟩,
 ⟨some 2, .mv (.t 9), none⟩] [2]) (
 .ret)))
def r25 : List RT := [.t 2]

/-- (*reeve/journal.Journal).Version -/
def a26 : AS :=
 .seq (
 .reg [
 ⟨some 2, .mv (.c (.int .u64 0)), none⟩] [0]) (
 .seq (
 .seq (
 .reg [
 ⟨some 3, .mv (.t 0), none⟩,
 ⟨some 4, .eqn false .p (.t 3) (.c (.nilp)), none⟩] [0, 4]) (
 .cond (.t 4) (
 .seq (
 .reg [
 ⟨some 2, .mv (.c (.int .u64 0)), none⟩] [2]) (
 .ret)) (
 .skip))) (
 .seq (
 .reg [
 ⟨some 5, .mv (.t 0), none⟩,
 ⟨some 6, .nck (.t 5), none⟩,
 ⟨some 7, .fa 9 (.t 6), none⟩,
 ⟨some 8, .ld (.t 7), none⟩,
 ⟨some 2, .mv (.t 8), none⟩] [2]) (
 .ret)))
def r26 : List RT := [.t 2]

/-- (*reeve/journal.Journal).Add -/
def a33 : AS :=
 .seq (
 .reg [
 ⟨some 4, .mv (.c (.int .i64 0)), none⟩] [0, 1]) (
 .seq (
 .seq (
 .reg [
 ⟨some 5, .mv (.t 0), none⟩,
 ⟨some 6, .eqn false .p (.t 5) (.c (.nilp)), none⟩] [0, 1, 6]) (
 .cond (.t 6) (
 .seq (
 .reg [
 ⟨some 4, .mv (.c (.int .i64 1)), none⟩] [4]) (
 .ret)) (
 .skip))) (
 .seq (
 .seq (
 .reg [
 ⟨some 7, .mv (.t 1), none⟩,
 ⟨some 8, .call 75 [none, none] [(.t 7), (.f 76)], none⟩] [0, 1, 8]) (
 .cond (.t 8) (
 .seq (
 .reg [
 ⟨some 4, .mv (.c (.int .i64 3)), none⟩] [4]) (
 .ret)) (
 .skip))) (
 .seq (
 .reg [
 ⟨some 9, .mv (.t 0), none⟩,
 ⟨some 10, .mv (.t 0), none⟩,
 ⟨some 11, .nck (.t 10), none⟩,
 ⟨some 12, .fa 8 (.t 11), none⟩,
 ⟨some 13, .ld (.t 12), none⟩,
 ⟨some 14, .mv (.t 1), none⟩,
 ⟨some 15, .app 16 (.pair (.int .i64) (.int .i64)) (.t 13) (.t 14), none⟩,
 ⟨some 16, .nck (.t 9), none⟩,
 ⟨some 17, .fa 8 (.t 16), none⟩,
 ⟨none, .st 1 (.t 17) (.t 15), none⟩] [0, 1]) (
 .seq (
 .reg [
 ⟨some 18, .mv (.t 0), none⟩,
 ⟨some 19, .nck (.t 18), none⟩,
 ⟨some 20, .fa 9 (.t 19), none⟩,
 ⟨some 21, .ld (.t 20), none⟩,
 ⟨some 22, .mv (.t 1), none⟩,
 ⟨some 23, .len .s (.t 22), none⟩,
 ⟨some 24, .cv .u64 (.t 23), none⟩,
 ⟨some 25, .bin .add (.t 21) (.t 24), none⟩,
 ⟨some 26, .nck (.t 18), none⟩,
 ⟨some 27, .fa 9 (.t 26), none⟩,
 ⟨none, .st 1 (.t 27) (.t 25), none⟩] [0]) (
 .seq (
 .reg [
 ⟨some 28, .mv (.t 0), none⟩,
 ⟨some 29, .mv (.t 0), none⟩,
 ⟨some 30, .nck (.t 29), none⟩,
 ⟨some 31, .fa 8 (.t 30), none⟩,
 ⟨some 32, .ld (.t 31), none⟩,
 ⟨some 33, .len .s (.t 32), none⟩,
 ⟨some 34, .bin .sub (.t 33) (.c (.int .i64 16)), none⟩,
 ⟨some 35, .mm true (.t 34) (.c (.int .i64 0)), none⟩,
 ⟨some 36, .call 77 [none, none] [(.t 28), (.t 35)], none⟩] []) (
 .seq (
 .reg [
 ⟨some 4, .mv (.c (.int .i64 0)), none⟩] [4]) (
 .ret)))))))
def r33 : List RT := [.t 4]

/-- reeve/reeveref11.CopyAll -/
def a35 : AS :=
 .seq (
 .reg [
 ⟨some 2, .mv (.c (.nils)), none⟩] [0]) (
 .seq (
 .reg [
 ⟨some 3, .mv (.c (.nils)), none⟩] [0, 3]) (
 .seq (
 .seq (
 .reg [
 ⟨some 5, .mv (.t 0), none⟩,
 ⟨some 6, .len .s (.t 5), none⟩,
 ⟨some 7, .mv (.c (.int .i64 0)), none⟩] [0, 3, 6, 7]) (
 .block 0 (
 .lift 3 none 56 (.pair .str (.pair (.int .u64) (.pair (.int .i64) (.sl 8 (.int .i64))))) (
 .loop 1 [0, 3, 6, 7] (
 .seq (
 .reg [
 ⟨some 8, .bin .lss (.t 7) (.t 6), none⟩] [0, 3, 6, 7, 8]) (
 .seq (
 .cond (.t 8) (
 .skip) (
 .exit 0)) (
 .seq (
 .block 1 (
 .seq (
 .reg [
 ⟨some 9, .mv (.t 7), none⟩,
 ⟨some 4, .mv (.t 9), none⟩] [0, 3, 4, 6, 7]) (
 .reg [
 ⟨some 10, .mv (.t 3), none⟩,
 ⟨some 11, .mv (.t 0), none⟩,
 ⟨some 12, .mv (.t 4), none⟩,
 ⟨some 13, .ia 4 (.t 11) (.t 12), none⟩,
 ⟨some 14, .ldA 4 (.t 13), none⟩,
 ⟨some 15, .call 71 [none] [(.t 14)], none⟩,
 ⟨some 16, .bsl 56 (.pair .str (.pair (.int .u64) (.pair (.int .i64) (.sl 8 (.int .i64))))) 1 [(0, (.t 15))], none⟩,
 ⟨some 17, .app 56 (.pair .str (.pair (.int .u64) (.pair (.int .i64) (.sl 8 (.int .i64))))) (.t 10) (.t 16), none⟩,
 ⟨some 3, .mv (.t 17), none⟩] [0, 3, 6, 7]))) (
 .reg [
 ⟨some 18, .bin .add (.t 7) (.c (.int .i64 1)), none⟩,
 ⟨some 7, .mv (.t 18), none⟩] [0, 3, 6, 7])))))))) (
 .seq (
 .reg [
 ⟨some 19, .mv (.t 3), none⟩,
 ⟨some 2, .mv (.t 19), none⟩] [2]) (
 .lift 2 none 56 (.pair .str (.pair (.int .u64) (.pair (.int .i64) (.sl 8 (.int .i64))))) (
 .ret)))))
/-- reeve/journal.New -/
def a37 : AS :=
 .seq (
 .reg [
 ⟨some 0, .mv (.c (.nilp)), none⟩] []) (
 .seq (
 .reg [
 ⟨some 1, .bld [.arr 8 (.int .i64) (List.replicate 8 (Ty.dflt (.int .i64))), .nils, .int .u64 0] [], none⟩,
 ⟨some 2, .box (.t 1), none⟩,
 ⟨some 0, .mv (.t 2), none⟩] [0]) (
 .lift 0 (some 8) 16 (.pair (.int .i64) (.int .i64)) (
 .ret)))
def r37 : List RT := [.t 0]

/-- (*reeve/actor.Actor).sound -/
def a38 : AS :=
 .seq (
 .reg [
 ⟨some 2, .mv (.c (.bool false)), none⟩] [0]) (
 .seq (
 .seq (
 .reg [
 ⟨some 5, .mv (.t 0), none⟩,
 ⟨some 6, .eqn false .p (.t 5) (.c (.nilp)), none⟩,
 ⟨some 7, .mv (.t 6), none⟩,
 ⟨some 8, .mv (.t 0), (some (7, false))⟩,
 ⟨some 9, .nck (.t 8), (some (7, false))⟩,
 ⟨some 10, .fa 0 (.t 9), (some (7, false))⟩,
 ⟨some 11, .ld (.t 10), (some (7, false))⟩,
 ⟨some 12, .eqn false .p (.t 11) (.c (.nilp)), (some (7, false))⟩,
 ⟨some 13, .pick (.t 7) (.c (.bool true)) (.t 12), none⟩,
 ⟨some 14, .mv (.t 13), none⟩,
 ⟨some 15, .mv (.t 0), (some (14, false))⟩,
 ⟨some 16, .nck (.t 15), (some (14, false))⟩,
 ⟨some 17, .fa 1 (.t 16), (some (14, false))⟩,
 ⟨some 18, .ld (.t 17), (some (14, false))⟩,
 ⟨some 19, .eqn false .p (.t 18) (.c (.nilp)), (some (14, false))⟩,
 ⟨some 20, .pick (.t 14) (.c (.bool true)) (.t 19), none⟩,
 ⟨some 21, .mv (.t 20), none⟩,
 ⟨some 22, .mv (.t 0), (some (21, false))⟩,
 ⟨some 23, .call 17 [none] [(.t 22)], (some (21, false))⟩,
 ⟨some 24, .bin .eql (.t 23) (.c (.str ByteArray.empty)), (some (21, false))⟩,
 ⟨some 25, .pick (.t 21) (.c (.bool true)) (.t 24), none⟩,
 ⟨some 26, .mv (.t 25), none⟩,
 ⟨some 27, .mv (.t 0), (some (26, false))⟩,
 ⟨some 28, .nck (.t 27), (some (26, false))⟩,
 ⟨some 29, .fa 3 (.t 28), (some (26, false))⟩,
 ⟨some 30, .ld (.t 29), (some (26, false))⟩,
 ⟨some 31, .bin .lss (.t 30) (.c (.int .i64 0)), (some (26, false))⟩,
 ⟨some 32, .pick (.t 26) (.c (.bool true)) (.t 31), none⟩,
 ⟨some 33, .mv (.t 32), none⟩,
 ⟨some 34, .mv (.t 0), (some (33, false))⟩,
 ⟨some 35, .nck (.t 34), (some (33, false))⟩,
 ⟨some 36, .fa 3 (.t 35), (some (33, false))⟩,
 ⟨some 37, .ld (.t 36), (some (33, false))⟩,
 ⟨some 38, .bin .geq (.t 37) (.c (.int .i64 3)), (some (33, false))⟩,
 ⟨some 39, .pick (.t 33) (.c (.bool true)) (.t 38), none⟩,
 ⟨some 40, .mv (.t 39), none⟩,
 ⟨some 41, .mv (.t 0), (some (40, false))⟩,
 ⟨some 42, .nck (.t 41), (some (40, false))⟩,
 ⟨some 43, .fa 3 (.t 42), (some (40, false))⟩,
 ⟨some 44, .ld (.t 43), (some (40, false))⟩,
 ⟨some 45, .bin .gtr (.t 44) (.c (.int .i64 0)), (some (40, false))⟩,
 ⟨some 46, .mv (.t 45), (some (40, false))⟩,
 ⟨some 47, .mv (.t 0), (some (46, true))⟩,
 ⟨some 48, .nck (.t 47), (some (46, true))⟩,
 ⟨some 49, .fa 1 (.t 48), (some (46, true))⟩,
 ⟨some 50, .ld (.t 49), (some (46, true))⟩,
 ⟨some 51, .call 25 [none] [(.t 50)], (some (46, true))⟩,
 ⟨some 52, .bin .eql (.t 51) (.c (.int .i64 0)), (some (46, true))⟩,
 ⟨some 53, .pick (.t 46) (.t 52) (.c (.bool false)), (some (40, false))⟩,
 ⟨some 54, .pick (.t 40) (.c (.bool true)) (.t 53), none⟩,
 ⟨some 55, .mv (.t 54), none⟩,
 ⟨some 56, .mv (.t 0), (some (55, false))⟩,
 ⟨some 57, .nck (.t 56), (some (55, false))⟩,
 ⟨some 58, .fa 4 (.t 57), (some (55, false))⟩,
 ⟨some 59, .ld (.t 58), (some (55, false))⟩,
 ⟨some 60, .len .s (.t 59), (some (55, false))⟩,
 ⟨some 61, .bin .gtr (.t 60) (.c (.int .i64 8)), (some (55, false))⟩,
 ⟨some 62, .pick (.t 55) (.c (.bool true)) (.t 61), none⟩] [0, 62]) (
 .cond (.t 62) (
 .seq (
 .reg [
 ⟨some 2, .mv (.c (.bool false)), none⟩] [2]) (
 .ret)) (
 .skip))) (
 .seq (
 .seq (
 .reg [
 ⟨some 63, .mv (.t 0), none⟩,
 ⟨some 64, .nck (.t 63), none⟩,
 ⟨some 65, .fa 4 (.t 64), none⟩,
 ⟨some 66, .ld (.t 65), none⟩,
 ⟨some 67, .len .s (.t 66), none⟩,
 ⟨some 68, .mv (.c (.int .i64 0)), none⟩] [66, 67, 68]) (
 .block 0 (
 .loop 1 [66, 67, 68] (
 .seq (
 .reg [
 ⟨some 69, .bin .lss (.t 68) (.t 67), none⟩] [66, 67, 68, 69]) (
 .seq (
 .cond (.t 69) (
 .skip) (
 .exit 0)) (
 .seq (
 .block 1 (
 .seq (
 .reg [
 ⟨some 70, .ia 4 (.t 66) (.t 68), none⟩,
 ⟨some 71, .ldA 4 (.t 70), none⟩,
 ⟨some 4, .alc [.str ByteArray.empty, .int .u64 0, .int .i64 0, .nils], none⟩,
 ⟨none, .st 4 (.t 4) (.t 71), none⟩] [4, 66, 67, 68]) (
 .seq (
 .reg [
 ⟨some 72, .ldA 4 (.t 4), none⟩,
 ⟨some 73, .call 64 [none] [(.t 72)], none⟩,
 ⟨some 74, .not (.t 73), none⟩] [66, 67, 68, 74]) (
 .cond (.t 74) (
 .seq (
 .reg [
 ⟨some 2, .mv (.c (.bool false)), none⟩] [2]) (
 .ret)) (
 .skip))))) (
 .reg [
 ⟨some 75, .bin .add (.t 68) (.c (.int .i64 1)), none⟩,
 ⟨some 68, .mv (.t 75), none⟩] [66, 67, 68]))))))) (
 .seq (
 .reg [
 ⟨some 2, .mv (.c (.bool true)), none⟩] [2]) (
 .ret))))
def r38 : List RT := [.t 2]

/-- reeve/letter.Pack -/
def a39 : AS :=
 .seq (
 .reg [
 ⟨some 2, .mv (.c (.nils)), none⟩,
 ⟨some 3, .mv (.c (.int .i64 0)), none⟩] [0]) (
 .seq (
 .reg [
 ⟨some 7, .call 40 [] [], none⟩,
 ⟨some 4, .mv (.t 7), none⟩] [0, 4]) (
 .seq (
 .reg [
 ⟨some 8, .mv (.t 4), none⟩,
 ⟨some 9, .mv (.t 0), none⟩,
 ⟨some 10, .len .s (.t 9), none⟩,
 ⟨some 11, .cv .u64 (.t 10), none⟩,
 ⟨some 12, .call 41 [none, none] [(.t 8), (.t 11)], none⟩] [0, 4]) (
 .seq (
 .seq (
 .reg [
 ⟨some 13, .mv (.t 0), none⟩,
 ⟨some 14, .len .s (.t 13), none⟩,
 ⟨some 15, .mv (.c (.int .i64 0)), none⟩] [4, 13, 14, 15]) (
 .block 0 (
 .lift 4 (some 0) 1 .byte (
 .loop 1 [4, 13, 14, 15] (
 .seq (
 .reg [
 ⟨some 16, .bin .lss (.t 15) (.t 14), none⟩] [4, 13, 14, 15, 16]) (
 .seq (
 .cond (.t 16) (
 .skip) (
 .exit 0)) (
 .seq (
 .block 1 (
 .seq (
 .reg [
 ⟨some 17, .ia 4 (.t 13) (.t 15), none⟩,
 ⟨some 18, .ldA 4 (.t 17), none⟩,
 ⟨some 6, .alc [.str ByteArray.empty, .int .u64 0, .int .i64 0, .nils], none⟩,
 ⟨none, .st 4 (.t 6) (.t 18), none⟩] [4, 6, 13, 14, 15]) (
 .seq (
 .seq (
 .reg [
 ⟨some 19, .ldA 4 (.t 6), none⟩,
 ⟨some 20, .call 64 [none] [(.t 19)], none⟩,
 ⟨some 21, .not (.t 20), none⟩] [4, 6, 13, 14, 15, 21]) (
 .cond (.t 21) (
 .seq (
 .reg [
 ⟨some 2, .mv (.c (.nils)), none⟩,
 ⟨some 3, .mv (.c (.int .i64 1)), none⟩] [2, 3]) (
 .lift 2 none 1 .byte (
 .ret))) (
 .skip))) (
 .reg [
 ⟨some 22, .mv (.t 4), none⟩,
 ⟨some 23, .ldA 4 (.t 6), none⟩,
 ⟨some 24, .call 79 [none, none] [(.t 22), (.t 23)], none⟩] [4, 13, 14, 15])))) (
 .reg [
 ⟨some 25, .bin .add (.t 15) (.c (.int .i64 1)), none⟩,
 ⟨some 15, .mv (.t 25), none⟩] [4, 13, 14, 15])))))))) (
 .seq (
 .reg [
 ⟨some 26, .mv (.t 4), none⟩,
 ⟨some 27, .call 46 [none] [(.t 26)], none⟩,
 ⟨some 2, .mv (.t 27), none⟩,
 ⟨some 3, .mv (.c (.int .i64 0)), none⟩] [2, 3]) (
 .lift 2 none 1 .byte (
 .ret))))))
def r39 : List RT := [.t 2, .t 3]

/-- (*reeve/journal.Journal).Encode -/
def a42 : AS :=
 .seq (
 .reg [
 ⟨some 2, .mv (.c (.nils)), none⟩] [0]) (
 .seq (
 .seq (
 .reg [
 ⟨some 8, .mv (.t 0), none⟩,
 ⟨some 9, .eqn false .p (.t 8) (.c (.nilp)), none⟩] [0, 9]) (
 .cond (.t 9) (
 .seq (
 .reg [
 ⟨some 2, .mv (.c (.nils)), none⟩] [2]) (
 .lift 2 none 1 .byte (
 .ret))) (
 .skip))) (
 .seq (
 .reg [
 ⟨some 10, .call 40 [] [], none⟩,
 ⟨some 3, .mv (.t 10), none⟩] [0, 3]) (
 .seq (
 .reg [
 ⟨some 11, .mv (.t 3), none⟩,
 ⟨some 12, .mv (.t 0), none⟩,
 ⟨some 13, .nck (.t 12), none⟩,
 ⟨some 14, .fa 9 (.t 13), none⟩,
 ⟨some 15, .ld (.t 14), none⟩,
 ⟨some 16, .call 41 [none, none] [(.t 11), (.t 15)], none⟩] [0, 3]) (
 .seq (
 .seq (
 .reg [
 ⟨some 17, .mv (.t 0), none⟩,
 ⟨some 18, .nck (.t 17), none⟩,
 ⟨some 19, .fa 0 (.t 18), none⟩,
 ⟨some 20, .ldA 8 (.t 19), none⟩,
 ⟨some 21, .mv (.c (.int .i64 0)), none⟩] [0, 3, 20, 21]) (
 .block 0 (
 .lift 0 (some 8) 16 (.pair (.int .i64) (.int .i64)) (
 .lift 3 (some 0) 1 .byte (
 .loop 1 [0, 3, 20, 21] (
 .seq (
 .reg [
 ⟨some 22, .bin .lss (.t 21) (.c (.int .i64 8)), none⟩] [0, 3, 20, 21, 22]) (
 .seq (
 .cond (.t 22) (
 .skip) (
 .exit 0)) (
 .seq (
 .block 1 (
 .seq (
 .reg [
 ⟨some 23, .ixA 8 (.t 20) (.t 21), none⟩,
 ⟨some 5, .mv (.t 23), none⟩] [0, 3, 5, 20, 21]) (
 .reg [
 ⟨some 24, .mv (.t 3), none⟩,
 ⟨some 25, .mv (.t 5), none⟩,
 ⟨some 26, .call 81 [none, none] [(.t 24), (.t 25)], none⟩] [0, 3, 20, 21]))) (
 .reg [
 ⟨some 27, .bin .add (.t 21) (.c (.int .i64 1)), none⟩,
 ⟨some 21, .mv (.t 27), none⟩] [0, 3, 20, 21]))))))))) (
 .seq (
 .reg [
 ⟨some 28, .mv (.t 3), none⟩,
 ⟨some 29, .mv (.t 0), none⟩,
 ⟨some 30, .nck (.t 29), none⟩,
 ⟨some 31, .fa 8 (.t 30), none⟩,
 ⟨some 32, .ld (.t 31), none⟩,
 ⟨some 33, .len .s (.t 32), none⟩,
 ⟨some 34, .cv .u64 (.t 33), none⟩,
 ⟨some 35, .call 41 [none, none] [(.t 28), (.t 34)], none⟩] [0, 3]) (
 .seq (
 .seq (
 .reg [
 ⟨some 36, .mv (.t 0), none⟩,
 ⟨some 37, .nck (.t 36), none⟩,
 ⟨some 38, .fa 8 (.t 37), none⟩,
 ⟨some 39, .ld (.t 38), none⟩,
 ⟨some 40, .len .s (.t 39), none⟩,
 ⟨some 41, .mv (.c (.int .i64 0)), none⟩] [3, 39, 40, 41]) (
 .block 2 (
 .lift 3 (some 0) 1 .byte (
 .loop 2 [3, 39, 40, 41] (
 .seq (
 .reg [
 ⟨some 42, .bin .lss (.t 41) (.t 40), none⟩] [3, 39, 40, 41, 42]) (
 .seq (
 .cond (.t 42) (
 .skip) (
 .exit 2)) (
 .seq (
 .block 3 (
 .seq (
 .reg [
 ⟨some 43, .ia 2 (.t 39) (.t 41), none⟩,
 ⟨some 44, .ldA 2 (.t 43), none⟩,
 ⟨some 7, .alc [.int .i64 0, .int .i64 0], none⟩,
 ⟨none, .st 2 (.t 7) (.t 44), none⟩] [3, 7, 39, 40, 41]) (
 .seq (
 .reg [
 ⟨some 45, .mv (.t 3), none⟩,
 ⟨some 46, .fa 0 (.t 7), none⟩,
 ⟨some 47, .ld (.t 46), none⟩,
 ⟨some 48, .cv .u64 (.t 47), none⟩,
 ⟨some 49, .call 41 [none, none] [(.t 45), (.t 48)], none⟩] [3, 7, 39, 40, 41]) (
 .reg [
 ⟨some 50, .mv (.t 3), none⟩,
 ⟨some 51, .fa 1 (.t 7), none⟩,
 ⟨some 52, .ld (.t 51), none⟩,
 ⟨some 53, .call 81 [none, none] [(.t 50), (.t 52)], none⟩] [3, 39, 40, 41])))) (
 .reg [
 ⟨some 54, .bin .add (.t 41) (.c (.int .i64 1)), none⟩,
 ⟨some 41, .mv (.t 54), none⟩] [3, 39, 40, 41])))))))) (
 .seq (
 .reg [
 ⟨some 55, .mv (.t 3), none⟩,
 ⟨some 56, .call 46 [none] [(.t 55)], none⟩,
 ⟨some 2, .mv (.t 56), none⟩] [2]) (
 .lift 2 none 1 .byte (
 .ret)))))))))
def r42 : List RT := [.t 2]

/-- (*reeve/inbox.Inbox).Encode -/
def a43 : AS :=
 .seq (
 .reg [
 ⟨some 2, .mv (.c (.nils)), none⟩] [0]) (
 .seq (
 .seq (
 .reg [
 ⟨some 5, .mv (.t 0), none⟩,
 ⟨some 6, .eqn false .p (.t 5) (.c (.nilp)), none⟩] [0, 6]) (
 .cond (.t 6) (
 .seq (
 .reg [
 ⟨some 2, .mv (.c (.nils)), none⟩] [2]) (
 .lift 2 none 1 .byte (
 .ret))) (
 .skip))) (
 .seq (
 .reg [
 ⟨some 8, .mv (.t 0), none⟩,
 ⟨some 9, .nck (.t 8), none⟩,
 ⟨some 10, .fa 0 (.t 9), none⟩,
 ⟨some 11, .ld (.t 10), none⟩,
 ⟨some 12, .call 39 [(some (56, (.pair .str (.pair (.int .u64) (.pair (.int .i64) (.sl 8 (.int .i64)))))))] [(.t 11)], none⟩,
 ⟨some 7, .mv (.t 12), none⟩,
 ⟨some 13, .ext (.t 7) 0, none⟩,
 ⟨some 14, .ext (.t 7) 1, none⟩,
 ⟨some 3, .mv (.t 13), none⟩,
 ⟨some 4, .mv (.t 14), none⟩] [3]) (
 .seq (
 .reg [
 ⟨some 15, .mv (.t 3), none⟩,
 ⟨some 2, .mv (.t 15), none⟩] [2]) (
 .lift 2 none 1 .byte (
 .ret)))))
def r43 : List RT := [.t 2]

/-- slices.ContainsFunc[[]reeve/journal.Event,reeve/journal.Event] -/
def a75 : AS :=
 .seq (
 .reg [
 ⟨some 4, .mv (.c (.bool false)), none⟩] [0, 1]) (
 .seq (
 .reg [
 ⟨some 5, .mv (.t 0), none⟩,
 ⟨some 6, .mv (.t 1), none⟩,
 ⟨some 7, .call 98 [none, none] [(.t 5), (.t 6)], none⟩,
 ⟨some 8, .bin .geq (.t 7) (.c (.int .i64 0)), none⟩,
 ⟨some 4, .mv (.t 8), none⟩] [4]) (
 .ret))
def r75 : List RT := [.t 4]

/-- (*reeve/journal.Journal).Add$1 -/
def a76 : AS :=
 .seq (
 .reg [
 ⟨some 1, .box (.t 0), none⟩,
 ⟨some 2, .mv (.c (.bool false)), none⟩] [1]) (
 .seq (
 .reg [
 ⟨some 3, .fa 0 (.t 1), none⟩,
 ⟨some 4, .ld (.t 3), none⟩,
 ⟨some 5, .bin .lss (.t 4) (.c (.int .i64 0)), none⟩,
 ⟨some 6, .mv (.t 5), none⟩,
 ⟨some 7, .fa 0 (.t 1), (some (6, false))⟩,
 ⟨some 8, .ld (.t 7), (some (6, false))⟩,
 ⟨some 9, .bin .geq (.t 8) (.c (.int .i64 8)), (some (6, false))⟩,
 ⟨some 10, .pick (.t 6) (.c (.bool true)) (.t 9), none⟩,
 ⟨some 2, .mv (.t 10), none⟩] [2]) (
 .ret))
def r76 : List RT := [.t 2]

/-- (*reeve/journal.Journal).fold -/
def a77 : AS :=
 .seq (
 .seq (
 .reg [
 ⟨some 6, .mv (.t 0), none⟩,
 ⟨some 7, .nck (.t 6), none⟩,
 ⟨some 8, .fa 8 (.t 7), none⟩,
 ⟨some 9, .ld (.t 8), none⟩,
 ⟨some 10, .mv (.t 1), none⟩,
 ⟨some 11, .slR 2 (.t 9) none (some (.t 10)), none⟩,
 ⟨some 12, .len .s (.t 11), none⟩,
 ⟨some 13, .mv (.c (.int .i64 0)), none⟩] [0, 1, 11, 12, 13]) (
 .block 0 (
 .lift 0 (some 8) 16 (.pair (.int .i64) (.int .i64)) (
 .loop 1 [0, 1, 11, 12, 13] (
 .seq (
 .reg [
 ⟨some 14, .bin .lss (.t 13) (.t 12), none⟩] [0, 1, 11, 12, 13, 14]) (
 .seq (
 .cond (.t 14) (
 .skip) (
 .exit 0)) (
 .seq (
 .block 1 (
 .seq (
 .reg [
 ⟨some 15, .ia 2 (.t 11) (.t 13), none⟩,
 ⟨some 16, .ldA 2 (.t 15), none⟩,
 ⟨some 5, .alc [.int .i64 0, .int .i64 0], none⟩,
 ⟨none, .st 2 (.t 5) (.t 16), none⟩] [0, 1, 5, 11, 12, 13]) (
 .regD [
 ⟨some 17, .mv (.t 0), none⟩,
 ⟨some 18, .fa 0 (.t 5), none⟩,
 ⟨some 19, .ld (.t 18), none⟩,
 ⟨some 20, .fa 1 (.t 5), none⟩,
 ⟨some 21, .ld (.t 20), none⟩,
 ⟨some 22, .nck (.t 17), none⟩,
 ⟨some 23, .fa 0 (.t 22), none⟩,
 ⟨some 24, .iaA 8 1 (.t 23) (.t 19), none⟩,
 ⟨none, .st 1 (.t 24) (.t 21), none⟩] [.q 0, .q 1, .q 2, .q 3, .q 4, .q 5, .q 6, .q 7, .e 8 []] [0, 1, 11, 12, 13]))) (
 .reg [
 ⟨some 25, .bin .add (.t 13) (.c (.int .i64 1)), none⟩,
 ⟨some 13, .mv (.t 25), none⟩] [0, 1, 11, 12, 13])))))))) (
 .reg [
 ⟨some 26, .mv (.t 0), none⟩,
 ⟨some 27, .mv (.t 0), none⟩,
 ⟨some 28, .nck (.t 27), none⟩,
 ⟨some 29, .fa 8 (.t 28), none⟩,
 ⟨some 30, .ld (.t 29), none⟩,
 ⟨some 31, .mv (.t 1), none⟩,
 ⟨some 32, .slR 2 (.t 30) (some (.t 31)) none, none⟩,
 ⟨some 33, .call 99 [none] [(.t 32)], none⟩,
 ⟨some 34, .nck (.t 26), none⟩,
 ⟨some 35, .fa 8 (.t 34), none⟩,
 ⟨none, .st 1 (.t 35) (.t 33), none⟩] [])
def r77 : List RT := [.w 1 0 8]

/-- slices.IndexFunc[[]reeve/journal.Event,reeve/journal.Event] -/
def a98 : AS :=
 .seq (
 .reg [
 ⟨some 4, .mv (.c (.int .i64 0)), none⟩] [0, 1]) (
 .seq (
 .seq (
 .reg [
 ⟨some 6, .mv (.t 0), none⟩,
 ⟨some 7, .len .s (.t 6), none⟩,
 ⟨some 8, .mv (.c (.int .i64 0)), none⟩] [0, 1, 7, 8]) (
 .block 0 (
 .loop 1 [0, 1, 7, 8] (
 .seq (
 .reg [
 ⟨some 9, .bin .lss (.t 8) (.t 7), none⟩] [0, 1, 7, 8, 9]) (
 .seq (
 .cond (.t 9) (
 .skip) (
 .exit 0)) (
 .seq (
 .block 1 (
 .seq (
 .reg [
 ⟨some 10, .mv (.t 8), none⟩,
 ⟨some 5, .mv (.t 10), none⟩] [0, 1, 5, 7, 8]) (
 .seq (
 .reg [
 ⟨some 11, .mv (.t 1), none⟩,
 ⟨some 12, .mv (.t 0), none⟩,
 ⟨some 13, .mv (.t 5), none⟩,
 ⟨some 14, .ia 2 (.t 12) (.t 13), none⟩,
 ⟨some 15, .ldA 2 (.t 14), none⟩,
 ⟨some 16, .callv (.t 11) [none] [(.t 15)], none⟩] [0, 1, 5, 7, 8, 16]) (
 .cond (.t 16) (
 .seq (
 .reg [
 ⟨some 17, .mv (.t 5), none⟩,
 ⟨some 4, .mv (.t 17), none⟩] [4]) (
 .ret)) (
 .skip))))) (
 .reg [
 ⟨some 18, .bin .add (.t 8) (.c (.int .i64 1)), none⟩,
 ⟨some 8, .mv (.t 18), none⟩] [0, 1, 7, 8]))))))) (
 .seq (
 .reg [
 ⟨some 4, .mv (.c (.int .i64 (-1))), none⟩] [4]) (
 .ret)))
def r98 : List RT := [.t 4]

/-- slices.Clone[[]reeve/journal.Event,reeve/journal.Event] -/
def a99 : AS :=
 .seq (
 .reg [
 ⟨some 2, .mv (.c (.nils)), none⟩] [0]) (
 .seq (
 .seq (
 .reg [
 ⟨some 3, .mv (.t 0), none⟩,
 ⟨some 4, .isn false (.t 3), none⟩] [0, 4]) (
 .cond (.t 4) (
 .seq (
 .reg [
 ⟨some 2, .mv (.c (.nils)), none⟩] [2]) (
 .lift 2 none 16 (.pair (.int .i64) (.int .i64)) (
 .ret))) (
 .skip))) (
 .seq (
 .reg [
 ⟨some 5, .bsl 16 (.pair (.int .i64) (.int .i64)) 0 [], none⟩,
 ⟨some 6, .mv (.t 0), none⟩,
 ⟨some 7, .app 16 (.pair (.int .i64) (.int .i64)) (.t 5) (.t 6), none⟩,
 ⟨some 2, .mv (.t 7), none⟩] [2]) (
 .lift 2 none 16 (.pair (.int .i64) (.int .i64)) (
 .ret))))
def r99 : List RT := [.t 2]

theorem ok11 : okF Try.prog 11 a11 r11 1 = true := by decide +kernel
theorem ok13 : okF Try.prog 13 a13 r13 1 = true := by decide +kernel
theorem ok17 : okF Try.prog 17 a17 r17 1 = true := by decide +kernel
theorem ok18 : okF Try.prog 18 a18 r18 0 = true := by decide +kernel
theorem ok24 : okF Try.prog 24 a24 r24 2 = true := by decide +kernel
theorem ok25 : okF Try.prog 25 a25 r25 1 = true := by decide +kernel
theorem ok26 : okF Try.prog 26 a26 r26 1 = true := by decide +kernel
theorem ok33 : okF Try.prog 33 a33 r33 2 = true := by decide +kernel
theorem ok37 : okF Try.prog 37 a37 r37 0 = true := by decide +kernel
theorem ok38 : okF Try.prog 38 a38 r38 1 = true := by decide +kernel
theorem ok39 : okF Try.prog 39 a39 r39 1 = true := by decide +kernel
theorem ok42 : okF Try.prog 42 a42 r42 1 = true := by decide +kernel
theorem ok43 : okF Try.prog 43 a43 r43 1 = true := by decide +kernel
theorem ok75 : okF Try.prog 75 a75 r75 2 = true := by decide +kernel
theorem ok76 : okF Try.prog 76 a76 r76 1 = true := by decide +kernel
theorem ok77 : okF Try.prog 77 a77 r77 2 = true := by decide +kernel
theorem ok98 : okF Try.prog 98 a98 r98 2 = true := by decide +kernel
theorem ok99 : okF Try.prog 99 a99 r99 1 = true := by decide +kernel
end Go.V
