/- A part of the proof layer, or functions of the given program in it: contracts and their proofs. -/
import Derived.Test.YtbcmjkfdeikkhaaGreatN3
import Derived.Test.YtbcmjkfdeikkhaaGreatProg
namespace Go.V
set_option linter.unusedSimpArgs false
set_option linter.unnecessarySimpa false
open Go.Proofs
/-- reeve/reevelaw20.awake -/
def a6 : AS :=
 .seq (
 .reg [
 ⟨some 0, .mv (.c (.bool false)), none⟩] []) (
 .seq (
 .reg [
 ⟨some 6, .call 18 [none] [(.c (.str ⟨#[97]⟩))], none⟩,
 ⟨some 5, .mv (.t 6), none⟩,
 ⟨some 7, .ext (.t 5) 0, none⟩,
 ⟨some 8, .ext (.t 5) 1, none⟩,
 ⟨some 1, .mv (.t 7), none⟩,
 ⟨some 2, .mv (.t 8), none⟩] [1]) (
 .seq (
 .seq (
 .reg [
 ⟨some 9, .mv (.t 1), none⟩,
 ⟨some 10, .eqn false .p (.t 9) (.c (.nilp)), none⟩,
 ⟨some 11, .mv (.t 10), none⟩,
 ⟨some 12, .mv (.t 1), (some (11, false))⟩,
 ⟨some 13, .nck (.t 12), (some (11, false))⟩,
 ⟨some 14, .fa 1 (.t 13), (some (11, false))⟩,
 ⟨some 15, .ld (.t 14), (some (11, false))⟩,
 ⟨some 16, .bldF [.str ByteArray.empty, .int .u64 0, .int .i64 0, .nils] [(2, 1, (.c (.int .i64 4)))], (some (11, false))⟩,
 ⟨some 17, .call 19 [none, none] [(.t 15), (.t 16)], (some (11, false))⟩,
 ⟨some 18, .bin .neq (.t 17) (.c (.int .i64 0)), (some (11, false))⟩,
 ⟨some 19, .pick (.t 11) (.c (.bool true)) (.t 18), none⟩] [1, 19]) (
 .cond (.t 19) (
 .seq (
 .reg [
 ⟨some 0, .mv (.c (.bool false)), none⟩] [0]) (
 .ret)) (
 .skip))) (
 .seq (
 .reg [
 ⟨some 21, .bldF [.int .i64 0, .int .i64 0] [(0, 1, (.c (.int .i64 5)))], none⟩,
 ⟨some 22, .bldF [.int .i64 0, .int .i64 0] [(0, 1, (.c (.int .i64 3)))], none⟩,
 ⟨some 23, .bsl 16 (.pair (.int .i64) (.int .i64)) 2 [(0, (.t 21)), (1, (.t 22))], none⟩,
 ⟨some 24, .bldF [.nils, .nils] [(1, 1, (.t 23))], none⟩,
 ⟨some 25, .mv (.t 1), none⟩,
 ⟨some 26, .call 9 [none, none, none] [(.t 24), (.t 25), (.c (.int .i64 0))], none⟩,
 ⟨some 20, .mv (.t 26), none⟩,
 ⟨some 27, .ext (.t 20) 0, none⟩,
 ⟨some 28, .ext (.t 20) 1, none⟩,
 ⟨some 3, .alc [.bool false, .bool false, .int .i64 0, .int .i64 0, .nils], none⟩,
 ⟨none, .st 5 (.t 3) (.t 27), none⟩,
 ⟨some 4, .mv (.t 28), none⟩] [1, 3, 4]) (
 .seq (
 .reg [
 ⟨some 29, .mv (.t 4), none⟩,
 ⟨some 30, .bin .eql (.t 29) (.c (.int .i64 0)), none⟩,
 ⟨some 31, .mv (.t 30), none⟩,
 ⟨some 32, .fa 0 (.t 3), (some (31, true))⟩,
 ⟨some 33, .ld (.t 32), (some (31, true))⟩,
 ⟨some 34, .pick (.t 31) (.t 33) (.c (.bool false)), none⟩,
 ⟨some 35, .mv (.t 34), none⟩,
 ⟨some 36, .mv (.t 1), (some (35, true))⟩,
 ⟨some 37, .nck (.t 36), (some (35, true))⟩,
 ⟨some 38, .fa 0 (.t 37), (some (35, true))⟩,
 ⟨some 39, .ld (.t 38), (some (35, true))⟩,
 ⟨some 40, .call 20 [none] [(.t 39)], (some (35, true))⟩,
 ⟨some 41, .ixA 8 (.t 40) (.c (.int .i64 0)), (some (35, true))⟩,
 ⟨some 42, .bin .eql (.t 41) (.c (.int .i64 4)), (some (35, true))⟩,
 ⟨some 43, .pick (.t 35) (.t 42) (.c (.bool false)), none⟩,
 ⟨some 44, .mv (.t 43), none⟩,
 ⟨some 45, .mv (.t 1), (some (44, true))⟩,
 ⟨some 46, .nck (.t 45), (some (44, true))⟩,
 ⟨some 47, .fa 1 (.t 46), (some (44, true))⟩,
 ⟨some 48, .ld (.t 47), (some (44, true))⟩,
 ⟨some 49, .call 11 [none] [(.t 48)], (some (44, true))⟩,
 ⟨some 50, .bin .eql (.t 49) (.c (.int .i64 0)), (some (44, true))⟩,
 ⟨some 51, .pick (.t 44) (.t 50) (.c (.bool false)), none⟩,
 ⟨some 0, .mv (.t 51), none⟩] [0]) (
 .ret)))))
def r6 : List RT := [.t 0]

/-- reeve/reevelaw17.Few -/
def a21 : AS :=
 .seq (
 .reg [
 ⟨some 1, .box (.t 0), none⟩,
 ⟨some 2, .mv (.c (.bool false)), none⟩] [1]) (
 .seq (
 .seq (
 .reg [
 ⟨some 4, .fa 0 (.t 1), none⟩,
 ⟨some 5, .ld (.t 4), none⟩,
 ⟨some 6, .len .s (.t 5), none⟩,
 ⟨some 7, .mv (.c (.int .i64 0)), none⟩] [1, 6, 7]) (
 .block 0 (
 .loop 1 [1, 6, 7] (
 .seq (
 .reg [
 ⟨some 8, .bin .lss (.t 7) (.t 6), none⟩] [1, 6, 7, 8]) (
 .seq (
 .cond (.t 8) (
 .skip) (
 .exit 0)) (
 .seq (
 .block 1 (
 .seq (
 .reg [
 ⟨some 9, .mv (.t 7), none⟩,
 ⟨some 3, .mv (.t 9), none⟩] [1, 3, 6, 7]) (
 .seq (
 .reg [
 ⟨some 10, .fa 0 (.t 1), none⟩,
 ⟨some 11, .ld (.t 10), none⟩,
 ⟨some 12, .mv (.t 3), none⟩,
 ⟨some 13, .ia 1 (.t 11) (.t 12), none⟩,
 ⟨some 14, .ld (.t 13), none⟩,
 ⟨some 15, .len .i (.t 14), none⟩,
 ⟨some 16, .bin .gtr (.t 15) (.c (.int .i64 1000)), none⟩,
 ⟨some 17, .mv (.t 16), none⟩,
 ⟨some 18, .mv (.t 3), (some (17, false))⟩,
 ⟨some 19, .bin .gtr (.t 18) (.c (.int .i64 50)), (some (17, false))⟩,
 ⟨some 20, .pick (.t 17) (.c (.bool true)) (.t 19), none⟩] [1, 6, 7, 20]) (
 .cond (.t 20) (
 .seq (
 .reg [
 ⟨some 2, .mv (.c (.bool false)), none⟩] [2]) (
 .ret)) (
 .skip))))) (
 .reg [
 ⟨some 21, .bin .add (.t 7) (.c (.int .i64 1)), none⟩,
 ⟨some 7, .mv (.t 21), none⟩] [1, 6, 7]))))))) (
 .seq (
 .reg [
 ⟨some 22, .fa 1 (.t 1), none⟩,
 ⟨some 23, .ld (.t 22), none⟩,
 ⟨some 24, .len .s (.t 23), none⟩,
 ⟨some 25, .bin .leq (.t 24) (.c (.int .i64 1000)), none⟩,
 ⟨some 2, .mv (.t 25), none⟩] [2]) (
 .ret)))
def r21 : List RT := [.t 2]

/-- reeve/turn.Take -/
def a9 : AS :=
 .seq (
 .reg [
 ⟨some 3, .box (.t 0), none⟩,
 ⟨some 6, .alc [.bool false, .bool false, .int .i64 0, .int .i64 0, .nils], none⟩,
 ⟨some 7, .mv (.c (.int .i64 0)), none⟩] [1, 2, 3, 6]) (
 .seq (
 .seq (
 .reg [
 ⟨some 20, .mv (.t 1), none⟩,
 ⟨some 21, .eqn false .p (.t 20) (.c (.nilp)), none⟩] [1, 2, 3, 6, 21]) (
 .cond (.t 21) (
 .seq (
 .reg [
 ⟨some 22, .bld [.bool false, .bool false, .int .i64 0, .int .i64 0, .nils] [], none⟩,
 ⟨none, .st 5 (.t 6) (.t 22), none⟩,
 ⟨some 7, .mv (.c (.int .i64 1)), none⟩] [6, 7]) (
 .ret)) (
 .skip))) (
 .seq (
 .seq (
 .reg [
 ⟨some 24, .mv (.t 1), none⟩,
 ⟨some 25, .call 16 [none] [(.t 24)], none⟩,
 ⟨some 23, .mv (.t 25), none⟩,
 ⟨some 26, .ext (.t 23) 0, none⟩,
 ⟨some 27, .ext (.t 23) 1, none⟩,
 ⟨some 8, .mv (.t 26), none⟩,
 ⟨some 9, .mv (.t 27), none⟩] [1, 2, 3, 6, 9]) (
 .seq (
 .reg [
 ⟨some 28, .mv (.t 9), none⟩,
 ⟨some 29, .bin .neq (.t 28) (.c (.int .i64 0)), none⟩,
 ⟨some 30, .mv (.t 29), none⟩,
 ⟨some 31, .ldA 2 (.t 3), (some (30, false))⟩,
 ⟨some 32, .call 29 [none] [(.t 31)], (some (30, false))⟩,
 ⟨some 33, .not (.t 32), (some (30, false))⟩,
 ⟨some 34, .pick (.t 30) (.c (.bool true)) (.t 33), none⟩,
 ⟨some 35, .mv (.t 34), none⟩,
 ⟨some 36, .mv (.t 2), (some (35, false))⟩,
 ⟨some 37, .bin .lss (.t 36) (.c (.int .i64 0)), (some (35, false))⟩,
 ⟨some 38, .pick (.t 35) (.c (.bool true)) (.t 37), none⟩] [1, 2, 3, 6, 38]) (
 .cond (.t 38) (
 .seq (
 .reg [
 ⟨some 39, .bld [.bool false, .bool false, .int .i64 0, .int .i64 0, .nils] [], none⟩,
 ⟨none, .st 5 (.t 6) (.t 39), none⟩,
 ⟨some 7, .mv (.c (.int .i64 1)), none⟩] [6, 7]) (
 .ret)) (
 .skip)))) (
 .seq (
 .reg [
 ⟨some 41, .mv (.t 1), none⟩,
 ⟨some 42, .nck (.t 41), none⟩,
 ⟨some 43, .fa 1 (.t 42), none⟩,
 ⟨some 44, .ld (.t 43), none⟩,
 ⟨some 45, .call 30 [none] [(.t 44)], none⟩,
 ⟨some 40, .mv (.t 45), none⟩,
 ⟨some 46, .ext (.t 40) 0, none⟩,
 ⟨some 47, .ext (.t 40) 1, none⟩,
 ⟨some 10, .alc [.str ByteArray.empty, .int .u64 0, .int .i64 0, .nils], none⟩,
 ⟨none, .st 4 (.t 10) (.t 46), none⟩,
 ⟨some 11, .mv (.t 47), none⟩] [1, 2, 3, 6, 10, 11]) (
 .seq (
 .seq (
 .reg [
 ⟨some 48, .mv (.t 11), none⟩,
 ⟨some 49, .not (.t 48), none⟩] [1, 2, 3, 6, 10, 49]) (
 .cond (.t 49) (
 .seq (
 .reg [
 ⟨some 50, .bld [.bool false, .bool false, .int .i64 0, .int .i64 0, .nils] [], none⟩,
 ⟨none, .st 5 (.t 6) (.t 50), none⟩,
 ⟨some 7, .mv (.c (.int .i64 5)), none⟩] [6, 7]) (
 .ret)) (
 .skip))) (
 .seq (
 .frz 10 (
 .regT [
 ⟨some 52, .ldA 2 (.t 3), none⟩,
 ⟨some 53, .mv (.t 1), none⟩,
 ⟨some 54, .nck (.t 53), none⟩,
 ⟨some 55, .fa 0 (.t 54), none⟩,
 ⟨some 56, .ld (.t 55), none⟩,
 ⟨some 57, .call 20 [none] [(.t 56)], none⟩,
 ⟨some 58, .ldA 4 (.t 10), none⟩,
 ⟨some 59, .mv (.t 2), none⟩,
 ⟨some 60, .call 31 [none, none, none, none] [(.t 52), (.t 57), (.t 58), (.t 59)], none⟩,
 ⟨some 51, .mv (.t 60), none⟩,
 ⟨some 61, .ext (.t 51) 0, none⟩,
 ⟨some 62, .ext (.t 51) 1, none⟩,
 ⟨some 12, .alc [.arr 8 (.int .i64) (List.replicate 8 (Ty.dflt (.int .i64))), .nils, .nils, .nils, .int .i64 0], none⟩,
 ⟨none, .st 12 (.t 12) (.t 61), none⟩,
 ⟨some 13, .mv (.t 62), none⟩] (.q 0 (.q 1 (.q 2 (.q 3 (.q 4 (.q 6 (.q 7 (.e 5 [0, 6, 7] (.e 8 [] (.q 9 (.q 10 (.q 11 (.e 12 [0, 1, 2, 3, 4, 6, 7, 9, 10, 11] (.e 13 [11] (.q 14 .done) .no) .no)))) (.e 12 [0, 1, 2, 3, 4, 6, 7] (.e 8 [] (.q 9 (.q 10 (.q 11 (.e 13 [11] (.q 14 .done) .no)))) .no) .no)) (.e 12 [0, 1, 2, 3, 4, 6, 7] (.e 5 [0, 6, 7] (.e 8 [] (.q 9 (.q 10 (.q 11 (.e 13 [11] (.q 14 .done) .no)))) .no) .no) .no))))))))) [1, 6, 12, 13])) (
 .seq (
 .seq (
 .reg [
 ⟨some 63, .mv (.t 13), none⟩,
 ⟨some 64, .bin .neq (.t 63) (.c (.int .i64 0)), none⟩] [1, 6, 12, 13, 64]) (
 .cond (.t 64) (
 .seq (
 .reg [
 ⟨some 65, .mv (.t 1), none⟩,
 ⟨some 66, .mv (.t 13), none⟩,
 ⟨some 67, .fa 11 (.t 12), none⟩,
 ⟨some 68, .ld (.t 67), none⟩,
 ⟨some 69, .bld [.bool false, .bool false, .int .i64 0, .int .i64 0, .nils] [(2, 1, (.t 66)), (3, 1, (.t 68))], none⟩,
 ⟨some 70, .call 32 [none, none] [(.t 65), (.t 69)], none⟩,
 ⟨some 71, .ext (.t 70) 0, none⟩,
 ⟨some 72, .ext (.t 70) 1, none⟩,
 ⟨none, .st 5 (.t 6) (.t 71), none⟩,
 ⟨some 7, .mv (.t 72), none⟩] [6, 7]) (
 .ret)) (
 .skip))) (
 .seq (
 .reg [
 ⟨some 74, .mv (.t 1), none⟩,
 ⟨some 75, .nck (.t 74), none⟩,
 ⟨some 76, .fa 2 (.t 75), none⟩,
 ⟨some 77, .ld (.t 76), none⟩,
 ⟨some 78, .call 34 [none] [(.t 77)], none⟩,
 ⟨some 79, .call 33 [(some (1, .byte))] [(.t 78)], none⟩,
 ⟨some 73, .mv (.t 79), none⟩,
 ⟨some 80, .ext (.t 73) 0, none⟩,
 ⟨some 81, .ext (.t 73) 1, none⟩,
 ⟨some 14, .mv (.t 80), none⟩,
 ⟨some 15, .mv (.t 81), none⟩] [1, 6, 12, 14]) (
 .seq (
 .seq (
 .reg [
 ⟨some 82, .fa 9 (.t 12), none⟩,
 ⟨some 83, .ld (.t 82), none⟩,
 ⟨some 84, .len .s (.t 83), none⟩,
 ⟨some 85, .mv (.c (.int .i64 0)), none⟩] [1, 6, 12, 14, 83, 84, 85]) (
 .block 0 (
 .lift 1 (some 4) 56 (.pair .str (.pair (.int .u64) (.pair (.int .i64) (.sl 8 (.int .i64))))) (
 .lift 14 (some 1) 72 (.pair .str (.pair .str (.pair (.int .u64) (.pair (.int .i64) (.sl 8 (.int .i64)))))) (
 .loop 1 [1, 6, 12, 14, 83, 84, 85] (
 .seq (
 .reg [
 ⟨some 86, .bin .lss (.t 85) (.t 84), none⟩] [1, 6, 12, 14, 83, 84, 85, 86]) (
 .seq (
 .cond (.t 86) (
 .skip) (
 .exit 0)) (
 .seq (
 .block 1 (
 .seq (
 .reg [
 ⟨some 87, .ia 3 (.t 83) (.t 85), none⟩,
 ⟨some 88, .ldA 3 (.t 87), none⟩,
 ⟨some 17, .alc [.str ByteArray.empty, .int .i64 0, .int .i64 0], none⟩,
 ⟨none, .st 3 (.t 17) (.t 88), none⟩] [1, 6, 12, 14, 17, 83, 84, 85]) (
 .seq (
 .reg [
 ⟨some 90, .mv (.t 14), none⟩,
 ⟨some 91, .fa 0 (.t 17), none⟩,
 ⟨some 92, .ld (.t 91), none⟩,
 ⟨some 93, .fa 1 (.t 17), none⟩,
 ⟨some 94, .ld (.t 93), none⟩,
 ⟨some 95, .fa 2 (.t 17), none⟩,
 ⟨some 96, .ld (.t 95), none⟩,
 ⟨some 97, .bsl 8 (.int .i64) 1 [(0, (.t 96))], none⟩,
 ⟨some 98, .call 24 [none, none, none, (some (8, (.int .i64)))] [(.t 90), (.t 92), (.t 94), (.t 97)], none⟩,
 ⟨some 89, .mv (.t 98), none⟩,
 ⟨some 99, .ext (.t 89) 0, none⟩,
 ⟨some 100, .ext (.t 89) 1, none⟩,
 ⟨some 18, .mv (.t 99), none⟩,
 ⟨some 19, .mv (.t 100), none⟩] [1, 6, 12, 14, 19, 83, 84, 85]) (
 .seq (
 .reg [
 ⟨some 101, .mv (.t 19), none⟩,
 ⟨some 102, .bin .neq (.t 101) (.c (.int .i64 0)), none⟩] [1, 6, 12, 14, 83, 84, 85, 102]) (
 .cond (.t 102) (
 .seq (
 .reg [
 ⟨some 103, .bld [.bool false, .bool false, .int .i64 0, .int .i64 0, .nils] [], none⟩,
 ⟨none, .st 5 (.t 6) (.t 103), none⟩,
 ⟨some 7, .mv (.c (.int .i64 8)), none⟩] [6, 7]) (
 .ret)) (
 .skip)))))) (
 .reg [
 ⟨some 104, .bin .add (.t 85) (.c (.int .i64 1)), none⟩,
 ⟨some 85, .mv (.t 104), none⟩] [1, 6, 12, 14, 83, 84, 85]))))))))) (
 .seq (
 .reg [
 ⟨some 105, .mv (.t 1), none⟩,
 ⟨some 106, .nck (.t 105), none⟩,
 ⟨some 107, .fa 1 (.t 106), none⟩,
 ⟨some 108, .ld (.t 107), none⟩,
 ⟨some 109, .call 35 [none] [(.t 108)], none⟩] [1, 6, 12, 14]) (
 .seq (
 .reg [
 ⟨some 110, .mv (.t 1), none⟩,
 ⟨some 111, .mv (.t 1), none⟩,
 ⟨some 112, .mv (.t 14), none⟩,
 ⟨some 113, .nck (.t 110), none⟩,
 ⟨some 114, .fa 2 (.t 113), none⟩,
 ⟨none, .st 1 (.t 114) (.t 112), none⟩,
 ⟨some 115, .nck (.t 111), none⟩,
 ⟨some 116, .fa 3 (.t 115), none⟩,
 ⟨none, .st 1 (.t 116) (.c (.int .i64 0)), none⟩] [1, 6, 12]) (
 .seq (
 .regD [
 ⟨some 117, .mv (.t 1), none⟩,
 ⟨some 118, .nck (.t 117), none⟩,
 ⟨some 119, .fa 0 (.t 118), none⟩,
 ⟨some 120, .ld (.t 119), none⟩,
 ⟨some 121, .fa 8 (.t 12), none⟩,
 ⟨some 122, .ld (.t 121), none⟩,
 ⟨some 123, .call 26 [none, (some (16, (.pair (.int .i64) (.int .i64))))] [(.t 120), (.t 122)], none⟩] [.q 0, .q 1, .q 2, .q 3, .q 4, .q 5, .e 6 []] [6, 12]) (
 .seq (
 .reg [
 ⟨some 124, .fa 11 (.t 12), none⟩,
 ⟨some 125, .ld (.t 124), none⟩,
 ⟨some 126, .fa 10 (.t 12), none⟩,
 ⟨some 127, .ld (.t 126), none⟩,
 ⟨some 128, .bld [.bool false, .bool false, .int .i64 0, .int .i64 0, .nils] [(0, 1, (.c (.bool true))), (3, 1, (.t 125)), (4, 1, (.t 127))], none⟩,
 ⟨none, .st 5 (.t 6) (.t 128), none⟩,
 ⟨some 7, .mv (.c (.int .i64 0)), none⟩] [6, 7]) (
 .ret)))))))))))))
def r9 : List RT := [.c 6 (some 5), .t 7]

/-- reeve/reevelaw17.Theirs -/
def a10 : AS :=
 .seq (
 .reg [
 ⟨some 1, .box (.t 0), none⟩,
 ⟨some 2, .alc [.nils, .nils], none⟩] [1, 2]) (
 .seq (
 .reg [
 ⟨some 5, .bsl 16 .str 0 [], none⟩,
 ⟨some 6, .fa 0 (.t 1), none⟩,
 ⟨some 7, .ld (.t 6), none⟩,
 ⟨some 8, .app 16 .str (.t 5) (.t 7), none⟩,
 ⟨some 9, .bld [.nils, .nils] [(0, 1, (.t 8))], none⟩,
 ⟨some 3, .alc [.nils, .nils], none⟩,
 ⟨none, .st 2 (.t 3) (.t 9), none⟩] [1, 2, 3]) (
 .seq (
 .seq (
 .reg [
 ⟨some 10, .fa 1 (.t 1), none⟩,
 ⟨some 11, .ld (.t 10), none⟩,
 ⟨some 12, .len .s (.t 11), none⟩,
 ⟨some 13, .mv (.c (.int .i64 0)), none⟩] [1, 2, 3, 12, 13]) (
 .block 0 (
 .lift 2 (some 0) 16 .str (
 .lift 2 (some 1) 16 (.pair (.int .i64) (.int .i64)) (
 .lift 3 (some 0) 16 .str (
 .lift 3 (some 1) 16 (.pair (.int .i64) (.int .i64)) (
 .loop 1 [1, 2, 3, 12, 13] (
 .seq (
 .reg [
 ⟨some 14, .bin .lss (.t 13) (.t 12), none⟩] [1, 2, 3, 12, 13, 14]) (
 .seq (
 .cond (.t 14) (
 .skip) (
 .exit 0)) (
 .seq (
 .block 1 (
 .seq (
 .reg [
 ⟨some 15, .mv (.t 13), none⟩,
 ⟨some 4, .mv (.t 15), none⟩] [1, 2, 3, 4, 12, 13]) (
 .regD [
 ⟨some 16, .fa 1 (.t 3), none⟩,
 ⟨some 17, .ld (.t 16), none⟩,
 ⟨some 18, .fa 1 (.t 1), none⟩,
 ⟨some 19, .ld (.t 18), none⟩,
 ⟨some 20, .mv (.t 4), none⟩,
 ⟨some 21, .ia 2 (.t 19) (.t 20), none⟩,
 ⟨some 22, .ldA 2 (.t 21), none⟩,
 ⟨some 23, .bsl 16 (.pair (.int .i64) (.int .i64)) 1 [(0, (.t 22))], none⟩,
 ⟨some 24, .app 16 (.pair (.int .i64) (.int .i64)) (.t 17) (.t 23), none⟩,
 ⟨some 25, .fa 1 (.t 3), none⟩,
 ⟨none, .st 1 (.t 25) (.t 24), none⟩] [.q 0, .q 1, .q 2, .q 3, .q 4, .q 5, .q 6, .e 7 [0, 1], .e 8 [], .q 9, .e 10 []] [1, 2, 3, 12, 13]))) (
 .reg [
 ⟨some 26, .bin .add (.t 13) (.c (.int .i64 1)), none⟩,
 ⟨some 13, .mv (.t 26), none⟩] [1, 2, 3, 12, 13]))))))))))) (
 .seq (
 .reg [
 ⟨some 27, .ldA 2 (.t 3), none⟩,
 ⟨none, .st 2 (.t 2) (.t 27), none⟩] [2]) (
 .lift 2 (some 0) 16 .str (
 .lift 2 (some 1) 16 (.pair (.int .i64) (.int .i64)) (
 .ret))))))
def r10 : List RT := [.c 2 (some 2), .f 2]

/-- (*reeve/journal.Journal).State -/
def a20 : AS :=
 .seq (
 .reg [
 ⟨some 2, .alc [.arr 8 (.int .i64) (List.replicate 8 (Ty.dflt (.int .i64)))], none⟩] [0, 2]) (
 .seq (
 .seq (
 .reg [
 ⟨some 6, .mv (.t 0), none⟩,
 ⟨some 7, .eqn false .p (.t 6) (.c (.nilp)), none⟩] [0, 2, 7]) (
 .cond (.t 7) (
 .seq (
 .reg [
 ⟨some 8, .bldA [.int .i64 0, .int .i64 0, .int .i64 0, .int .i64 0, .int .i64 0, .int .i64 0, .int .i64 0, .int .i64 0] 8 (.int .i64) [], none⟩,
 ⟨none, .st 8 (.t 2) (.t 8), none⟩] [2]) (
 .ret)) (
 .skip))) (
 .seq (
 .reg [
 ⟨some 9, .mv (.t 0), none⟩,
 ⟨some 10, .nck (.t 9), none⟩,
 ⟨some 11, .fa 0 (.t 10), none⟩,
 ⟨some 12, .ldA 8 (.t 11), none⟩,
 ⟨some 3, .alc [.arr 8 (.int .i64) (List.replicate 8 (Ty.dflt (.int .i64)))], none⟩,
 ⟨none, .st 8 (.t 3) (.t 12), none⟩] [0, 2, 3]) (
 .seq (
 .seq (
 .reg [
 ⟨some 13, .mv (.t 0), none⟩,
 ⟨some 14, .nck (.t 13), none⟩,
 ⟨some 15, .fa 8 (.t 14), none⟩,
 ⟨some 16, .ld (.t 15), none⟩,
 ⟨some 17, .len .s (.t 16), none⟩,
 ⟨some 18, .mv (.c (.int .i64 0)), none⟩] [2, 3, 16, 17, 18]) (
 .block 0 (
 .loop 1 [2, 3, 16, 17, 18] (
 .seq (
 .reg [
 ⟨some 19, .bin .lss (.t 18) (.t 17), none⟩] [2, 3, 16, 17, 18, 19]) (
 .seq (
 .cond (.t 19) (
 .skip) (
 .exit 0)) (
 .seq (
 .block 1 (
 .seq (
 .reg [
 ⟨some 20, .ia 2 (.t 16) (.t 18), none⟩,
 ⟨some 21, .ldA 2 (.t 20), none⟩,
 ⟨some 5, .alc [.int .i64 0, .int .i64 0], none⟩,
 ⟨none, .st 2 (.t 5) (.t 21), none⟩] [2, 3, 5, 16, 17, 18]) (
 .reg [
 ⟨some 22, .fa 0 (.t 5), none⟩,
 ⟨some 23, .ld (.t 22), none⟩,
 ⟨some 24, .fa 1 (.t 5), none⟩,
 ⟨some 25, .ld (.t 24), none⟩,
 ⟨some 26, .iaA 8 1 (.t 3) (.t 23), none⟩,
 ⟨none, .st 1 (.t 26) (.t 25), none⟩] [2, 3, 16, 17, 18]))) (
 .reg [
 ⟨some 27, .bin .add (.t 18) (.c (.int .i64 1)), none⟩,
 ⟨some 18, .mv (.t 27), none⟩] [2, 3, 16, 17, 18]))))))) (
 .seq (
 .reg [
 ⟨some 28, .ldA 8 (.t 3), none⟩,
 ⟨none, .st 8 (.t 2) (.t 28), none⟩] [2]) (
 .ret)))))
def r20 : List RT := [.c 2 (some 8)]

/-- reeve/code.Formed -/
def a29 : AS :=
 .seq (
 .reg [
 ⟨some 1, .box (.t 0), none⟩,
 ⟨some 2, .mv (.c (.bool false)), none⟩] [1]) (
 .seq (
 .seq (
 .reg [
 ⟨some 10, .fa 0 (.t 1), none⟩,
 ⟨some 11, .ld (.t 10), none⟩,
 ⟨some 12, .len .s (.t 11), none⟩,
 ⟨some 13, .bin .gtr (.t 12) (.c (.int .i64 8)), none⟩,
 ⟨some 14, .mv (.t 13), none⟩,
 ⟨some 15, .fa 1 (.t 1), (some (14, false))⟩,
 ⟨some 16, .ld (.t 15), (some (14, false))⟩,
 ⟨some 17, .len .s (.t 16), (some (14, false))⟩,
 ⟨some 18, .bin .gtr (.t 17) (.c (.int .i64 200)), (some (14, false))⟩,
 ⟨some 19, .pick (.t 14) (.c (.bool true)) (.t 18), none⟩] [1, 19]) (
 .cond (.t 19) (
 .seq (
 .reg [
 ⟨some 2, .mv (.c (.bool false)), none⟩] [2]) (
 .ret)) (
 .skip))) (
 .seq (
 .seq (
 .reg [
 ⟨some 20, .fa 0 (.t 1), none⟩,
 ⟨some 21, .ld (.t 20), none⟩,
 ⟨some 22, .len .s (.t 21), none⟩,
 ⟨some 23, .mv (.c (.int .i64 0)), none⟩] [1, 21, 22, 23]) (
 .block 0 (
 .loop 1 [1, 21, 22, 23] (
 .seq (
 .reg [
 ⟨some 24, .bin .lss (.t 23) (.t 22), none⟩] [1, 21, 22, 23, 24]) (
 .seq (
 .cond (.t 24) (
 .skip) (
 .exit 0)) (
 .seq (
 .block 1 (
 .seq (
 .reg [
 ⟨some 25, .ia 1 (.t 21) (.t 23), none⟩,
 ⟨some 26, .ld (.t 25), none⟩,
 ⟨some 4, .mv (.t 26), none⟩] [1, 4, 21, 22, 23]) (
 .seq (
 .reg [
 ⟨some 27, .mv (.t 4), none⟩,
 ⟨some 28, .call 80 [none] [(.t 27)], none⟩,
 ⟨some 29, .not (.t 28), none⟩] [1, 21, 22, 23, 29]) (
 .cond (.t 29) (
 .seq (
 .reg [
 ⟨some 2, .mv (.c (.bool false)), none⟩] [2]) (
 .ret)) (
 .skip))))) (
 .reg [
 ⟨some 30, .bin .add (.t 23) (.c (.int .i64 1)), none⟩,
 ⟨some 23, .mv (.t 30), none⟩] [1, 21, 22, 23]))))))) (
 .seq (
 .seq (
 .reg [
 ⟨some 31, .fa 1 (.t 1), none⟩,
 ⟨some 32, .ld (.t 31), none⟩,
 ⟨some 33, .len .s (.t 32), none⟩,
 ⟨some 34, .mv (.c (.int .i64 0)), none⟩] [1, 32, 33, 34]) (
 .block 2 (
 .loop 2 [1, 32, 33, 34] (
 .seq (
 .reg [
 ⟨some 35, .bin .lss (.t 34) (.t 33), none⟩] [1, 32, 33, 34, 35]) (
 .seq (
 .cond (.t 35) (
 .skip) (
 .exit 2)) (
 .seq (
 .block 3 (
 .seq (
 .reg [
 ⟨some 36, .ia 2 (.t 32) (.t 34), none⟩,
 ⟨some 37, .ldA 2 (.t 36), none⟩,
 ⟨some 6, .alc [.int .i64 0, .int .i64 0], none⟩,
 ⟨none, .st 2 (.t 6) (.t 37), none⟩] [1, 6, 32, 33, 34]) (
 .seq (
 .reg [
 ⟨some 39, .fa 0 (.t 6), none⟩,
 ⟨some 40, .ld (.t 39), none⟩,
 ⟨some 41, .call 89 [none] [(.t 40)], none⟩,
 ⟨some 38, .mv (.t 41), none⟩,
 ⟨some 42, .ext (.t 38) 0, none⟩,
 ⟨some 43, .ext (.t 38) 1, none⟩,
 ⟨some 44, .ext (.t 38) 2, none⟩,
 ⟨some 7, .mv (.t 42), none⟩,
 ⟨some 8, .mv (.t 43), none⟩,
 ⟨some 9, .mv (.t 44), none⟩] [1, 6, 8, 9, 32, 33, 34]) (
 .seq (
 .regD [
 ⟨some 45, .mv (.t 9), none⟩,
 ⟨some 46, .not (.t 45), none⟩,
 ⟨some 47, .mv (.t 46), none⟩,
 ⟨some 48, .mv (.t 8), (some (47, false))⟩,
 ⟨some 49, .bin .neq (.t 48) (.c (.int .i64 1)), (some (47, false))⟩,
 ⟨some 50, .mv (.t 49), (some (47, false))⟩,
 ⟨some 51, .fa 1 (.t 6), (some (50, true))⟩,
 ⟨some 52, .ld (.t 51), (some (50, true))⟩,
 ⟨some 53, .bin .lss (.t 52) (.c (.int .i64 0)), (some (50, true))⟩,
 ⟨some 54, .mv (.t 53), (some (50, true))⟩,
 ⟨some 55, .fa 1 (.t 6), (some (54, false))⟩,
 ⟨some 56, .ld (.t 55), (some (54, false))⟩,
 ⟨some 57, .ldA 2 (.t 1), (some (54, false))⟩,
 ⟨some 58, .mv (.t 8), (some (54, false))⟩,
 ⟨some 59, .call 90 [none, none] [(.t 57), (.t 58)], (some (54, false))⟩,
 ⟨some 60, .bin .geq (.t 56) (.t 59), (some (54, false))⟩,
 ⟨some 61, .pick (.t 54) (.c (.bool true)) (.t 60), (some (50, true))⟩,
 ⟨some 62, .pick (.t 50) (.t 61) (.c (.bool false)), (some (47, false))⟩,
 ⟨some 63, .pick (.t 47) (.c (.bool true)) (.t 62), none⟩] [.q 0, .q 1, .q 2, .q 3, .q 4, .q 5, .q 6, .q 7, .q 8, .q 9, .q 10, .q 11, .q 12, .q 13, .e 14 [10, 11], .q 15, .q 16, .q 17, .q 18] [1, 32, 33, 34, 63]) (
 .cond (.t 63) (
 .seq (
 .reg [
 ⟨some 2, .mv (.c (.bool false)), none⟩] [2]) (
 .ret)) (
 .skip)))))) (
 .reg [
 ⟨some 64, .bin .add (.t 34) (.c (.int .i64 1)), none⟩,
 ⟨some 34, .mv (.t 64), none⟩] [1, 32, 33, 34]))))))) (
 .seq (
 .reg [
 ⟨some 2, .mv (.c (.bool true)), none⟩] [2]) (
 .ret)))))
def r29 : List RT := [.t 2]

/-- (*reeve/inbox.Inbox).First -/
def a30 : AS :=
 .seq (
 .reg [
 ⟨some 2, .alc [.str ByteArray.empty, .int .u64 0, .int .i64 0, .nils], none⟩,
 ⟨some 3, .mv (.c (.bool false)), none⟩] [0, 2]) (
 .seq (
 .seq (
 .reg [
 ⟨some 4, .mv (.t 0), none⟩,
 ⟨some 5, .call 11 [none] [(.t 4)], none⟩,
 ⟨some 6, .bin .eql (.t 5) (.c (.int .i64 0)), none⟩] [0, 2, 6]) (
 .cond (.t 6) (
 .seq (
 .reg [
 ⟨some 7, .bld [.str ByteArray.empty, .int .u64 0, .int .i64 0, .nils] [], none⟩,
 ⟨none, .st 4 (.t 2) (.t 7), none⟩,
 ⟨some 3, .mv (.c (.bool false)), none⟩] [2, 3]) (
 .ret)) (
 .skip))) (
 .seq (
 .reg [
 ⟨some 8, .mv (.t 0), none⟩,
 ⟨some 9, .nck (.t 8), none⟩,
 ⟨some 10, .fa 0 (.t 9), none⟩,
 ⟨some 11, .ld (.t 10), none⟩,
 ⟨some 12, .ia 4 (.t 11) (.c (.int .i64 0)), none⟩,
 ⟨some 13, .ldA 4 (.t 12), none⟩,
 ⟨some 14, .call 75 [none] [(.t 13)], none⟩,
 ⟨none, .st 4 (.t 2) (.t 14), none⟩,
 ⟨some 3, .mv (.c (.bool true)), none⟩] [2, 3]) (
 .ret)))
def r30 : List RT := [.c 2 (some 4), .t 3]

/-- reeve/interp.Run -/
def a31 : AS :=
 .seq (
 .reg [
 ⟨some 4, .box (.t 0), none⟩,
 ⟨some 5, .box (.t 1), none⟩,
 ⟨some 6, .box (.t 2), none⟩,
 ⟨some 8, .alc [.arr 8 (.int .i64) (List.replicate 8 (Ty.dflt (.int .i64))), .nils, .nils, .nils, .int .i64 0], none⟩,
 ⟨some 9, .mv (.c (.int .i64 0)), none⟩] [3, 4, 5, 6, 8]) (
 .seq (
 .seq (
 .reg [
 ⟨some 12, .ldA 2 (.t 4), none⟩,
 ⟨some 13, .call 29 [none] [(.t 12)], none⟩,
 ⟨some 14, .not (.t 13), none⟩,
 ⟨some 15, .mv (.t 14), none⟩,
 ⟨some 16, .ldA 4 (.t 6), (some (15, false))⟩,
 ⟨some 17, .call 74 [none] [(.t 16)], (some (15, false))⟩,
 ⟨some 18, .not (.t 17), (some (15, false))⟩,
 ⟨some 19, .pick (.t 15) (.c (.bool true)) (.t 18), none⟩,
 ⟨some 20, .mv (.t 19), none⟩,
 ⟨some 21, .mv (.t 3), (some (20, false))⟩,
 ⟨some 22, .bin .lss (.t 21) (.c (.int .i64 0)), (some (20, false))⟩,
 ⟨some 23, .pick (.t 20) (.c (.bool true)) (.t 22), none⟩] [3, 4, 5, 6, 8, 23]) (
 .cond (.t 23) (
 .seq (
 .reg [
 ⟨some 24, .bld [.arr 8 (.int .i64) (List.replicate 8 (Ty.dflt (.int .i64))), .nils, .nils, .nils, .int .i64 0] [], none⟩,
 ⟨none, .st 12 (.t 8) (.t 24), none⟩,
 ⟨some 9, .mv (.c (.int .i64 1)), none⟩] [8, 9]) (
 .ret)) (
 .skip))) (
 .seq (
 .reg [
 ⟨some 25, .ldA 2 (.t 4), none⟩,
 ⟨some 26, .ldA 4 (.t 6), none⟩,
 ⟨some 27, .mv (.t 3), none⟩,
 ⟨some 28, .bld [.nils, .nils, .str ByteArray.empty, .int .u64 0, .int .i64 0, .nils, .int .i64 0, .int .i64 0, .nils, .arr 8 (.int .i64) (List.replicate 8 (Ty.dflt (.int .i64))), .nils, .nils, .nils, .int .i64 0, .int .i64 0, .bool false] [(0, 2, (.t 25)), (2, 4, (.t 26)), (6, 1, (.t 27))], none⟩,
 ⟨some 29, .box (.t 28), none⟩,
 ⟨some 10, .mv (.t 29), none⟩] [4, 5, 8, 10]) (
 .lift 10 (some 0) 16 .str (
 .lift 10 (some 1) 16 (.pair (.int .i64) (.int .i64)) (
 .lift 10 (some 5) 8 (.int .i64) (
 .frz 10 (
 .seq (
 .reg [
 ⟨some 30, .mv (.t 10), none⟩,
 ⟨some 31, .ldA 8 (.t 5), none⟩,
 ⟨some 32, .nck (.t 30), none⟩,
 ⟨some 33, .fa 9 (.t 32), none⟩,
 ⟨some 34, .fa 0 (.t 33), none⟩,
 ⟨none, .st 8 (.t 34) (.t 31), none⟩] [4, 8, 10]) (
 .seq (
 .block 0 (
 .lift 10 (some 0) 16 .str (
 .lift 10 (some 1) 16 (.pair (.int .i64) (.int .i64)) (
 .lift 10 (some 5) 8 (.int .i64) (
 .lift 10 (some 8) 8 (.int .i64) (
 .lift 10 (some 17) 16 (.pair (.int .i64) (.int .i64)) (
 .lift 10 (some 18) 32 (.pair .str (.pair (.int .i64) (.int .i64))) (
 .lift 10 (some 19) 48 (.pair .str (.pair .bool (.pair (.int .i64) (.pair (.int .i64) (.int .i64))))) (
 .loop 1 [4, 8, 10] (
 .seq (
 .seq (
 .regD [
 ⟨some 35, .mv (.t 10), none⟩,
 ⟨some 36, .nck (.t 35), none⟩,
 ⟨some 37, .fa 22 (.t 36), none⟩,
 ⟨some 38, .ld (.t 37), none⟩,
 ⟨some 39, .not (.t 38), none⟩,
 ⟨some 40, .mv (.t 39), none⟩,
 ⟨some 41, .mv (.t 10), (some (40, true))⟩,
 ⟨some 42, .nck (.t 41), (some (40, true))⟩,
 ⟨some 43, .fa 7 (.t 42), (some (40, true))⟩,
 ⟨some 44, .ld (.t 43), (some (40, true))⟩,
 ⟨some 45, .fa 1 (.t 4), (some (40, true))⟩,
 ⟨some 46, .ld (.t 45), (some (40, true))⟩,
 ⟨some 47, .len .s (.t 46), (some (40, true))⟩,
 ⟨some 48, .bin .lss (.t 44) (.t 47), (some (40, true))⟩,
 ⟨some 49, .pick (.t 40) (.t 48) (.c (.bool false)), none⟩] [.q 0, .q 1, .q 2, .q 3, .q 4, .q 5, .q 6, .q 7, .q 8, .q 9, .q 10, .q 11, .q 12, .q 13, .q 14] [4, 8, 10, 49]) (
 .cond (.t 49) (
 .skip) (
 .exit 0))) (
 .block 1 (
 .seq (
 .seq (
 .reg [
 ⟨some 50, .mv (.t 10), none⟩,
 ⟨some 51, .nck (.t 50), none⟩,
 ⟨some 52, .fa 9 (.t 51), none⟩,
 ⟨some 53, .fa 11 (.t 52), none⟩,
 ⟨some 54, .ld (.t 53), none⟩,
 ⟨some 55, .bin .eql (.t 54) (.c (.int .i64 500)), none⟩] [4, 8, 10, 55]) (
 .cond (.t 55) (
 .seq (
 .reg [
 ⟨some 56, .bld [.arr 8 (.int .i64) (List.replicate 8 (Ty.dflt (.int .i64))), .nils, .nils, .nils, .int .i64 0] [(11, 1, (.c (.int .i64 500)))], none⟩,
 ⟨none, .st 12 (.t 8) (.t 56), none⟩,
 ⟨some 9, .mv (.c (.int .i64 11)), none⟩] [8, 9]) (
 .ret)) (
 .skip))) (
 .seq (
 .reg [
 ⟨some 57, .mv (.t 10), none⟩,
 ⟨some 58, .nck (.t 57), none⟩,
 ⟨some 59, .fa 9 (.t 58), none⟩,
 ⟨some 60, .fa 11 (.t 59), none⟩,
 ⟨some 61, .ld (.t 60), none⟩,
 ⟨some 62, .bin .add (.t 61) (.c (.int .i64 1)), none⟩,
 ⟨some 63, .nck (.t 57), none⟩,
 ⟨some 64, .fa 9 (.t 63), none⟩,
 ⟨some 65, .fa 11 (.t 64), none⟩,
 ⟨none, .st 1 (.t 65) (.t 62), none⟩] [4, 8, 10]) (
 .seq (
 .regD [
 ⟨some 66, .fa 1 (.t 4), none⟩,
 ⟨some 67, .ld (.t 66), none⟩,
 ⟨some 68, .mv (.t 10), none⟩,
 ⟨some 69, .nck (.t 68), none⟩,
 ⟨some 70, .fa 7 (.t 69), none⟩,
 ⟨some 71, .ld (.t 70), none⟩,
 ⟨some 72, .ia 2 (.t 67) (.t 71), none⟩,
 ⟨some 73, .ldA 2 (.t 72), none⟩,
 ⟨some 11, .alc [.int .i64 0, .int .i64 0], none⟩,
 ⟨none, .st 2 (.t 11) (.t 73), none⟩] [.q 0, .q 1, .q 2, .q 3, .q 4, .q 5, .q 6, .q 7, .e 8 [0, 1, 2, 3, 4, 5, 6, 7], .e 9 []] [4, 8, 10, 11]) (
 .seq (
 .reg [
 ⟨some 74, .mv (.t 10), none⟩,
 ⟨some 75, .nck (.t 74), none⟩,
 ⟨some 76, .fa 7 (.t 75), none⟩,
 ⟨some 77, .ld (.t 76), none⟩,
 ⟨some 78, .bin .add (.t 77) (.c (.int .i64 1)), none⟩,
 ⟨some 79, .nck (.t 74), none⟩,
 ⟨some 80, .fa 7 (.t 79), none⟩,
 ⟨none, .st 1 (.t 80) (.t 78), none⟩] [4, 8, 10, 11]) (
 .seq (
 .reg [
 ⟨some 81, .mv (.t 10), none⟩,
 ⟨some 82, .ldA 2 (.t 11), none⟩,
 ⟨some 83, .call 91 [none, none] [(.t 81), (.t 82)], none⟩] [4, 8, 10]) (
 .seq (
 .reg [
 ⟨some 84, .mv (.t 10), none⟩,
 ⟨some 85, .nck (.t 84), none⟩,
 ⟨some 86, .fa 21 (.t 85), none⟩,
 ⟨some 87, .ld (.t 86), none⟩,
 ⟨some 88, .bin .neq (.t 87) (.c (.int .i64 0)), none⟩] [4, 8, 10, 88]) (
 .cond (.t 88) (
 .seq (
 .regD [
 ⟨some 89, .mv (.t 10), none⟩,
 ⟨some 90, .nck (.t 89), none⟩,
 ⟨some 91, .fa 9 (.t 90), none⟩,
 ⟨some 92, .fa 11 (.t 91), none⟩,
 ⟨some 93, .ld (.t 92), none⟩,
 ⟨some 94, .bld [.arr 8 (.int .i64) (List.replicate 8 (Ty.dflt (.int .i64))), .nils, .nils, .nils, .int .i64 0] [(11, 1, (.t 93))], none⟩,
 ⟨some 95, .mv (.t 10), none⟩,
 ⟨some 96, .nck (.t 95), none⟩,
 ⟨some 97, .fa 21 (.t 96), none⟩,
 ⟨some 98, .ld (.t 97), none⟩,
 ⟨none, .st 12 (.t 8) (.t 94), none⟩,
 ⟨some 9, .mv (.t 98), none⟩] [.q 0, .q 1, .q 2, .q 3, .q 4, .q 5, .q 6, .q 7, .q 8, .q 9, .e 10 [6, 7, 8, 9], .q 11] [8, 9]) (
 .ret)) (
 .skip))))))))))))))))))) (
 .seq (
 .reg [
 ⟨some 99, .mv (.t 10), none⟩,
 ⟨some 100, .nck (.t 99), none⟩,
 ⟨some 101, .fa 9 (.t 100), none⟩,
 ⟨some 102, .ldA 12 (.t 101), none⟩,
 ⟨none, .st 12 (.t 8) (.t 102), none⟩,
 ⟨some 9, .mv (.c (.int .i64 0)), none⟩] [8, 9]) (
 .ret))))))))))
def r31 : List RT := [.c 8 (some 12), .t 9, .f 8]

/-- reeve/turn.fail -/
def a32 : AS :=
 .seq (
 .reg [
 ⟨some 3, .box (.t 1), none⟩,
 ⟨some 4, .alc [.bool false, .bool false, .int .i64 0, .int .i64 0, .nils], none⟩,
 ⟨some 5, .mv (.c (.int .i64 0)), none⟩] [0, 3, 4]) (
 .seq (
 .seq (
 .reg [
 ⟨some 8, .mv (.t 0), none⟩,
 ⟨some 9, .nck (.t 8), none⟩,
 ⟨some 10, .fa 3 (.t 9), none⟩,
 ⟨some 11, .ld (.t 10), none⟩,
 ⟨some 12, .bin .add (.t 11) (.c (.int .i64 1)), none⟩,
 ⟨some 13, .bin .lss (.t 12) (.c (.int .i64 3)), none⟩] [0, 3, 4, 13]) (
 .cond (.t 13) (
 .seq (
 .reg [
 ⟨some 14, .mv (.t 0), none⟩,
 ⟨some 15, .nck (.t 14), none⟩,
 ⟨some 16, .fa 3 (.t 15), none⟩,
 ⟨some 17, .ld (.t 16), none⟩,
 ⟨some 18, .bin .add (.t 17) (.c (.int .i64 1)), none⟩,
 ⟨some 19, .nck (.t 14), none⟩,
 ⟨some 20, .fa 3 (.t 19), none⟩,
 ⟨none, .st 1 (.t 20) (.t 18), none⟩] [0, 3, 4]) (
 .seq (
 .reg [
 ⟨some 21, .ldA 5 (.t 3), none⟩,
 ⟨none, .st 5 (.t 4) (.t 21), none⟩,
 ⟨some 5, .mv (.c (.int .i64 0)), none⟩] [0, 4, 5]) (
 .lift 0 (some 4) 56 (.pair .str (.pair (.int .u64) (.pair (.int .i64) (.sl 8 (.int .i64))))) (
 .ret)))) (
 .skip))) (
 .seq (
 .seq (
 .reg [
 ⟨some 22, .mv (.t 0), none⟩,
 ⟨some 23, .nck (.t 22), none⟩,
 ⟨some 24, .fa 4 (.t 23), none⟩,
 ⟨some 25, .ld (.t 24), none⟩,
 ⟨some 26, .len .s (.t 25), none⟩,
 ⟨some 27, .bin .geq (.t 26) (.c (.int .i64 8)), none⟩] [0, 3, 4, 27]) (
 .cond (.t 27) (
 .seq (
 .reg [
 ⟨some 28, .bld [.bool false, .bool false, .int .i64 0, .int .i64 0, .nils] [], none⟩,
 ⟨none, .st 5 (.t 4) (.t 28), none⟩,
 ⟨some 5, .mv (.c (.int .i64 8)), none⟩] [0, 4, 5]) (
 .lift 0 (some 4) 56 (.pair .str (.pair (.int .u64) (.pair (.int .i64) (.sl 8 (.int .i64))))) (
 .ret))) (
 .skip))) (
 .seq (
 .reg [
 ⟨some 30, .mv (.t 0), none⟩,
 ⟨some 31, .nck (.t 30), none⟩,
 ⟨some 32, .fa 1 (.t 31), none⟩,
 ⟨some 33, .ld (.t 32), none⟩,
 ⟨some 34, .call 35 [none] [(.t 33)], none⟩,
 ⟨some 29, .mv (.t 34), none⟩,
 ⟨some 35, .ext (.t 29) 0, none⟩,
 ⟨some 36, .ext (.t 29) 1, none⟩,
 ⟨some 6, .alc [.str ByteArray.empty, .int .u64 0, .int .i64 0, .nils], none⟩,
 ⟨none, .st 4 (.t 6) (.t 35), none⟩,
 ⟨some 7, .mv (.t 36), none⟩] [0, 3, 4, 6]) (
 .seq (
 .regT [
 ⟨some 37, .mv (.t 0), none⟩,
 ⟨some 38, .mv (.t 0), none⟩,
 ⟨some 39, .mv (.t 0), none⟩,
 ⟨some 40, .nck (.t 39), none⟩,
 ⟨some 41, .fa 4 (.t 40), none⟩,
 ⟨some 42, .ld (.t 41), none⟩,
 ⟨some 43, .call 92 [(some (56, (.pair .str (.pair (.int .u64) (.pair (.int .i64) (.sl 8 (.int .i64)))))))] [(.t 42)], none⟩,
 ⟨some 44, .ldA 4 (.t 6), none⟩,
 ⟨some 45, .bsl 56 (.pair .str (.pair (.int .u64) (.pair (.int .i64) (.sl 8 (.int .i64))))) 1 [(0, (.t 44))], none⟩,
 ⟨some 46, .app 56 (.pair .str (.pair (.int .u64) (.pair (.int .i64) (.sl 8 (.int .i64))))) (.t 43) (.t 45), none⟩,
 ⟨some 47, .nck (.t 37), none⟩,
 ⟨some 48, .fa 4 (.t 47), none⟩,
 ⟨none, .st 1 (.t 48) (.t 46), none⟩,
 ⟨some 49, .nck (.t 38), none⟩,
 ⟨some 50, .fa 3 (.t 49), none⟩,
 ⟨none, .st 1 (.t 50) (.c (.int .i64 0)), none⟩] (.q 0 (.q 1 (.q 2 (.q 3 (.q 4 (.q 5 (.q 7 (.e 6 [0, 1, 7] (.e 8 [0, 1, 2, 3, 4, 5] (.e 9 [0, 1] (.q 10 (.q 11 (.e 12 [1] (.q 13 (.q 14 (.e 15 [] .done .no))) .no))) .no) .no) (.e 8 [0, 1, 2, 3, 4, 5] (.e 6 [0, 1, 7] (.e 9 [0, 1] (.q 10 (.q 11 (.e 12 [1] (.q 13 (.q 14 (.e 15 [] .done .no))) .no))) .no) .no) .no))))))))) [0, 3, 4]) (
 .seq (
 .reg [
 ⟨some 51, .fa 1 (.t 3), none⟩,
 ⟨none, .st 1 (.t 51) (.c (.bool true)), none⟩] [0, 3, 4]) (
 .seq (
 .reg [
 ⟨some 52, .ldA 5 (.t 3), none⟩,
 ⟨none, .st 5 (.t 4) (.t 52), none⟩,
 ⟨some 5, .mv (.c (.int .i64 0)), none⟩] [0, 4, 5]) (
 .lift 0 (some 4) 56 (.pair .str (.pair (.int .u64) (.pair (.int .i64) (.sl 8 (.int .i64))))) (
 .ret))))))))
def r32 : List RT := [.c 4 (some 5), .t 5, .f 0]

/-- (*reeve/inbox.Inbox).Pop -/
def a35 : AS :=
 .seq (
 .reg [
 ⟨some 2, .alc [.str ByteArray.empty, .int .u64 0, .int .i64 0, .nils], none⟩,
 ⟨some 3, .mv (.c (.bool false)), none⟩] [0, 2]) (
 .seq (
 .reg [
 ⟨some 7, .mv (.t 0), none⟩,
 ⟨some 8, .call 30 [none] [(.t 7)], none⟩,
 ⟨some 6, .mv (.t 8), none⟩,
 ⟨some 9, .ext (.t 6) 0, none⟩,
 ⟨some 10, .ext (.t 6) 1, none⟩,
 ⟨some 4, .alc [.str ByteArray.empty, .int .u64 0, .int .i64 0, .nils], none⟩,
 ⟨none, .st 4 (.t 4) (.t 9), none⟩,
 ⟨some 5, .mv (.t 10), none⟩] [0, 2, 4, 5]) (
 .seq (
 .seq (
 .reg [
 ⟨some 11, .mv (.t 5), none⟩] [0, 2, 4, 5, 11]) (
 .cond (.t 11) (
 .reg [
 ⟨some 12, .mv (.t 0), none⟩,
 ⟨some 13, .mv (.t 0), none⟩,
 ⟨some 14, .nck (.t 13), none⟩,
 ⟨some 15, .fa 0 (.t 14), none⟩,
 ⟨some 16, .ld (.t 15), none⟩,
 ⟨some 17, .slR 4 (.t 16) (some (.c (.int .i64 1))) none, none⟩,
 ⟨some 18, .nck (.t 12), none⟩,
 ⟨some 19, .fa 0 (.t 18), none⟩,
 ⟨none, .st 1 (.t 19) (.t 17), none⟩] [2, 4, 5]) (
 .skip))) (
 .seq (
 .reg [
 ⟨some 20, .ldA 4 (.t 4), none⟩,
 ⟨some 21, .mv (.t 5), none⟩,
 ⟨none, .st 4 (.t 2) (.t 20), none⟩,
 ⟨some 3, .mv (.t 21), none⟩] [2, 3]) (
 .ret))))
def r35 : List RT := [.c 2 (some 4), .t 3]

/-- reeve/code.operation -/
def a89 : AS :=
 .seq (
 .reg [
 ⟨some 2, .mv (.c (.str ByteArray.empty)), none⟩,
 ⟨some 3, .mv (.c (.int .i64 0)), none⟩,
 ⟨some 4, .mv (.c (.bool false)), none⟩] [0]) (
 .seq (
 .reg [
 ⟨some 6, .bld [.str ByteArray.empty, .int .i64 0] [(0, 1, (.c (.str ⟨#[104, 97, 108, 116]⟩))), (1, 1, (.c (.int .i64 0)))], none⟩,
 ⟨some 7, .bld [.str ByteArray.empty, .int .i64 0] [(0, 1, (.c (.str ⟨#[112, 117, 115, 104]⟩))), (1, 1, (.c (.int .i64 1)))], none⟩,
 ⟨some 8, .bld [.str ByteArray.empty, .int .i64 0] [(0, 1, (.c (.str ⟨#[108, 111, 97, 100]⟩))), (1, 1, (.c (.int .i64 2)))], none⟩,
 ⟨some 9, .bld [.str ByteArray.empty, .int .i64 0] [(0, 1, (.c (.str ⟨#[115, 116, 111, 114, 101]⟩))), (1, 1, (.c (.int .i64 2)))], none⟩,
 ⟨some 10, .bld [.str ByteArray.empty, .int .i64 0] [(0, 1, (.c (.str ⟨#[97, 114, 103]⟩))), (1, 1, (.c (.int .i64 3)))], none⟩,
 ⟨some 11, .bld [.str ByteArray.empty, .int .i64 0] [(0, 1, (.c (.str ⟨#[107, 105, 110, 100]⟩))), (1, 1, (.c (.int .i64 0)))], none⟩,
 ⟨some 12, .bld [.str ByteArray.empty, .int .i64 0] [(0, 1, (.c (.str ⟨#[97, 100, 100]⟩))), (1, 1, (.c (.int .i64 0)))], none⟩,
 ⟨some 13, .bld [.str ByteArray.empty, .int .i64 0] [(0, 1, (.c (.str ⟨#[115, 117, 98]⟩))), (1, 1, (.c (.int .i64 0)))], none⟩,
 ⟨some 14, .bld [.str ByteArray.empty, .int .i64 0] [(0, 1, (.c (.str ⟨#[109, 117, 108]⟩))), (1, 1, (.c (.int .i64 0)))], none⟩,
 ⟨some 15, .bld [.str ByteArray.empty, .int .i64 0] [(0, 1, (.c (.str ⟨#[108, 101, 115, 115]⟩))), (1, 1, (.c (.int .i64 0)))], none⟩,
 ⟨some 16, .bld [.str ByteArray.empty, .int .i64 0] [(0, 1, (.c (.str ⟨#[101, 113, 117, 97, 108]⟩))), (1, 1, (.c (.int .i64 0)))], none⟩,
 ⟨some 17, .bld [.str ByteArray.empty, .int .i64 0] [(0, 1, (.c (.str ⟨#[110, 111, 116]⟩))), (1, 1, (.c (.int .i64 0)))], none⟩,
 ⟨some 18, .bld [.str ByteArray.empty, .int .i64 0] [(0, 1, (.c (.str ⟨#[100, 117, 112]⟩))), (1, 1, (.c (.int .i64 0)))], none⟩,
 ⟨some 19, .bld [.str ByteArray.empty, .int .i64 0] [(0, 1, (.c (.str ⟨#[100, 114, 111, 112]⟩))), (1, 1, (.c (.int .i64 0)))], none⟩,
 ⟨some 20, .bld [.str ByteArray.empty, .int .i64 0] [(0, 1, (.c (.str ⟨#[115, 119, 97, 112]⟩))), (1, 1, (.c (.int .i64 0)))], none⟩,
 ⟨some 21, .bld [.str ByteArray.empty, .int .i64 0] [(0, 1, (.c (.str ⟨#[106, 117, 109, 112]⟩))), (1, 1, (.c (.int .i64 4)))], none⟩,
 ⟨some 22, .bld [.str ByteArray.empty, .int .i64 0] [(0, 1, (.c (.str ⟨#[106, 117, 109, 112, 122]⟩))), (1, 1, (.c (.int .i64 4)))], none⟩,
 ⟨some 23, .bld [.str ByteArray.empty, .int .i64 0] [(0, 1, (.c (.str ⟨#[115, 101, 110, 100]⟩))), (1, 1, (.c (.int .i64 5)))], none⟩,
 ⟨some 24, .bld [.str ByteArray.empty, .int .i64 0] [(0, 1, (.c (.str ⟨#[114, 101, 112, 108, 121]⟩))), (1, 1, (.c (.int .i64 0)))], none⟩,
 ⟨some 25, .bld [.str ByteArray.empty, .int .i64 0] [(0, 1, (.c (.str ⟨#[114, 101, 109, 105, 110, 100]⟩))), (1, 1, (.c (.int .i64 5)))], none⟩,
 ⟨some 26, .bld [.str ByteArray.empty, .int .i64 0] [(0, 1, (.c (.str ⟨#[99, 97, 110, 99, 101, 108]⟩))), (1, 1, (.c (.int .i64 5)))], none⟩,
 ⟨some 27, .bld [.str ByteArray.empty, .int .i64 0] [(0, 1, (.c (.str ⟨#[102, 97, 105, 108]⟩))), (1, 1, (.c (.int .i64 0)))], none⟩,
 ⟨some 28, .bld [.str ByteArray.empty, .int .i64 0] [(0, 1, (.c (.str ⟨#[110, 111, 119]⟩))), (1, 1, (.c (.int .i64 0)))], none⟩,
 ⟨some 29, .bld [.str ByteArray.empty, .int .i64 0] [(0, 1, (.c (.str ⟨#[115, 101, 114, 105, 97, 108]⟩))), (1, 1, (.c (.int .i64 0)))], none⟩,
 ⟨some 30, .bldA [.str ByteArray.empty, .int .i64 0, .str ByteArray.empty, .int .i64 0, .str ByteArray.empty, .int .i64 0, .str ByteArray.empty, .int .i64 0, .str ByteArray.empty, .int .i64 0, .str ByteArray.empty, .int .i64 0, .str ByteArray.empty, .int .i64 0, .str ByteArray.empty, .int .i64 0, .str ByteArray.empty, .int .i64 0, .str ByteArray.empty, .int .i64 0, .str ByteArray.empty, .int .i64 0, .str ByteArray.empty, .int .i64 0, .str ByteArray.empty, .int .i64 0, .str ByteArray.empty, .int .i64 0, .str ByteArray.empty, .int .i64 0, .str ByteArray.empty, .int .i64 0, .str ByteArray.empty, .int .i64 0, .str ByteArray.empty, .int .i64 0, .str ByteArray.empty, .int .i64 0, .str ByteArray.empty, .int .i64 0, .str ByteArray.empty, .int .i64 0, .str ByteArray.empty, .int .i64 0, .str ByteArray.empty, .int .i64 0, .str ByteArray.empty, .int .i64 0] 24 (.pair .str (.int .i64)) [(0, 2, (.t 6)), (2, 2, (.t 7)), (4, 2, (.t 8)), (6, 2, (.t 9)), (8, 2, (.t 10)), (10, 2, (.t 11)), (12, 2, (.t 12)), (14, 2, (.t 13)), (16, 2, (.t 14)), (18, 2, (.t 15)), (20, 2, (.t 16)), (22, 2, (.t 17)), (24, 2, (.t 18)), (26, 2, (.t 19)), (28, 2, (.t 20)), (30, 2, (.t 21)), (32, 2, (.t 22)), (34, 2, (.t 23)), (36, 2, (.t 24)), (38, 2, (.t 25)), (40, 2, (.t 26)), (42, 2, (.t 27)), (44, 2, (.t 28)), (46, 2, (.t 29))], none⟩,
 ⟨some 5, .alc [.arr 24 (.pair .str (.int .i64)) (List.replicate 24 (Ty.dflt (.pair .str (.int .i64))))], none⟩,
 ⟨none, .st 48 (.t 5) (.t 30), none⟩] [0, 5]) (
 .seq (
 .seq (
 .reg [
 ⟨some 31, .mv (.t 0), none⟩,
 ⟨some 32, .bin .lss (.t 31) (.c (.int .i64 0)), none⟩,
 ⟨some 33, .mv (.t 32), none⟩,
 ⟨some 34, .mv (.t 0), (some (33, false))⟩,
 ⟨some 35, .bin .geq (.t 34) (.c (.int .i64 24)), (some (33, false))⟩,
 ⟨some 36, .pick (.t 33) (.c (.bool true)) (.t 35), none⟩] [0, 5, 36]) (
 .cond (.t 36) (
 .seq (
 .reg [
 ⟨some 2, .mv (.c (.str ByteArray.empty)), none⟩,
 ⟨some 3, .mv (.c (.int .i64 0)), none⟩,
 ⟨some 4, .mv (.c (.bool false)), none⟩] [2, 3, 4]) (
 .ret)) (
 .skip))) (
 .seq (
 .regD [
 ⟨some 37, .mv (.t 0), none⟩,
 ⟨some 38, .iaA 24 2 (.t 5) (.t 37), none⟩,
 ⟨some 39, .fa 0 (.t 38), none⟩,
 ⟨some 40, .ld (.t 39), none⟩,
 ⟨some 41, .mv (.t 0), none⟩,
 ⟨some 42, .iaA 24 2 (.t 5) (.t 41), none⟩,
 ⟨some 43, .fa 1 (.t 42), none⟩,
 ⟨some 44, .ld (.t 43), none⟩,
 ⟨some 2, .mv (.t 40), none⟩,
 ⟨some 3, .mv (.t 44), none⟩,
 ⟨some 4, .mv (.c (.bool true)), none⟩] [.q 0, .q 1, .q 2, .q 3, .q 4, .q 5, .q 6, .q 7, .q 8, .q 9, .q 10] [2, 3, 4]) (
 .ret))))
def r89 : List RT := [.t 2, .t 3, .t 4]

/-- (reeve/code.Program).below -/
def a90 : AS :=
 .seq (
 .reg [
 ⟨some 2, .box (.t 0), none⟩,
 ⟨some 4, .mv (.c (.int .i64 0)), none⟩] [1, 2]) (
 .seq (
 .seq (
 .reg [
 ⟨some 5, .mv (.t 1), none⟩] [2, 5]) (
 .block 0 (
 .seq (
 .reg [
 ⟨some 7, .bin .eql (.t 5) (.c (.int .i64 2)), none⟩,
 ⟨some 6, .mv (.t 7), none⟩] [2, 5, 6]) (
 .cond (.t 6) (
 .seq (
 .reg [
 ⟨some 4, .mv (.c (.int .i64 8)), none⟩] [4]) (
 .ret)) (
 .seq (
 .reg [
 ⟨some 9, .bin .eql (.t 5) (.c (.int .i64 3)), none⟩,
 ⟨some 8, .mv (.t 9), none⟩] [2, 5, 8]) (
 .cond (.t 8) (
 .seq (
 .reg [
 ⟨some 4, .mv (.c (.int .i64 4)), none⟩] [4]) (
 .ret)) (
 .seq (
 .reg [
 ⟨some 11, .bin .eql (.t 5) (.c (.int .i64 4)), none⟩,
 ⟨some 10, .mv (.t 11), none⟩] [2, 5, 10]) (
 .cond (.t 10) (
 .seq (
 .reg [
 ⟨some 12, .fa 1 (.t 2), none⟩,
 ⟨some 13, .ld (.t 12), none⟩,
 ⟨some 14, .len .s (.t 13), none⟩,
 ⟨some 15, .bin .add (.t 14) (.c (.int .i64 1)), none⟩,
 ⟨some 4, .mv (.t 15), none⟩] [4]) (
 .ret)) (
 .seq (
 .reg [
 ⟨some 17, .bin .eql (.t 5) (.c (.int .i64 5)), none⟩,
 ⟨some 16, .mv (.t 17), none⟩] [2, 16]) (
 .cond (.t 16) (
 .seq (
 .reg [
 ⟨some 18, .fa 0 (.t 2), none⟩,
 ⟨some 19, .ld (.t 18), none⟩,
 ⟨some 20, .len .s (.t 19), none⟩,
 ⟨some 4, .mv (.t 20), none⟩] [4]) (
 .ret)) (
 .skip))))))))))) (
 .seq (
 .reg [
 ⟨some 4, .mv (.c (.int .i64 1)), none⟩] [4]) (
 .ret)))
def r90 : List RT := [.t 4]

/-- (*reeve/interp.machine).step -/
def a91 : AS :=
 .seq (
 .reg [
 ⟨some 3, .box (.t 1), none⟩] [0, 3]) (
 .seq (
 .reg [
 ⟨some 10, .fa 0 (.t 3), none⟩,
 ⟨some 11, .ld (.t 10), none⟩] [0, 3, 11]) (
 .block 0 (
 .seq (
 .reg [
 ⟨some 16, .bin .eql (.t 11) (.c (.int .i64 0)), none⟩,
 ⟨some 15, .mv (.t 16), none⟩] [0, 3, 11, 15]) (
 .cond (.t 15) (
 .reg [
 ⟨some 17, .mv (.t 0), none⟩,
 ⟨some 18, .nck (.t 17), none⟩,
 ⟨some 19, .fa 22 (.t 18), none⟩,
 ⟨none, .st 1 (.t 19) (.c (.bool true)), none⟩] []) (
 .seq (
 .reg [
 ⟨some 21, .bin .eql (.t 11) (.c (.int .i64 1)), none⟩,
 ⟨some 20, .mv (.t 21), none⟩] [0, 3, 11, 20]) (
 .cond (.t 20) (
 .reg [
 ⟨some 22, .mv (.t 0), none⟩,
 ⟨some 23, .fa 1 (.t 3), none⟩,
 ⟨some 24, .ld (.t 23), none⟩,
 ⟨some 25, .bsl 8 (.int .i64) 1 [(0, (.t 24))], none⟩,
 ⟨some 26, .call 115 [none, (some (8, (.int .i64)))] [(.t 22), (.t 25)], none⟩] []) (
 .seq (
 .reg [
 ⟨some 28, .bin .eql (.t 11) (.c (.int .i64 2)), none⟩,
 ⟨some 27, .mv (.t 28), none⟩] [0, 3, 11, 27]) (
 .cond (.t 27) (
 .regD [
 ⟨some 29, .mv (.t 0), none⟩,
 ⟨some 30, .mv (.t 0), none⟩,
 ⟨some 31, .fa 1 (.t 3), none⟩,
 ⟨some 32, .ld (.t 31), none⟩,
 ⟨some 33, .nck (.t 30), none⟩,
 ⟨some 34, .fa 9 (.t 33), none⟩,
 ⟨some 35, .fa 0 (.t 34), none⟩,
 ⟨some 36, .iaA 8 1 (.t 35) (.t 32), none⟩,
 ⟨some 37, .ld (.t 36), none⟩,
 ⟨some 38, .bsl 8 (.int .i64) 1 [(0, (.t 37))], none⟩,
 ⟨some 39, .call 115 [none, (some (8, (.int .i64)))] [(.t 29), (.t 38)], none⟩] [.q 0, .q 1, .q 2, .q 3, .q 4, .q 5, .q 6, .q 7, .q 8, .e 9 [0], .e 10 []] []) (
 .seq (
 .reg [
 ⟨some 41, .bin .eql (.t 11) (.c (.int .i64 3)), none⟩,
 ⟨some 40, .mv (.t 41), none⟩] [0, 3, 11, 40]) (
 .cond (.t 40) (
 .seq (
 .reg [
 ⟨some 42, .mv (.t 0), none⟩,
 ⟨some 43, .call 116 [none] [(.t 42)], none⟩,
 ⟨some 4, .mv (.t 43), none⟩] [0, 3, 4]) (
 .seq (
 .reg [
 ⟨some 44, .mv (.t 0), none⟩,
 ⟨some 45, .nck (.t 44), none⟩,
 ⟨some 46, .fa 21 (.t 45), none⟩,
 ⟨some 47, .ld (.t 46), none⟩,
 ⟨some 48, .bin .eql (.t 47) (.c (.int .i64 0)), none⟩] [0, 3, 4, 48]) (
 .cond (.t 48) (
 .seq (
 .regD [
 ⟨some 49, .mv (.t 0), none⟩,
 ⟨some 50, .fa 1 (.t 3), none⟩,
 ⟨some 51, .ld (.t 50), none⟩,
 ⟨some 52, .mv (.t 4), none⟩,
 ⟨some 53, .nck (.t 49), none⟩,
 ⟨some 54, .fa 9 (.t 53), none⟩,
 ⟨some 55, .fa 0 (.t 54), none⟩,
 ⟨some 56, .iaA 8 1 (.t 55) (.t 51), none⟩,
 ⟨none, .st 1 (.t 56) (.t 52), none⟩] [.q 0, .q 1, .q 2, .q 3, .q 4, .q 5, .q 6, .q 7, .e 8 []] [0, 3, 4]) (
 .regD [
 ⟨some 57, .mv (.t 0), none⟩,
 ⟨some 58, .mv (.t 0), none⟩,
 ⟨some 59, .nck (.t 58), none⟩,
 ⟨some 60, .fa 9 (.t 59), none⟩,
 ⟨some 61, .fa 8 (.t 60), none⟩,
 ⟨some 62, .ld (.t 61), none⟩,
 ⟨some 63, .fa 1 (.t 3), none⟩,
 ⟨some 64, .ld (.t 63), none⟩,
 ⟨some 65, .mv (.t 4), none⟩,
 ⟨some 66, .bld [.int .i64 0, .int .i64 0] [(0, 1, (.t 64)), (1, 1, (.t 65))], none⟩,
 ⟨some 67, .bsl 16 (.pair (.int .i64) (.int .i64)) 1 [(0, (.t 66))], none⟩,
 ⟨some 68, .app 16 (.pair (.int .i64) (.int .i64)) (.t 62) (.t 67), none⟩,
 ⟨some 69, .nck (.t 57), none⟩,
 ⟨some 70, .fa 9 (.t 69), none⟩,
 ⟨some 71, .fa 8 (.t 70), none⟩,
 ⟨none, .st 1 (.t 71) (.t 68), none⟩] [.q 0, .q 1, .q 2, .q 3, .q 4, .q 5, .q 6, .q 7, .q 8, .q 9, .e 10 [0, 1, 2, 3, 4, 5], .e 11 [0], .q 12, .q 13, .q 14, .e 15 []] [])) (
 .skip)))) (
 .seq (
 .reg [
 ⟨some 73, .bin .eql (.t 11) (.c (.int .i64 4)), none⟩,
 ⟨some 72, .mv (.t 73), none⟩] [0, 3, 11, 72]) (
 .cond (.t 72) (
 .seq (
 .reg [
 ⟨some 5, .mv (.c (.int .i64 0)), none⟩] [0, 3, 5]) (
 .seq (
 .seq (
 .regD [
 ⟨some 74, .fa 1 (.t 3), none⟩,
 ⟨some 75, .ld (.t 74), none⟩,
 ⟨some 76, .mv (.t 0), none⟩,
 ⟨some 77, .nck (.t 76), none⟩,
 ⟨some 78, .fa 2 (.t 77), none⟩,
 ⟨some 79, .fa 3 (.t 78), none⟩,
 ⟨some 80, .ld (.t 79), none⟩,
 ⟨some 81, .len .s (.t 80), none⟩,
 ⟨some 82, .bin .lss (.t 75) (.t 81), none⟩] [.q 0, .q 1, .q 2, .q 3, .q 4, .q 5, .q 6, .q 7, .q 8] [0, 3, 5, 82]) (
 .cond (.t 82) (
 .regD [
 ⟨some 83, .mv (.t 0), none⟩,
 ⟨some 84, .nck (.t 83), none⟩,
 ⟨some 85, .fa 2 (.t 84), none⟩,
 ⟨some 86, .fa 3 (.t 85), none⟩,
 ⟨some 87, .ld (.t 86), none⟩,
 ⟨some 88, .fa 1 (.t 3), none⟩,
 ⟨some 89, .ld (.t 88), none⟩,
 ⟨some 90, .ia 1 (.t 87) (.t 89), none⟩,
 ⟨some 91, .ld (.t 90), none⟩,
 ⟨some 5, .mv (.t 91), none⟩] [.q 0, .q 1, .q 2, .q 3, .q 4, .q 5, .q 6, .q 7, .q 8, .q 9] [0, 5]) (
 .skip))) (
 .reg [
 ⟨some 92, .mv (.t 0), none⟩,
 ⟨some 93, .mv (.t 5), none⟩,
 ⟨some 94, .bsl 8 (.int .i64) 1 [(0, (.t 93))], none⟩,
 ⟨some 95, .call 115 [none, (some (8, (.int .i64)))] [(.t 92), (.t 94)], none⟩] []))) (
 .seq (
 .reg [
 ⟨some 97, .bin .eql (.t 11) (.c (.int .i64 5)), none⟩,
 ⟨some 96, .mv (.t 97), none⟩] [0, 3, 11, 96]) (
 .cond (.t 96) (
 .reg [
 ⟨some 98, .mv (.t 0), none⟩,
 ⟨some 99, .mv (.t 0), none⟩,
 ⟨some 100, .nck (.t 99), none⟩,
 ⟨some 101, .fa 2 (.t 100), none⟩,
 ⟨some 102, .fa 2 (.t 101), none⟩,
 ⟨some 103, .ld (.t 102), none⟩,
 ⟨some 104, .bsl 8 (.int .i64) 1 [(0, (.t 103))], none⟩,
 ⟨some 105, .call 115 [none, (some (8, (.int .i64)))] [(.t 98), (.t 104)], none⟩] []) (
 .seq (
 .seq (
 .reg [
 ⟨some 107, .bin .eql (.t 11) (.c (.int .i64 6)), none⟩,
 ⟨some 106, .mv (.t 107), none⟩] [0, 3, 11, 106]) (
 .cond (.t 106) (
 .skip) (
 .seq (
 .reg [
 ⟨some 108, .bin .eql (.t 11) (.c (.int .i64 7)), none⟩,
 ⟨some 106, .mv (.t 108), none⟩] [0, 3, 11, 106]) (
 .cond (.t 106) (
 .skip) (
 .seq (
 .reg [
 ⟨some 109, .bin .eql (.t 11) (.c (.int .i64 8)), none⟩,
 ⟨some 106, .mv (.t 109), none⟩] [0, 3, 11, 106]) (
 .cond (.t 106) (
 .skip) (
 .seq (
 .reg [
 ⟨some 110, .bin .eql (.t 11) (.c (.int .i64 9)), none⟩,
 ⟨some 106, .mv (.t 110), none⟩] [0, 3, 11, 106]) (
 .cond (.t 106) (
 .skip) (
 .reg [
 ⟨some 111, .bin .eql (.t 11) (.c (.int .i64 10)), none⟩,
 ⟨some 106, .mv (.t 111), none⟩] [0, 3, 11, 106]))))))))) (
 .cond (.t 106) (
 .reg [
 ⟨some 112, .mv (.t 0), none⟩,
 ⟨some 113, .fa 0 (.t 3), none⟩,
 ⟨some 114, .ld (.t 113), none⟩,
 ⟨some 115, .mv (.t 0), none⟩,
 ⟨some 116, .call 117 [none, none] [(.t 114), (.t 115)], none⟩,
 ⟨some 117, .bsl 8 (.int .i64) 1 [(0, (.t 116))], none⟩,
 ⟨some 118, .call 115 [none, (some (8, (.int .i64)))] [(.t 112), (.t 117)], none⟩] []) (
 .seq (
 .reg [
 ⟨some 120, .bin .eql (.t 11) (.c (.int .i64 11)), none⟩,
 ⟨some 119, .mv (.t 120), none⟩] [0, 3, 11, 119]) (
 .cond (.t 119) (
 .reg [
 ⟨some 121, .mv (.t 0), none⟩,
 ⟨some 122, .mv (.t 0), none⟩,
 ⟨some 123, .call 116 [none] [(.t 122)], none⟩,
 ⟨some 124, .bin .eql (.t 123) (.c (.int .i64 0)), none⟩,
 ⟨some 125, .call 118 [none] [(.t 124)], none⟩,
 ⟨some 126, .bsl 8 (.int .i64) 1 [(0, (.t 125))], none⟩,
 ⟨some 127, .call 115 [none, (some (8, (.int .i64)))] [(.t 121), (.t 126)], none⟩] []) (
 .seq (
 .reg [
 ⟨some 129, .bin .eql (.t 11) (.c (.int .i64 12)), none⟩,
 ⟨some 128, .mv (.t 129), none⟩] [0, 3, 11, 128]) (
 .cond (.t 128) (
 .seq (
 .reg [
 ⟨some 130, .mv (.t 0), none⟩,
 ⟨some 131, .call 116 [none] [(.t 130)], none⟩,
 ⟨some 6, .mv (.t 131), none⟩] [0, 6]) (
 .reg [
 ⟨some 132, .mv (.t 0), none⟩,
 ⟨some 133, .mv (.t 6), none⟩,
 ⟨some 134, .mv (.t 6), none⟩,
 ⟨some 135, .bsl 8 (.int .i64) 2 [(0, (.t 133)), (1, (.t 134))], none⟩,
 ⟨some 136, .call 115 [none, (some (8, (.int .i64)))] [(.t 132), (.t 135)], none⟩] [])) (
 .seq (
 .reg [
 ⟨some 138, .bin .eql (.t 11) (.c (.int .i64 13)), none⟩,
 ⟨some 137, .mv (.t 138), none⟩] [0, 3, 11, 137]) (
 .cond (.t 137) (
 .reg [
 ⟨some 139, .mv (.t 0), none⟩,
 ⟨some 140, .call 116 [none] [(.t 139)], none⟩] []) (
 .seq (
 .reg [
 ⟨some 142, .bin .eql (.t 11) (.c (.int .i64 14)), none⟩,
 ⟨some 141, .mv (.t 142), none⟩] [0, 3, 11, 141]) (
 .cond (.t 141) (
 .seq (
 .reg [
 ⟨some 144, .mv (.t 0), none⟩,
 ⟨some 145, .call 119 [none] [(.t 144)], none⟩,
 ⟨some 143, .mv (.t 145), none⟩,
 ⟨some 146, .ext (.t 143) 0, none⟩,
 ⟨some 147, .ext (.t 143) 1, none⟩,
 ⟨some 7, .mv (.t 146), none⟩,
 ⟨some 8, .mv (.t 147), none⟩] [0, 7, 8]) (
 .reg [
 ⟨some 148, .mv (.t 0), none⟩,
 ⟨some 149, .mv (.t 8), none⟩,
 ⟨some 150, .mv (.t 7), none⟩,
 ⟨some 151, .bsl 8 (.int .i64) 2 [(0, (.t 149)), (1, (.t 150))], none⟩,
 ⟨some 152, .call 115 [none, (some (8, (.int .i64)))] [(.t 148), (.t 151)], none⟩] [])) (
 .seq (
 .reg [
 ⟨some 154, .bin .eql (.t 11) (.c (.int .i64 15)), none⟩,
 ⟨some 153, .mv (.t 154), none⟩] [0, 3, 11, 153]) (
 .cond (.t 153) (
 .reg [
 ⟨some 155, .mv (.t 0), none⟩,
 ⟨some 156, .fa 1 (.t 3), none⟩,
 ⟨some 157, .ld (.t 156), none⟩,
 ⟨some 158, .nck (.t 155), none⟩,
 ⟨some 159, .fa 7 (.t 158), none⟩,
 ⟨none, .st 1 (.t 159) (.t 157), none⟩] []) (
 .seq (
 .reg [
 ⟨some 161, .bin .eql (.t 11) (.c (.int .i64 16)), none⟩,
 ⟨some 160, .mv (.t 161), none⟩] [0, 3, 11, 160]) (
 .cond (.t 160) (
 .seq (
 .reg [
 ⟨some 162, .mv (.t 0), none⟩,
 ⟨some 163, .call 116 [none] [(.t 162)], none⟩,
 ⟨some 9, .mv (.t 163), none⟩] [0, 3, 9]) (
 .seq (
 .reg [
 ⟨some 164, .mv (.t 9), none⟩,
 ⟨some 165, .bin .eql (.t 164) (.c (.int .i64 0)), none⟩,
 ⟨some 166, .mv (.t 165), none⟩,
 ⟨some 167, .mv (.t 0), (some (166, true))⟩,
 ⟨some 168, .nck (.t 167), (some (166, true))⟩,
 ⟨some 169, .fa 21 (.t 168), (some (166, true))⟩,
 ⟨some 170, .ld (.t 169), (some (166, true))⟩,
 ⟨some 171, .bin .eql (.t 170) (.c (.int .i64 0)), (some (166, true))⟩,
 ⟨some 172, .pick (.t 166) (.t 171) (.c (.bool false)), none⟩] [0, 3, 172]) (
 .cond (.t 172) (
 .reg [
 ⟨some 173, .mv (.t 0), none⟩,
 ⟨some 174, .fa 1 (.t 3), none⟩,
 ⟨some 175, .ld (.t 174), none⟩,
 ⟨some 176, .nck (.t 173), none⟩,
 ⟨some 177, .fa 7 (.t 176), none⟩,
 ⟨none, .st 1 (.t 177) (.t 175), none⟩] []) (
 .skip)))) (
 .seq (
 .reg [
 ⟨some 179, .bin .eql (.t 11) (.c (.int .i64 21)), none⟩,
 ⟨some 178, .mv (.t 179), none⟩] [0, 3, 11, 178]) (
 .cond (.t 178) (
 .reg [
 ⟨some 180, .mv (.t 0), none⟩,
 ⟨some 181, .call 120 [none, none] [(.t 180), (.c (.bool true))], none⟩] []) (
 .seq (
 .reg [
 ⟨some 183, .bin .eql (.t 11) (.c (.int .i64 22)), none⟩,
 ⟨some 182, .mv (.t 183), none⟩] [0, 3, 11, 182]) (
 .cond (.t 182) (
 .reg [
 ⟨some 184, .mv (.t 0), none⟩,
 ⟨some 185, .mv (.t 0), none⟩,
 ⟨some 186, .nck (.t 185), none⟩,
 ⟨some 187, .fa 6 (.t 186), none⟩,
 ⟨some 188, .ld (.t 187), none⟩,
 ⟨some 189, .bsl 8 (.int .i64) 1 [(0, (.t 188))], none⟩,
 ⟨some 190, .call 115 [none, (some (8, (.int .i64)))] [(.t 184), (.t 189)], none⟩] []) (
 .seq (
 .reg [
 ⟨some 192, .bin .eql (.t 11) (.c (.int .i64 23)), none⟩,
 ⟨some 191, .mv (.t 192), none⟩] [0, 3, 191]) (
 .cond (.t 191) (
 .reg [
 ⟨some 193, .mv (.t 0), none⟩,
 ⟨some 194, .mv (.t 0), none⟩,
 ⟨some 195, .nck (.t 194), none⟩,
 ⟨some 196, .fa 2 (.t 195), none⟩,
 ⟨some 197, .fa 1 (.t 196), none⟩,
 ⟨some 198, .ld (.t 197), none⟩,
 ⟨some 199, .cv .i64 (.t 198), none⟩,
 ⟨some 200, .bsl 8 (.int .i64) 1 [(0, (.t 199))], none⟩,
 ⟨some 201, .call 115 [none, (some (8, (.int .i64)))] [(.t 193), (.t 200)], none⟩] []) (
 .reg [
 ⟨some 12, .mv (.t 0), none⟩,
 ⟨some 13, .ldA 2 (.t 3), none⟩,
 ⟨some 14, .call 121 [none, none] [(.t 12), (.t 13)], none⟩] [])))))))))))))))))))))))))))))))))))
def r91 : List RT := [.w 1 0 8, .w 2 0 17, .w 3 0 18, .w 4 0 19]

/-- reeve/letter.All -/
def a92 : AS :=
 .seq (
 .reg [
 ⟨some 2, .mv (.c (.nils)), none⟩] [0]) (
 .seq (
 .reg [
 ⟨some 3, .mv (.c (.nils)), none⟩] [0, 3]) (
 .seq (
 .seq (
 .reg [
 ⟨some 6, .mv (.t 0), none⟩,
 ⟨some 7, .len .s (.t 6), none⟩,
 ⟨some 8, .mv (.c (.int .i64 0)), none⟩] [3, 6, 7, 8]) (
 .block 0 (
 .lift 3 none 56 (.pair .str (.pair (.int .u64) (.pair (.int .i64) (.sl 8 (.int .i64))))) (
 .loop 1 [3, 6, 7, 8] (
 .seq (
 .reg [
 ⟨some 9, .bin .lss (.t 8) (.t 7), none⟩] [3, 6, 7, 8, 9]) (
 .seq (
 .cond (.t 9) (
 .skip) (
 .exit 0)) (
 .seq (
 .block 1 (
 .seq (
 .reg [
 ⟨some 10, .ia 4 (.t 6) (.t 8), none⟩,
 ⟨some 11, .ldA 4 (.t 10), none⟩,
 ⟨some 5, .alc [.str ByteArray.empty, .int .u64 0, .int .i64 0, .nils], none⟩,
 ⟨none, .st 4 (.t 5) (.t 11), none⟩] [3, 5, 6, 7, 8]) (
 .reg [
 ⟨some 12, .mv (.t 3), none⟩,
 ⟨some 13, .ldA 4 (.t 5), none⟩,
 ⟨some 14, .call 75 [none] [(.t 13)], none⟩,
 ⟨some 15, .bsl 56 (.pair .str (.pair (.int .u64) (.pair (.int .i64) (.sl 8 (.int .i64))))) 1 [(0, (.t 14))], none⟩,
 ⟨some 16, .app 56 (.pair .str (.pair (.int .u64) (.pair (.int .i64) (.sl 8 (.int .i64))))) (.t 12) (.t 15), none⟩,
 ⟨some 3, .mv (.t 16), none⟩] [3, 6, 7, 8]))) (
 .reg [
 ⟨some 17, .bin .add (.t 8) (.c (.int .i64 1)), none⟩,
 ⟨some 8, .mv (.t 17), none⟩] [3, 6, 7, 8])))))))) (
 .seq (
 .reg [
 ⟨some 18, .mv (.t 3), none⟩,
 ⟨some 2, .mv (.t 18), none⟩] [2]) (
 .lift 2 none 56 (.pair .str (.pair (.int .u64) (.pair (.int .i64) (.sl 8 (.int .i64))))) (
 .ret)))))
def r92 : List RT := [.t 2]

/-- (*reeve/interp.machine).push -/
def a115 : AS :=
 .seq (
 .seq (
 .reg [
 ⟨some 4, .mv (.t 0), none⟩,
 ⟨some 5, .nck (.t 4), none⟩,
 ⟨some 6, .fa 21 (.t 5), none⟩,
 ⟨some 7, .ld (.t 6), none⟩,
 ⟨some 8, .bin .neq (.t 7) (.c (.int .i64 0)), none⟩] [0, 1, 8]) (
 .cond (.t 8) (
 .ret) (
 .skip))) (
 .seq (
 .seq (
 .reg [
 ⟨some 9, .mv (.t 0), none⟩,
 ⟨some 10, .nck (.t 9), none⟩,
 ⟨some 11, .fa 8 (.t 10), none⟩,
 ⟨some 12, .ld (.t 11), none⟩,
 ⟨some 13, .len .s (.t 12), none⟩,
 ⟨some 14, .mv (.t 1), none⟩,
 ⟨some 15, .len .s (.t 14), none⟩,
 ⟨some 16, .bin .add (.t 13) (.t 15), none⟩,
 ⟨some 17, .bin .gtr (.t 16) (.c (.int .i64 16)), none⟩] [0, 1, 17]) (
 .cond (.t 17) (
 .seq (
 .reg [
 ⟨some 18, .mv (.t 0), none⟩,
 ⟨some 19, .nck (.t 18), none⟩,
 ⟨some 20, .fa 21 (.t 19), none⟩,
 ⟨none, .st 1 (.t 20) (.c (.int .i64 10)), none⟩] []) (
 .ret)) (
 .skip))) (
 .reg [
 ⟨some 21, .mv (.t 0), none⟩,
 ⟨some 22, .mv (.t 0), none⟩,
 ⟨some 23, .nck (.t 22), none⟩,
 ⟨some 24, .fa 8 (.t 23), none⟩,
 ⟨some 25, .ld (.t 24), none⟩,
 ⟨some 26, .mv (.t 1), none⟩,
 ⟨some 27, .app 8 (.int .i64) (.t 25) (.t 26), none⟩,
 ⟨some 28, .nck (.t 21), none⟩,
 ⟨some 29, .fa 8 (.t 28), none⟩,
 ⟨none, .st 1 (.t 29) (.t 27), none⟩] []))
def r115 : List RT := [.w 1 0 8, .w 2 0 17, .w 3 0 18, .w 4 0 19]

/-- (*reeve/interp.machine).pop -/
def a116 : AS :=
 .seq (
 .reg [
 ⟨some 2, .mv (.c (.int .i64 0)), none⟩] [0]) (
 .seq (
 .seq (
 .reg [
 ⟨some 4, .mv (.t 0), none⟩,
 ⟨some 5, .nck (.t 4), none⟩,
 ⟨some 6, .fa 21 (.t 5), none⟩,
 ⟨some 7, .ld (.t 6), none⟩,
 ⟨some 8, .bin .neq (.t 7) (.c (.int .i64 0)), none⟩] [0, 8]) (
 .cond (.t 8) (
 .seq (
 .reg [
 ⟨some 2, .mv (.c (.int .i64 0)), none⟩] [2]) (
 .ret)) (
 .skip))) (
 .seq (
 .seq (
 .reg [
 ⟨some 9, .mv (.t 0), none⟩,
 ⟨some 10, .nck (.t 9), none⟩,
 ⟨some 11, .fa 8 (.t 10), none⟩,
 ⟨some 12, .ld (.t 11), none⟩,
 ⟨some 13, .len .s (.t 12), none⟩,
 ⟨some 14, .bin .eql (.t 13) (.c (.int .i64 0)), none⟩] [0, 14]) (
 .cond (.t 14) (
 .seq (
 .reg [
 ⟨some 15, .mv (.t 0), none⟩,
 ⟨some 16, .nck (.t 15), none⟩,
 ⟨some 17, .fa 21 (.t 16), none⟩,
 ⟨none, .st 1 (.t 17) (.c (.int .i64 10)), none⟩] []) (
 .seq (
 .reg [
 ⟨some 2, .mv (.c (.int .i64 0)), none⟩] [2]) (
 .ret))) (
 .skip))) (
 .seq (
 .regD [
 ⟨some 18, .mv (.t 0), none⟩,
 ⟨some 19, .nck (.t 18), none⟩,
 ⟨some 20, .fa 8 (.t 19), none⟩,
 ⟨some 21, .ld (.t 20), none⟩,
 ⟨some 22, .mv (.t 0), none⟩,
 ⟨some 23, .nck (.t 22), none⟩,
 ⟨some 24, .fa 8 (.t 23), none⟩,
 ⟨some 25, .ld (.t 24), none⟩,
 ⟨some 26, .len .s (.t 25), none⟩,
 ⟨some 27, .bin .sub (.t 26) (.c (.int .i64 1)), none⟩,
 ⟨some 28, .ia 1 (.t 21) (.t 27), none⟩,
 ⟨some 29, .ld (.t 28), none⟩,
 ⟨some 3, .mv (.t 29), none⟩] [.q 0, .q 1, .q 2, .q 3, .q 4, .q 5, .q 6, .q 7, .q 8, .q 9, .q 10, .q 11, .q 12] [0, 3]) (
 .seq (
 .regD [
 ⟨some 30, .mv (.t 0), none⟩,
 ⟨some 31, .mv (.t 0), none⟩,
 ⟨some 32, .nck (.t 31), none⟩,
 ⟨some 33, .fa 8 (.t 32), none⟩,
 ⟨some 34, .ld (.t 33), none⟩,
 ⟨some 35, .mv (.t 0), none⟩,
 ⟨some 36, .nck (.t 35), none⟩,
 ⟨some 37, .fa 8 (.t 36), none⟩,
 ⟨some 38, .ld (.t 37), none⟩,
 ⟨some 39, .len .s (.t 38), none⟩,
 ⟨some 40, .bin .sub (.t 39) (.c (.int .i64 1)), none⟩,
 ⟨some 41, .slR 1 (.t 34) none (some (.t 40)), none⟩,
 ⟨some 42, .nck (.t 30), none⟩,
 ⟨some 43, .fa 8 (.t 42), none⟩,
 ⟨none, .st 1 (.t 43) (.t 41), none⟩] [.q 0, .q 1, .q 2, .q 3, .q 4, .q 5, .q 6, .q 7, .q 8, .q 9, .q 10, .q 11, .q 12, .q 13, .e 14 []] [3]) (
 .seq (
 .reg [
 ⟨some 44, .mv (.t 3), none⟩,
 ⟨some 2, .mv (.t 44), none⟩] [2]) (
 .ret))))))
def r116 : List RT := [.t 2, .w 1 0 8, .w 2 0 17, .w 3 0 18, .w 4 0 19]

/-- reeve/interp.reckon -/
def a117 : AS :=
 .seq (
 .reg [
 ⟨some 4, .mv (.c (.int .i64 0)), none⟩] [0, 1]) (
 .seq (
 .reg [
 ⟨some 8, .mv (.t 1), none⟩,
 ⟨some 9, .call 119 [none] [(.t 8)], none⟩,
 ⟨some 7, .mv (.t 9), none⟩,
 ⟨some 10, .ext (.t 7) 0, none⟩,
 ⟨some 11, .ext (.t 7) 1, none⟩,
 ⟨some 5, .mv (.t 10), none⟩,
 ⟨some 6, .mv (.t 11), none⟩] [0, 5, 6]) (
 .seq (
 .seq (
 .reg [
 ⟨some 12, .mv (.t 0), none⟩] [5, 6, 12]) (
 .block 0 (
 .seq (
 .reg [
 ⟨some 14, .bin .eql (.t 12) (.c (.int .i64 6)), none⟩,
 ⟨some 13, .mv (.t 14), none⟩] [5, 6, 12, 13]) (
 .cond (.t 13) (
 .seq (
 .reg [
 ⟨some 15, .mv (.t 5), none⟩,
 ⟨some 16, .mv (.t 6), none⟩,
 ⟨some 17, .bin .add (.t 15) (.t 16), none⟩,
 ⟨some 4, .mv (.t 17), none⟩] [4]) (
 .ret)) (
 .seq (
 .reg [
 ⟨some 19, .bin .eql (.t 12) (.c (.int .i64 7)), none⟩,
 ⟨some 18, .mv (.t 19), none⟩] [5, 6, 12, 18]) (
 .cond (.t 18) (
 .seq (
 .reg [
 ⟨some 20, .mv (.t 5), none⟩,
 ⟨some 21, .mv (.t 6), none⟩,
 ⟨some 22, .bin .sub (.t 20) (.t 21), none⟩,
 ⟨some 4, .mv (.t 22), none⟩] [4]) (
 .ret)) (
 .seq (
 .reg [
 ⟨some 24, .bin .eql (.t 12) (.c (.int .i64 8)), none⟩,
 ⟨some 23, .mv (.t 24), none⟩] [5, 6, 12, 23]) (
 .cond (.t 23) (
 .seq (
 .reg [
 ⟨some 25, .mv (.t 5), none⟩,
 ⟨some 26, .mv (.t 6), none⟩,
 ⟨some 27, .bin .mul (.t 25) (.t 26), none⟩,
 ⟨some 4, .mv (.t 27), none⟩] [4]) (
 .ret)) (
 .seq (
 .reg [
 ⟨some 29, .bin .eql (.t 12) (.c (.int .i64 9)), none⟩,
 ⟨some 28, .mv (.t 29), none⟩] [5, 6, 28]) (
 .cond (.t 28) (
 .seq (
 .reg [
 ⟨some 30, .mv (.t 5), none⟩,
 ⟨some 31, .mv (.t 6), none⟩,
 ⟨some 32, .bin .lss (.t 30) (.t 31), none⟩,
 ⟨some 33, .call 118 [none] [(.t 32)], none⟩,
 ⟨some 4, .mv (.t 33), none⟩] [4]) (
 .ret)) (
 .skip))))))))))) (
 .seq (
 .reg [
 ⟨some 34, .mv (.t 5), none⟩,
 ⟨some 35, .mv (.t 6), none⟩,
 ⟨some 36, .bin .eql (.t 34) (.t 35), none⟩,
 ⟨some 37, .call 118 [none] [(.t 36)], none⟩,
 ⟨some 4, .mv (.t 37), none⟩] [4]) (
 .ret))))
def r117 : List RT := [.t 4, .w 1 0 8, .w 2 0 17, .w 3 0 18, .w 4 0 19]

/-- reeve/interp.truth -/
def a118 : AS :=
 .seq (
 .reg [
 ⟨some 2, .mv (.c (.int .i64 0)), none⟩] [0]) (
 .seq (
 .seq (
 .reg [
 ⟨some 3, .mv (.t 0), none⟩] [3]) (
 .cond (.t 3) (
 .seq (
 .reg [
 ⟨some 2, .mv (.c (.int .i64 1)), none⟩] [2]) (
 .ret)) (
 .skip))) (
 .seq (
 .reg [
 ⟨some 2, .mv (.c (.int .i64 0)), none⟩] [2]) (
 .ret)))
def r118 : List RT := [.t 2]

/-- (*reeve/interp.machine).two -/
def a119 : AS :=
 .seq (
 .reg [
 ⟨some 2, .mv (.c (.int .i64 0)), none⟩,
 ⟨some 3, .mv (.c (.int .i64 0)), none⟩] [0]) (
 .seq (
 .reg [
 ⟨some 5, .mv (.t 0), none⟩,
 ⟨some 6, .call 116 [none] [(.t 5)], none⟩,
 ⟨some 4, .mv (.t 6), none⟩] [0, 4]) (
 .seq (
 .reg [
 ⟨some 7, .mv (.t 0), none⟩,
 ⟨some 8, .call 116 [none] [(.t 7)], none⟩,
 ⟨some 9, .mv (.t 4), none⟩,
 ⟨some 2, .mv (.t 8), none⟩,
 ⟨some 3, .mv (.t 9), none⟩] [2, 3]) (
 .ret)))
def r119 : List RT := [.t 2, .t 3, .w 1 0 8, .w 2 0 17, .w 3 0 18, .w 4 0 19]

/-- (*reeve/interp.machine).refuse -/
def a120 : AS :=
 .seq (
 .reg [
 ⟨some 4, .mv (.c (.bool false)), none⟩] [0, 1]) (
 .seq (
 .seq (
 .reg [
 ⟨some 5, .mv (.t 1), none⟩,
 ⟨some 6, .mv (.t 5), none⟩,
 ⟨some 7, .mv (.t 0), (some (6, true))⟩,
 ⟨some 8, .nck (.t 7), (some (6, true))⟩,
 ⟨some 9, .fa 21 (.t 8), (some (6, true))⟩,
 ⟨some 10, .ld (.t 9), (some (6, true))⟩,
 ⟨some 11, .bin .eql (.t 10) (.c (.int .i64 0)), (some (6, true))⟩,
 ⟨some 12, .pick (.t 6) (.t 11) (.c (.bool false)), none⟩] [0, 12]) (
 .cond (.t 12) (
 .reg [
 ⟨some 13, .mv (.t 0), none⟩,
 ⟨some 14, .nck (.t 13), none⟩,
 ⟨some 15, .fa 21 (.t 14), none⟩,
 ⟨none, .st 1 (.t 15) (.c (.int .i64 12)), none⟩] [0]) (
 .skip))) (
 .seq (
 .reg [
 ⟨some 16, .mv (.t 0), none⟩,
 ⟨some 17, .nck (.t 16), none⟩,
 ⟨some 18, .fa 21 (.t 17), none⟩,
 ⟨some 19, .ld (.t 18), none⟩,
 ⟨some 20, .bin .neq (.t 19) (.c (.int .i64 0)), none⟩,
 ⟨some 4, .mv (.t 20), none⟩] [4]) (
 .ret)))
def r120 : List RT := [.t 4]

/-- (*reeve/interp.machine).out -/
def a121 : AS :=
 .seq (
 .reg [
 ⟨some 3, .box (.t 1), none⟩] [0, 3]) (
 .seq (
 .reg [
 ⟨some 10, .fa 0 (.t 3), none⟩,
 ⟨some 11, .ld (.t 10), none⟩] [0, 3, 11]) (
 .block 0 (
 .seq (
 .seq (
 .reg [
 ⟨some 13, .bin .eql (.t 11) (.c (.int .i64 17)), none⟩,
 ⟨some 12, .mv (.t 13), none⟩] [0, 3, 11, 12]) (
 .cond (.t 12) (
 .skip) (
 .reg [
 ⟨some 14, .bin .eql (.t 11) (.c (.int .i64 18)), none⟩,
 ⟨some 12, .mv (.t 14), none⟩] [0, 3, 11, 12]))) (
 .cond (.t 12) (
 .seq (
 .reg [
 ⟨some 16, .mv (.t 0), none⟩,
 ⟨some 17, .call 119 [none] [(.t 16)], none⟩,
 ⟨some 15, .mv (.t 17), none⟩,
 ⟨some 18, .ext (.t 15) 0, none⟩,
 ⟨some 19, .ext (.t 15) 1, none⟩,
 ⟨some 4, .mv (.t 18), none⟩,
 ⟨some 5, .mv (.t 19), none⟩] [0, 3, 4, 5]) (
 .seq (
 .reg [
 ⟨some 20, .mv (.t 0), none⟩,
 ⟨some 21, .nck (.t 20), none⟩,
 ⟨some 22, .fa 2 (.t 21), none⟩,
 ⟨some 23, .fa 0 (.t 22), none⟩,
 ⟨some 24, .ld (.t 23), none⟩,
 ⟨some 6, .mv (.t 24), none⟩] [0, 3, 4, 5, 6]) (
 .seq (
 .seq (
 .reg [
 ⟨some 25, .fa 0 (.t 3), none⟩,
 ⟨some 26, .ld (.t 25), none⟩,
 ⟨some 27, .bin .eql (.t 26) (.c (.int .i64 17)), none⟩] [0, 3, 4, 5, 6, 27]) (
 .cond (.t 27) (
 .regD [
 ⟨some 28, .mv (.t 0), none⟩,
 ⟨some 29, .nck (.t 28), none⟩,
 ⟨some 30, .fa 0 (.t 29), none⟩,
 ⟨some 31, .fa 0 (.t 30), none⟩,
 ⟨some 32, .ld (.t 31), none⟩,
 ⟨some 33, .fa 1 (.t 3), none⟩,
 ⟨some 34, .ld (.t 33), none⟩,
 ⟨some 35, .ia 1 (.t 32) (.t 34), none⟩,
 ⟨some 36, .ld (.t 35), none⟩,
 ⟨some 6, .mv (.t 36), none⟩] [.q 0, .q 1, .q 2, .q 3, .q 4, .q 5, .q 6, .q 7, .q 8, .q 9] [0, 4, 5, 6]) (
 .skip))) (
 .seq (
 .seq (
 .reg [
 ⟨some 37, .mv (.t 6), none⟩,
 ⟨some 38, .bin .eql (.t 37) (.c (.str ByteArray.empty)), none⟩,
 ⟨some 39, .mv (.t 38), none⟩,
 ⟨some 40, .mv (.t 0), (some (39, false))⟩,
 ⟨some 41, .mv (.t 0), (some (39, false))⟩,
 ⟨some 42, .nck (.t 41), (some (39, false))⟩,
 ⟨some 43, .fa 9 (.t 42), (some (39, false))⟩,
 ⟨some 44, .fa 9 (.t 43), (some (39, false))⟩,
 ⟨some 45, .ld (.t 44), (some (39, false))⟩,
 ⟨some 46, .len .s (.t 45), (some (39, false))⟩,
 ⟨some 47, .bin .geq (.t 46) (.c (.int .i64 4)), (some (39, false))⟩,
 ⟨some 48, .call 120 [none, none] [(.t 40), (.t 47)], (some (39, false))⟩,
 ⟨some 49, .pick (.t 39) (.c (.bool true)) (.t 48), none⟩] [0, 4, 5, 6, 49]) (
 .cond (.t 49) (
 .ret) (
 .skip))) (
 .reg [
 ⟨some 50, .mv (.t 0), none⟩,
 ⟨some 51, .mv (.t 0), none⟩,
 ⟨some 52, .nck (.t 51), none⟩,
 ⟨some 53, .fa 9 (.t 52), none⟩,
 ⟨some 54, .fa 9 (.t 53), none⟩,
 ⟨some 55, .ld (.t 54), none⟩,
 ⟨some 56, .mv (.t 6), none⟩,
 ⟨some 57, .mv (.t 4), none⟩,
 ⟨some 58, .mv (.t 5), none⟩,
 ⟨some 59, .bld [.str ByteArray.empty, .int .i64 0, .int .i64 0] [(0, 1, (.t 56)), (1, 1, (.t 57)), (2, 1, (.t 58))], none⟩,
 ⟨some 60, .bsl 32 (.pair .str (.pair (.int .i64) (.int .i64))) 1 [(0, (.t 59))], none⟩,
 ⟨some 61, .app 32 (.pair .str (.pair (.int .i64) (.int .i64))) (.t 55) (.t 60), none⟩,
 ⟨some 62, .nck (.t 50), none⟩,
 ⟨some 63, .fa 9 (.t 62), none⟩,
 ⟨some 64, .fa 9 (.t 63), none⟩,
 ⟨none, .st 1 (.t 64) (.t 61), none⟩] []))))) (
 .seq (
 .reg [
 ⟨some 66, .bin .eql (.t 11) (.c (.int .i64 19)), none⟩,
 ⟨some 65, .mv (.t 66), none⟩] [0, 3, 11, 65]) (
 .cond (.t 65) (
 .seq (
 .reg [
 ⟨some 68, .mv (.t 0), none⟩,
 ⟨some 69, .call 119 [none] [(.t 68)], none⟩,
 ⟨some 67, .mv (.t 69), none⟩,
 ⟨some 70, .ext (.t 67) 0, none⟩,
 ⟨some 71, .ext (.t 67) 1, none⟩,
 ⟨some 7, .mv (.t 70), none⟩,
 ⟨some 8, .mv (.t 71), none⟩] [0, 3, 7, 8]) (
 .seq (
 .reg [
 ⟨some 72, .mv (.t 0), none⟩,
 ⟨some 73, .nck (.t 72), none⟩,
 ⟨some 74, .fa 6 (.t 73), none⟩,
 ⟨some 75, .ld (.t 74), none⟩,
 ⟨some 76, .mv (.t 7), none⟩,
 ⟨some 77, .bin .add (.t 75) (.t 76), none⟩,
 ⟨some 9, .mv (.t 77), none⟩] [0, 3, 7, 8, 9]) (
 .seq (
 .reg [
 ⟨some 78, .mv (.t 0), none⟩,
 ⟨some 79, .mv (.t 7), none⟩,
 ⟨some 80, .bin .lss (.t 79) (.c (.int .i64 0)), none⟩,
 ⟨some 81, .mv (.t 80), none⟩,
 ⟨some 82, .mv (.t 9), (some (81, false))⟩,
 ⟨some 83, .bin .lss (.t 82) (.c (.int .i64 0)), (some (81, false))⟩,
 ⟨some 84, .pick (.t 81) (.c (.bool true)) (.t 83), none⟩,
 ⟨some 85, .mv (.t 84), none⟩,
 ⟨some 86, .mv (.t 8), (some (85, false))⟩,
 ⟨some 87, .bin .lss (.t 86) (.c (.int .i64 1)), (some (85, false))⟩,
 ⟨some 88, .pick (.t 85) (.c (.bool true)) (.t 87), none⟩,
 ⟨some 89, .call 120 [none, none] [(.t 78), (.t 88)], none⟩,
 ⟨some 90, .not (.t 89), none⟩] [0, 3, 8, 9, 90]) (
 .cond (.t 90) (
 .regD [
 ⟨some 91, .mv (.t 0), none⟩,
 ⟨some 92, .mv (.t 0), none⟩,
 ⟨some 93, .nck (.t 92), none⟩,
 ⟨some 94, .fa 9 (.t 93), none⟩,
 ⟨some 95, .fa 10 (.t 94), none⟩,
 ⟨some 96, .ld (.t 95), none⟩,
 ⟨some 97, .mv (.t 0), none⟩,
 ⟨some 98, .nck (.t 97), none⟩,
 ⟨some 99, .fa 0 (.t 98), none⟩,
 ⟨some 100, .fa 0 (.t 99), none⟩,
 ⟨some 101, .ld (.t 100), none⟩,
 ⟨some 102, .fa 1 (.t 3), none⟩,
 ⟨some 103, .ld (.t 102), none⟩,
 ⟨some 104, .ia 1 (.t 101) (.t 103), none⟩,
 ⟨some 105, .ld (.t 104), none⟩,
 ⟨some 106, .mv (.t 9), none⟩,
 ⟨some 107, .mv (.t 8), none⟩,
 ⟨some 108, .mv (.t 0), none⟩,
 ⟨some 109, .nck (.t 108), none⟩,
 ⟨some 110, .fa 2 (.t 109), none⟩,
 ⟨some 111, .fa 2 (.t 110), none⟩,
 ⟨some 112, .ld (.t 111), none⟩,
 ⟨some 113, .bld [.str ByteArray.empty, .bool false, .int .i64 0, .int .i64 0, .int .i64 0] [(0, 1, (.t 105)), (1, 1, (.c (.bool false))), (2, 1, (.t 106)), (3, 1, (.t 107)), (4, 1, (.t 112))], none⟩,
 ⟨some 114, .bsl 48 (.pair .str (.pair .bool (.pair (.int .i64) (.pair (.int .i64) (.int .i64))))) 1 [(0, (.t 113))], none⟩,
 ⟨some 115, .app 48 (.pair .str (.pair .bool (.pair (.int .i64) (.pair (.int .i64) (.int .i64))))) (.t 96) (.t 114), none⟩,
 ⟨some 116, .nck (.t 91), none⟩,
 ⟨some 117, .fa 9 (.t 116), none⟩,
 ⟨some 118, .fa 10 (.t 117), none⟩,
 ⟨none, .st 1 (.t 118) (.t 115), none⟩] [.q 0, .q 1, .q 2, .q 3, .q 4, .q 5, .q 6, .q 7, .q 8, .q 9, .q 10, .q 11, .q 12, .q 13, .q 14, .q 15, .q 16, .q 17, .q 18, .q 19, .q 20, .q 21, .q 22, .e 23 [0, 1, 2, 3, 4, 5], .e 24 [0], .q 25, .q 26, .q 27, .e 28 []] []) (
 .skip))))) (
 .seq (
 .reg [
 ⟨some 120, .bin .eql (.t 11) (.c (.int .i64 20)), none⟩,
 ⟨some 119, .mv (.t 120), none⟩] [0, 3, 119]) (
 .cond (.t 119) (
 .regD [
 ⟨some 121, .mv (.t 0), none⟩,
 ⟨some 122, .mv (.t 0), none⟩,
 ⟨some 123, .nck (.t 122), none⟩,
 ⟨some 124, .fa 9 (.t 123), none⟩,
 ⟨some 125, .fa 10 (.t 124), none⟩,
 ⟨some 126, .ld (.t 125), none⟩,
 ⟨some 127, .mv (.t 0), none⟩,
 ⟨some 128, .nck (.t 127), none⟩,
 ⟨some 129, .fa 0 (.t 128), none⟩,
 ⟨some 130, .fa 0 (.t 129), none⟩,
 ⟨some 131, .ld (.t 130), none⟩,
 ⟨some 132, .fa 1 (.t 3), none⟩,
 ⟨some 133, .ld (.t 132), none⟩,
 ⟨some 134, .ia 1 (.t 131) (.t 133), none⟩,
 ⟨some 135, .ld (.t 134), none⟩,
 ⟨some 136, .bld [.str ByteArray.empty, .bool false, .int .i64 0, .int .i64 0, .int .i64 0] [(0, 1, (.t 135)), (1, 1, (.c (.bool true)))], none⟩,
 ⟨some 137, .bsl 48 (.pair .str (.pair .bool (.pair (.int .i64) (.pair (.int .i64) (.int .i64))))) 1 [(0, (.t 136))], none⟩,
 ⟨some 138, .app 48 (.pair .str (.pair .bool (.pair (.int .i64) (.pair (.int .i64) (.int .i64))))) (.t 126) (.t 137), none⟩,
 ⟨some 139, .nck (.t 121), none⟩,
 ⟨some 140, .fa 9 (.t 139), none⟩,
 ⟨some 141, .fa 10 (.t 140), none⟩,
 ⟨none, .st 1 (.t 141) (.t 138), none⟩] [.q 0, .q 1, .q 2, .q 3, .q 4, .q 5, .q 6, .q 7, .q 8, .q 9, .q 10, .q 11, .q 12, .q 13, .q 14, .q 15, .e 16 [0, 1, 2, 3, 4, 5], .e 17 [0], .q 18, .q 19, .q 20, .e 21 []] []) (
 .skip)))))))))
def r121 : List RT := [.w 1 0 8, .w 2 0 17, .w 3 0 18, .w 4 0 19]

theorem ok6 : okF Tryz.prog 6 a6 r6 0 = true := by decide +kernel
theorem ok21 : okF Tryz.prog 21 a21 r21 1 = true := by decide +kernel
theorem ok9 : okF Tryz.prog 9 a9 r9 3 = true := by decide +kernel
theorem ok10 : okF Tryz.prog 10 a10 r10 1 = true := by decide +kernel
theorem ok20 : okF Tryz.prog 20 a20 r20 1 = true := by decide +kernel
theorem ok29 : okF Tryz.prog 29 a29 r29 1 = true := by decide +kernel
theorem ok30 : okF Tryz.prog 30 a30 r30 1 = true := by decide +kernel
theorem ok31 : okF Tryz.prog 31 a31 r31 4 = true := by decide +kernel
theorem ok32 : okF Tryz.prog 32 a32 r32 2 = true := by decide +kernel
theorem ok35 : okF Tryz.prog 35 a35 r35 1 = true := by decide +kernel
theorem ok89 : okF Tryz.prog 89 a89 r89 1 = true := by decide +kernel
theorem ok90 : okF Tryz.prog 90 a90 r90 2 = true := by decide +kernel
theorem ok91 : okF Tryz.prog 91 a91 r91 2 = true := by decide +kernel
theorem ok92 : okF Tryz.prog 92 a92 r92 1 = true := by decide +kernel
theorem ok115 : okF Tryz.prog 115 a115 r115 2 = true := by decide +kernel
theorem ok116 : okF Tryz.prog 116 a116 r116 1 = true := by decide +kernel
theorem ok117 : okF Tryz.prog 117 a117 r117 2 = true := by decide +kernel
theorem ok118 : okF Tryz.prog 118 a118 r118 1 = true := by decide +kernel
theorem ok119 : okF Tryz.prog 119 a119 r119 1 = true := by decide +kernel
theorem ok120 : okF Tryz.prog 120 a120 r120 2 = true := by decide +kernel
theorem ok121 : okF Tryz.prog 121 a121 r121 2 = true := by decide +kernel
end Go.V
