/- A part of the proof layer, or functions of the given program in it: contracts and their proofs. -/
import Derived.Test.YtbcmjkfdeikkhaaGreatN1
import Derived.Test.YtbcmjkfdeikkhaaGreatProg
namespace Go.V
set_option linter.unusedSimpArgs false
set_option linter.unnecessarySimpa false
open Go.Proofs
/-- reeve/codec.NewWriter -/
def a58 : AS :=
 .seq (
 .reg [
 ⟨some 0, .mv (.c (.nilp)), none⟩] []) (
 .seq (
 .reg [
 ⟨some 1, .bld [.nils] [], none⟩,
 ⟨some 2, .box (.t 1), none⟩,
 ⟨some 0, .mv (.t 2), none⟩] [0]) (
 .lift 0 (some 0) 1 .byte (
 .ret)))
def r58 : List RT := [.t 0]

/-- (*reeve/codec.Writer).Number -/
def a59 : AS :=
 .seq (
 .seq (
 .reg [
 ⟨some 6, .mv (.t 0), none⟩,
 ⟨some 7, .eqn false .p (.t 6) (.c (.nilp)), none⟩] [0, 1, 7]) (
 .cond (.t 7) (
 .ret) (
 .skip))) (
 .seq (
 .seq (
 .reg [
 ⟨some 8, .mv (.t 1), none⟩,
 ⟨some 9, .bin .lss (.t 8) (.c (.int .u64 248)), none⟩] [0, 1, 9]) (
 .cond (.t 9) (
 .seq (
 .reg [
 ⟨some 10, .mv (.t 0), none⟩,
 ⟨some 11, .mv (.t 0), none⟩,
 ⟨some 12, .nck (.t 11), none⟩,
 ⟨some 13, .fa 0 (.t 12), none⟩,
 ⟨some 14, .ld (.t 13), none⟩,
 ⟨some 15, .mv (.t 1), none⟩,
 ⟨some 16, .cv .u8 (.t 15), none⟩,
 ⟨some 17, .bsl 1 .byte 1 [(0, (.t 16))], none⟩,
 ⟨some 18, .app 1 .byte (.t 14) (.t 17), none⟩,
 ⟨some 19, .nck (.t 10), none⟩,
 ⟨some 20, .fa 0 (.t 19), none⟩,
 ⟨none, .st 1 (.t 20) (.t 18), none⟩] []) (
 .ret)) (
 .skip))) (
 .seq (
 .reg [
 ⟨some 21, .mv (.t 1), none⟩,
 ⟨some 22, .call 107 [none] [(.t 21)], none⟩,
 ⟨some 23, .bin .add (.t 22) (.c (.int .i64 7)), none⟩,
 ⟨some 24, .bin .quo (.t 23) (.c (.int .i64 8)), none⟩,
 ⟨some 4, .mv (.t 24), none⟩] [0, 1, 4]) (
 .seq (
 .reg [
 ⟨some 25, .mv (.t 0), none⟩,
 ⟨some 26, .mv (.t 0), none⟩,
 ⟨some 27, .nck (.t 26), none⟩,
 ⟨some 28, .fa 0 (.t 27), none⟩,
 ⟨some 29, .ld (.t 28), none⟩,
 ⟨some 30, .mv (.t 4), none⟩,
 ⟨some 31, .bin .add (.c (.int .i64 247)) (.t 30), none⟩,
 ⟨some 32, .cv .u8 (.t 31), none⟩,
 ⟨some 33, .bsl 1 .byte 1 [(0, (.t 32))], none⟩,
 ⟨some 34, .app 1 .byte (.t 29) (.t 33), none⟩,
 ⟨some 35, .nck (.t 25), none⟩,
 ⟨some 36, .fa 0 (.t 35), none⟩,
 ⟨none, .st 1 (.t 36) (.t 34), none⟩] [0, 1, 4]) (
 .seq (
 .reg [
 ⟨some 37, .mv (.t 4), none⟩,
 ⟨some 38, .bin .sub (.t 37) (.c (.int .i64 1)), none⟩,
 ⟨some 5, .mv (.t 38), none⟩] [0, 1, 5]) (
 .block 0 (
 .lift 0 (some 0) 1 .byte (
 .loop 1 [0, 1, 5] (
 .seq (
 .seq (
 .reg [
 ⟨some 39, .mv (.t 5), none⟩,
 ⟨some 40, .bin .geq (.t 39) (.c (.int .i64 0)), none⟩] [0, 1, 5, 40]) (
 .cond (.t 40) (
 .skip) (
 .exit 0))) (
 .seq (
 .block 1 (
 .regD [
 ⟨some 43, .mv (.t 0), none⟩,
 ⟨some 44, .mv (.t 0), none⟩,
 ⟨some 45, .nck (.t 44), none⟩,
 ⟨some 46, .fa 0 (.t 45), none⟩,
 ⟨some 47, .ld (.t 46), none⟩,
 ⟨some 48, .mv (.t 1), none⟩,
 ⟨some 49, .mv (.t 5), none⟩,
 ⟨some 50, .bin .mul (.c (.int .i64 8)) (.t 49), none⟩,
 ⟨some 51, .bin .shr (.t 48) (.t 50), none⟩,
 ⟨some 52, .cv .u8 (.t 51), none⟩,
 ⟨some 53, .bsl 1 .byte 1 [(0, (.t 52))], none⟩,
 ⟨some 54, .app 1 .byte (.t 47) (.t 53), none⟩,
 ⟨some 55, .nck (.t 43), none⟩,
 ⟨some 56, .fa 0 (.t 55), none⟩,
 ⟨none, .st 1 (.t 56) (.t 54), none⟩] [.q 0, .q 1, .q 2, .q 3, .q 4, .q 5, .q 6, .q 7, .q 8, .q 9, .e 10 [0, 1, 2, 3, 4], .e 11 [0], .q 12, .q 13, .e 14 []] [0, 1, 5])) (
 .reg [
 ⟨some 41, .mv (.t 5), none⟩,
 ⟨some 42, .bin .sub (.t 41) (.c (.int .i64 1)), none⟩,
 ⟨some 5, .mv (.t 42), none⟩] [0, 1, 5]))))))))))
def r59 : List RT := []

/-- (*reeve/outbox.Outbox).Encode -/
def a34 : AS :=
 .seq (
 .reg [
 ⟨some 2, .mv (.c (.nils)), none⟩] [0]) (
 .seq (
 .seq (
 .reg [
 ⟨some 10, .mv (.t 0), none⟩,
 ⟨some 11, .call 79 [none] [(.t 10)], none⟩] [0, 11]) (
 .cond (.t 11) (
 .seq (
 .reg [
 ⟨some 2, .mv (.c (.nils)), none⟩] [2]) (
 .lift 2 none 1 .byte (
 .ret))) (
 .skip))) (
 .seq (
 .reg [
 ⟨some 12, .call 58 [] [], none⟩,
 ⟨some 3, .mv (.t 12), none⟩] [0, 3]) (
 .seq (
 .reg [
 ⟨some 13, .mv (.t 3), none⟩,
 ⟨some 14, .mv (.t 0), none⟩,
 ⟨some 15, .nck (.t 14), none⟩,
 ⟨some 16, .fa 0 (.t 15), none⟩,
 ⟨some 17, .ld (.t 16), none⟩,
 ⟨some 18, .call 62 [none, none] [(.t 13), (.t 17)], none⟩] [0, 3]) (
 .seq (
 .reg [
 ⟨some 19, .mv (.t 3), none⟩,
 ⟨some 20, .mv (.t 0), none⟩,
 ⟨some 21, .nck (.t 20), none⟩,
 ⟨some 22, .fa 2 (.t 21), none⟩,
 ⟨some 23, .ld (.t 22), none⟩,
 ⟨some 24, .len .m (.t 23), none⟩,
 ⟨some 25, .cv .u64 (.t 24), none⟩,
 ⟨some 26, .call 59 [none, none] [(.t 19), (.t 25)], none⟩] [0, 3]) (
 .seq (
 .seq (
 .reg [
 ⟨some 27, .mv (.t 0), none⟩,
 ⟨some 28, .nck (.t 27), none⟩,
 ⟨some 29, .fa 2 (.t 28), none⟩,
 ⟨some 30, .ld (.t 29), none⟩,
 ⟨some 31, .call 96 [none] [(.t 30)], none⟩,
 ⟨some 32, .call 95 [none] [(.t 31)], none⟩,
 ⟨some 33, .len .s (.t 32), none⟩,
 ⟨some 34, .mv (.c (.int .i64 0)), none⟩] [0, 3, 32, 33, 34]) (
 .block 0 (
 .lift 0 (some 1) 72 (.pair .str (.pair .str (.pair (.int .u64) (.pair (.int .i64) (.sl 8 (.int .i64)))))) (
 .lift 3 (some 0) 1 .byte (
 .loop 1 [0, 3, 32, 33, 34] (
 .seq (
 .reg [
 ⟨some 35, .bin .lss (.t 34) (.t 33), none⟩] [0, 3, 32, 33, 34, 35]) (
 .seq (
 .cond (.t 35) (
 .skip) (
 .exit 0)) (
 .seq (
 .block 1 (
 .seq (
 .reg [
 ⟨some 36, .ia 1 (.t 32) (.t 34), none⟩,
 ⟨some 37, .ld (.t 36), none⟩,
 ⟨some 5, .mv (.t 37), none⟩] [0, 3, 5, 32, 33, 34]) (
 .seq (
 .reg [
 ⟨some 38, .mv (.t 3), none⟩,
 ⟨some 39, .mv (.t 5), none⟩,
 ⟨some 40, .call 62 [none, none] [(.t 38), (.t 39)], none⟩] [0, 3, 5, 32, 33, 34]) (
 .reg [
 ⟨some 41, .mv (.t 3), none⟩,
 ⟨some 42, .mv (.t 0), none⟩,
 ⟨some 43, .nck (.t 42), none⟩,
 ⟨some 44, .fa 2 (.t 43), none⟩,
 ⟨some 45, .ld (.t 44), none⟩,
 ⟨some 46, .mv (.t 5), none⟩,
 ⟨some 47, .lk false .str (.int .u64) false (.t 45) (.t 46), none⟩,
 ⟨some 48, .call 59 [none, none] [(.t 41), (.t 47)], none⟩] [0, 3, 32, 33, 34])))) (
 .reg [
 ⟨some 49, .bin .add (.t 34) (.c (.int .i64 1)), none⟩,
 ⟨some 34, .mv (.t 49), none⟩] [0, 3, 32, 33, 34]))))))))) (
 .seq (
 .reg [
 ⟨some 50, .mv (.t 3), none⟩,
 ⟨some 51, .mv (.t 0), none⟩,
 ⟨some 52, .nck (.t 51), none⟩,
 ⟨some 53, .fa 1 (.t 52), none⟩,
 ⟨some 54, .ld (.t 53), none⟩,
 ⟨some 55, .len .s (.t 54), none⟩,
 ⟨some 56, .cv .u64 (.t 55), none⟩,
 ⟨some 57, .call 59 [none, none] [(.t 50), (.t 56)], none⟩] [0, 3]) (
 .seq (
 .seq (
 .reg [
 ⟨some 58, .mv (.t 0), none⟩,
 ⟨some 59, .nck (.t 58), none⟩,
 ⟨some 60, .fa 1 (.t 59), none⟩,
 ⟨some 61, .ld (.t 60), none⟩,
 ⟨some 62, .len .s (.t 61), none⟩,
 ⟨some 63, .mv (.c (.int .i64 0)), none⟩] [3, 61, 62, 63]) (
 .block 2 (
 .lift 3 (some 0) 1 .byte (
 .loop 2 [3, 61, 62, 63] (
 .seq (
 .reg [
 ⟨some 64, .bin .lss (.t 63) (.t 62), none⟩] [3, 61, 62, 63, 64]) (
 .seq (
 .cond (.t 64) (
 .skip) (
 .exit 2)) (
 .seq (
 .block 3 (
 .seq (
 .reg [
 ⟨some 65, .ia 5 (.t 61) (.t 63), none⟩,
 ⟨some 66, .ldA 5 (.t 65), none⟩,
 ⟨some 7, .alc [.str ByteArray.empty, .str ByteArray.empty, .int .u64 0, .int .i64 0, .nils], none⟩,
 ⟨none, .st 5 (.t 7) (.t 66), none⟩] [3, 7, 61, 62, 63]) (
 .seq (
 .reg [
 ⟨some 67, .mv (.t 3), none⟩,
 ⟨some 68, .fa 0 (.t 7), none⟩,
 ⟨some 69, .ld (.t 68), none⟩,
 ⟨some 70, .call 62 [none, none] [(.t 67), (.t 69)], none⟩] [3, 7, 61, 62, 63]) (
 .seq (
 .reg [
 ⟨some 72, .fa 1 (.t 7), none⟩,
 ⟨some 73, .ldA 4 (.t 72), none⟩,
 ⟨some 74, .call 97 [none] [(.t 73)], none⟩,
 ⟨some 71, .mv (.t 74), none⟩,
 ⟨some 75, .ext (.t 71) 0, none⟩,
 ⟨some 76, .ext (.t 71) 1, none⟩,
 ⟨some 8, .mv (.t 75), none⟩,
 ⟨some 9, .mv (.t 76), none⟩] [3, 8, 61, 62, 63]) (
 .reg [
 ⟨some 77, .mv (.t 3), none⟩,
 ⟨some 78, .mv (.t 8), none⟩,
 ⟨some 79, .b2s (.t 78), none⟩,
 ⟨some 80, .call 62 [none, none] [(.t 77), (.t 79)], none⟩] [3, 61, 62, 63]))))) (
 .reg [
 ⟨some 81, .bin .add (.t 63) (.c (.int .i64 1)), none⟩,
 ⟨some 63, .mv (.t 81), none⟩] [3, 61, 62, 63])))))))) (
 .seq (
 .reg [
 ⟨some 82, .mv (.t 3), none⟩,
 ⟨some 83, .call 63 [none] [(.t 82)], none⟩,
 ⟨some 2, .mv (.t 83), none⟩] [2]) (
 .lift 2 none 1 .byte (
 .ret))))))))))
def r34 : List RT := [.t 2]

/-- (*reeve/codec.Writer).Text -/
def a62 : AS :=
 .seq (
 .reg [
 ⟨some 4, .mv (.t 0), none⟩,
 ⟨some 5, .eqn true .p (.t 4) (.c (.nilp)), none⟩] [0, 1, 5]) (
 .cond (.t 5) (
 .seq (
 .reg [
 ⟨some 6, .mv (.t 0), none⟩,
 ⟨some 7, .mv (.t 1), none⟩,
 ⟨some 8, .len .i (.t 7), none⟩,
 ⟨some 9, .cv .u64 (.t 8), none⟩,
 ⟨some 10, .call 59 [none, none] [(.t 6), (.t 9)], none⟩] [0, 1]) (
 .reg [
 ⟨some 11, .mv (.t 0), none⟩,
 ⟨some 12, .mv (.t 0), none⟩,
 ⟨some 13, .nck (.t 12), none⟩,
 ⟨some 14, .fa 0 (.t 13), none⟩,
 ⟨some 15, .ld (.t 14), none⟩,
 ⟨some 16, .mv (.t 1), none⟩,
 ⟨some 17, .app 1 .byte (.t 15) (.t 16), none⟩,
 ⟨some 18, .nck (.t 11), none⟩,
 ⟨some 19, .fa 0 (.t 18), none⟩,
 ⟨none, .st 1 (.t 19) (.t 17), none⟩] [])) (
 .skip))
def r62 : List RT := []

/-- (*reeve/codec.Writer).Bytes -/
def a63 : AS :=
 .seq (
 .reg [
 ⟨some 2, .mv (.c (.nils)), none⟩] [0]) (
 .seq (
 .seq (
 .reg [
 ⟨some 3, .mv (.t 0), none⟩,
 ⟨some 4, .eqn false .p (.t 3) (.c (.nilp)), none⟩] [0, 4]) (
 .cond (.t 4) (
 .seq (
 .reg [
 ⟨some 2, .mv (.c (.nils)), none⟩] [2]) (
 .lift 2 none 1 .byte (
 .ret))) (
 .skip))) (
 .seq (
 .reg [
 ⟨some 5, .bsl 1 .byte 0 [], none⟩,
 ⟨some 6, .mv (.t 0), none⟩,
 ⟨some 7, .nck (.t 6), none⟩,
 ⟨some 8, .fa 0 (.t 7), none⟩,
 ⟨some 9, .ld (.t 8), none⟩,
 ⟨some 10, .app 1 .byte (.t 5) (.t 9), none⟩,
 ⟨some 2, .mv (.t 10), none⟩] [2]) (
 .lift 2 none 1 .byte (
 .ret))))
def r63 : List RT := [.t 2]

/-- reeve/outbox.Decode -/
def a33 : AS :=
 .seq (
 .reg [
 ⟨some 2, .mv (.c (.nilp)), none⟩,
 ⟨some 3, .mv (.c (.int .i64 0)), none⟩] [0]) (
 .seq (
 .reg [
 ⟨some 17, .mv (.t 0), none⟩,
 ⟨some 18, .call 64 [(some (1, .byte))] [(.t 17)], none⟩,
 ⟨some 4, .mv (.t 18), none⟩] [4]) (
 .seq (
 .reg [
 ⟨some 20, .mv (.t 4), none⟩,
 ⟨some 21, .call 67 [none] [(.t 20)], none⟩,
 ⟨some 22, .call 71 [none] [(.t 21)], none⟩,
 ⟨some 19, .mv (.t 22), none⟩,
 ⟨some 23, .ext (.t 19) 0, none⟩,
 ⟨some 24, .ext (.t 19) 1, none⟩,
 ⟨some 5, .mv (.t 23), none⟩,
 ⟨some 6, .mv (.t 24), none⟩] [4, 5, 6]) (
 .seq (
 .reg [
 ⟨some 25, .mv (.t 4), none⟩,
 ⟨some 26, .call 65 [none] [(.t 25)], none⟩,
 ⟨some 7, .mv (.t 26), none⟩] [4, 5, 6, 7]) (
 .seq (
 .seq (
 .reg [
 ⟨some 27, .mv (.t 6), none⟩,
 ⟨some 28, .bin .neq (.t 27) (.c (.int .i64 0)), none⟩,
 ⟨some 29, .mv (.t 28), none⟩,
 ⟨some 30, .mv (.t 7), (some (29, false))⟩,
 ⟨some 31, .bin .gtr (.t 30) (.c (.int .u64 64)), (some (29, false))⟩,
 ⟨some 32, .pick (.t 29) (.c (.bool true)) (.t 31), none⟩] [4, 5, 7, 32]) (
 .cond (.t 32) (
 .seq (
 .reg [
 ⟨some 2, .mv (.c (.nilp)), none⟩,
 ⟨some 3, .mv (.c (.int .i64 2)), none⟩] [2, 3]) (
 .lift 2 (some 1) 72 (.pair .str (.pair .str (.pair (.int .u64) (.pair (.int .i64) (.sl 8 (.int .i64)))))) (
 .ret))) (
 .skip))) (
 .seq (
 .reg [
 ⟨some 8, .mv (.c (.str ByteArray.empty)), none⟩] [4, 5, 7, 8]) (
 .seq (
 .seq (
 .reg [
 ⟨some 33, .mv (.t 7), none⟩,
 ⟨some 34, .mv (.c (.int .u64 0)), none⟩] [4, 5, 8, 33, 34]) (
 .block 0 (
 .lift 4 (some 0) 1 .byte (
 .lift 5 (some 1) 72 (.pair .str (.pair .str (.pair (.int .u64) (.pair (.int .i64) (.sl 8 (.int .i64)))))) (
 .loop 1 [4, 5, 8, 33, 34] (
 .seq (
 .reg [
 ⟨some 35, .bin .lss (.t 34) (.t 33), none⟩] [4, 5, 8, 33, 34, 35]) (
 .seq (
 .cond (.t 35) (
 .skip) (
 .exit 0)) (
 .seq (
 .block 1 (
 .seq (
 .reg [
 ⟨some 36, .mv (.t 4), none⟩,
 ⟨some 37, .call 67 [none] [(.t 36)], none⟩,
 ⟨some 38, .mv (.t 4), none⟩,
 ⟨some 39, .call 65 [none] [(.t 38)], none⟩,
 ⟨some 9, .mv (.t 37), none⟩,
 ⟨some 10, .mv (.t 39), none⟩] [4, 5, 8, 9, 10, 33, 34]) (
 .seq (
 .seq (
 .reg [
 ⟨some 40, .mv (.t 4), none⟩,
 ⟨some 41, .call 93 [none] [(.t 40)], none⟩,
 ⟨some 42, .mv (.t 41), none⟩,
 ⟨some 43, .mv (.t 9), (some (42, false))⟩,
 ⟨some 44, .call 80 [none] [(.t 43)], (some (42, false))⟩,
 ⟨some 45, .not (.t 44), (some (42, false))⟩,
 ⟨some 46, .pick (.t 42) (.c (.bool true)) (.t 45), none⟩,
 ⟨some 47, .mv (.t 46), none⟩,
 ⟨some 48, .mv (.t 10), (some (47, false))⟩,
 ⟨some 49, .bin .eql (.t 48) (.c (.int .u64 0)), (some (47, false))⟩,
 ⟨some 50, .pick (.t 47) (.c (.bool true)) (.t 49), none⟩,
 ⟨some 51, .mv (.t 50), none⟩,
 ⟨some 52, .mv (.t 9), (some (51, false))⟩,
 ⟨some 53, .mv (.t 8), (some (51, false))⟩,
 ⟨some 54, .bin .leq (.t 52) (.t 53), (some (51, false))⟩,
 ⟨some 55, .pick (.t 51) (.c (.bool true)) (.t 54), none⟩] [4, 5, 9, 10, 33, 34, 55]) (
 .cond (.t 55) (
 .seq (
 .reg [
 ⟨some 2, .mv (.c (.nilp)), none⟩,
 ⟨some 3, .mv (.c (.int .i64 2)), none⟩] [2, 3]) (
 .lift 2 (some 1) 72 (.pair .str (.pair .str (.pair (.int .u64) (.pair (.int .i64) (.sl 8 (.int .i64)))))) (
 .ret))) (
 .skip))) (
 .seq (
 .reg [
 ⟨some 56, .mv (.t 9), none⟩,
 ⟨some 8, .mv (.t 56), none⟩] [4, 5, 8, 9, 10, 33, 34]) (
 .reg [
 ⟨some 57, .mv (.t 5), none⟩,
 ⟨some 58, .nck (.t 57), none⟩,
 ⟨some 59, .fa 2 (.t 58), none⟩,
 ⟨some 60, .ld (.t 59), none⟩,
 ⟨some 61, .mv (.t 9), none⟩,
 ⟨some 62, .mv (.t 10), none⟩,
 ⟨none, .mu false .str (.int .u64) (.t 60) (.t 61) (.t 62), none⟩] [4, 5, 8, 33, 34]))))) (
 .reg [
 ⟨some 63, .bin .add (.t 34) (.c (.int .u64 1)), none⟩,
 ⟨some 34, .mv (.t 63), none⟩] [4, 5, 8, 33, 34]))))))))) (
 .seq (
 .seq (
 .reg [
 ⟨some 64, .mv (.t 4), none⟩,
 ⟨some 65, .call 65 [none] [(.t 64)], none⟩,
 ⟨some 7, .mv (.t 65), none⟩] [4, 5, 7]) (
 .seq (
 .reg [
 ⟨some 66, .mv (.t 7), none⟩,
 ⟨some 67, .bin .gtr (.t 66) (.c (.int .u64 32)), none⟩] [4, 5, 7, 67]) (
 .cond (.t 67) (
 .seq (
 .reg [
 ⟨some 2, .mv (.c (.nilp)), none⟩,
 ⟨some 3, .mv (.c (.int .i64 2)), none⟩] [2, 3]) (
 .lift 2 (some 1) 72 (.pair .str (.pair .str (.pair (.int .u64) (.pair (.int .i64) (.sl 8 (.int .i64)))))) (
 .ret))) (
 .skip)))) (
 .seq (
 .reg [
 ⟨some 68, .mkm false .str (.int .u64), none⟩,
 ⟨some 11, .mv (.t 68), none⟩] [4, 5, 7, 11]) (
 .seq (
 .seq (
 .reg [
 ⟨some 69, .mv (.t 7), none⟩,
 ⟨some 70, .mv (.c (.int .u64 0)), none⟩] [4, 5, 11, 69, 70]) (
 .block 2 (
 .lift 4 (some 0) 1 .byte (
 .lift 5 (some 1) 72 (.pair .str (.pair .str (.pair (.int .u64) (.pair (.int .i64) (.sl 8 (.int .i64)))))) (
 .loop 2 [4, 5, 11, 69, 70] (
 .seq (
 .reg [
 ⟨some 71, .bin .lss (.t 70) (.t 69), none⟩] [4, 5, 11, 69, 70, 71]) (
 .seq (
 .cond (.t 71) (
 .skip) (
 .exit 2)) (
 .seq (
 .block 3 (
 .seq (
 .reg [
 ⟨some 72, .mv (.t 4), none⟩,
 ⟨some 73, .call 67 [none] [(.t 72)], none⟩,
 ⟨some 12, .mv (.t 73), none⟩] [4, 5, 11, 12, 69, 70]) (
 .seq (
 .reg [
 ⟨some 75, .mv (.t 4), none⟩,
 ⟨some 76, .call 67 [none] [(.t 75)], none⟩,
 ⟨some 77, .s2b (.t 76), none⟩,
 ⟨some 78, .call 94 [(some (1, .byte))] [(.t 77)], none⟩,
 ⟨some 74, .mv (.t 78), none⟩,
 ⟨some 79, .ext (.t 74) 0, none⟩,
 ⟨some 80, .ext (.t 74) 1, none⟩,
 ⟨some 13, .alc [.str ByteArray.empty, .int .u64 0, .int .i64 0, .nils], none⟩,
 ⟨none, .st 4 (.t 13) (.t 79), none⟩,
 ⟨some 14, .mv (.t 80), none⟩] [4, 5, 11, 12, 13, 14, 69, 70]) (
 .seq (
 .seq (
 .regD [
 ⟨some 81, .mv (.t 4), none⟩,
 ⟨some 82, .call 93 [none] [(.t 81)], none⟩,
 ⟨some 83, .mv (.t 82), none⟩,
 ⟨some 84, .mv (.t 14), (some (83, false))⟩,
 ⟨some 85, .bin .neq (.t 84) (.c (.int .i64 0)), (some (83, false))⟩,
 ⟨some 86, .pick (.t 83) (.c (.bool true)) (.t 85), none⟩,
 ⟨some 87, .mv (.t 86), none⟩,
 ⟨some 88, .fa 0 (.t 13), (some (87, false))⟩,
 ⟨some 89, .ld (.t 88), (some (87, false))⟩,
 ⟨some 90, .mv (.t 5), (some (87, false))⟩,
 ⟨some 91, .nck (.t 90), (some (87, false))⟩,
 ⟨some 92, .fa 0 (.t 91), (some (87, false))⟩,
 ⟨some 93, .ld (.t 92), (some (87, false))⟩,
 ⟨some 94, .bin .neq (.t 89) (.t 93), (some (87, false))⟩,
 ⟨some 95, .pick (.t 87) (.c (.bool true)) (.t 94), none⟩,
 ⟨some 96, .mv (.t 95), none⟩,
 ⟨some 97, .mv (.t 5), (some (96, false))⟩,
 ⟨some 98, .nck (.t 97), (some (96, false))⟩,
 ⟨some 99, .fa 2 (.t 98), (some (96, false))⟩,
 ⟨some 100, .ld (.t 99), (some (96, false))⟩,
 ⟨some 101, .mv (.t 12), (some (96, false))⟩,
 ⟨some 102, .lk false .str (.int .u64) false (.t 100) (.t 101), (some (96, false))⟩,
 ⟨some 103, .bin .eql (.t 102) (.c (.int .u64 0)), (some (96, false))⟩,
 ⟨some 104, .pick (.t 96) (.c (.bool true)) (.t 103), none⟩] [.q 0, .e 1 [], .q 2, .q 3, .q 4, .q 5, .q 6, .q 7, .q 8, .q 9, .q 10, .q 11, .q 12, .q 13, .q 14, .q 15, .q 16, .q 17, .q 18, .q 19, .q 20, .q 21, .q 22, .q 23] [4, 5, 11, 12, 13, 69, 70, 104]) (
 .cond (.t 104) (
 .seq (
 .reg [
 ⟨some 2, .mv (.c (.nilp)), none⟩,
 ⟨some 3, .mv (.c (.int .i64 2)), none⟩] [2, 3]) (
 .lift 2 (some 1) 72 (.pair .str (.pair .str (.pair (.int .u64) (.pair (.int .i64) (.sl 8 (.int .i64)))))) (
 .ret))) (
 .skip))) (
 .seq (
 .reg [
 ⟨some 105, .mv (.t 11), none⟩,
 ⟨some 106, .mv (.t 12), none⟩,
 ⟨some 107, .lk false .str (.int .u64) false (.t 105) (.t 106), none⟩,
 ⟨some 108, .bin .add (.t 107) (.c (.int .u64 1)), none⟩,
 ⟨none, .mu false .str (.int .u64) (.t 105) (.t 106) (.t 108), none⟩] [4, 5, 11, 12, 13, 69, 70]) (
 .regD [
 ⟨some 109, .mv (.t 5), none⟩,
 ⟨some 110, .mv (.t 5), none⟩,
 ⟨some 111, .nck (.t 110), none⟩,
 ⟨some 112, .fa 1 (.t 111), none⟩,
 ⟨some 113, .ld (.t 112), none⟩,
 ⟨some 114, .mv (.t 12), none⟩,
 ⟨some 115, .ldA 4 (.t 13), none⟩,
 ⟨some 116, .bld [.str ByteArray.empty, .str ByteArray.empty, .int .u64 0, .int .i64 0, .nils] [(0, 1, (.t 114)), (1, 4, (.t 115))], none⟩,
 ⟨some 117, .bsl 72 (.pair .str (.pair .str (.pair (.int .u64) (.pair (.int .i64) (.sl 8 (.int .i64)))))) 1 [(0, (.t 116))], none⟩,
 ⟨some 118, .app 72 (.pair .str (.pair .str (.pair (.int .u64) (.pair (.int .i64) (.sl 8 (.int .i64)))))) (.t 113) (.t 117), none⟩,
 ⟨some 119, .nck (.t 109), none⟩,
 ⟨some 120, .fa 1 (.t 119), none⟩,
 ⟨none, .st 1 (.t 120) (.t 118), none⟩] [.q 0, .q 1, .q 2, .q 3, .q 4, .q 5, .q 6, .q 7, .e 8 [0, 1, 2, 3, 4], .e 9 [0], .q 10, .q 11, .e 12 []] [4, 5, 11, 69, 70])))))) (
 .reg [
 ⟨some 121, .bin .add (.t 70) (.c (.int .u64 1)), none⟩,
 ⟨some 70, .mv (.t 121), none⟩] [4, 5, 11, 69, 70]))))))))) (
 .seq (
 .seq (
 .reg [
 ⟨some 122, .mv (.t 5), none⟩,
 ⟨some 123, .nck (.t 122), none⟩,
 ⟨some 124, .fa 1 (.t 123), none⟩,
 ⟨some 125, .ld (.t 124), none⟩,
 ⟨some 126, .len .s (.t 125), none⟩,
 ⟨some 127, .mv (.c (.int .i64 0)), none⟩] [4, 5, 11, 125, 126, 127]) (
 .block 4 (
 .lift 4 (some 0) 1 .byte (
 .lift 5 (some 1) 72 (.pair .str (.pair .str (.pair (.int .u64) (.pair (.int .i64) (.sl 8 (.int .i64)))))) (
 .loop 3 [4, 5, 11, 125, 126, 127] (
 .seq (
 .reg [
 ⟨some 128, .bin .lss (.t 127) (.t 126), none⟩] [4, 5, 11, 125, 126, 127, 128]) (
 .seq (
 .cond (.t 128) (
 .skip) (
 .exit 4)) (
 .seq (
 .block 5 (
 .seq (
 .reg [
 ⟨some 129, .ia 5 (.t 125) (.t 127), none⟩,
 ⟨some 130, .ldA 5 (.t 129), none⟩,
 ⟨some 16, .alc [.str ByteArray.empty, .str ByteArray.empty, .int .u64 0, .int .i64 0, .nils], none⟩,
 ⟨none, .st 5 (.t 16) (.t 130), none⟩] [4, 5, 11, 16, 125, 126, 127]) (
 .seq (
 .seq (
 .regD [
 ⟨some 131, .mv (.t 11), none⟩,
 ⟨some 132, .fa 0 (.t 16), none⟩,
 ⟨some 133, .ld (.t 132), none⟩,
 ⟨some 134, .lk false .str (.int .u64) false (.t 131) (.t 133), none⟩,
 ⟨some 135, .mv (.t 5), none⟩,
 ⟨some 136, .nck (.t 135), none⟩,
 ⟨some 137, .fa 2 (.t 136), none⟩,
 ⟨some 138, .ld (.t 137), none⟩,
 ⟨some 139, .fa 0 (.t 16), none⟩,
 ⟨some 140, .ld (.t 139), none⟩,
 ⟨some 141, .lk false .str (.int .u64) false (.t 138) (.t 140), none⟩,
 ⟨some 142, .bin .gtr (.t 134) (.t 141), none⟩,
 ⟨some 143, .mv (.t 142), none⟩,
 ⟨some 144, .fa 1 (.t 16), (some (143, false))⟩,
 ⟨some 145, .fa 1 (.t 144), (some (143, false))⟩,
 ⟨some 146, .ld (.t 145), (some (143, false))⟩,
 ⟨some 147, .mv (.t 5), (some (143, false))⟩,
 ⟨some 148, .nck (.t 147), (some (143, false))⟩,
 ⟨some 149, .fa 2 (.t 148), (some (143, false))⟩,
 ⟨some 150, .ld (.t 149), (some (143, false))⟩,
 ⟨some 151, .fa 0 (.t 16), (some (143, false))⟩,
 ⟨some 152, .ld (.t 151), (some (143, false))⟩,
 ⟨some 153, .lk false .str (.int .u64) false (.t 150) (.t 152), (some (143, false))⟩,
 ⟨some 154, .mv (.t 11), (some (143, false))⟩,
 ⟨some 155, .fa 0 (.t 16), (some (143, false))⟩,
 ⟨some 156, .ld (.t 155), (some (143, false))⟩,
 ⟨some 157, .lk false .str (.int .u64) false (.t 154) (.t 156), (some (143, false))⟩,
 ⟨some 158, .bin .sub (.t 153) (.t 157), (some (143, false))⟩,
 ⟨some 159, .bin .add (.t 158) (.c (.int .u64 1)), (some (143, false))⟩,
 ⟨some 160, .bin .neq (.t 146) (.t 159), (some (143, false))⟩,
 ⟨some 161, .pick (.t 143) (.c (.bool true)) (.t 160), none⟩] [.q 0, .q 1, .q 2, .q 3, .q 4, .q 5, .q 6, .q 7, .q 8, .q 9, .q 10, .q 11, .q 12, .q 13, .q 14, .q 15, .q 16, .q 17, .q 18, .q 19, .q 20, .q 21, .q 22, .q 23, .q 24, .q 25, .q 26, .q 27, .q 28, .q 29, .q 30] [4, 5, 11, 16, 125, 126, 127, 161]) (
 .cond (.t 161) (
 .seq (
 .reg [
 ⟨some 2, .mv (.c (.nilp)), none⟩,
 ⟨some 3, .mv (.c (.int .i64 2)), none⟩] [2, 3]) (
 .lift 2 (some 1) 72 (.pair .str (.pair .str (.pair (.int .u64) (.pair (.int .i64) (.sl 8 (.int .i64)))))) (
 .ret))) (
 .skip))) (
 .reg [
 ⟨some 162, .mv (.t 11), none⟩,
 ⟨some 163, .fa 0 (.t 16), none⟩,
 ⟨some 164, .ld (.t 163), none⟩,
 ⟨some 165, .lk false .str (.int .u64) false (.t 162) (.t 164), none⟩,
 ⟨some 166, .bin .sub (.t 165) (.c (.int .u64 1)), none⟩,
 ⟨none, .mu false .str (.int .u64) (.t 162) (.t 164) (.t 166), none⟩] [4, 5, 11, 125, 126, 127])))) (
 .reg [
 ⟨some 167, .bin .add (.t 127) (.c (.int .i64 1)), none⟩,
 ⟨some 127, .mv (.t 167), none⟩] [4, 5, 11, 125, 126, 127]))))))))) (
 .seq (
 .seq (
 .reg [
 ⟨some 168, .mv (.t 4), none⟩,
 ⟨some 169, .call 70 [none] [(.t 168)], none⟩,
 ⟨some 170, .not (.t 169), none⟩] [5, 170]) (
 .cond (.t 170) (
 .seq (
 .reg [
 ⟨some 2, .mv (.c (.nilp)), none⟩,
 ⟨some 3, .mv (.c (.int .i64 2)), none⟩] [2, 3]) (
 .lift 2 (some 1) 72 (.pair .str (.pair .str (.pair (.int .u64) (.pair (.int .i64) (.sl 8 (.int .i64)))))) (
 .ret))) (
 .skip))) (
 .seq (
 .reg [
 ⟨some 171, .mv (.t 5), none⟩,
 ⟨some 2, .mv (.t 171), none⟩,
 ⟨some 3, .mv (.c (.int .i64 0)), none⟩] [2, 3]) (
 .lift 2 (some 1) 72 (.pair .str (.pair .str (.pair (.int .u64) (.pair (.int .i64) (.sl 8 (.int .i64)))))) (
 .ret))))))))))))))
def r33 : List RT := [.t 2, .t 3]

/-- reeve/letter.lay -/
def a106 : AS :=
 .seq (
 .reg [
 ⟨some 3, .box (.t 1), none⟩] [0, 3]) (
 .seq (
 .reg [
 ⟨some 6, .mv (.t 0), none⟩,
 ⟨some 7, .fa 0 (.t 3), none⟩,
 ⟨some 8, .ld (.t 7), none⟩,
 ⟨some 9, .call 62 [none, none] [(.t 6), (.t 8)], none⟩] [0, 3]) (
 .seq (
 .reg [
 ⟨some 10, .mv (.t 0), none⟩,
 ⟨some 11, .fa 1 (.t 3), none⟩,
 ⟨some 12, .ld (.t 11), none⟩,
 ⟨some 13, .call 59 [none, none] [(.t 10), (.t 12)], none⟩] [0, 3]) (
 .seq (
 .reg [
 ⟨some 14, .mv (.t 0), none⟩,
 ⟨some 15, .fa 2 (.t 3), none⟩,
 ⟨some 16, .ld (.t 15), none⟩,
 ⟨some 17, .call 108 [none, none] [(.t 14), (.t 16)], none⟩] [0, 3]) (
 .seq (
 .reg [
 ⟨some 18, .mv (.t 0), none⟩,
 ⟨some 19, .fa 3 (.t 3), none⟩,
 ⟨some 20, .ld (.t 19), none⟩,
 ⟨some 21, .len .s (.t 20), none⟩,
 ⟨some 22, .cv .u64 (.t 21), none⟩,
 ⟨some 23, .call 59 [none, none] [(.t 18), (.t 22)], none⟩] [0, 3]) (
 .seq (
 .reg [
 ⟨some 24, .fa 3 (.t 3), none⟩,
 ⟨some 25, .ld (.t 24), none⟩,
 ⟨some 26, .len .s (.t 25), none⟩,
 ⟨some 27, .mv (.c (.int .i64 0)), none⟩] [0, 25, 26, 27]) (
 .block 0 (
 .lift 0 (some 0) 1 .byte (
 .loop 1 [0, 25, 26, 27] (
 .seq (
 .reg [
 ⟨some 28, .bin .lss (.t 27) (.t 26), none⟩] [0, 25, 26, 27, 28]) (
 .seq (
 .cond (.t 28) (
 .skip) (
 .exit 0)) (
 .seq (
 .block 1 (
 .seq (
 .reg [
 ⟨some 29, .ia 1 (.t 25) (.t 27), none⟩,
 ⟨some 30, .ld (.t 29), none⟩,
 ⟨some 5, .mv (.t 30), none⟩] [0, 5, 25, 26, 27]) (
 .reg [
 ⟨some 31, .mv (.t 0), none⟩,
 ⟨some 32, .mv (.t 5), none⟩,
 ⟨some 33, .call 108 [none, none] [(.t 31), (.t 32)], none⟩] [0, 25, 26, 27]))) (
 .reg [
 ⟨some 34, .bin .add (.t 27) (.c (.int .i64 1)), none⟩,
 ⟨some 27, .mv (.t 34), none⟩] [0, 25, 26, 27]))))))))))))
def r106 : List RT := []

/-- math/bits.Len64 -/
def a107 : AS :=
 .seq (
 .reg [
 ⟨some 2, .mv (.c (.int .i64 0)), none⟩] [0, 2]) (
 .seq (
 .seq (
 .reg [
 ⟨some 3, .mv (.t 0), none⟩,
 ⟨some 4, .bin .geq (.t 3) (.c (.int .u64 4294967296)), none⟩] [0, 2, 4]) (
 .cond (.t 4) (
 .seq (
 .reg [
 ⟨some 5, .mv (.t 0), none⟩,
 ⟨some 6, .bin .shr (.t 5) (.c (.int .u64 32)), none⟩,
 ⟨some 0, .mv (.t 6), none⟩] [0]) (
 .reg [
 ⟨some 2, .mv (.c (.int .i64 32)), none⟩] [0, 2])) (
 .skip))) (
 .seq (
 .seq (
 .reg [
 ⟨some 7, .mv (.t 0), none⟩,
 ⟨some 8, .bin .geq (.t 7) (.c (.int .u64 65536)), none⟩] [0, 2, 8]) (
 .cond (.t 8) (
 .seq (
 .reg [
 ⟨some 9, .mv (.t 0), none⟩,
 ⟨some 10, .bin .shr (.t 9) (.c (.int .u64 16)), none⟩,
 ⟨some 0, .mv (.t 10), none⟩] [0, 2]) (
 .reg [
 ⟨some 11, .mv (.t 2), none⟩,
 ⟨some 12, .bin .add (.t 11) (.c (.int .i64 16)), none⟩,
 ⟨some 2, .mv (.t 12), none⟩] [0, 2])) (
 .skip))) (
 .seq (
 .seq (
 .reg [
 ⟨some 13, .mv (.t 0), none⟩,
 ⟨some 14, .bin .geq (.t 13) (.c (.int .u64 256)), none⟩] [0, 2, 14]) (
 .cond (.t 14) (
 .seq (
 .reg [
 ⟨some 15, .mv (.t 0), none⟩,
 ⟨some 16, .bin .shr (.t 15) (.c (.int .u64 8)), none⟩,
 ⟨some 0, .mv (.t 16), none⟩] [0, 2]) (
 .reg [
 ⟨some 17, .mv (.t 2), none⟩,
 ⟨some 18, .bin .add (.t 17) (.c (.int .i64 8)), none⟩,
 ⟨some 2, .mv (.t 18), none⟩] [0, 2])) (
 .skip))) (
 .seq (
 .reg [
 ⟨some 19, .mv (.t 2), none⟩,
 ⟨some 20, .mv (.t 0), none⟩,
 ⟨some 21, .cv .u8 (.t 20), none⟩,
 ⟨some 22, .ixS (.c (.str ⟨#[0, 1, 2, 2, 3, 3, 3, 3, 4, 4, 4, 4, 4, 4, 4, 4, 5, 5, 5, 5, 5, 5, 5, 5, 5, 5, 5, 5, 5, 5, 5, 5, 6, 6, 6, 6, 6, 6, 6, 6, 6, 6, 6, 6, 6, 6, 6, 6, 6, 6, 6, 6, 6, 6, 6, 6, 6, 6, 6, 6, 6, 6, 6, 6, 7, 7, 7, 7, 7, 7, 7, 7, 7, 7, 7, 7, 7, 7, 7, 7, 7, 7, 7, 7, 7, 7, 7, 7, 7, 7, 7, 7, 7, 7, 7, 7, 7, 7, 7, 7, 7, 7, 7, 7, 7, 7, 7, 7, 7, 7, 7, 7, 7, 7, 7, 7, 7, 7, 7, 7, 7, 7, 7, 7, 7, 7, 7, 7, 8, 8, 8, 8, 8, 8, 8, 8, 8, 8, 8, 8, 8, 8, 8, 8, 8, 8, 8, 8, 8, 8, 8, 8, 8, 8, 8, 8, 8, 8, 8, 8, 8, 8, 8, 8, 8, 8, 8, 8, 8, 8, 8, 8, 8, 8, 8, 8, 8, 8, 8, 8, 8, 8, 8, 8, 8, 8, 8, 8, 8, 8, 8, 8, 8, 8, 8, 8, 8, 8, 8, 8, 8, 8, 8, 8, 8, 8, 8, 8, 8, 8, 8, 8, 8, 8, 8, 8, 8, 8, 8, 8, 8, 8, 8, 8, 8, 8, 8, 8, 8, 8, 8, 8, 8, 8, 8, 8, 8, 8, 8, 8, 8, 8, 8, 8, 8, 8, 8, 8, 8, 8, 8, 8, 8, 8, 8, 8]⟩)) (.t 21), none⟩,
 ⟨some 23, .cv .i64 (.t 22), none⟩,
 ⟨some 24, .bin .add (.t 19) (.t 23), none⟩,
 ⟨some 2, .mv (.t 24), none⟩] [2]) (
 .ret)))))
def r107 : List RT := [.t 2]

/-- (*reeve/codec.Writer).Int -/
def a108 : AS :=
 .reg [
 ⟨some 4, .mv (.t 0), none⟩,
 ⟨some 5, .mv (.t 1), none⟩,
 ⟨some 6, .cv .u64 (.t 5), none⟩,
 ⟨some 7, .bin .shl (.t 6) (.c (.int .u64 1)), none⟩,
 ⟨some 8, .mv (.t 1), none⟩,
 ⟨some 9, .bin .shr (.t 8) (.c (.int .u64 63)), none⟩,
 ⟨some 10, .cv .u64 (.t 9), none⟩,
 ⟨some 11, .bin .xor (.t 7) (.t 10), none⟩,
 ⟨some 12, .call 59 [none, none] [(.t 4), (.t 11)], none⟩] []
def r108 : List RT := []

/-- maps.Keys[map[string]uint64,string,uint64] -/
def a96 : AS :=
 .seq (
 .reg [
 ⟨some 1, .box (.t 0), none⟩,
 ⟨some 2, .mv (.c (.nilf)), none⟩] [1]) (
 .seq (
 .reg [
 ⟨some 3, .mkf 124 [(.t 1)], none⟩,
 ⟨some 2, .mv (.t 3), none⟩] [2]) (
 .ret))
def r96 : List RT := [.t 2]

/-- reeve/letter.Encode -/
def a97 : AS :=
 .seq (
 .reg [
 ⟨some 1, .box (.t 0), none⟩,
 ⟨some 2, .mv (.c (.nils)), none⟩,
 ⟨some 3, .mv (.c (.int .i64 0)), none⟩] [1]) (
 .seq (
 .seq (
 .reg [
 ⟨some 5, .ldA 4 (.t 1), none⟩,
 ⟨some 6, .call 74 [none] [(.t 5)], none⟩,
 ⟨some 7, .not (.t 6), none⟩] [1, 7]) (
 .cond (.t 7) (
 .seq (
 .reg [
 ⟨some 2, .mv (.c (.nils)), none⟩,
 ⟨some 3, .mv (.c (.int .i64 1)), none⟩] [2, 3]) (
 .lift 2 none 1 .byte (
 .ret))) (
 .skip))) (
 .seq (
 .reg [
 ⟨some 8, .call 58 [] [], none⟩,
 ⟨some 4, .mv (.t 8), none⟩] [1, 4]) (
 .seq (
 .reg [
 ⟨some 9, .mv (.t 4), none⟩,
 ⟨some 10, .ldA 4 (.t 1), none⟩,
 ⟨some 11, .call 106 [none, none] [(.t 9), (.t 10)], none⟩] [4]) (
 .seq (
 .reg [
 ⟨some 12, .mv (.t 4), none⟩,
 ⟨some 13, .call 63 [none] [(.t 12)], none⟩,
 ⟨some 2, .mv (.t 13), none⟩,
 ⟨some 3, .mv (.c (.int .i64 0)), none⟩] [2, 3]) (
 .lift 2 none 1 .byte (
 .ret))))))
def r97 : List RT := [.t 2, .t 3]

/-- reeve/codec.NewReader -/
def a64 : AS :=
 .seq (
 .reg [
 ⟨some 2, .mv (.c (.nilp)), none⟩] [0]) (
 .seq (
 .reg [
 ⟨some 3, .bsl 1 .byte 0 [], none⟩,
 ⟨some 4, .mv (.t 0), none⟩,
 ⟨some 5, .app 1 .byte (.t 3) (.t 4), none⟩,
 ⟨some 6, .bld [.nils, .bool false] [(0, 1, (.t 5))], none⟩,
 ⟨some 7, .box (.t 6), none⟩,
 ⟨some 2, .mv (.t 7), none⟩] [2]) (
 .lift 2 (some 0) 1 .byte (
 .lift 2 (some 0) 1 .byte (
 .ret))))
def r64 : List RT := [.t 2, .f 2]

/-- (*reeve/codec.Reader).Text -/
def a67 : AS :=
 .seq (
 .reg [
 ⟨some 2, .mv (.c (.str ByteArray.empty)), none⟩] [0]) (
 .seq (
 .reg [
 ⟨some 5, .mv (.t 0), none⟩,
 ⟨some 6, .call 65 [none] [(.t 5)], none⟩,
 ⟨some 3, .mv (.t 6), none⟩] [0, 3]) (
 .seq (
 .seq (
 .reg [
 ⟨some 7, .mv (.t 0), none⟩,
 ⟨some 8, .eqn false .p (.t 7) (.c (.nilp)), none⟩,
 ⟨some 9, .mv (.t 8), none⟩,
 ⟨some 10, .mv (.t 0), (some (9, false))⟩,
 ⟨some 11, .nck (.t 10), (some (9, false))⟩,
 ⟨some 12, .fa 1 (.t 11), (some (9, false))⟩,
 ⟨some 13, .ld (.t 12), (some (9, false))⟩,
 ⟨some 14, .pick (.t 9) (.c (.bool true)) (.t 13), none⟩] [0, 3, 14]) (
 .cond (.t 14) (
 .seq (
 .reg [
 ⟨some 2, .mv (.c (.str ByteArray.empty)), none⟩] [0, 2]) (
 .lift 0 (some 0) 1 .byte (
 .ret))) (
 .skip))) (
 .seq (
 .seq (
 .reg [
 ⟨some 15, .mv (.t 3), none⟩,
 ⟨some 16, .mv (.t 0), none⟩,
 ⟨some 17, .nck (.t 16), none⟩,
 ⟨some 18, .fa 0 (.t 17), none⟩,
 ⟨some 19, .ld (.t 18), none⟩,
 ⟨some 20, .len .s (.t 19), none⟩,
 ⟨some 21, .cv .u64 (.t 20), none⟩,
 ⟨some 22, .bin .gtr (.t 15) (.t 21), none⟩] [0, 3, 22]) (
 .cond (.t 22) (
 .seq (
 .reg [
 ⟨some 23, .mv (.t 0), none⟩,
 ⟨some 24, .call 109 [none] [(.t 23)], none⟩] [0]) (
 .seq (
 .reg [
 ⟨some 2, .mv (.c (.str ByteArray.empty)), none⟩] [0, 2]) (
 .lift 0 (some 0) 1 .byte (
 .ret)))) (
 .skip))) (
 .seq (
 .reg [
 ⟨some 25, .mv (.t 0), none⟩,
 ⟨some 26, .nck (.t 25), none⟩,
 ⟨some 27, .fa 0 (.t 26), none⟩,
 ⟨some 28, .ld (.t 27), none⟩,
 ⟨some 29, .mv (.t 3), none⟩,
 ⟨some 30, .slR 1 (.t 28) none (some (.t 29)), none⟩,
 ⟨some 31, .b2s (.t 30), none⟩,
 ⟨some 4, .mv (.t 31), none⟩] [0, 3, 4]) (
 .seq (
 .reg [
 ⟨some 32, .mv (.t 0), none⟩,
 ⟨some 33, .mv (.t 0), none⟩,
 ⟨some 34, .nck (.t 33), none⟩,
 ⟨some 35, .fa 0 (.t 34), none⟩,
 ⟨some 36, .ld (.t 35), none⟩,
 ⟨some 37, .mv (.t 3), none⟩,
 ⟨some 38, .slR 1 (.t 36) (some (.t 37)) none, none⟩,
 ⟨some 39, .nck (.t 32), none⟩,
 ⟨some 40, .fa 0 (.t 39), none⟩,
 ⟨none, .st 1 (.t 40) (.t 38), none⟩] [0, 4]) (
 .seq (
 .reg [
 ⟨some 41, .mv (.t 4), none⟩,
 ⟨some 2, .mv (.t 41), none⟩] [0, 2]) (
 .lift 0 (some 0) 1 .byte (
 .ret))))))))
def r67 : List RT := [.t 2, .f 0]

/-- (*reeve/codec.Reader).Number -/
def a65 : AS :=
 .seq (
 .reg [
 ⟨some 2, .mv (.c (.int .u64 0)), none⟩] [0]) (
 .seq (
 .seq (
 .reg [
 ⟨some 8, .mv (.t 0), none⟩,
 ⟨some 9, .eqn false .p (.t 8) (.c (.nilp)), none⟩,
 ⟨some 10, .mv (.t 9), none⟩,
 ⟨some 11, .mv (.t 0), (some (10, false))⟩,
 ⟨some 12, .nck (.t 11), (some (10, false))⟩,
 ⟨some 13, .fa 1 (.t 12), (some (10, false))⟩,
 ⟨some 14, .ld (.t 13), (some (10, false))⟩,
 ⟨some 15, .pick (.t 10) (.c (.bool true)) (.t 14), none⟩] [0, 15]) (
 .cond (.t 15) (
 .seq (
 .reg [
 ⟨some 2, .mv (.c (.int .u64 0)), none⟩] [0, 2]) (
 .lift 0 (some 0) 1 .byte (
 .ret))) (
 .skip))) (
 .seq (
 .seq (
 .reg [
 ⟨some 16, .mv (.t 0), none⟩,
 ⟨some 17, .nck (.t 16), none⟩,
 ⟨some 18, .fa 0 (.t 17), none⟩,
 ⟨some 19, .ld (.t 18), none⟩,
 ⟨some 20, .len .s (.t 19), none⟩,
 ⟨some 21, .bin .eql (.t 20) (.c (.int .i64 0)), none⟩] [0, 21]) (
 .cond (.t 21) (
 .seq (
 .reg [
 ⟨some 22, .mv (.t 0), none⟩,
 ⟨some 23, .call 109 [none] [(.t 22)], none⟩] [0]) (
 .seq (
 .reg [
 ⟨some 2, .mv (.c (.int .u64 0)), none⟩] [0, 2]) (
 .lift 0 (some 0) 1 .byte (
 .ret)))) (
 .skip))) (
 .seq (
 .reg [
 ⟨some 24, .mv (.t 0), none⟩,
 ⟨some 25, .nck (.t 24), none⟩,
 ⟨some 26, .fa 0 (.t 25), none⟩,
 ⟨some 27, .ld (.t 26), none⟩,
 ⟨some 28, .ia 1 (.t 27) (.c (.int .i64 0)), none⟩,
 ⟨some 29, .ld (.t 28), none⟩,
 ⟨some 3, .mv (.t 29), none⟩] [0, 3]) (
 .seq (
 .seq (
 .reg [
 ⟨some 30, .mv (.t 3), none⟩,
 ⟨some 31, .bin .lss (.t 30) (.c (.int .u8 248)), none⟩] [0, 3, 31]) (
 .cond (.t 31) (
 .seq (
 .reg [
 ⟨some 32, .mv (.t 0), none⟩,
 ⟨some 33, .mv (.t 0), none⟩,
 ⟨some 34, .nck (.t 33), none⟩,
 ⟨some 35, .fa 0 (.t 34), none⟩,
 ⟨some 36, .ld (.t 35), none⟩,
 ⟨some 37, .slR 1 (.t 36) (some (.c (.int .i64 1))) none, none⟩,
 ⟨some 38, .nck (.t 32), none⟩,
 ⟨some 39, .fa 0 (.t 38), none⟩,
 ⟨none, .st 1 (.t 39) (.t 37), none⟩] [0, 3]) (
 .seq (
 .reg [
 ⟨some 40, .mv (.t 3), none⟩,
 ⟨some 41, .cv .u64 (.t 40), none⟩,
 ⟨some 2, .mv (.t 41), none⟩] [0, 2]) (
 .lift 0 (some 0) 1 .byte (
 .ret)))) (
 .skip))) (
 .seq (
 .reg [
 ⟨some 42, .mv (.t 3), none⟩,
 ⟨some 43, .cv .i64 (.t 42), none⟩,
 ⟨some 44, .bin .sub (.t 43) (.c (.int .i64 247)), none⟩,
 ⟨some 4, .mv (.t 44), none⟩] [0, 4]) (
 .seq (
 .seq (
 .reg [
 ⟨some 45, .mv (.t 4), none⟩,
 ⟨some 46, .mv (.t 0), none⟩,
 ⟨some 47, .nck (.t 46), none⟩,
 ⟨some 48, .fa 0 (.t 47), none⟩,
 ⟨some 49, .ld (.t 48), none⟩,
 ⟨some 50, .len .s (.t 49), none⟩,
 ⟨some 51, .bin .sub (.t 50) (.c (.int .i64 1)), none⟩,
 ⟨some 52, .bin .gtr (.t 45) (.t 51), none⟩] [0, 4, 52]) (
 .cond (.t 52) (
 .seq (
 .reg [
 ⟨some 53, .mv (.t 0), none⟩,
 ⟨some 54, .call 109 [none] [(.t 53)], none⟩] [0]) (
 .seq (
 .reg [
 ⟨some 2, .mv (.c (.int .u64 0)), none⟩] [0, 2]) (
 .lift 0 (some 0) 1 .byte (
 .ret)))) (
 .skip))) (
 .seq (
 .reg [
 ⟨some 5, .mv (.c (.int .u64 0)), none⟩] [0, 4, 5]) (
 .seq (
 .seq (
 .reg [
 ⟨some 55, .mv (.t 0), none⟩,
 ⟨some 56, .nck (.t 55), none⟩,
 ⟨some 57, .fa 0 (.t 56), none⟩,
 ⟨some 58, .ld (.t 57), none⟩,
 ⟨some 59, .mv (.t 4), none⟩,
 ⟨some 60, .bin .add (.c (.int .i64 1)) (.t 59), none⟩,
 ⟨some 61, .slR 1 (.t 58) (some (.c (.int .i64 1))) (some (.t 60)), none⟩,
 ⟨some 62, .len .s (.t 61), none⟩,
 ⟨some 63, .mv (.c (.int .i64 0)), none⟩] [0, 4, 5, 61, 62, 63]) (
 .block 0 (
 .lift 0 (some 0) 1 .byte (
 .loop 1 [0, 4, 5, 61, 62, 63] (
 .seq (
 .reg [
 ⟨some 64, .bin .lss (.t 63) (.t 62), none⟩] [0, 4, 5, 61, 62, 63, 64]) (
 .seq (
 .cond (.t 64) (
 .skip) (
 .exit 0)) (
 .seq (
 .block 1 (
 .seq (
 .reg [
 ⟨some 65, .ia 1 (.t 61) (.t 63), none⟩,
 ⟨some 66, .ld (.t 65), none⟩,
 ⟨some 7, .mv (.t 66), none⟩] [0, 4, 5, 7, 61, 62, 63]) (
 .reg [
 ⟨some 67, .mv (.t 5), none⟩,
 ⟨some 68, .bin .shl (.t 67) (.c (.int .u64 8)), none⟩,
 ⟨some 69, .mv (.t 7), none⟩,
 ⟨some 70, .cv .u64 (.t 69), none⟩,
 ⟨some 71, .bin .or (.t 68) (.t 70), none⟩,
 ⟨some 5, .mv (.t 71), none⟩] [0, 4, 5, 61, 62, 63]))) (
 .reg [
 ⟨some 72, .bin .add (.t 63) (.c (.int .i64 1)), none⟩,
 ⟨some 63, .mv (.t 72), none⟩] [0, 4, 5, 61, 62, 63])))))))) (
 .seq (
 .seq (
 .reg [
 ⟨some 73, .mv (.t 5), none⟩,
 ⟨some 74, .bin .lss (.t 73) (.c (.int .u64 248)), none⟩,
 ⟨some 75, .mv (.t 74), none⟩,
 ⟨some 76, .mv (.t 0), (some (75, false))⟩,
 ⟨some 77, .nck (.t 76), (some (75, false))⟩,
 ⟨some 78, .fa 0 (.t 77), (some (75, false))⟩,
 ⟨some 79, .ld (.t 78), (some (75, false))⟩,
 ⟨some 80, .ia 1 (.t 79) (.c (.int .i64 1)), (some (75, false))⟩,
 ⟨some 81, .ld (.t 80), (some (75, false))⟩,
 ⟨some 82, .bin .eql (.t 81) (.c (.int .u8 0)), (some (75, false))⟩,
 ⟨some 83, .pick (.t 75) (.c (.bool true)) (.t 82), none⟩] [0, 4, 5, 83]) (
 .cond (.t 83) (
 .seq (
 .reg [
 ⟨some 84, .mv (.t 0), none⟩,
 ⟨some 85, .call 109 [none] [(.t 84)], none⟩] [0]) (
 .seq (
 .reg [
 ⟨some 2, .mv (.c (.int .u64 0)), none⟩] [0, 2]) (
 .lift 0 (some 0) 1 .byte (
 .ret)))) (
 .skip))) (
 .seq (
 .reg [
 ⟨some 86, .mv (.t 0), none⟩,
 ⟨some 87, .mv (.t 0), none⟩,
 ⟨some 88, .nck (.t 87), none⟩,
 ⟨some 89, .fa 0 (.t 88), none⟩,
 ⟨some 90, .ld (.t 89), none⟩,
 ⟨some 91, .mv (.t 4), none⟩,
 ⟨some 92, .bin .add (.c (.int .i64 1)) (.t 91), none⟩,
 ⟨some 93, .slR 1 (.t 90) (some (.t 92)) none, none⟩,
 ⟨some 94, .nck (.t 86), none⟩,
 ⟨some 95, .fa 0 (.t 94), none⟩,
 ⟨none, .st 1 (.t 95) (.t 93), none⟩] [0, 5]) (
 .seq (
 .reg [
 ⟨some 96, .mv (.t 5), none⟩,
 ⟨some 2, .mv (.t 96), none⟩] [0, 2]) (
 .lift 0 (some 0) 1 .byte (
 .ret)))))))))))))
def r65 : List RT := [.t 2, .f 0]

/-- (*reeve/codec.Reader).Bad -/
def a93 : AS :=
 .seq (
 .reg [
 ⟨some 2, .mv (.c (.bool false)), none⟩] [0]) (
 .seq (
 .reg [
 ⟨some 3, .mv (.t 0), none⟩,
 ⟨some 4, .eqn true .p (.t 3) (.c (.nilp)), none⟩,
 ⟨some 5, .mv (.t 4), none⟩,
 ⟨some 6, .mv (.t 0), (some (5, true))⟩,
 ⟨some 7, .nck (.t 6), (some (5, true))⟩,
 ⟨some 8, .fa 1 (.t 7), (some (5, true))⟩,
 ⟨some 9, .ld (.t 8), (some (5, true))⟩,
 ⟨some 10, .pick (.t 5) (.t 9) (.c (.bool false)), none⟩,
 ⟨some 2, .mv (.t 10), none⟩] [2]) (
 .ret))
def r93 : List RT := [.t 2]

/-- reeve/letter.Decode -/
def a94 : AS :=
 .seq (
 .reg [
 ⟨some 2, .alc [.str ByteArray.empty, .int .u64 0, .int .i64 0, .nils], none⟩,
 ⟨some 3, .mv (.c (.int .i64 0)), none⟩] [0, 2]) (
 .seq (
 .reg [
 ⟨some 7, .mv (.t 0), none⟩,
 ⟨some 8, .call 64 [(some (1, .byte))] [(.t 7)], none⟩,
 ⟨some 4, .mv (.t 8), none⟩] [2, 4]) (
 .seq (
 .reg [
 ⟨some 10, .mv (.t 4), none⟩,
 ⟨some 11, .call 112 [none] [(.t 10)], none⟩,
 ⟨some 9, .mv (.t 11), none⟩,
 ⟨some 12, .ext (.t 9) 0, none⟩,
 ⟨some 13, .ext (.t 9) 1, none⟩,
 ⟨some 5, .alc [.str ByteArray.empty, .int .u64 0, .int .i64 0, .nils], none⟩,
 ⟨none, .st 4 (.t 5) (.t 12), none⟩,
 ⟨some 6, .mv (.t 13), none⟩] [2, 4, 5, 6]) (
 .seq (
 .seq (
 .reg [
 ⟨some 14, .mv (.t 6), none⟩,
 ⟨some 15, .not (.t 14), none⟩,
 ⟨some 16, .mv (.t 15), none⟩,
 ⟨some 17, .mv (.t 4), (some (16, false))⟩,
 ⟨some 18, .call 70 [none] [(.t 17)], (some (16, false))⟩,
 ⟨some 19, .not (.t 18), (some (16, false))⟩,
 ⟨some 20, .pick (.t 16) (.c (.bool true)) (.t 19), none⟩] [2, 5, 20]) (
 .cond (.t 20) (
 .seq (
 .reg [
 ⟨some 21, .bld [.str ByteArray.empty, .int .u64 0, .int .i64 0, .nils] [], none⟩,
 ⟨none, .st 4 (.t 2) (.t 21), none⟩,
 ⟨some 3, .mv (.c (.int .i64 2)), none⟩] [2, 3]) (
 .ret)) (
 .skip))) (
 .seq (
 .reg [
 ⟨some 22, .ldA 4 (.t 5), none⟩,
 ⟨none, .st 4 (.t 2) (.t 22), none⟩,
 ⟨some 3, .mv (.c (.int .i64 0)), none⟩] [2, 3]) (
 .ret)))))
def r94 : List RT := [.c 2 (some 4), .t 3]

/-- (*reeve/codec.Reader).End -/
def a70 : AS :=
 .seq (
 .reg [
 ⟨some 2, .mv (.c (.bool false)), none⟩] [0]) (
 .seq (
 .reg [
 ⟨some 3, .mv (.t 0), none⟩,
 ⟨some 4, .eqn true .p (.t 3) (.c (.nilp)), none⟩,
 ⟨some 5, .mv (.t 4), none⟩,
 ⟨some 6, .mv (.t 0), (some (5, true))⟩,
 ⟨some 7, .nck (.t 6), (some (5, true))⟩,
 ⟨some 8, .fa 1 (.t 7), (some (5, true))⟩,
 ⟨some 9, .ld (.t 8), (some (5, true))⟩,
 ⟨some 10, .not (.t 9), (some (5, true))⟩,
 ⟨some 11, .pick (.t 5) (.t 10) (.c (.bool false)), none⟩,
 ⟨some 12, .mv (.t 11), none⟩,
 ⟨some 13, .mv (.t 0), (some (12, true))⟩,
 ⟨some 14, .nck (.t 13), (some (12, true))⟩,
 ⟨some 15, .fa 0 (.t 14), (some (12, true))⟩,
 ⟨some 16, .ld (.t 15), (some (12, true))⟩,
 ⟨some 17, .len .s (.t 16), (some (12, true))⟩,
 ⟨some 18, .bin .eql (.t 17) (.c (.int .i64 0)), (some (12, true))⟩,
 ⟨some 19, .pick (.t 12) (.t 18) (.c (.bool false)), none⟩,
 ⟨some 2, .mv (.t 19), none⟩] [2]) (
 .ret))
def r70 : List RT := [.t 2]

/-- (*reeve/codec.Reader).fail -/
def a109 : AS :=
 .reg [
 ⟨some 2, .mv (.t 0), none⟩,
 ⟨some 3, .mv (.t 0), none⟩,
 ⟨some 4, .nck (.t 2), none⟩,
 ⟨some 5, .fa 0 (.t 4), none⟩,
 ⟨none, .st 1 (.t 5) (.c (.nils)), none⟩,
 ⟨some 6, .nck (.t 3), none⟩,
 ⟨some 7, .fa 1 (.t 6), none⟩,
 ⟨none, .st 1 (.t 7) (.c (.bool true)), none⟩] []
def r109 : List RT := []

/-- reeve/letter.take -/
def a112 : AS :=
 .seq (
 .reg [
 ⟨some 2, .alc [.str ByteArray.empty, .int .u64 0, .int .i64 0, .nils], none⟩,
 ⟨some 3, .mv (.c (.bool false)), none⟩] [0, 2]) (
 .seq (
 .reg [
 ⟨some 5, .mv (.t 0), none⟩,
 ⟨some 6, .call 67 [none] [(.t 5)], none⟩,
 ⟨some 7, .mv (.t 0), none⟩,
 ⟨some 8, .call 65 [none] [(.t 7)], none⟩,
 ⟨some 9, .mv (.t 0), none⟩,
 ⟨some 10, .call 110 [none] [(.t 9)], none⟩,
 ⟨some 11, .fa 0 (.t 2), none⟩,
 ⟨none, .st 1 (.t 11) (.t 6), none⟩,
 ⟨some 12, .fa 1 (.t 2), none⟩,
 ⟨none, .st 1 (.t 12) (.t 8), none⟩,
 ⟨some 13, .fa 2 (.t 2), none⟩,
 ⟨none, .st 1 (.t 13) (.t 10), none⟩] [0, 2]) (
 .seq (
 .reg [
 ⟨some 14, .mv (.t 0), none⟩,
 ⟨some 15, .call 65 [none] [(.t 14)], none⟩,
 ⟨some 4, .mv (.t 15), none⟩] [0, 2, 4]) (
 .seq (
 .seq (
 .reg [
 ⟨some 16, .mv (.t 4), none⟩,
 ⟨some 17, .bin .gtr (.t 16) (.c (.int .u64 4)), none⟩] [0, 2, 4, 17]) (
 .cond (.t 17) (
 .seq (
 .reg [
 ⟨some 18, .bld [.str ByteArray.empty, .int .u64 0, .int .i64 0, .nils] [], none⟩,
 ⟨none, .st 4 (.t 2) (.t 18), none⟩,
 ⟨some 3, .mv (.c (.bool false)), none⟩] [2, 3]) (
 .ret)) (
 .skip))) (
 .seq (
 .seq (
 .reg [
 ⟨some 19, .mv (.t 4), none⟩,
 ⟨some 20, .mv (.c (.int .u64 0)), none⟩] [0, 2, 19, 20]) (
 .block 0 (
 .lift 0 (some 0) 1 .byte (
 .lift 2 (some 3) 8 (.int .i64) (
 .loop 1 [0, 2, 19, 20] (
 .seq (
 .reg [
 ⟨some 21, .bin .lss (.t 20) (.t 19), none⟩] [0, 2, 19, 20, 21]) (
 .seq (
 .cond (.t 21) (
 .skip) (
 .exit 0)) (
 .seq (
 .block 1 (
 .regD [
 ⟨some 22, .fa 3 (.t 2), none⟩,
 ⟨some 23, .ld (.t 22), none⟩,
 ⟨some 24, .mv (.t 0), none⟩,
 ⟨some 25, .call 110 [none] [(.t 24)], none⟩,
 ⟨some 26, .bsl 8 (.int .i64) 1 [(0, (.t 25))], none⟩,
 ⟨some 27, .app 8 (.int .i64) (.t 23) (.t 26), none⟩,
 ⟨some 28, .fa 3 (.t 2), none⟩,
 ⟨none, .st 1 (.t 28) (.t 27), none⟩] [.q 0, .q 1, .q 2, .e 3 [0, 1], .e 4 [0, 1], .e 5 [], .q 6, .e 7 []] [0, 2, 19, 20])) (
 .reg [
 ⟨some 29, .bin .add (.t 20) (.c (.int .u64 1)), none⟩,
 ⟨some 20, .mv (.t 29), none⟩] [0, 2, 19, 20]))))))))) (
 .seq (
 .seq (
 .reg [
 ⟨some 30, .mv (.t 0), none⟩,
 ⟨some 31, .call 93 [none] [(.t 30)], none⟩,
 ⟨some 32, .mv (.t 31), none⟩,
 ⟨some 33, .ldA 4 (.t 2), (some (32, false))⟩,
 ⟨some 34, .call 74 [none] [(.t 33)], (some (32, false))⟩,
 ⟨some 35, .not (.t 34), (some (32, false))⟩,
 ⟨some 36, .pick (.t 32) (.c (.bool true)) (.t 35), none⟩] [2, 36]) (
 .cond (.t 36) (
 .seq (
 .reg [
 ⟨some 37, .bld [.str ByteArray.empty, .int .u64 0, .int .i64 0, .nils] [], none⟩,
 ⟨none, .st 4 (.t 2) (.t 37), none⟩,
 ⟨some 3, .mv (.c (.bool false)), none⟩] [2, 3]) (
 .ret)) (
 .skip))) (
 .seq (
 .reg [
 ⟨some 38, .ldA 4 (.t 2), none⟩,
 ⟨none, .st 4 (.t 2) (.t 38), none⟩,
 ⟨some 3, .mv (.c (.bool true)), none⟩] [2, 3]) (
 .ret)))))))
def r112 : List RT := [.c 2 (some 4), .t 3]

/-- (*reeve/codec.Reader).Int -/
def a110 : AS :=
 .seq (
 .reg [
 ⟨some 2, .mv (.c (.int .i64 0)), none⟩] [0]) (
 .seq (
 .reg [
 ⟨some 4, .mv (.t 0), none⟩,
 ⟨some 5, .call 65 [none] [(.t 4)], none⟩,
 ⟨some 3, .mv (.t 5), none⟩] [3]) (
 .seq (
 .reg [
 ⟨some 6, .mv (.t 3), none⟩,
 ⟨some 7, .bin .shr (.t 6) (.c (.int .u64 1)), none⟩,
 ⟨some 8, .cv .i64 (.t 7), none⟩,
 ⟨some 9, .mv (.t 3), none⟩,
 ⟨some 10, .bin .and (.t 9) (.c (.int .u64 1)), none⟩,
 ⟨some 11, .cv .i64 (.t 10), none⟩,
 ⟨some 12, .neg (.t 11), none⟩,
 ⟨some 13, .bin .xor (.t 8) (.t 12), none⟩,
 ⟨some 2, .mv (.t 13), none⟩] [2]) (
 .ret)))
def r110 : List RT := [.t 2]

theorem ok58 : okF Tryz.prog 58 a58 r58 0 = true := by decide +kernel
theorem ok59 : okF Tryz.prog 59 a59 r59 2 = true := by decide +kernel
theorem ok34 : okF Tryz.prog 34 a34 r34 1 = true := by decide +kernel
theorem ok62 : okF Tryz.prog 62 a62 r62 2 = true := by decide +kernel
theorem ok63 : okF Tryz.prog 63 a63 r63 1 = true := by decide +kernel
theorem ok33 : okF Tryz.prog 33 a33 r33 1 = true := by decide +kernel
theorem ok106 : okF Tryz.prog 106 a106 r106 2 = true := by decide +kernel
theorem ok107 : okF Tryz.prog 107 a107 r107 1 = true := by decide +kernel
theorem ok108 : okF Tryz.prog 108 a108 r108 2 = true := by decide +kernel
theorem ok96 : okF Tryz.prog 96 a96 r96 1 = true := by decide +kernel
theorem ok97 : okF Tryz.prog 97 a97 r97 1 = true := by decide +kernel
theorem ok64 : okF Tryz.prog 64 a64 r64 1 = true := by decide +kernel
theorem ok67 : okF Tryz.prog 67 a67 r67 1 = true := by decide +kernel
theorem ok65 : okF Tryz.prog 65 a65 r65 1 = true := by decide +kernel
theorem ok93 : okF Tryz.prog 93 a93 r93 1 = true := by decide +kernel
theorem ok94 : okF Tryz.prog 94 a94 r94 1 = true := by decide +kernel
theorem ok70 : okF Tryz.prog 70 a70 r70 1 = true := by decide +kernel
theorem ok109 : okF Tryz.prog 109 a109 r109 1 = true := by decide +kernel
theorem ok112 : okF Tryz.prog 112 a112 r112 1 = true := by decide +kernel
theorem ok110 : okF Tryz.prog 110 a110 r110 1 = true := by decide +kernel
end Go.V
