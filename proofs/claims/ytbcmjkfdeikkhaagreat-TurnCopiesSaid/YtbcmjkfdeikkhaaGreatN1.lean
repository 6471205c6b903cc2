/- A part of the proof layer, or functions of the given program in it: contracts and their proofs. -/
import Derived.Test.YtbcmjkfdeikkhaaGreatVy
import Derived.Test.YtbcmjkfdeikkhaaGreatProg
namespace Go.V
set_option linter.unusedSimpArgs false
set_option linter.unnecessarySimpa false
open Go.Proofs
/-- reeve/reeveref11.Key -/
def a82 : AS :=
 .seq (
 .reg [
 ⟨some 2, .mv (.c (.bool false)), none⟩] [0]) (
 .seq (
 .reg [
 ⟨some 3, .mv (.t 0), none⟩,
 ⟨some 4, .len .i (.t 3), none⟩,
 ⟨some 5, .bin .geq (.t 4) (.c (.int .i64 1)), none⟩,
 ⟨some 6, .mv (.t 5), none⟩,
 ⟨some 7, .mv (.t 0), (some (6, true))⟩,
 ⟨some 8, .len .i (.t 7), (some (6, true))⟩,
 ⟨some 9, .bin .leq (.t 8) (.c (.int .i64 40)), (some (6, true))⟩,
 ⟨some 10, .pick (.t 6) (.t 9) (.c (.bool false)), none⟩,
 ⟨some 2, .mv (.t 10), none⟩] [2]) (
 .ret))
def r82 : List RT := [.t 2]

/-- (*reeve/outbox.Outbox).Send -/
def a24 : AS :=
 .seq (
 .reg [
 ⟨some 8, .mv (.c (.int .u64 0)), none⟩,
 ⟨some 9, .mv (.c (.int .i64 0)), none⟩] [0, 1, 2, 3]) (
 .seq (
 .seq (
 .reg [
 ⟨some 13, .mv (.t 0), none⟩,
 ⟨some 14, .call 79 [none] [(.t 13)], none⟩,
 ⟨some 15, .mv (.t 14), none⟩,
 ⟨some 16, .mv (.t 1), (some (15, false))⟩,
 ⟨some 17, .call 80 [none] [(.t 16)], (some (15, false))⟩,
 ⟨some 18, .not (.t 17), (some (15, false))⟩,
 ⟨some 19, .pick (.t 15) (.c (.bool true)) (.t 18), none⟩,
 ⟨some 20, .mv (.t 19), none⟩,
 ⟨some 21, .mv (.t 3), (some (20, false))⟩,
 ⟨some 22, .len .s (.t 21), (some (20, false))⟩,
 ⟨some 23, .bin .gtr (.t 22) (.c (.int .i64 4)), (some (20, false))⟩,
 ⟨some 24, .pick (.t 20) (.c (.bool true)) (.t 23), none⟩] [0, 1, 2, 3, 24]) (
 .cond (.t 24) (
 .seq (
 .reg [
 ⟨some 8, .mv (.c (.int .u64 0)), none⟩,
 ⟨some 9, .mv (.c (.int .i64 1)), none⟩] [8, 9]) (
 .ret)) (
 .skip))) (
 .seq (
 .seq (
 .reg [
 ⟨some 26, .mv (.t 0), none⟩,
 ⟨some 27, .nck (.t 26), none⟩,
 ⟨some 28, .fa 2 (.t 27), none⟩,
 ⟨some 29, .ld (.t 28), none⟩,
 ⟨some 30, .mv (.t 1), none⟩,
 ⟨some 31, .lk false .str (.int .u64) true (.t 29) (.t 30), none⟩,
 ⟨some 25, .mv (.t 31), none⟩,
 ⟨some 32, .ext (.t 25) 0, none⟩,
 ⟨some 33, .ext (.t 25) 1, none⟩,
 ⟨some 10, .mv (.t 32), none⟩,
 ⟨some 11, .mv (.t 33), none⟩] [0, 1, 2, 3, 11]) (
 .seq (
 .reg [
 ⟨some 34, .mv (.t 0), none⟩,
 ⟨some 35, .nck (.t 34), none⟩,
 ⟨some 36, .fa 1 (.t 35), none⟩,
 ⟨some 37, .ld (.t 36), none⟩,
 ⟨some 38, .len .s (.t 37), none⟩,
 ⟨some 39, .bin .geq (.t 38) (.c (.int .i64 32)), none⟩,
 ⟨some 40, .mv (.t 39), none⟩,
 ⟨some 41, .mv (.t 11), (some (40, false))⟩,
 ⟨some 42, .not (.t 41), (some (40, false))⟩,
 ⟨some 43, .mv (.t 42), (some (40, false))⟩,
 ⟨some 44, .mv (.t 0), (some (43, true))⟩,
 ⟨some 45, .nck (.t 44), (some (43, true))⟩,
 ⟨some 46, .fa 2 (.t 45), (some (43, true))⟩,
 ⟨some 47, .ld (.t 46), (some (43, true))⟩,
 ⟨some 48, .len .m (.t 47), (some (43, true))⟩,
 ⟨some 49, .bin .geq (.t 48) (.c (.int .i64 64)), (some (43, true))⟩,
 ⟨some 50, .pick (.t 43) (.t 49) (.c (.bool false)), (some (40, false))⟩,
 ⟨some 51, .pick (.t 40) (.c (.bool true)) (.t 50), none⟩] [0, 1, 2, 3, 51]) (
 .cond (.t 51) (
 .seq (
 .reg [
 ⟨some 8, .mv (.c (.int .u64 0)), none⟩,
 ⟨some 9, .mv (.c (.int .i64 6)), none⟩] [8, 9]) (
 .ret)) (
 .skip)))) (
 .seq (
 .reg [
 ⟨some 52, .mv (.t 0), none⟩,
 ⟨some 53, .nck (.t 52), none⟩,
 ⟨some 54, .fa 2 (.t 53), none⟩,
 ⟨some 55, .ld (.t 54), none⟩,
 ⟨some 56, .mv (.t 1), none⟩,
 ⟨some 57, .lk false .str (.int .u64) false (.t 55) (.t 56), none⟩,
 ⟨some 58, .bin .add (.t 57) (.c (.int .u64 1)), none⟩,
 ⟨none, .mu false .str (.int .u64) (.t 55) (.t 56) (.t 58), none⟩] [0, 1, 2, 3]) (
 .seq (
 .reg [
 ⟨some 59, .mv (.t 0), none⟩,
 ⟨some 60, .nck (.t 59), none⟩,
 ⟨some 61, .fa 2 (.t 60), none⟩,
 ⟨some 62, .ld (.t 61), none⟩,
 ⟨some 63, .mv (.t 1), none⟩,
 ⟨some 64, .lk false .str (.int .u64) false (.t 62) (.t 63), none⟩,
 ⟨some 12, .mv (.t 64), none⟩] [0, 1, 2, 3, 12]) (
 .seq (
 .regD [
 ⟨some 65, .mv (.t 0), none⟩,
 ⟨some 66, .mv (.t 0), none⟩,
 ⟨some 67, .nck (.t 66), none⟩,
 ⟨some 68, .fa 1 (.t 67), none⟩,
 ⟨some 69, .ld (.t 68), none⟩,
 ⟨some 70, .mv (.t 1), none⟩,
 ⟨some 71, .mv (.t 0), none⟩,
 ⟨some 72, .nck (.t 71), none⟩,
 ⟨some 73, .fa 0 (.t 72), none⟩,
 ⟨some 74, .ld (.t 73), none⟩,
 ⟨some 75, .mv (.t 12), none⟩,
 ⟨some 76, .mv (.t 2), none⟩,
 ⟨some 77, .mv (.t 3), none⟩,
 ⟨some 78, .call 81 [none] [(.t 77)], none⟩,
 ⟨some 79, .bld [.str ByteArray.empty, .int .u64 0, .int .i64 0, .nils] [(0, 1, (.t 74)), (1, 1, (.t 75)), (2, 1, (.t 76)), (3, 1, (.t 78))], none⟩,
 ⟨some 80, .bld [.str ByteArray.empty, .str ByteArray.empty, .int .u64 0, .int .i64 0, .nils] [(0, 1, (.t 70)), (1, 4, (.t 79))], none⟩,
 ⟨some 81, .bsl 72 (.pair .str (.pair .str (.pair (.int .u64) (.pair (.int .i64) (.sl 8 (.int .i64)))))) 1 [(0, (.t 80))], none⟩,
 ⟨some 82, .app 72 (.pair .str (.pair .str (.pair (.int .u64) (.pair (.int .i64) (.sl 8 (.int .i64)))))) (.t 69) (.t 81), none⟩,
 ⟨some 83, .nck (.t 65), none⟩,
 ⟨some 84, .fa 1 (.t 83), none⟩,
 ⟨none, .st 1 (.t 84) (.t 82), none⟩] [.q 0, .q 1, .q 2, .q 3, .q 4, .q 5, .q 6, .q 7, .q 8, .q 9, .q 10, .q 11, .q 12, .e 13 [0, 1, 2, 3, 4, 5, 6, 7, 8, 9, 10, 11], .q 14, .q 15, .e 16 [0, 1, 2, 3, 4], .e 17 [0], .q 18, .q 19, .e 20 []] [12]) (
 .seq (
 .reg [
 ⟨some 85, .mv (.t 12), none⟩,
 ⟨some 8, .mv (.t 85), none⟩,
 ⟨some 9, .mv (.c (.int .i64 0)), none⟩] [8, 9]) (
 .ret)))))))
def r24 : List RT := [.t 8, .t 9]

/-- (*reeve/reeveref14.Outbox).Send -/
def a25 : AS :=
 .seq (
 .reg [
 ⟨some 8, .mv (.c (.int .u64 0)), none⟩,
 ⟨some 9, .mv (.c (.int .i64 0)), none⟩] [0, 1, 2, 3]) (
 .seq (
 .seq (
 .reg [
 ⟨some 11, .mv (.t 1), none⟩,
 ⟨some 12, .call 82 [none] [(.t 11)], none⟩,
 ⟨some 13, .not (.t 12), none⟩,
 ⟨some 14, .mv (.t 13), none⟩,
 ⟨some 15, .mv (.t 3), (some (14, false))⟩,
 ⟨some 16, .len .s (.t 15), (some (14, false))⟩,
 ⟨some 17, .bin .gtr (.t 16) (.c (.int .i64 4)), (some (14, false))⟩,
 ⟨some 18, .pick (.t 14) (.c (.bool true)) (.t 17), none⟩] [0, 1, 2, 3, 18]) (
 .cond (.t 18) (
 .seq (
 .reg [
 ⟨some 8, .mv (.c (.int .u64 0)), none⟩,
 ⟨some 9, .mv (.c (.int .i64 1)), none⟩] [8, 9]) (
 .ret)) (
 .skip))) (
 .seq (
 .seq (
 .reg [
 ⟨some 19, .mv (.t 0), none⟩,
 ⟨some 20, .nck (.t 19), none⟩,
 ⟨some 21, .fa 1 (.t 20), none⟩,
 ⟨some 22, .ld (.t 21), none⟩,
 ⟨some 23, .len .s (.t 22), none⟩,
 ⟨some 24, .bin .geq (.t 23) (.c (.int .i64 32)), none⟩,
 ⟨some 25, .mv (.t 24), none⟩,
 ⟨some 26, .mv (.t 0), (some (25, false))⟩,
 ⟨some 27, .mv (.t 1), (some (25, false))⟩,
 ⟨some 28, .call 83 [none, none] [(.t 26), (.t 27)], (some (25, false))⟩,
 ⟨some 29, .not (.t 28), (some (25, false))⟩,
 ⟨some 30, .mv (.t 29), (some (25, false))⟩,
 ⟨some 31, .mv (.t 0), (some (30, true))⟩,
 ⟨some 32, .nck (.t 31), (some (30, true))⟩,
 ⟨some 33, .fa 2 (.t 32), (some (30, true))⟩,
 ⟨some 34, .ld (.t 33), (some (30, true))⟩,
 ⟨some 35, .len .s (.t 34), (some (30, true))⟩,
 ⟨some 36, .bin .geq (.t 35) (.c (.int .i64 64)), (some (30, true))⟩,
 ⟨some 37, .pick (.t 30) (.t 36) (.c (.bool false)), (some (25, false))⟩,
 ⟨some 38, .pick (.t 25) (.c (.bool true)) (.t 37), none⟩] [0, 1, 2, 3, 38]) (
 .cond (.t 38) (
 .seq (
 .reg [
 ⟨some 8, .mv (.c (.int .u64 0)), none⟩,
 ⟨some 9, .mv (.c (.int .i64 6)), none⟩] [8, 9]) (
 .ret)) (
 .skip))) (
 .seq (
 .reg [
 ⟨some 39, .mv (.t 0), none⟩,
 ⟨some 40, .mv (.t 1), none⟩,
 ⟨some 41, .call 50 [none, none] [(.t 39), (.t 40)], none⟩,
 ⟨some 42, .bin .add (.t 41) (.c (.int .u64 1)), none⟩,
 ⟨some 10, .mv (.t 42), none⟩] [0, 1, 2, 3, 10]) (
 .seq (
 .reg [
 ⟨some 43, .mv (.t 0), none⟩,
 ⟨some 44, .mv (.t 1), none⟩,
 ⟨some 45, .mv (.t 10), none⟩,
 ⟨some 46, .call 84 [none, none, none] [(.t 43), (.t 44), (.t 45)], none⟩] [0, 1, 2, 3, 10]) (
 .seq (
 .regD [
 ⟨some 47, .mv (.t 0), none⟩,
 ⟨some 48, .mv (.t 0), none⟩,
 ⟨some 49, .nck (.t 48), none⟩,
 ⟨some 50, .fa 1 (.t 49), none⟩,
 ⟨some 51, .ld (.t 50), none⟩,
 ⟨some 52, .mv (.t 1), none⟩,
 ⟨some 53, .mv (.t 0), none⟩,
 ⟨some 54, .nck (.t 53), none⟩,
 ⟨some 55, .fa 0 (.t 54), none⟩,
 ⟨some 56, .ld (.t 55), none⟩,
 ⟨some 57, .mv (.t 10), none⟩,
 ⟨some 58, .mv (.t 2), none⟩,
 ⟨some 59, .mv (.t 3), none⟩,
 ⟨some 60, .bld [.str ByteArray.empty, .int .u64 0, .int .i64 0, .nils] [(0, 1, (.t 56)), (1, 1, (.t 57)), (2, 1, (.t 58)), (3, 1, (.t 59))], none⟩,
 ⟨some 61, .call 78 [none] [(.t 60)], none⟩,
 ⟨some 62, .bld [.str ByteArray.empty, .str ByteArray.empty, .int .u64 0, .int .i64 0, .nils] [(0, 1, (.t 52)), (1, 4, (.t 61))], none⟩,
 ⟨some 63, .bsl 72 (.pair .str (.pair .str (.pair (.int .u64) (.pair (.int .i64) (.sl 8 (.int .i64)))))) 1 [(0, (.t 62))], none⟩,
 ⟨some 64, .app 72 (.pair .str (.pair .str (.pair (.int .u64) (.pair (.int .i64) (.sl 8 (.int .i64)))))) (.t 51) (.t 63), none⟩,
 ⟨some 65, .nck (.t 47), none⟩,
 ⟨some 66, .fa 1 (.t 65), none⟩,
 ⟨none, .st 1 (.t 66) (.t 64), none⟩] [.q 0, .q 1, .q 2, .q 3, .q 4, .q 5, .q 6, .q 7, .q 8, .q 9, .q 10, .q 11, .q 12, .q 13, .e 14 [0, 1, 2, 3, 4, 5], .q 15, .e 16 [0, 1, 2, 3, 4], .e 17 [0], .q 18, .q 19, .e 20 []] [10]) (
 .seq (
 .reg [
 ⟨some 67, .mv (.t 10), none⟩,
 ⟨some 8, .mv (.t 67), none⟩,
 ⟨some 9, .mv (.c (.int .i64 0)), none⟩] [8, 9]) (
 .ret)))))))
def r25 : List RT := [.t 8, .t 9]

/-- reeve/outbox.New -/
def a71 : AS :=
 .seq (
 .reg [
 ⟨some 2, .mv (.c (.nilp)), none⟩,
 ⟨some 3, .mv (.c (.int .i64 0)), none⟩] [0]) (
 .seq (
 .seq (
 .reg [
 ⟨some 4, .mv (.t 0), none⟩,
 ⟨some 5, .call 80 [none] [(.t 4)], none⟩,
 ⟨some 6, .not (.t 5), none⟩] [0, 6]) (
 .cond (.t 6) (
 .seq (
 .reg [
 ⟨some 2, .mv (.c (.nilp)), none⟩,
 ⟨some 3, .mv (.c (.int .i64 1)), none⟩] [2, 3]) (
 .lift 2 (some 1) 72 (.pair .str (.pair .str (.pair (.int .u64) (.pair (.int .i64) (.sl 8 (.int .i64)))))) (
 .ret))) (
 .skip))) (
 .seq (
 .reg [
 ⟨some 7, .mv (.t 0), none⟩,
 ⟨some 8, .mkm false .str (.int .u64), none⟩,
 ⟨some 9, .bld [.str ByteArray.empty, .nils, .nilm] [(0, 1, (.t 7)), (2, 1, (.t 8))], none⟩,
 ⟨some 10, .box (.t 9), none⟩,
 ⟨some 2, .mv (.t 10), none⟩,
 ⟨some 3, .mv (.c (.int .i64 0)), none⟩] [2, 3]) (
 .lift 2 (some 1) 72 (.pair .str (.pair .str (.pair (.int .u64) (.pair (.int .i64) (.sl 8 (.int .i64)))))) (
 .ret))))
def r71 : List RT := [.t 2, .t 3]

/-- (*reeve/outbox.Outbox).Owner -/
def a102 : AS :=
 .seq (
 .reg [
 ⟨some 2, .mv (.c (.str ByteArray.empty)), none⟩] [0]) (
 .seq (
 .seq (
 .reg [
 ⟨some 3, .mv (.t 0), none⟩,
 ⟨some 4, .eqn false .p (.t 3) (.c (.nilp)), none⟩] [0, 4]) (
 .cond (.t 4) (
 .seq (
 .reg [
 ⟨some 2, .mv (.c (.str ByteArray.empty)), none⟩] [2]) (
 .ret)) (
 .skip))) (
 .seq (
 .reg [
 ⟨some 5, .mv (.t 0), none⟩,
 ⟨some 6, .nck (.t 5), none⟩,
 ⟨some 7, .fa 0 (.t 6), none⟩,
 ⟨some 8, .ld (.t 7), none⟩,
 ⟨some 2, .mv (.t 8), none⟩] [2]) (
 .ret)))
def r102 : List RT := [.t 2]

/-- reeve/letter.Formed -/
def a74 : AS :=
 .seq (
 .reg [
 ⟨some 1, .box (.t 0), none⟩,
 ⟨some 2, .mv (.c (.bool false)), none⟩] [1]) (
 .seq (
 .reg [
 ⟨some 3, .fa 0 (.t 1), none⟩,
 ⟨some 4, .ld (.t 3), none⟩,
 ⟨some 5, .len .i (.t 4), none⟩,
 ⟨some 6, .bin .leq (.t 5) (.c (.int .i64 40)), none⟩,
 ⟨some 7, .mv (.t 6), none⟩,
 ⟨some 8, .fa 3 (.t 1), (some (7, true))⟩,
 ⟨some 9, .ld (.t 8), (some (7, true))⟩,
 ⟨some 10, .len .s (.t 9), (some (7, true))⟩,
 ⟨some 11, .bin .leq (.t 10) (.c (.int .i64 4)), (some (7, true))⟩,
 ⟨some 12, .pick (.t 7) (.t 11) (.c (.bool false)), none⟩,
 ⟨some 2, .mv (.t 12), none⟩] [2]) (
 .ret))
def r74 : List RT := [.t 2]

/-- reeve/letter.Copy -/
def a75 : AS :=
 .seq (
 .reg [
 ⟨some 1, .box (.t 0), none⟩,
 ⟨some 2, .alc [.str ByteArray.empty, .int .u64 0, .int .i64 0, .nils], none⟩] [1, 2]) (
 .seq (
 .reg [
 ⟨some 3, .fa 3 (.t 1), none⟩,
 ⟨some 4, .ld (.t 3), none⟩,
 ⟨some 5, .call 81 [none] [(.t 4)], none⟩,
 ⟨some 6, .fa 3 (.t 1), none⟩,
 ⟨none, .st 1 (.t 6) (.t 5), none⟩] [1, 2]) (
 .seq (
 .reg [
 ⟨some 7, .ldA 4 (.t 1), none⟩,
 ⟨none, .st 4 (.t 2) (.t 7), none⟩] [2]) (
 .ret)))
def r75 : List RT := [.c 2 (some 4)]

/-- (*reeve/outbox.Outbox).none -/
def a79 : AS :=
 .seq (
 .reg [
 ⟨some 2, .mv (.c (.bool false)), none⟩] [0]) (
 .seq (
 .reg [
 ⟨some 3, .mv (.t 0), none⟩,
 ⟨some 4, .eqn false .p (.t 3) (.c (.nilp)), none⟩,
 ⟨some 5, .mv (.t 4), none⟩,
 ⟨some 6, .mv (.t 0), (some (5, false))⟩,
 ⟨some 7, .nck (.t 6), (some (5, false))⟩,
 ⟨some 8, .fa 0 (.t 7), (some (5, false))⟩,
 ⟨some 9, .ld (.t 8), (some (5, false))⟩,
 ⟨some 10, .bin .eql (.t 9) (.c (.str ByteArray.empty)), (some (5, false))⟩,
 ⟨some 11, .pick (.t 5) (.c (.bool true)) (.t 10), none⟩,
 ⟨some 2, .mv (.t 11), none⟩] [2]) (
 .ret))
def r79 : List RT := [.t 2]

/-- reeve/letter.Key -/
def a80 : AS :=
 .seq (
 .reg [
 ⟨some 2, .mv (.c (.bool false)), none⟩] [0]) (
 .seq (
 .reg [
 ⟨some 3, .mv (.t 0), none⟩,
 ⟨some 4, .bin .neq (.t 3) (.c (.str ByteArray.empty)), none⟩,
 ⟨some 5, .mv (.t 4), none⟩,
 ⟨some 6, .mv (.t 0), (some (5, true))⟩,
 ⟨some 7, .len .i (.t 6), (some (5, true))⟩,
 ⟨some 8, .bin .leq (.t 7) (.c (.int .i64 40)), (some (5, true))⟩,
 ⟨some 9, .pick (.t 5) (.t 8) (.c (.bool false)), none⟩,
 ⟨some 2, .mv (.t 9), none⟩] [2]) (
 .ret))
def r80 : List RT := [.t 2]

/-- slices.Clone[[]int64,int64] -/
def a81 : AS :=
 .seq (
 .reg [
 ⟨some 2, .mv (.c (.nils)), none⟩] [0]) (
 .seq (
 .seq (
 .reg [
 ⟨some 3, .mv (.t 0), none⟩,
 ⟨some 4, .isn false (.t 3), none⟩] [0, 4]) (
 .cond (.t 4) (
 .seq (
 .reg [
 ⟨some 2, .mv (.c (.nils)), none⟩] [2]) (
 .lift 2 none 8 (.int .i64) (
 .ret))) (
 .skip))) (
 .seq (
 .reg [
 ⟨some 5, .bsl 8 (.int .i64) 0 [], none⟩,
 ⟨some 6, .mv (.t 0), none⟩,
 ⟨some 7, .app 8 (.int .i64) (.t 5) (.t 6), none⟩,
 ⟨some 2, .mv (.t 7), none⟩] [2]) (
 .lift 2 none 8 (.int .i64) (
 .ret))))
def r81 : List RT := [.t 2]

/-- reeve/reeveref14.New -/
def a76 : AS :=
 .seq (
 .reg [
 ⟨some 2, .mv (.c (.nilp)), none⟩,
 ⟨some 3, .mv (.c (.int .i64 0)), none⟩] [0]) (
 .seq (
 .seq (
 .reg [
 ⟨some 4, .mv (.t 0), none⟩,
 ⟨some 5, .call 82 [none] [(.t 4)], none⟩,
 ⟨some 6, .not (.t 5), none⟩] [0, 6]) (
 .cond (.t 6) (
 .seq (
 .reg [
 ⟨some 2, .mv (.c (.nilp)), none⟩,
 ⟨some 3, .mv (.c (.int .i64 1)), none⟩] [2, 3]) (
 .lift 2 (some 1) 72 (.pair .str (.pair .str (.pair (.int .u64) (.pair (.int .i64) (.sl 8 (.int .i64)))))) (
 .lift 2 (some 2) 24 (.pair .str (.int .u64)) (
 .ret)))) (
 .skip))) (
 .seq (
 .reg [
 ⟨some 7, .mv (.t 0), none⟩,
 ⟨some 8, .bld [.str ByteArray.empty, .nils, .nils] [(0, 1, (.t 7))], none⟩,
 ⟨some 9, .box (.t 8), none⟩,
 ⟨some 2, .mv (.t 9), none⟩,
 ⟨some 3, .mv (.c (.int .i64 0)), none⟩] [2, 3]) (
 .lift 2 (some 1) 72 (.pair .str (.pair .str (.pair (.int .u64) (.pair (.int .i64) (.sl 8 (.int .i64)))))) (
 .lift 2 (some 2) 24 (.pair .str (.int .u64)) (
 .ret)))))
def r76 : List RT := [.t 2, .t 3]

/-- reeve/reeveref11.Formed -/
def a77 : AS :=
 .seq (
 .reg [
 ⟨some 1, .box (.t 0), none⟩,
 ⟨some 2, .mv (.c (.bool false)), none⟩] [1]) (
 .seq (
 .reg [
 ⟨some 3, .fa 0 (.t 1), none⟩,
 ⟨some 4, .ld (.t 3), none⟩,
 ⟨some 5, .len .i (.t 4), none⟩,
 ⟨some 6, .bin .leq (.t 5) (.c (.int .i64 40)), none⟩,
 ⟨some 7, .mv (.t 6), none⟩,
 ⟨some 8, .fa 3 (.t 1), (some (7, true))⟩,
 ⟨some 9, .ld (.t 8), (some (7, true))⟩,
 ⟨some 10, .len .s (.t 9), (some (7, true))⟩,
 ⟨some 11, .bin .leq (.t 10) (.c (.int .i64 4)), (some (7, true))⟩,
 ⟨some 12, .pick (.t 7) (.t 11) (.c (.bool false)), none⟩,
 ⟨some 2, .mv (.t 12), none⟩] [2]) (
 .ret))
def r77 : List RT := [.t 2]

/-- reeve/reeveref11.Copy -/
def a78 : AS :=
 .seq (
 .reg [
 ⟨some 1, .box (.t 0), none⟩,
 ⟨some 2, .alc [.str ByteArray.empty, .int .u64 0, .int .i64 0, .nils], none⟩] [1, 2]) (
 .seq (
 .reg [
 ⟨some 3, .bsl 8 (.int .i64) 0 [], none⟩,
 ⟨some 4, .fa 3 (.t 1), none⟩,
 ⟨some 5, .ld (.t 4), none⟩,
 ⟨some 6, .app 8 (.int .i64) (.t 3) (.t 5), none⟩,
 ⟨some 7, .fa 3 (.t 1), none⟩,
 ⟨none, .st 1 (.t 7) (.t 6), none⟩] [1, 2]) (
 .seq (
 .reg [
 ⟨some 8, .ldA 4 (.t 1), none⟩,
 ⟨none, .st 4 (.t 2) (.t 8), none⟩] [2]) (
 .ret)))
def r78 : List RT := [.c 2 (some 4)]

/-- (*reeve/reeveref14.Outbox).there -/
def a83 : AS :=
 .seq (
 .reg [
 ⟨some 4, .mv (.c (.bool false)), none⟩] [0, 1]) (
 .seq (
 .reg [
 ⟨some 6, .mv (.t 0), none⟩,
 ⟨some 7, .mv (.t 1), none⟩,
 ⟨some 8, .call 104 [none, none] [(.t 6), (.t 7)], none⟩,
 ⟨some 5, .mv (.t 8), none⟩] [0, 1, 5]) (
 .seq (
 .reg [
 ⟨some 9, .mv (.t 5), none⟩,
 ⟨some 10, .mv (.t 0), none⟩,
 ⟨some 11, .nck (.t 10), none⟩,
 ⟨some 12, .fa 2 (.t 11), none⟩,
 ⟨some 13, .ld (.t 12), none⟩,
 ⟨some 14, .len .s (.t 13), none⟩,
 ⟨some 15, .bin .lss (.t 9) (.t 14), none⟩,
 ⟨some 16, .mv (.t 15), none⟩,
 ⟨some 17, .mv (.t 0), (some (16, true))⟩,
 ⟨some 18, .nck (.t 17), (some (16, true))⟩,
 ⟨some 19, .fa 2 (.t 18), (some (16, true))⟩,
 ⟨some 20, .ld (.t 19), (some (16, true))⟩,
 ⟨some 21, .mv (.t 5), (some (16, true))⟩,
 ⟨some 22, .ia 2 (.t 20) (.t 21), (some (16, true))⟩,
 ⟨some 23, .fa 0 (.t 22), (some (16, true))⟩,
 ⟨some 24, .ld (.t 23), (some (16, true))⟩,
 ⟨some 25, .mv (.t 1), (some (16, true))⟩,
 ⟨some 26, .bin .eql (.t 24) (.t 25), (some (16, true))⟩,
 ⟨some 27, .pick (.t 16) (.t 26) (.c (.bool false)), none⟩,
 ⟨some 4, .mv (.t 27), none⟩] [4]) (
 .ret)))
def r83 : List RT := [.t 4]

/-- (*reeve/reeveref14.Outbox).Serial -/
def a50 : AS :=
 .seq (
 .reg [
 ⟨some 4, .mv (.c (.int .u64 0)), none⟩] [0, 1]) (
 .seq (
 .seq (
 .reg [
 ⟨some 5, .mv (.t 0), none⟩,
 ⟨some 6, .mv (.t 1), none⟩,
 ⟨some 7, .call 83 [none, none] [(.t 5), (.t 6)], none⟩,
 ⟨some 8, .not (.t 7), none⟩] [0, 1, 8]) (
 .cond (.t 8) (
 .seq (
 .reg [
 ⟨some 4, .mv (.c (.int .u64 0)), none⟩] [4]) (
 .ret)) (
 .skip))) (
 .seq (
 .regD [
 ⟨some 9, .mv (.t 0), none⟩,
 ⟨some 10, .nck (.t 9), none⟩,
 ⟨some 11, .fa 2 (.t 10), none⟩,
 ⟨some 12, .ld (.t 11), none⟩,
 ⟨some 13, .mv (.t 0), none⟩,
 ⟨some 14, .mv (.t 1), none⟩,
 ⟨some 15, .call 104 [none, none] [(.t 13), (.t 14)], none⟩,
 ⟨some 16, .ia 2 (.t 12) (.t 15), none⟩,
 ⟨some 17, .fa 1 (.t 16), none⟩,
 ⟨some 18, .ld (.t 17), none⟩,
 ⟨some 4, .mv (.t 18), none⟩] [.q 0, .q 1, .q 2, .q 3, .q 4, .q 5, .e 6 [0, 1, 2, 3], .q 7, .q 8, .q 9, .q 10] [4]) (
 .ret)))
def r50 : List RT := [.t 4]

/-- (*reeve/reeveref14.Outbox).set -/
def a84 : AS :=
 .seq (
 .reg [
 ⟨some 8, .mv (.t 0), none⟩,
 ⟨some 9, .mv (.t 1), none⟩,
 ⟨some 10, .call 104 [none, none] [(.t 8), (.t 9)], none⟩,
 ⟨some 6, .mv (.t 10), none⟩] [0, 1, 2, 6]) (
 .seq (
 .seq (
 .reg [
 ⟨some 11, .mv (.t 0), none⟩,
 ⟨some 12, .mv (.t 1), none⟩,
 ⟨some 13, .call 83 [none, none] [(.t 11), (.t 12)], none⟩] [0, 1, 2, 6, 13]) (
 .cond (.t 13) (
 .seq (
 .reg [
 ⟨some 14, .mv (.t 0), none⟩,
 ⟨some 15, .nck (.t 14), none⟩,
 ⟨some 16, .fa 2 (.t 15), none⟩,
 ⟨some 17, .ld (.t 16), none⟩,
 ⟨some 18, .mv (.t 6), none⟩,
 ⟨some 19, .mv (.t 2), none⟩,
 ⟨some 20, .ia 2 (.t 17) (.t 18), none⟩,
 ⟨some 21, .fa 1 (.t 20), none⟩,
 ⟨none, .st 1 (.t 21) (.t 19), none⟩] []) (
 .ret)) (
 .skip))) (
 .seq (
 .reg [
 ⟨some 7, .mv (.c (.nils)), none⟩] [0, 1, 2, 6, 7]) (
 .seq (
 .reg [
 ⟨some 22, .mv (.t 7), none⟩,
 ⟨some 23, .mv (.t 0), none⟩,
 ⟨some 24, .nck (.t 23), none⟩,
 ⟨some 25, .fa 2 (.t 24), none⟩,
 ⟨some 26, .ld (.t 25), none⟩,
 ⟨some 27, .mv (.t 6), none⟩,
 ⟨some 28, .slR 2 (.t 26) none (some (.t 27)), none⟩,
 ⟨some 29, .app 24 (.pair .str (.int .u64)) (.t 22) (.t 28), none⟩,
 ⟨some 7, .mv (.t 29), none⟩] [0, 1, 2, 6, 7]) (
 .seq (
 .reg [
 ⟨some 30, .mv (.t 7), none⟩,
 ⟨some 31, .mv (.t 1), none⟩,
 ⟨some 32, .mv (.t 2), none⟩,
 ⟨some 33, .bld [.str ByteArray.empty, .int .u64 0] [(0, 1, (.t 31)), (1, 1, (.t 32))], none⟩,
 ⟨some 34, .bsl 24 (.pair .str (.int .u64)) 1 [(0, (.t 33))], none⟩,
 ⟨some 35, .app 24 (.pair .str (.int .u64)) (.t 30) (.t 34), none⟩,
 ⟨some 7, .mv (.t 35), none⟩] [0, 6, 7]) (
 .reg [
 ⟨some 36, .mv (.t 0), none⟩,
 ⟨some 37, .mv (.t 7), none⟩,
 ⟨some 38, .mv (.t 0), none⟩,
 ⟨some 39, .nck (.t 38), none⟩,
 ⟨some 40, .fa 2 (.t 39), none⟩,
 ⟨some 41, .ld (.t 40), none⟩,
 ⟨some 42, .mv (.t 6), none⟩,
 ⟨some 43, .slR 2 (.t 41) (some (.t 42)) none, none⟩,
 ⟨some 44, .app 24 (.pair .str (.int .u64)) (.t 37) (.t 43), none⟩,
 ⟨some 45, .nck (.t 36), none⟩,
 ⟨some 46, .fa 2 (.t 45), none⟩,
 ⟨none, .st 1 (.t 46) (.t 44), none⟩] [])))))
def r84 : List RT := [.w 2 0 2]

/-- (*reeve/reeveref14.Outbox).place -/
def a104 : AS :=
 .seq (
 .reg [
 ⟨some 4, .mv (.c (.int .i64 0)), none⟩] [0, 1]) (
 .seq (
 .reg [
 ⟨some 5, .mv (.c (.int .i64 0)), none⟩] [0, 1, 5]) (
 .seq (
 .block 0 (
 .lift 0 (some 1) 72 (.pair .str (.pair .str (.pair (.int .u64) (.pair (.int .i64) (.sl 8 (.int .i64)))))) (
 .lift 0 (some 2) 24 (.pair .str (.int .u64)) (
 .loop 1 [0, 1, 5] (
 .seq (
 .seq (
 .reg [
 ⟨some 6, .mv (.t 5), none⟩,
 ⟨some 7, .mv (.t 0), none⟩,
 ⟨some 8, .nck (.t 7), none⟩,
 ⟨some 9, .fa 2 (.t 8), none⟩,
 ⟨some 10, .ld (.t 9), none⟩,
 ⟨some 11, .len .s (.t 10), none⟩,
 ⟨some 12, .bin .lss (.t 6) (.t 11), none⟩,
 ⟨some 13, .mv (.t 12), none⟩,
 ⟨some 14, .mv (.t 0), (some (13, true))⟩,
 ⟨some 15, .nck (.t 14), (some (13, true))⟩,
 ⟨some 16, .fa 2 (.t 15), (some (13, true))⟩,
 ⟨some 17, .ld (.t 16), (some (13, true))⟩,
 ⟨some 18, .mv (.t 5), (some (13, true))⟩,
 ⟨some 19, .ia 2 (.t 17) (.t 18), (some (13, true))⟩,
 ⟨some 20, .fa 0 (.t 19), (some (13, true))⟩,
 ⟨some 21, .ld (.t 20), (some (13, true))⟩,
 ⟨some 22, .mv (.t 1), (some (13, true))⟩,
 ⟨some 23, .bin .lss (.t 21) (.t 22), (some (13, true))⟩,
 ⟨some 24, .pick (.t 13) (.t 23) (.c (.bool false)), none⟩] [0, 1, 5, 24]) (
 .cond (.t 24) (
 .skip) (
 .exit 0))) (
 .block 1 (
 .reg [
 ⟨some 25, .mv (.t 5), none⟩,
 ⟨some 26, .bin .add (.t 25) (.c (.int .i64 1)), none⟩,
 ⟨some 5, .mv (.t 26), none⟩] [0, 1, 5]))))))) (
 .seq (
 .reg [
 ⟨some 27, .mv (.t 5), none⟩,
 ⟨some 4, .mv (.t 27), none⟩] [4]) (
 .ret))))
def r104 : List RT := [.t 4]

theorem ok82 : okF Tryz.prog 82 a82 r82 1 = true := by decide +kernel
theorem ok24 : okF Tryz.prog 24 a24 r24 4 = true := by decide +kernel
theorem ok25 : okF Tryz.prog 25 a25 r25 4 = true := by decide +kernel
theorem ok71 : okF Tryz.prog 71 a71 r71 1 = true := by decide +kernel
theorem ok102 : okF Tryz.prog 102 a102 r102 1 = true := by decide +kernel
theorem ok74 : okF Tryz.prog 74 a74 r74 1 = true := by decide +kernel
theorem ok75 : okF Tryz.prog 75 a75 r75 1 = true := by decide +kernel
theorem ok79 : okF Tryz.prog 79 a79 r79 1 = true := by decide +kernel
theorem ok80 : okF Tryz.prog 80 a80 r80 1 = true := by decide +kernel
theorem ok81 : okF Tryz.prog 81 a81 r81 1 = true := by decide +kernel
theorem ok76 : okF Tryz.prog 76 a76 r76 1 = true := by decide +kernel
theorem ok77 : okF Tryz.prog 77 a77 r77 1 = true := by decide +kernel
theorem ok78 : okF Tryz.prog 78 a78 r78 1 = true := by decide +kernel
theorem ok83 : okF Tryz.prog 83 a83 r83 2 = true := by decide +kernel
theorem ok50 : okF Tryz.prog 50 a50 r50 2 = true := by decide +kernel
theorem ok84 : okF Tryz.prog 84 a84 r84 3 = true := by decide +kernel
theorem ok104 : okF Tryz.prog 104 a104 r104 2 = true := by decide +kernel
end Go.V
