/- A part of the proof layer, or functions of the given program in it: contracts and their proofs. -/
import Derived.Test.YtbcmjkfdeikkhaaGreatN2
import Derived.Test.YtbcmjkfdeikkhaaGreatProg
namespace Go.V
set_option linter.unusedSimpArgs false
set_option linter.unnecessarySimpa false
open Go.Proofs
/-- reeve/reevelaw19.Of -/
def a8 : AS :=
 .seq (
 .reg [
 ⟨some 12, .mv (.c (.nilp)), none⟩,
 ⟨some 13, .mv (.c (.nilp)), none⟩] [0, 1, 2, 3, 4, 5]) (
 .seq (
 .reg [
 ⟨some 23, .mv (.t 0), none⟩,
 ⟨some 24, .call 18 [none] [(.t 23)], none⟩,
 ⟨some 22, .mv (.t 24), none⟩,
 ⟨some 25, .ext (.t 22) 0, none⟩,
 ⟨some 26, .ext (.t 22) 1, none⟩,
 ⟨some 14, .mv (.t 25), none⟩,
 ⟨some 15, .mv (.t 26), none⟩] [0, 1, 2, 3, 4, 5, 14, 15]) (
 .seq (
 .reg [
 ⟨some 28, .mv (.t 0), none⟩,
 ⟨some 29, .call 22 [none] [(.t 28)], none⟩,
 ⟨some 27, .mv (.t 29), none⟩,
 ⟨some 30, .ext (.t 27) 0, none⟩,
 ⟨some 31, .ext (.t 27) 1, none⟩,
 ⟨some 16, .mv (.t 30), none⟩,
 ⟨some 17, .mv (.t 31), none⟩] [1, 2, 3, 4, 5, 14, 15, 16, 17]) (
 .seq (
 .seq (
 .reg [
 ⟨some 32, .mv (.t 15), none⟩,
 ⟨some 33, .bin .neq (.t 32) (.c (.int .i64 0)), none⟩,
 ⟨some 34, .mv (.t 33), none⟩,
 ⟨some 35, .mv (.t 17), (some (34, false))⟩,
 ⟨some 36, .bin .neq (.t 35) (.c (.int .i64 0)), (some (34, false))⟩,
 ⟨some 37, .pick (.t 34) (.c (.bool true)) (.t 36), none⟩,
 ⟨some 38, .mv (.t 37), none⟩,
 ⟨some 39, .mv (.t 14), (some (38, false))⟩,
 ⟨some 40, .eqn false .p (.t 39) (.c (.nilp)), (some (38, false))⟩,
 ⟨some 41, .pick (.t 38) (.c (.bool true)) (.t 40), none⟩] [1, 2, 3, 4, 5, 14, 16, 41]) (
 .cond (.t 41) (
 .seq (
 .reg [
 ⟨some 12, .mv (.c (.nilp)), none⟩,
 ⟨some 13, .mv (.c (.nilp)), none⟩] [12, 13]) (
 .lift 12 (some 4) 56 (.pair .str (.pair (.int .u64) (.pair (.int .i64) (.sl 8 (.int .i64))))) (
 .lift 13 (some 4) 56 (.pair .str (.pair (.int .u64) (.pair (.int .i64) (.sl 8 (.int .i64))))) (
 .lift 12 (some 4) 56 (.pair .str (.pair (.int .u64) (.pair (.int .i64) (.sl 8 (.int .i64))))) (
 .lift 13 (some 4) 56 (.pair .str (.pair (.int .u64) (.pair (.int .i64) (.sl 8 (.int .i64))))) (
 .ret)))))) (
 .skip))) (
 .seq (
 .seq (
 .reg [
 ⟨some 42, .mv (.t 1), none⟩,
 ⟨some 43, .len .s (.t 42), none⟩,
 ⟨some 44, .mv (.c (.int .i64 0)), none⟩] [1, 2, 3, 4, 5, 14, 16, 43, 44]) (
 .block 0 (
 .lift 14 (some 4) 56 (.pair .str (.pair (.int .u64) (.pair (.int .i64) (.sl 8 (.int .i64))))) (
 .lift 16 (some 4) 56 (.pair .str (.pair (.int .u64) (.pair (.int .i64) (.sl 8 (.int .i64))))) (
 .loop 1 [1, 2, 3, 4, 5, 14, 16, 43, 44] (
 .seq (
 .reg [
 ⟨some 45, .bin .lss (.t 44) (.t 43), none⟩] [1, 2, 3, 4, 5, 14, 16, 43, 44, 45]) (
 .seq (
 .cond (.t 45) (
 .skip) (
 .exit 0)) (
 .seq (
 .block 1 (
 .seq (
 .reg [
 ⟨some 46, .mv (.t 44), none⟩,
 ⟨some 18, .mv (.t 46), none⟩] [1, 2, 3, 4, 5, 14, 16, 18, 43, 44]) (
 .seq (
 .regD [
 ⟨some 47, .mv (.t 14), none⟩,
 ⟨some 48, .nck (.t 47), none⟩,
 ⟨some 49, .fa 1 (.t 48), none⟩,
 ⟨some 50, .ld (.t 49), none⟩,
 ⟨some 51, .mv (.t 1), none⟩,
 ⟨some 52, .mv (.t 18), none⟩,
 ⟨some 53, .ia 4 (.t 51) (.t 52), none⟩,
 ⟨some 54, .ldA 4 (.t 53), none⟩,
 ⟨some 55, .call 19 [none, none] [(.t 50), (.t 54)], none⟩] [.q 0, .q 1, .q 2, .q 3, .q 4, .q 5, .q 6, .q 7, .e 8 []] [1, 2, 3, 4, 5, 14, 16, 18, 43, 44]) (
 .regD [
 ⟨some 56, .mv (.t 16), none⟩,
 ⟨some 57, .nck (.t 56), none⟩,
 ⟨some 58, .fa 1 (.t 57), none⟩,
 ⟨some 59, .ld (.t 58), none⟩,
 ⟨some 60, .mv (.t 1), none⟩,
 ⟨some 61, .mv (.t 18), none⟩,
 ⟨some 62, .ia 4 (.t 60) (.t 61), none⟩,
 ⟨some 63, .ldA 4 (.t 62), none⟩,
 ⟨some 64, .call 23 [none, none] [(.t 59), (.t 63)], none⟩] [.q 0, .q 1, .q 2, .q 3, .q 4, .q 5, .q 6, .q 7, .e 8 []] [1, 2, 3, 4, 5, 14, 16, 43, 44])))) (
 .reg [
 ⟨some 65, .bin .add (.t 44) (.c (.int .i64 1)), none⟩,
 ⟨some 44, .mv (.t 65), none⟩] [1, 2, 3, 4, 5, 14, 16, 43, 44]))))))))) (
 .seq (
 .seq (
 .reg [
 ⟨some 66, .mv (.t 2), none⟩,
 ⟨some 67, .len .s (.t 66), none⟩,
 ⟨some 68, .mv (.c (.int .i64 0)), none⟩] [2, 3, 4, 5, 14, 16, 67, 68]) (
 .block 2 (
 .lift 14 (some 4) 56 (.pair .str (.pair (.int .u64) (.pair (.int .i64) (.sl 8 (.int .i64))))) (
 .lift 16 (some 4) 56 (.pair .str (.pair (.int .u64) (.pair (.int .i64) (.sl 8 (.int .i64))))) (
 .loop 2 [2, 3, 4, 5, 14, 16, 67, 68] (
 .seq (
 .reg [
 ⟨some 69, .bin .lss (.t 68) (.t 67), none⟩] [2, 3, 4, 5, 14, 16, 67, 68, 69]) (
 .seq (
 .cond (.t 69) (
 .skip) (
 .exit 2)) (
 .seq (
 .block 3 (
 .seq (
 .reg [
 ⟨some 70, .mv (.t 68), none⟩,
 ⟨some 19, .mv (.t 70), none⟩] [2, 3, 4, 5, 14, 16, 19, 67, 68]) (
 .seq (
 .regD [
 ⟨some 71, .mv (.t 14), none⟩,
 ⟨some 72, .nck (.t 71), none⟩,
 ⟨some 73, .fa 2 (.t 72), none⟩,
 ⟨some 74, .ld (.t 73), none⟩,
 ⟨some 75, .mv (.t 2), none⟩,
 ⟨some 76, .mv (.t 19), none⟩,
 ⟨some 77, .ia 1 (.t 75) (.t 76), none⟩,
 ⟨some 78, .ld (.t 77), none⟩,
 ⟨some 79, .mv (.t 19), none⟩,
 ⟨some 80, .mv (.t 19), none⟩,
 ⟨some 81, .bsl 8 (.int .i64) 1 [(0, (.t 80))], none⟩,
 ⟨some 82, .call 24 [none, none, none, (some (8, (.int .i64)))] [(.t 74), (.t 78), (.t 79), (.t 81)], none⟩] [.q 0, .q 1, .q 2, .q 3, .q 4, .q 5, .q 6, .q 7, .q 8, .q 9, .e 10 [0, 1, 2, 3, 4, 5, 6, 7, 8], .e 11 []] [2, 3, 4, 5, 14, 16, 19, 67, 68]) (
 .regD [
 ⟨some 83, .mv (.t 16), none⟩,
 ⟨some 84, .nck (.t 83), none⟩,
 ⟨some 85, .fa 2 (.t 84), none⟩,
 ⟨some 86, .ld (.t 85), none⟩,
 ⟨some 87, .mv (.t 2), none⟩,
 ⟨some 88, .mv (.t 19), none⟩,
 ⟨some 89, .ia 1 (.t 87) (.t 88), none⟩,
 ⟨some 90, .ld (.t 89), none⟩,
 ⟨some 91, .mv (.t 19), none⟩,
 ⟨some 92, .mv (.t 19), none⟩,
 ⟨some 93, .bsl 8 (.int .i64) 1 [(0, (.t 92))], none⟩,
 ⟨some 94, .call 25 [none, none, none, (some (8, (.int .i64)))] [(.t 86), (.t 90), (.t 91), (.t 93)], none⟩] [.q 0, .q 1, .q 2, .q 3, .q 4, .q 5, .q 6, .q 7, .q 8, .q 9, .e 10 [0, 1, 2, 3, 4, 5, 6, 7, 8], .e 11 []] [2, 3, 4, 5, 14, 16, 67, 68])))) (
 .reg [
 ⟨some 95, .bin .add (.t 68) (.c (.int .i64 1)), none⟩,
 ⟨some 68, .mv (.t 95), none⟩] [2, 3, 4, 5, 14, 16, 67, 68]))))))))) (
 .seq (
 .reg [
 ⟨some 20, .mv (.c (.nils)), none⟩] [3, 4, 5, 14, 16, 20]) (
 .seq (
 .seq (
 .reg [
 ⟨some 96, .mv (.t 3), none⟩,
 ⟨some 97, .len .s (.t 96), none⟩,
 ⟨some 98, .mv (.c (.int .i64 0)), none⟩] [3, 4, 5, 14, 16, 20, 97, 98]) (
 .block 4 (
 .lift 20 none 16 (.pair (.int .i64) (.int .i64)) (
 .lift 14 (some 4) 56 (.pair .str (.pair (.int .u64) (.pair (.int .i64) (.sl 8 (.int .i64))))) (
 .lift 16 (some 4) 56 (.pair .str (.pair (.int .u64) (.pair (.int .i64) (.sl 8 (.int .i64))))) (
 .loop 3 [3, 4, 5, 14, 16, 20, 97, 98] (
 .seq (
 .reg [
 ⟨some 99, .bin .lss (.t 98) (.t 97), none⟩] [3, 4, 5, 14, 16, 20, 97, 98, 99]) (
 .seq (
 .cond (.t 99) (
 .skip) (
 .exit 4)) (
 .seq (
 .block 5 (
 .seq (
 .reg [
 ⟨some 100, .mv (.t 98), none⟩,
 ⟨some 21, .mv (.t 100), none⟩] [3, 4, 5, 14, 16, 20, 21, 97, 98]) (
 .reg [
 ⟨some 101, .mv (.t 20), none⟩,
 ⟨some 102, .mv (.t 3), none⟩,
 ⟨some 103, .mv (.t 21), none⟩,
 ⟨some 104, .ia 2 (.t 102) (.t 103), none⟩,
 ⟨some 105, .ldA 2 (.t 104), none⟩,
 ⟨some 106, .bsl 16 (.pair (.int .i64) (.int .i64)) 1 [(0, (.t 105))], none⟩,
 ⟨some 107, .app 16 (.pair (.int .i64) (.int .i64)) (.t 101) (.t 106), none⟩,
 ⟨some 20, .mv (.t 107), none⟩] [3, 4, 5, 14, 16, 20, 97, 98]))) (
 .reg [
 ⟨some 108, .bin .add (.t 98) (.c (.int .i64 1)), none⟩,
 ⟨some 98, .mv (.t 108), none⟩] [3, 4, 5, 14, 16, 20, 97, 98])))))))))) (
 .seq (
 .reg [
 ⟨some 109, .mv (.t 14), none⟩,
 ⟨some 110, .nck (.t 109), none⟩,
 ⟨some 111, .fa 0 (.t 110), none⟩,
 ⟨some 112, .ld (.t 111), none⟩,
 ⟨some 113, .mv (.t 20), none⟩,
 ⟨some 114, .call 26 [none, (some (16, (.pair (.int .i64) (.int .i64))))] [(.t 112), (.t 113)], none⟩] [3, 4, 5, 14, 16]) (
 .seq (
 .reg [
 ⟨some 115, .mv (.t 16), none⟩,
 ⟨some 116, .nck (.t 115), none⟩,
 ⟨some 117, .fa 0 (.t 116), none⟩,
 ⟨some 118, .ld (.t 117), none⟩,
 ⟨some 119, .mv (.t 3), none⟩,
 ⟨some 120, .call 27 [none, (some (16, (.pair (.int .i64) (.int .i64))))] [(.t 118), (.t 119)], none⟩] [4, 5, 14, 16]) (
 .seq (
 .reg [
 ⟨some 121, .mv (.t 14), none⟩,
 ⟨some 122, .mv (.t 16), none⟩,
 ⟨some 123, .mv (.t 4), none⟩,
 ⟨some 124, .mv (.t 4), none⟩,
 ⟨some 125, .nck (.t 121), none⟩,
 ⟨some 126, .fa 3 (.t 125), none⟩,
 ⟨none, .st 1 (.t 126) (.t 123), none⟩,
 ⟨some 127, .nck (.t 122), none⟩,
 ⟨some 128, .fa 3 (.t 127), none⟩,
 ⟨none, .st 1 (.t 128) (.t 124), none⟩] [5, 14, 16]) (
 .seq (
 .reg [
 ⟨some 129, .mv (.t 14), none⟩,
 ⟨some 130, .mv (.t 16), none⟩,
 ⟨some 131, .mv (.t 5), none⟩,
 ⟨some 132, .call 28 [(some (56, (.pair .str (.pair (.int .u64) (.pair (.int .i64) (.sl 8 (.int .i64)))))))] [(.t 131)], none⟩,
 ⟨some 133, .mv (.t 5), none⟩,
 ⟨some 134, .call 28 [(some (56, (.pair .str (.pair (.int .u64) (.pair (.int .i64) (.sl 8 (.int .i64)))))))] [(.t 133)], none⟩,
 ⟨some 135, .nck (.t 129), none⟩,
 ⟨some 136, .fa 4 (.t 135), none⟩,
 ⟨none, .st 1 (.t 136) (.t 132), none⟩,
 ⟨some 137, .nck (.t 130), none⟩,
 ⟨some 138, .fa 4 (.t 137), none⟩,
 ⟨none, .st 1 (.t 138) (.t 134), none⟩] [14, 16]) (
 .seq (
 .reg [
 ⟨some 139, .mv (.t 14), none⟩,
 ⟨some 140, .mv (.t 16), none⟩,
 ⟨some 12, .mv (.t 139), none⟩,
 ⟨some 13, .mv (.t 140), none⟩] [12, 13]) (
 .lift 12 (some 4) 56 (.pair .str (.pair (.int .u64) (.pair (.int .i64) (.sl 8 (.int .i64))))) (
 .lift 13 (some 4) 56 (.pair .str (.pair (.int .u64) (.pair (.int .i64) (.sl 8 (.int .i64))))) (
 .lift 12 (some 4) 56 (.pair .str (.pair (.int .u64) (.pair (.int .i64) (.sl 8 (.int .i64))))) (
 .lift 13 (some 4) 56 (.pair .str (.pair (.int .u64) (.pair (.int .i64) (.sl 8 (.int .i64))))) (
 .ret)))))))))))))))))
def r8 : List RT := [.t 12, .t 13, .f 12, .f 13]

/-- reeve/actor.New -/
def a18 : AS :=
 .seq (
 .reg [
 ⟨some 2, .mv (.c (.nilp)), none⟩,
 ⟨some 3, .mv (.c (.int .i64 0)), none⟩] [0]) (
 .seq (
 .reg [
 ⟨some 7, .mv (.t 0), none⟩,
 ⟨some 8, .call 71 [none] [(.t 7)], none⟩,
 ⟨some 6, .mv (.t 8), none⟩,
 ⟨some 9, .ext (.t 6) 0, none⟩,
 ⟨some 10, .ext (.t 6) 1, none⟩,
 ⟨some 4, .mv (.t 9), none⟩,
 ⟨some 5, .mv (.t 10), none⟩] [4, 5]) (
 .seq (
 .seq (
 .reg [
 ⟨some 11, .mv (.t 5), none⟩,
 ⟨some 12, .bin .neq (.t 11) (.c (.int .i64 0)), none⟩] [4, 5, 12]) (
 .cond (.t 12) (
 .seq (
 .reg [
 ⟨some 13, .mv (.t 5), none⟩,
 ⟨some 2, .mv (.c (.nilp)), none⟩,
 ⟨some 3, .mv (.t 13), none⟩] [2, 3]) (
 .lift 2 (some 4) 56 (.pair .str (.pair (.int .u64) (.pair (.int .i64) (.sl 8 (.int .i64))))) (
 .lift 2 (some 4) 56 (.pair .str (.pair (.int .u64) (.pair (.int .i64) (.sl 8 (.int .i64))))) (
 .ret)))) (
 .skip))) (
 .seq (
 .reg [
 ⟨some 14, .call 72 [] [], none⟩,
 ⟨some 15, .call 73 [] [], none⟩,
 ⟨some 16, .mv (.t 4), none⟩,
 ⟨some 17, .bld [.nilp, .nilp, .nilp, .int .i64 0, .nils] [(0, 1, (.t 14)), (1, 1, (.t 15)), (2, 1, (.t 16))], none⟩,
 ⟨some 18, .box (.t 17), none⟩,
 ⟨some 2, .mv (.t 18), none⟩,
 ⟨some 3, .mv (.c (.int .i64 0)), none⟩] [2, 3]) (
 .lift 2 (some 4) 56 (.pair .str (.pair (.int .u64) (.pair (.int .i64) (.sl 8 (.int .i64))))) (
 .lift 2 (some 4) 56 (.pair .str (.pair (.int .u64) (.pair (.int .i64) (.sl 8 (.int .i64))))) (
 .ret))))))
def r18 : List RT := [.t 2, .t 3, .f 2]

/-- (*reeve/actor.Actor).Encode -/
def a16 : AS :=
 .seq (
 .reg [
 ⟨some 2, .mv (.c (.nils)), none⟩,
 ⟨some 3, .mv (.c (.int .i64 0)), none⟩] [0]) (
 .seq (
 .seq (
 .reg [
 ⟨some 9, .mv (.t 0), none⟩,
 ⟨some 10, .call 56 [none] [(.t 9)], none⟩,
 ⟨some 11, .not (.t 10), none⟩] [0, 11]) (
 .cond (.t 11) (
 .seq (
 .reg [
 ⟨some 2, .mv (.c (.nils)), none⟩,
 ⟨some 3, .mv (.c (.int .i64 1)), none⟩] [2, 3]) (
 .lift 2 none 1 .byte (
 .ret))) (
 .skip))) (
 .seq (
 .reg [
 ⟨some 13, .mv (.t 0), none⟩,
 ⟨some 14, .nck (.t 13), none⟩,
 ⟨some 15, .fa 4 (.t 14), none⟩,
 ⟨some 16, .ld (.t 15), none⟩,
 ⟨some 17, .call 57 [(some (56, (.pair .str (.pair (.int .u64) (.pair (.int .i64) (.sl 8 (.int .i64)))))))] [(.t 16)], none⟩,
 ⟨some 12, .mv (.t 17), none⟩,
 ⟨some 18, .ext (.t 12) 0, none⟩,
 ⟨some 19, .ext (.t 12) 1, none⟩,
 ⟨some 4, .mv (.t 18), none⟩,
 ⟨some 5, .mv (.t 19), none⟩] [0, 4]) (
 .seq (
 .reg [
 ⟨some 20, .call 58 [] [], none⟩,
 ⟨some 6, .mv (.t 20), none⟩] [0, 4, 6]) (
 .seq (
 .reg [
 ⟨some 21, .mv (.t 6), none⟩,
 ⟨some 22, .mv (.t 0), none⟩,
 ⟨some 23, .nck (.t 22), none⟩,
 ⟨some 24, .fa 3 (.t 23), none⟩,
 ⟨some 25, .ld (.t 24), none⟩,
 ⟨some 26, .cv .u64 (.t 25), none⟩,
 ⟨some 27, .call 59 [none, none] [(.t 21), (.t 26)], none⟩] [0, 4, 6]) (
 .seq (
 .seq (
 .regD [
 ⟨some 28, .mv (.t 0), none⟩,
 ⟨some 29, .nck (.t 28), none⟩,
 ⟨some 30, .fa 0 (.t 29), none⟩,
 ⟨some 31, .ld (.t 30), none⟩,
 ⟨some 32, .call 60 [none] [(.t 31)], none⟩,
 ⟨some 33, .mv (.t 0), none⟩,
 ⟨some 34, .nck (.t 33), none⟩,
 ⟨some 35, .fa 1 (.t 34), none⟩,
 ⟨some 36, .ld (.t 35), none⟩,
 ⟨some 37, .call 61 [none] [(.t 36)], none⟩,
 ⟨some 38, .mv (.t 0), none⟩,
 ⟨some 39, .nck (.t 38), none⟩,
 ⟨some 40, .fa 2 (.t 39), none⟩,
 ⟨some 41, .ld (.t 40), none⟩,
 ⟨some 42, .call 34 [none] [(.t 41)], none⟩,
 ⟨some 43, .mv (.t 4), none⟩,
 ⟨some 44, .bsl 24 (.sl 1 .byte) 4 [(0, (.t 32)), (1, (.t 37)), (2, (.t 42)), (3, (.t 43))], none⟩,
 ⟨some 45, .len .s (.t 44), none⟩,
 ⟨some 46, .mv (.c (.int .i64 0)), none⟩] [.q 0, .q 1, .q 2, .q 3, .q 5, .q 6, .q 7, .q 8, .q 10, .q 11, .q 12, .q 13, .q 15, .q 18, .e 4 [5, 6, 7, 8, 10, 11, 12, 13, 15, 18], .e 9 [10, 11, 12, 13, 15, 18], .e 14 [15, 18], .e 16 [18], .q 17] [6, 44, 45, 46]) (
 .block 0 (
 .lift 6 (some 0) 1 .byte (
 .loop 1 [6, 44, 45, 46] (
 .seq (
 .reg [
 ⟨some 47, .bin .lss (.t 46) (.t 45), none⟩] [6, 44, 45, 46, 47]) (
 .seq (
 .cond (.t 47) (
 .skip) (
 .exit 0)) (
 .seq (
 .block 1 (
 .seq (
 .reg [
 ⟨some 48, .ia 1 (.t 44) (.t 46), none⟩,
 ⟨some 49, .ld (.t 48), none⟩,
 ⟨some 8, .mv (.t 49), none⟩] [6, 8, 44, 45, 46]) (
 .reg [
 ⟨some 50, .mv (.t 6), none⟩,
 ⟨some 51, .mv (.t 8), none⟩,
 ⟨some 52, .b2s (.t 51), none⟩,
 ⟨some 53, .call 62 [none, none] [(.t 50), (.t 52)], none⟩] [6, 44, 45, 46]))) (
 .reg [
 ⟨some 54, .bin .add (.t 46) (.c (.int .i64 1)), none⟩,
 ⟨some 46, .mv (.t 54), none⟩] [6, 44, 45, 46])))))))) (
 .seq (
 .reg [
 ⟨some 55, .mv (.t 6), none⟩,
 ⟨some 56, .call 63 [none] [(.t 55)], none⟩,
 ⟨some 2, .mv (.t 56), none⟩,
 ⟨some 3, .mv (.c (.int .i64 0)), none⟩] [2, 3]) (
 .lift 2 none 1 .byte (
 .ret))))))))
def r16 : List RT := [.t 2, .t 3]

/-- (*reeve/actor.Actor).Key -/
def a44 : AS :=
 .seq (
 .reg [
 ⟨some 2, .mv (.c (.str ByteArray.empty)), none⟩] [0]) (
 .seq (
 .seq (
 .reg [
 ⟨some 3, .mv (.t 0), none⟩,
 ⟨some 4, .eqn false .p (.t 3) (.c (.nilp)), none⟩] [0, 4]) (
 .cond (.t 4) (
 .seq (
 .reg [
 ⟨some 2, .mv (.c (.str ByteArray.empty)), none⟩] [2]) (
 .ret)) (
 .skip))) (
 .seq (
 .reg [
 ⟨some 5, .mv (.t 0), none⟩,
 ⟨some 6, .nck (.t 5), none⟩,
 ⟨some 7, .fa 2 (.t 6), none⟩,
 ⟨some 8, .ld (.t 7), none⟩,
 ⟨some 9, .call 102 [none] [(.t 8)], none⟩,
 ⟨some 2, .mv (.t 9), none⟩] [2]) (
 .ret)))
def r44 : List RT := [.t 2]

/-- reeve/inbox.New -/
def a73 : AS :=
 .seq (
 .reg [
 ⟨some 0, .mv (.c (.nilp)), none⟩] []) (
 .seq (
 .reg [
 ⟨some 1, .bld [.nils] [], none⟩,
 ⟨some 2, .box (.t 1), none⟩,
 ⟨some 0, .mv (.t 2), none⟩] [0]) (
 .lift 0 (some 0) 56 (.pair .str (.pair (.int .u64) (.pair (.int .i64) (.sl 8 (.int .i64))))) (
 .ret)))
def r73 : List RT := [.t 0]

/-- (*reeve/inbox.Inbox).Push -/
def a19 : AS :=
 .seq (
 .reg [
 ⟨some 3, .box (.t 1), none⟩,
 ⟨some 4, .mv (.c (.int .i64 0)), none⟩] [0, 3]) (
 .seq (
 .block 0 (
 .seq (
 .reg [
 ⟨some 6, .mv (.t 0), none⟩,
 ⟨some 7, .eqn false .p (.t 6) (.c (.nilp)), none⟩,
 ⟨some 8, .mv (.t 7), none⟩,
 ⟨some 9, .ldA 4 (.t 3), (some (8, false))⟩,
 ⟨some 10, .call 74 [none] [(.t 9)], (some (8, false))⟩,
 ⟨some 11, .not (.t 10), (some (8, false))⟩,
 ⟨some 12, .pick (.t 8) (.c (.bool true)) (.t 11), none⟩,
 ⟨some 5, .mv (.t 12), none⟩] [0, 3, 5]) (
 .cond (.t 5) (
 .seq (
 .reg [
 ⟨some 4, .mv (.c (.int .i64 1)), none⟩] [4]) (
 .ret)) (
 .seq (
 .reg [
 ⟨some 14, .mv (.t 0), none⟩,
 ⟨some 15, .nck (.t 14), none⟩,
 ⟨some 16, .fa 0 (.t 15), none⟩,
 ⟨some 17, .ld (.t 16), none⟩,
 ⟨some 18, .len .s (.t 17), none⟩,
 ⟨some 19, .bin .geq (.t 18) (.c (.int .i64 8)), none⟩,
 ⟨some 13, .mv (.t 19), none⟩] [0, 3, 13]) (
 .cond (.t 13) (
 .seq (
 .reg [
 ⟨some 4, .mv (.c (.int .i64 7)), none⟩] [4]) (
 .ret)) (
 .skip)))))) (
 .seq (
 .regD [
 ⟨some 20, .mv (.t 0), none⟩,
 ⟨some 21, .mv (.t 0), none⟩,
 ⟨some 22, .nck (.t 21), none⟩,
 ⟨some 23, .fa 0 (.t 22), none⟩,
 ⟨some 24, .ld (.t 23), none⟩,
 ⟨some 25, .ldA 4 (.t 3), none⟩,
 ⟨some 26, .call 75 [none] [(.t 25)], none⟩,
 ⟨some 27, .bsl 56 (.pair .str (.pair (.int .u64) (.pair (.int .i64) (.sl 8 (.int .i64))))) 1 [(0, (.t 26))], none⟩,
 ⟨some 28, .app 56 (.pair .str (.pair (.int .u64) (.pair (.int .i64) (.sl 8 (.int .i64))))) (.t 24) (.t 27), none⟩,
 ⟨some 29, .nck (.t 20), none⟩,
 ⟨some 30, .fa 0 (.t 29), none⟩,
 ⟨none, .st 1 (.t 30) (.t 28), none⟩] [.q 0, .q 1, .q 2, .q 3, .q 4, .q 5, .e 6 [0, 1, 2, 3, 4], .e 7 [0, 1, 2, 3, 4], .e 8 [0], .q 9, .q 10, .e 11 []] []) (
 .seq (
 .reg [
 ⟨some 4, .mv (.c (.int .i64 0)), none⟩] [4]) (
 .ret))))
def r19 : List RT := [.t 4]

/-- (*reeve/inbox.Inbox).Len -/
def a11 : AS :=
 .seq (
 .reg [
 ⟨some 2, .mv (.c (.int .i64 0)), none⟩] [0]) (
 .seq (
 .seq (
 .reg [
 ⟨some 3, .mv (.t 0), none⟩,
 ⟨some 4, .eqn false .p (.t 3) (.c (.nilp)), none⟩] [0, 4]) (
 .cond (.t 4) (
 .seq (
 .reg [
 ⟨some 2, .mv (.c (.int .i64 0)), none⟩] [2]) (
 .ret)) (
 .skip))) (
 .seq (
 .reg [
 ⟨some 5, .mv (.t 0), none⟩,
 ⟨some 6, .nck (.t 5), none⟩,
 ⟨some 7, .fa 0 (.t 6), none⟩,
 ⟨some 8, .ld (.t 7), none⟩,
 ⟨some 9, .len .s (.t 8), none⟩,
 ⟨some 2, .mv (.t 9), none⟩] [2]) (
 .ret)))
def r11 : List RT := [.t 2]

/-- reeve/reeveref20.New -/
def a22 : AS :=
 .seq (
 .reg [
 ⟨some 2, .mv (.c (.nilp)), none⟩,
 ⟨some 3, .mv (.c (.int .i64 0)), none⟩] [0]) (
 .seq (
 .reg [
 ⟨some 7, .mv (.t 0), none⟩,
 ⟨some 8, .call 76 [none] [(.t 7)], none⟩,
 ⟨some 6, .mv (.t 8), none⟩,
 ⟨some 9, .ext (.t 6) 0, none⟩,
 ⟨some 10, .ext (.t 6) 1, none⟩,
 ⟨some 4, .mv (.t 9), none⟩,
 ⟨some 5, .mv (.t 10), none⟩] [4, 5]) (
 .seq (
 .seq (
 .reg [
 ⟨some 11, .mv (.t 5), none⟩,
 ⟨some 12, .bin .neq (.t 11) (.c (.int .i64 0)), none⟩] [4, 5, 12]) (
 .cond (.t 12) (
 .seq (
 .reg [
 ⟨some 13, .mv (.t 5), none⟩,
 ⟨some 2, .mv (.c (.nilp)), none⟩,
 ⟨some 3, .mv (.t 13), none⟩] [2, 3]) (
 .lift 2 (some 4) 56 (.pair .str (.pair (.int .u64) (.pair (.int .i64) (.sl 8 (.int .i64))))) (
 .lift 2 (some 4) 56 (.pair .str (.pair (.int .u64) (.pair (.int .i64) (.sl 8 (.int .i64))))) (
 .ret)))) (
 .skip))) (
 .seq (
 .reg [
 ⟨some 14, .bld [.arr 8 (.int .i64) (List.replicate 8 (Ty.dflt (.int .i64))), .nils, .int .u64 0] [], none⟩,
 ⟨some 15, .box (.t 14), none⟩,
 ⟨some 16, .bld [.nils] [], none⟩,
 ⟨some 17, .box (.t 16), none⟩,
 ⟨some 18, .mv (.t 4), none⟩,
 ⟨some 19, .bld [.nilp, .nilp, .nilp, .int .i64 0, .nils] [(0, 1, (.t 15)), (1, 1, (.t 17)), (2, 1, (.t 18))], none⟩,
 ⟨some 20, .box (.t 19), none⟩,
 ⟨some 2, .mv (.t 20), none⟩,
 ⟨some 3, .mv (.c (.int .i64 0)), none⟩] [2, 3, 15, 17]) (
 .lift 15 (some 8) 16 (.pair (.int .i64) (.int .i64)) (
 .lift 17 (some 0) 56 (.pair .str (.pair (.int .u64) (.pair (.int .i64) (.sl 8 (.int .i64))))) (
 .lift 2 (some 4) 56 (.pair .str (.pair (.int .u64) (.pair (.int .i64) (.sl 8 (.int .i64))))) (
 .lift 2 (some 4) 56 (.pair .str (.pair (.int .u64) (.pair (.int .i64) (.sl 8 (.int .i64))))) (
 .ret))))))))
def r22 : List RT := [.t 2, .t 3, .f 2]

/-- (*reeve/reeveref11.Inbox).Push -/
def a23 : AS :=
 .seq (
 .reg [
 ⟨some 3, .box (.t 1), none⟩,
 ⟨some 4, .mv (.c (.int .i64 0)), none⟩] [0, 3]) (
 .seq (
 .seq (
 .reg [
 ⟨some 5, .ldA 4 (.t 3), none⟩,
 ⟨some 6, .call 77 [none] [(.t 5)], none⟩,
 ⟨some 7, .not (.t 6), none⟩] [0, 3, 7]) (
 .cond (.t 7) (
 .seq (
 .reg [
 ⟨some 4, .mv (.c (.int .i64 1)), none⟩] [4]) (
 .ret)) (
 .skip))) (
 .seq (
 .seq (
 .reg [
 ⟨some 8, .mv (.t 0), none⟩,
 ⟨some 9, .nck (.t 8), none⟩,
 ⟨some 10, .fa 0 (.t 9), none⟩,
 ⟨some 11, .ld (.t 10), none⟩,
 ⟨some 12, .len .s (.t 11), none⟩,
 ⟨some 13, .bin .geq (.t 12) (.c (.int .i64 8)), none⟩] [0, 3, 13]) (
 .cond (.t 13) (
 .seq (
 .reg [
 ⟨some 4, .mv (.c (.int .i64 7)), none⟩] [4]) (
 .ret)) (
 .skip))) (
 .seq (
 .regD [
 ⟨some 14, .mv (.t 0), none⟩,
 ⟨some 15, .mv (.t 0), none⟩,
 ⟨some 16, .nck (.t 15), none⟩,
 ⟨some 17, .fa 0 (.t 16), none⟩,
 ⟨some 18, .ld (.t 17), none⟩,
 ⟨some 19, .ldA 4 (.t 3), none⟩,
 ⟨some 20, .call 78 [none] [(.t 19)], none⟩,
 ⟨some 21, .bsl 56 (.pair .str (.pair (.int .u64) (.pair (.int .i64) (.sl 8 (.int .i64))))) 1 [(0, (.t 20))], none⟩,
 ⟨some 22, .app 56 (.pair .str (.pair (.int .u64) (.pair (.int .i64) (.sl 8 (.int .i64))))) (.t 18) (.t 21), none⟩,
 ⟨some 23, .nck (.t 14), none⟩,
 ⟨some 24, .fa 0 (.t 23), none⟩,
 ⟨none, .st 1 (.t 24) (.t 22), none⟩] [.q 0, .q 1, .q 2, .q 3, .q 4, .q 5, .e 6 [0, 1, 2, 3, 4], .e 7 [0, 1, 2, 3, 4], .e 8 [0], .q 9, .q 10, .e 11 []] []) (
 .seq (
 .reg [
 ⟨some 4, .mv (.c (.int .i64 0)), none⟩] [4]) (
 .ret)))))
def r23 : List RT := [.t 4]

/-- (*reeve/journal.Journal).Add -/
def a26 : AS :=
 .seq (
 .reg [
 ⟨some 4, .mv (.c (.int .i64 0)), none⟩] [0, 1]) (
 .seq (
 .seq (
 .reg [
 ⟨some 5, .mv (.t 0), none⟩,
 ⟨some 6, .eqn false .p (.t 5) (.c (.nilp)), none⟩] [0, 1, 6]) (
 .cond (.t 6) (
 .seq (
 .reg [
 ⟨some 4, .mv (.c (.int .i64 1)), none⟩] [4]) (
 .ret)) (
 .skip))) (
 .seq (
 .seq (
 .reg [
 ⟨some 7, .mv (.t 1), none⟩,
 ⟨some 8, .call 85 [none, none] [(.t 7), (.f 86)], none⟩] [0, 1, 8]) (
 .cond (.t 8) (
 .seq (
 .reg [
 ⟨some 4, .mv (.c (.int .i64 3)), none⟩] [4]) (
 .ret)) (
 .skip))) (
 .seq (
 .reg [
 ⟨some 9, .mv (.t 0), none⟩,
 ⟨some 10, .mv (.t 0), none⟩,
 ⟨some 11, .nck (.t 10), none⟩,
 ⟨some 12, .fa 8 (.t 11), none⟩,
 ⟨some 13, .ld (.t 12), none⟩,
 ⟨some 14, .mv (.t 1), none⟩,
 ⟨some 15, .app 16 (.pair (.int .i64) (.int .i64)) (.t 13) (.t 14), none⟩,
 ⟨some 16, .nck (.t 9), none⟩,
 ⟨some 17, .fa 8 (.t 16), none⟩,
 ⟨none, .st 1 (.t 17) (.t 15), none⟩] [0, 1]) (
 .seq (
 .reg [
 ⟨some 18, .mv (.t 0), none⟩,
 ⟨some 19, .nck (.t 18), none⟩,
 ⟨some 20, .fa 9 (.t 19), none⟩,
 ⟨some 21, .ld (.t 20), none⟩,
 ⟨some 22, .mv (.t 1), none⟩,
 ⟨some 23, .len .s (.t 22), none⟩,
 ⟨some 24, .cv .u64 (.t 23), none⟩,
 ⟨some 25, .bin .add (.t 21) (.t 24), none⟩,
 ⟨some 26, .nck (.t 18), none⟩,
 ⟨some 27, .fa 9 (.t 26), none⟩,
 ⟨none, .st 1 (.t 27) (.t 25), none⟩] [0]) (
 .seq (
 .reg [
 ⟨some 28, .mv (.t 0), none⟩,
 ⟨some 29, .mv (.t 0), none⟩,
 ⟨some 30, .nck (.t 29), none⟩,
 ⟨some 31, .fa 8 (.t 30), none⟩,
 ⟨some 32, .ld (.t 31), none⟩,
 ⟨some 33, .len .s (.t 32), none⟩,
 ⟨some 34, .bin .sub (.t 33) (.c (.int .i64 16)), none⟩,
 ⟨some 35, .mm true (.t 34) (.c (.int .i64 0)), none⟩,
 ⟨some 36, .call 87 [none, none] [(.t 28), (.t 35)], none⟩] []) (
 .seq (
 .reg [
 ⟨some 4, .mv (.c (.int .i64 0)), none⟩] [4]) (
 .ret)))))))
def r26 : List RT := [.t 4]

/-- (*reeve/reeveref16.Journal).Add -/
def a27 : AS :=
 .seq (
 .reg [
 ⟨some 4, .mv (.c (.int .i64 0)), none⟩] [0, 1]) (
 .seq (
 .seq (
 .reg [
 ⟨some 7, .mv (.t 1), none⟩,
 ⟨some 8, .len .s (.t 7), none⟩,
 ⟨some 9, .mv (.c (.int .i64 0)), none⟩] [0, 1, 8, 9]) (
 .block 0 (
 .lift 0 (some 8) 16 (.pair (.int .i64) (.int .i64)) (
 .loop 1 [0, 1, 8, 9] (
 .seq (
 .reg [
 ⟨some 10, .bin .lss (.t 9) (.t 8), none⟩] [0, 1, 8, 9, 10]) (
 .seq (
 .cond (.t 10) (
 .skip) (
 .exit 0)) (
 .seq (
 .block 1 (
 .seq (
 .reg [
 ⟨some 11, .mv (.t 9), none⟩,
 ⟨some 5, .mv (.t 11), none⟩] [0, 1, 5, 8, 9]) (
 .seq (
 .reg [
 ⟨some 12, .mv (.t 1), none⟩,
 ⟨some 13, .mv (.t 5), none⟩,
 ⟨some 14, .ia 2 (.t 12) (.t 13), none⟩,
 ⟨some 15, .fa 0 (.t 14), none⟩,
 ⟨some 16, .ld (.t 15), none⟩,
 ⟨some 17, .bin .lss (.t 16) (.c (.int .i64 0)), none⟩,
 ⟨some 18, .mv (.t 17), none⟩,
 ⟨some 19, .mv (.t 1), (some (18, false))⟩,
 ⟨some 20, .mv (.t 5), (some (18, false))⟩,
 ⟨some 21, .ia 2 (.t 19) (.t 20), (some (18, false))⟩,
 ⟨some 22, .fa 0 (.t 21), (some (18, false))⟩,
 ⟨some 23, .ld (.t 22), (some (18, false))⟩,
 ⟨some 24, .bin .gtr (.t 23) (.c (.int .i64 7)), (some (18, false))⟩,
 ⟨some 25, .pick (.t 18) (.c (.bool true)) (.t 24), none⟩] [0, 1, 8, 9, 25]) (
 .cond (.t 25) (
 .seq (
 .reg [
 ⟨some 4, .mv (.c (.int .i64 3)), none⟩] [4]) (
 .ret)) (
 .skip))))) (
 .reg [
 ⟨some 26, .bin .add (.t 9) (.c (.int .i64 1)), none⟩,
 ⟨some 9, .mv (.t 26), none⟩] [0, 1, 8, 9])))))))) (
 .seq (
 .seq (
 .reg [
 ⟨some 27, .mv (.t 1), none⟩,
 ⟨some 28, .len .s (.t 27), none⟩,
 ⟨some 29, .mv (.c (.int .i64 0)), none⟩] [0, 1, 28, 29]) (
 .block 2 (
 .lift 0 (some 8) 16 (.pair (.int .i64) (.int .i64)) (
 .swp 1 0 8 (
 .loop 2 [0, 1, 28, 29] (
 .seq (
 .reg [
 ⟨some 30, .bin .lss (.t 29) (.t 28), none⟩] [0, 1, 28, 29, 30]) (
 .seq (
 .cond (.t 30) (
 .skip) (
 .exit 2)) (
 .seq (
 .block 3 (
 .seq (
 .reg [
 ⟨some 31, .mv (.t 29), none⟩,
 ⟨some 6, .mv (.t 31), none⟩] [0, 1, 6, 28, 29]) (
 .seq (
 .regD [
 ⟨some 32, .mv (.t 0), none⟩,
 ⟨some 33, .mv (.t 0), none⟩,
 ⟨some 34, .nck (.t 33), none⟩,
 ⟨some 35, .fa 8 (.t 34), none⟩,
 ⟨some 36, .ld (.t 35), none⟩,
 ⟨some 37, .mv (.t 1), none⟩,
 ⟨some 38, .mv (.t 6), none⟩,
 ⟨some 39, .ia 2 (.t 37) (.t 38), none⟩,
 ⟨some 40, .ldA 2 (.t 39), none⟩,
 ⟨some 41, .bsl 16 (.pair (.int .i64) (.int .i64)) 1 [(0, (.t 40))], none⟩,
 ⟨some 42, .app 16 (.pair (.int .i64) (.int .i64)) (.t 36) (.t 41), none⟩,
 ⟨some 43, .nck (.t 32), none⟩,
 ⟨some 44, .fa 8 (.t 43), none⟩,
 ⟨none, .st 1 (.t 44) (.t 42), none⟩] [.q 0, .q 1, .q 2, .q 3, .q 4, .q 5, .q 6, .q 7, .q 8, .e 9 [0, 1, 2, 3, 4], .e 10 [0], .q 11, .q 12, .e 13 []] [0, 1, 28, 29]) (
 .seq (
 .reg [
 ⟨some 45, .mv (.t 0), none⟩,
 ⟨some 46, .nck (.t 45), none⟩,
 ⟨some 47, .fa 9 (.t 46), none⟩,
 ⟨some 48, .ld (.t 47), none⟩,
 ⟨some 49, .bin .add (.t 48) (.c (.int .u64 1)), none⟩,
 ⟨some 50, .nck (.t 45), none⟩,
 ⟨some 51, .fa 9 (.t 50), none⟩,
 ⟨none, .st 1 (.t 51) (.t 49), none⟩] [0, 1, 28, 29]) (
 .seq (
 .reg [
 ⟨some 52, .mv (.t 0), none⟩,
 ⟨some 53, .nck (.t 52), none⟩,
 ⟨some 54, .fa 8 (.t 53), none⟩,
 ⟨some 55, .ld (.t 54), none⟩,
 ⟨some 56, .len .s (.t 55), none⟩,
 ⟨some 57, .bin .gtr (.t 56) (.c (.int .i64 16)), none⟩] [0, 1, 28, 29, 57]) (
 .cond (.t 57) (
 .reg [
 ⟨some 58, .mv (.t 0), none⟩,
 ⟨some 59, .call 88 [none] [(.t 58)], none⟩] [0, 1, 28, 29]) (
 .skip))))))) (
 .reg [
 ⟨some 60, .bin .add (.t 29) (.c (.int .i64 1)), none⟩,
 ⟨some 29, .mv (.t 60), none⟩] [0, 1, 28, 29]))))))))) (
 .seq (
 .reg [
 ⟨some 4, .mv (.c (.int .i64 0)), none⟩] [4]) (
 .ret))))
def r27 : List RT := [.t 4]

/-- reeve/reeveref11.CopyAll -/
def a28 : AS :=
 .seq (
 .reg [
 ⟨some 2, .mv (.c (.nils)), none⟩] [0]) (
 .seq (
 .reg [
 ⟨some 3, .mv (.c (.nils)), none⟩] [0, 3]) (
 .seq (
 .seq (
 .reg [
 ⟨some 5, .mv (.t 0), none⟩,
 ⟨some 6, .len .s (.t 5), none⟩,
 ⟨some 7, .mv (.c (.int .i64 0)), none⟩] [0, 3, 6, 7]) (
 .block 0 (
 .lift 3 none 56 (.pair .str (.pair (.int .u64) (.pair (.int .i64) (.sl 8 (.int .i64))))) (
 .loop 1 [0, 3, 6, 7] (
 .seq (
 .reg [
 ⟨some 8, .bin .lss (.t 7) (.t 6), none⟩] [0, 3, 6, 7, 8]) (
 .seq (
 .cond (.t 8) (
 .skip) (
 .exit 0)) (
 .seq (
 .block 1 (
 .seq (
 .reg [
 ⟨some 9, .mv (.t 7), none⟩,
 ⟨some 4, .mv (.t 9), none⟩] [0, 3, 4, 6, 7]) (
 .reg [
 ⟨some 10, .mv (.t 3), none⟩,
 ⟨some 11, .mv (.t 0), none⟩,
 ⟨some 12, .mv (.t 4), none⟩,
 ⟨some 13, .ia 4 (.t 11) (.t 12), none⟩,
 ⟨some 14, .ldA 4 (.t 13), none⟩,
 ⟨some 15, .call 78 [none] [(.t 14)], none⟩,
 ⟨some 16, .bsl 56 (.pair .str (.pair (.int .u64) (.pair (.int .i64) (.sl 8 (.int .i64))))) 1 [(0, (.t 15))], none⟩,
 ⟨some 17, .app 56 (.pair .str (.pair (.int .u64) (.pair (.int .i64) (.sl 8 (.int .i64))))) (.t 10) (.t 16), none⟩,
 ⟨some 3, .mv (.t 17), none⟩] [0, 3, 6, 7]))) (
 .reg [
 ⟨some 18, .bin .add (.t 7) (.c (.int .i64 1)), none⟩,
 ⟨some 7, .mv (.t 18), none⟩] [0, 3, 6, 7])))))))) (
 .seq (
 .reg [
 ⟨some 19, .mv (.t 3), none⟩,
 ⟨some 2, .mv (.t 19), none⟩] [2]) (
 .lift 2 none 56 (.pair .str (.pair (.int .u64) (.pair (.int .i64) (.sl 8 (.int .i64))))) (
 .ret)))))
def r28 : List RT := [.t 2]

/-- reeve/journal.New -/
def a72 : AS :=
 .seq (
 .reg [
 ⟨some 0, .mv (.c (.nilp)), none⟩] []) (
 .seq (
 .reg [
 ⟨some 1, .bld [.arr 8 (.int .i64) (List.replicate 8 (Ty.dflt (.int .i64))), .nils, .int .u64 0] [], none⟩,
 ⟨some 2, .box (.t 1), none⟩,
 ⟨some 0, .mv (.t 2), none⟩] [0]) (
 .lift 0 (some 8) 16 (.pair (.int .i64) (.int .i64)) (
 .ret)))
def r72 : List RT := [.t 0]

/-- (*reeve/actor.Actor).sound -/
def a56 : AS :=
 .seq (
 .reg [
 ⟨some 2, .mv (.c (.bool false)), none⟩] [0]) (
 .seq (
 .seq (
 .reg [
 ⟨some 5, .mv (.t 0), none⟩,
 ⟨some 6, .eqn false .p (.t 5) (.c (.nilp)), none⟩,
 ⟨some 7, .mv (.t 6), none⟩,
 ⟨some 8, .mv (.t 0), (some (7, false))⟩,
 ⟨some 9, .nck (.t 8), (some (7, false))⟩,
 ⟨some 10, .fa 0 (.t 9), (some (7, false))⟩,
 ⟨some 11, .ld (.t 10), (some (7, false))⟩,
 ⟨some 12, .eqn false .p (.t 11) (.c (.nilp)), (some (7, false))⟩,
 ⟨some 13, .pick (.t 7) (.c (.bool true)) (.t 12), none⟩,
 ⟨some 14, .mv (.t 13), none⟩,
 ⟨some 15, .mv (.t 0), (some (14, false))⟩,
 ⟨some 16, .nck (.t 15), (some (14, false))⟩,
 ⟨some 17, .fa 1 (.t 16), (some (14, false))⟩,
 ⟨some 18, .ld (.t 17), (some (14, false))⟩,
 ⟨some 19, .eqn false .p (.t 18) (.c (.nilp)), (some (14, false))⟩,
 ⟨some 20, .pick (.t 14) (.c (.bool true)) (.t 19), none⟩,
 ⟨some 21, .mv (.t 20), none⟩,
 ⟨some 22, .mv (.t 0), (some (21, false))⟩,
 ⟨some 23, .call 44 [none] [(.t 22)], (some (21, false))⟩,
 ⟨some 24, .bin .eql (.t 23) (.c (.str ByteArray.empty)), (some (21, false))⟩,
 ⟨some 25, .pick (.t 21) (.c (.bool true)) (.t 24), none⟩,
 ⟨some 26, .mv (.t 25), none⟩,
 ⟨some 27, .mv (.t 0), (some (26, false))⟩,
 ⟨some 28, .nck (.t 27), (some (26, false))⟩,
 ⟨some 29, .fa 3 (.t 28), (some (26, false))⟩,
 ⟨some 30, .ld (.t 29), (some (26, false))⟩,
 ⟨some 31, .bin .lss (.t 30) (.c (.int .i64 0)), (some (26, false))⟩,
 ⟨some 32, .pick (.t 26) (.c (.bool true)) (.t 31), none⟩,
 ⟨some 33, .mv (.t 32), none⟩,
 ⟨some 34, .mv (.t 0), (some (33, false))⟩,
 ⟨some 35, .nck (.t 34), (some (33, false))⟩,
 ⟨some 36, .fa 3 (.t 35), (some (33, false))⟩,
 ⟨some 37, .ld (.t 36), (some (33, false))⟩,
 ⟨some 38, .bin .geq (.t 37) (.c (.int .i64 3)), (some (33, false))⟩,
 ⟨some 39, .pick (.t 33) (.c (.bool true)) (.t 38), none⟩,
 ⟨some 40, .mv (.t 39), none⟩,
 ⟨some 41, .mv (.t 0), (some (40, false))⟩,
 ⟨some 42, .nck (.t 41), (some (40, false))⟩,
 ⟨some 43, .fa 3 (.t 42), (some (40, false))⟩,
 ⟨some 44, .ld (.t 43), (some (40, false))⟩,
 ⟨some 45, .bin .gtr (.t 44) (.c (.int .i64 0)), (some (40, false))⟩,
 ⟨some 46, .mv (.t 45), (some (40, false))⟩,
 ⟨some 47, .mv (.t 0), (some (46, true))⟩,
 ⟨some 48, .nck (.t 47), (some (46, true))⟩,
 ⟨some 49, .fa 1 (.t 48), (some (46, true))⟩,
 ⟨some 50, .ld (.t 49), (some (46, true))⟩,
 ⟨some 51, .call 11 [none] [(.t 50)], (some (46, true))⟩,
 ⟨some 52, .bin .eql (.t 51) (.c (.int .i64 0)), (some (46, true))⟩,
 ⟨some 53, .pick (.t 46) (.t 52) (.c (.bool false)), (some (40, false))⟩,
 ⟨some 54, .pick (.t 40) (.c (.bool true)) (.t 53), none⟩,
 ⟨some 55, .mv (.t 54), none⟩,
 ⟨some 56, .mv (.t 0), (some (55, false))⟩,
 ⟨some 57, .nck (.t 56), (some (55, false))⟩,
 ⟨some 58, .fa 4 (.t 57), (some (55, false))⟩,
 ⟨some 59, .ld (.t 58), (some (55, false))⟩,
 ⟨some 60, .len .s (.t 59), (some (55, false))⟩,
 ⟨some 61, .bin .gtr (.t 60) (.c (.int .i64 8)), (some (55, false))⟩,
 ⟨some 62, .pick (.t 55) (.c (.bool true)) (.t 61), none⟩] [0, 62]) (
 .cond (.t 62) (
 .seq (
 .reg [
 ⟨some 2, .mv (.c (.bool false)), none⟩] [2]) (
 .ret)) (
 .skip))) (
 .seq (
 .seq (
 .reg [
 ⟨some 63, .mv (.t 0), none⟩,
 ⟨some 64, .nck (.t 63), none⟩,
 ⟨some 65, .fa 4 (.t 64), none⟩,
 ⟨some 66, .ld (.t 65), none⟩,
 ⟨some 67, .len .s (.t 66), none⟩,
 ⟨some 68, .mv (.c (.int .i64 0)), none⟩] [66, 67, 68]) (
 .block 0 (
 .loop 1 [66, 67, 68] (
 .seq (
 .reg [
 ⟨some 69, .bin .lss (.t 68) (.t 67), none⟩] [66, 67, 68, 69]) (
 .seq (
 .cond (.t 69) (
 .skip) (
 .exit 0)) (
 .seq (
 .block 1 (
 .seq (
 .reg [
 ⟨some 70, .ia 4 (.t 66) (.t 68), none⟩,
 ⟨some 71, .ldA 4 (.t 70), none⟩,
 ⟨some 4, .alc [.str ByteArray.empty, .int .u64 0, .int .i64 0, .nils], none⟩,
 ⟨none, .st 4 (.t 4) (.t 71), none⟩] [4, 66, 67, 68]) (
 .seq (
 .reg [
 ⟨some 72, .ldA 4 (.t 4), none⟩,
 ⟨some 73, .call 74 [none] [(.t 72)], none⟩,
 ⟨some 74, .not (.t 73), none⟩] [66, 67, 68, 74]) (
 .cond (.t 74) (
 .seq (
 .reg [
 ⟨some 2, .mv (.c (.bool false)), none⟩] [2]) (
 .ret)) (
 .skip))))) (
 .reg [
 ⟨some 75, .bin .add (.t 68) (.c (.int .i64 1)), none⟩,
 ⟨some 68, .mv (.t 75), none⟩] [66, 67, 68]))))))) (
 .seq (
 .reg [
 ⟨some 2, .mv (.c (.bool true)), none⟩] [2]) (
 .ret))))
def r56 : List RT := [.t 2]

/-- reeve/letter.Pack -/
def a57 : AS :=
 .seq (
 .reg [
 ⟨some 2, .mv (.c (.nils)), none⟩,
 ⟨some 3, .mv (.c (.int .i64 0)), none⟩] [0]) (
 .seq (
 .reg [
 ⟨some 7, .call 58 [] [], none⟩,
 ⟨some 4, .mv (.t 7), none⟩] [0, 4]) (
 .seq (
 .reg [
 ⟨some 8, .mv (.t 4), none⟩,
 ⟨some 9, .mv (.t 0), none⟩,
 ⟨some 10, .len .s (.t 9), none⟩,
 ⟨some 11, .cv .u64 (.t 10), none⟩,
 ⟨some 12, .call 59 [none, none] [(.t 8), (.t 11)], none⟩] [0, 4]) (
 .seq (
 .seq (
 .reg [
 ⟨some 13, .mv (.t 0), none⟩,
 ⟨some 14, .len .s (.t 13), none⟩,
 ⟨some 15, .mv (.c (.int .i64 0)), none⟩] [4, 13, 14, 15]) (
 .block 0 (
 .lift 4 (some 0) 1 .byte (
 .loop 1 [4, 13, 14, 15] (
 .seq (
 .reg [
 ⟨some 16, .bin .lss (.t 15) (.t 14), none⟩] [4, 13, 14, 15, 16]) (
 .seq (
 .cond (.t 16) (
 .skip) (
 .exit 0)) (
 .seq (
 .block 1 (
 .seq (
 .reg [
 ⟨some 17, .ia 4 (.t 13) (.t 15), none⟩,
 ⟨some 18, .ldA 4 (.t 17), none⟩,
 ⟨some 6, .alc [.str ByteArray.empty, .int .u64 0, .int .i64 0, .nils], none⟩,
 ⟨none, .st 4 (.t 6) (.t 18), none⟩] [4, 6, 13, 14, 15]) (
 .seq (
 .seq (
 .reg [
 ⟨some 19, .ldA 4 (.t 6), none⟩,
 ⟨some 20, .call 74 [none] [(.t 19)], none⟩,
 ⟨some 21, .not (.t 20), none⟩] [4, 6, 13, 14, 15, 21]) (
 .cond (.t 21) (
 .seq (
 .reg [
 ⟨some 2, .mv (.c (.nils)), none⟩,
 ⟨some 3, .mv (.c (.int .i64 1)), none⟩] [2, 3]) (
 .lift 2 none 1 .byte (
 .ret))) (
 .skip))) (
 .reg [
 ⟨some 22, .mv (.t 4), none⟩,
 ⟨some 23, .ldA 4 (.t 6), none⟩,
 ⟨some 24, .call 106 [none, none] [(.t 22), (.t 23)], none⟩] [4, 13, 14, 15])))) (
 .reg [
 ⟨some 25, .bin .add (.t 15) (.c (.int .i64 1)), none⟩,
 ⟨some 15, .mv (.t 25), none⟩] [4, 13, 14, 15])))))))) (
 .seq (
 .reg [
 ⟨some 26, .mv (.t 4), none⟩,
 ⟨some 27, .call 63 [none] [(.t 26)], none⟩,
 ⟨some 2, .mv (.t 27), none⟩,
 ⟨some 3, .mv (.c (.int .i64 0)), none⟩] [2, 3]) (
 .lift 2 none 1 .byte (
 .ret))))))
def r57 : List RT := [.t 2, .t 3]

/-- (*reeve/journal.Journal).Encode -/
def a60 : AS :=
 .seq (
 .reg [
 ⟨some 2, .mv (.c (.nils)), none⟩] [0]) (
 .seq (
 .seq (
 .reg [
 ⟨some 8, .mv (.t 0), none⟩,
 ⟨some 9, .eqn false .p (.t 8) (.c (.nilp)), none⟩] [0, 9]) (
 .cond (.t 9) (
 .seq (
 .reg [
 ⟨some 2, .mv (.c (.nils)), none⟩] [2]) (
 .lift 2 none 1 .byte (
 .ret))) (
 .skip))) (
 .seq (
 .reg [
 ⟨some 10, .call 58 [] [], none⟩,
 ⟨some 3, .mv (.t 10), none⟩] [0, 3]) (
 .seq (
 .reg [
 ⟨some 11, .mv (.t 3), none⟩,
 ⟨some 12, .mv (.t 0), none⟩,
 ⟨some 13, .nck (.t 12), none⟩,
 ⟨some 14, .fa 9 (.t 13), none⟩,
 ⟨some 15, .ld (.t 14), none⟩,
 ⟨some 16, .call 59 [none, none] [(.t 11), (.t 15)], none⟩] [0, 3]) (
 .seq (
 .seq (
 .reg [
 ⟨some 17, .mv (.t 0), none⟩,
 ⟨some 18, .nck (.t 17), none⟩,
 ⟨some 19, .fa 0 (.t 18), none⟩,
 ⟨some 20, .ldA 8 (.t 19), none⟩,
 ⟨some 21, .mv (.c (.int .i64 0)), none⟩] [0, 3, 20, 21]) (
 .block 0 (
 .lift 0 (some 8) 16 (.pair (.int .i64) (.int .i64)) (
 .lift 3 (some 0) 1 .byte (
 .loop 1 [0, 3, 20, 21] (
 .seq (
 .reg [
 ⟨some 22, .bin .lss (.t 21) (.c (.int .i64 8)), none⟩] [0, 3, 20, 21, 22]) (
 .seq (
 .cond (.t 22) (
 .skip) (
 .exit 0)) (
 .seq (
 .block 1 (
 .seq (
 .reg [
 ⟨some 23, .ixA 8 (.t 20) (.t 21), none⟩,
 ⟨some 5, .mv (.t 23), none⟩] [0, 3, 5, 20, 21]) (
 .reg [
 ⟨some 24, .mv (.t 3), none⟩,
 ⟨some 25, .mv (.t 5), none⟩,
 ⟨some 26, .call 108 [none, none] [(.t 24), (.t 25)], none⟩] [0, 3, 20, 21]))) (
 .reg [
 ⟨some 27, .bin .add (.t 21) (.c (.int .i64 1)), none⟩,
 ⟨some 21, .mv (.t 27), none⟩] [0, 3, 20, 21]))))))))) (
 .seq (
 .reg [
 ⟨some 28, .mv (.t 3), none⟩,
 ⟨some 29, .mv (.t 0), none⟩,
 ⟨some 30, .nck (.t 29), none⟩,
 ⟨some 31, .fa 8 (.t 30), none⟩,
 ⟨some 32, .ld (.t 31), none⟩,
 ⟨some 33, .len .s (.t 32), none⟩,
 ⟨some 34, .cv .u64 (.t 33), none⟩,
 ⟨some 35, .call 59 [none, none] [(.t 28), (.t 34)], none⟩] [0, 3]) (
 .seq (
 .seq (
 .reg [
 ⟨some 36, .mv (.t 0), none⟩,
 ⟨some 37, .nck (.t 36), none⟩,
 ⟨some 38, .fa 8 (.t 37), none⟩,
 ⟨some 39, .ld (.t 38), none⟩,
 ⟨some 40, .len .s (.t 39), none⟩,
 ⟨some 41, .mv (.c (.int .i64 0)), none⟩] [3, 39, 40, 41]) (
 .block 2 (
 .lift 3 (some 0) 1 .byte (
 .loop 2 [3, 39, 40, 41] (
 .seq (
 .reg [
 ⟨some 42, .bin .lss (.t 41) (.t 40), none⟩] [3, 39, 40, 41, 42]) (
 .seq (
 .cond (.t 42) (
 .skip) (
 .exit 2)) (
 .seq (
 .block 3 (
 .seq (
 .reg [
 ⟨some 43, .ia 2 (.t 39) (.t 41), none⟩,
 ⟨some 44, .ldA 2 (.t 43), none⟩,
 ⟨some 7, .alc [.int .i64 0, .int .i64 0], none⟩,
 ⟨none, .st 2 (.t 7) (.t 44), none⟩] [3, 7, 39, 40, 41]) (
 .seq (
 .reg [
 ⟨some 45, .mv (.t 3), none⟩,
 ⟨some 46, .fa 0 (.t 7), none⟩,
 ⟨some 47, .ld (.t 46), none⟩,
 ⟨some 48, .cv .u64 (.t 47), none⟩,
 ⟨some 49, .call 59 [none, none] [(.t 45), (.t 48)], none⟩] [3, 7, 39, 40, 41]) (
 .reg [
 ⟨some 50, .mv (.t 3), none⟩,
 ⟨some 51, .fa 1 (.t 7), none⟩,
 ⟨some 52, .ld (.t 51), none⟩,
 ⟨some 53, .call 108 [none, none] [(.t 50), (.t 52)], none⟩] [3, 39, 40, 41])))) (
 .reg [
 ⟨some 54, .bin .add (.t 41) (.c (.int .i64 1)), none⟩,
 ⟨some 41, .mv (.t 54), none⟩] [3, 39, 40, 41])))))))) (
 .seq (
 .reg [
 ⟨some 55, .mv (.t 3), none⟩,
 ⟨some 56, .call 63 [none] [(.t 55)], none⟩,
 ⟨some 2, .mv (.t 56), none⟩] [2]) (
 .lift 2 none 1 .byte (
 .ret)))))))))
def r60 : List RT := [.t 2]

/-- (*reeve/inbox.Inbox).Encode -/
def a61 : AS :=
 .seq (
 .reg [
 ⟨some 2, .mv (.c (.nils)), none⟩] [0]) (
 .seq (
 .seq (
 .reg [
 ⟨some 5, .mv (.t 0), none⟩,
 ⟨some 6, .eqn false .p (.t 5) (.c (.nilp)), none⟩] [0, 6]) (
 .cond (.t 6) (
 .seq (
 .reg [
 ⟨some 2, .mv (.c (.nils)), none⟩] [2]) (
 .lift 2 none 1 .byte (
 .ret))) (
 .skip))) (
 .seq (
 .reg [
 ⟨some 8, .mv (.t 0), none⟩,
 ⟨some 9, .nck (.t 8), none⟩,
 ⟨some 10, .fa 0 (.t 9), none⟩,
 ⟨some 11, .ld (.t 10), none⟩,
 ⟨some 12, .call 57 [(some (56, (.pair .str (.pair (.int .u64) (.pair (.int .i64) (.sl 8 (.int .i64)))))))] [(.t 11)], none⟩,
 ⟨some 7, .mv (.t 12), none⟩,
 ⟨some 13, .ext (.t 7) 0, none⟩,
 ⟨some 14, .ext (.t 7) 1, none⟩,
 ⟨some 3, .mv (.t 13), none⟩,
 ⟨some 4, .mv (.t 14), none⟩] [3]) (
 .seq (
 .reg [
 ⟨some 15, .mv (.t 3), none⟩,
 ⟨some 2, .mv (.t 15), none⟩] [2]) (
 .lift 2 none 1 .byte (
 .ret)))))
def r61 : List RT := [.t 2]

/-- reeve/reeveref20.sound -/
def a36 : AS :=
 .seq (
 .reg [
 ⟨some 6, .mv (.c (.bool false)), none⟩] [0, 1, 2]) (
 .seq (
 .seq (
 .reg [
 ⟨some 8, .mv (.t 0), none⟩,
 ⟨some 9, .bin .lss (.t 8) (.c (.int .i64 0)), none⟩,
 ⟨some 10, .mv (.t 9), none⟩,
 ⟨some 11, .mv (.t 0), (some (10, false))⟩,
 ⟨some 12, .bin .gtr (.t 11) (.c (.int .i64 2)), (some (10, false))⟩,
 ⟨some 13, .pick (.t 10) (.c (.bool true)) (.t 12), none⟩,
 ⟨some 14, .mv (.t 13), none⟩,
 ⟨some 15, .mv (.t 0), (some (14, false))⟩,
 ⟨some 16, .bin .gtr (.t 15) (.c (.int .i64 0)), (some (14, false))⟩,
 ⟨some 17, .mv (.t 16), (some (14, false))⟩,
 ⟨some 18, .mv (.t 1), (some (17, true))⟩,
 ⟨some 19, .bin .eql (.t 18) (.c (.int .i64 0)), (some (17, true))⟩,
 ⟨some 20, .pick (.t 17) (.t 19) (.c (.bool false)), (some (14, false))⟩,
 ⟨some 21, .pick (.t 14) (.c (.bool true)) (.t 20), none⟩,
 ⟨some 22, .mv (.t 21), none⟩,
 ⟨some 23, .mv (.t 2), (some (22, false))⟩,
 ⟨some 24, .len .s (.t 23), (some (22, false))⟩,
 ⟨some 25, .bin .gtr (.t 24) (.c (.int .i64 8)), (some (22, false))⟩,
 ⟨some 26, .pick (.t 22) (.c (.bool true)) (.t 25), none⟩] [2, 26]) (
 .cond (.t 26) (
 .seq (
 .reg [
 ⟨some 6, .mv (.c (.bool false)), none⟩] [6]) (
 .ret)) (
 .skip))) (
 .seq (
 .seq (
 .reg [
 ⟨some 27, .mv (.t 2), none⟩,
 ⟨some 28, .len .s (.t 27), none⟩,
 ⟨some 29, .mv (.c (.int .i64 0)), none⟩] [2, 28, 29]) (
 .block 0 (
 .loop 1 [2, 28, 29] (
 .seq (
 .reg [
 ⟨some 30, .bin .lss (.t 29) (.t 28), none⟩] [2, 28, 29, 30]) (
 .seq (
 .cond (.t 30) (
 .skip) (
 .exit 0)) (
 .seq (
 .block 1 (
 .seq (
 .reg [
 ⟨some 31, .mv (.t 29), none⟩,
 ⟨some 7, .mv (.t 31), none⟩] [2, 7, 28, 29]) (
 .seq (
 .reg [
 ⟨some 32, .mv (.t 2), none⟩,
 ⟨some 33, .mv (.t 7), none⟩,
 ⟨some 34, .ia 4 (.t 32) (.t 33), none⟩,
 ⟨some 35, .ldA 4 (.t 34), none⟩,
 ⟨some 36, .call 77 [none] [(.t 35)], none⟩,
 ⟨some 37, .not (.t 36), none⟩] [2, 28, 29, 37]) (
 .cond (.t 37) (
 .seq (
 .reg [
 ⟨some 6, .mv (.c (.bool false)), none⟩] [6]) (
 .ret)) (
 .skip))))) (
 .reg [
 ⟨some 38, .bin .add (.t 29) (.c (.int .i64 1)), none⟩,
 ⟨some 29, .mv (.t 38), none⟩] [2, 28, 29]))))))) (
 .seq (
 .reg [
 ⟨some 6, .mv (.c (.bool true)), none⟩] [6]) (
 .ret))))
/-- slices.ContainsFunc[[]reeve/journal.Event,reeve/journal.Event] -/
def a85 : AS :=
 .seq (
 .reg [
 ⟨some 4, .mv (.c (.bool false)), none⟩] [0, 1]) (
 .seq (
 .reg [
 ⟨some 5, .mv (.t 0), none⟩,
 ⟨some 6, .mv (.t 1), none⟩,
 ⟨some 7, .call 113 [none, none] [(.t 5), (.t 6)], none⟩,
 ⟨some 8, .bin .geq (.t 7) (.c (.int .i64 0)), none⟩,
 ⟨some 4, .mv (.t 8), none⟩] [4]) (
 .ret))
def r85 : List RT := [.t 4]

/-- (*reeve/journal.Journal).Add$1 -/
def a86 : AS :=
 .seq (
 .reg [
 ⟨some 1, .box (.t 0), none⟩,
 ⟨some 2, .mv (.c (.bool false)), none⟩] [1]) (
 .seq (
 .reg [
 ⟨some 3, .fa 0 (.t 1), none⟩,
 ⟨some 4, .ld (.t 3), none⟩,
 ⟨some 5, .bin .lss (.t 4) (.c (.int .i64 0)), none⟩,
 ⟨some 6, .mv (.t 5), none⟩,
 ⟨some 7, .fa 0 (.t 1), (some (6, false))⟩,
 ⟨some 8, .ld (.t 7), (some (6, false))⟩,
 ⟨some 9, .bin .geq (.t 8) (.c (.int .i64 8)), (some (6, false))⟩,
 ⟨some 10, .pick (.t 6) (.c (.bool true)) (.t 9), none⟩,
 ⟨some 2, .mv (.t 10), none⟩] [2]) (
 .ret))
def r86 : List RT := [.t 2]

/-- (*reeve/journal.Journal).fold -/
def a87 : AS :=
 .seq (
 .seq (
 .reg [
 ⟨some 6, .mv (.t 0), none⟩,
 ⟨some 7, .nck (.t 6), none⟩,
 ⟨some 8, .fa 8 (.t 7), none⟩,
 ⟨some 9, .ld (.t 8), none⟩,
 ⟨some 10, .mv (.t 1), none⟩,
 ⟨some 11, .slR 2 (.t 9) none (some (.t 10)), none⟩,
 ⟨some 12, .len .s (.t 11), none⟩,
 ⟨some 13, .mv (.c (.int .i64 0)), none⟩] [0, 1, 11, 12, 13]) (
 .block 0 (
 .lift 0 (some 8) 16 (.pair (.int .i64) (.int .i64)) (
 .loop 1 [0, 1, 11, 12, 13] (
 .seq (
 .reg [
 ⟨some 14, .bin .lss (.t 13) (.t 12), none⟩] [0, 1, 11, 12, 13, 14]) (
 .seq (
 .cond (.t 14) (
 .skip) (
 .exit 0)) (
 .seq (
 .block 1 (
 .seq (
 .reg [
 ⟨some 15, .ia 2 (.t 11) (.t 13), none⟩,
 ⟨some 16, .ldA 2 (.t 15), none⟩,
 ⟨some 5, .alc [.int .i64 0, .int .i64 0], none⟩,
 ⟨none, .st 2 (.t 5) (.t 16), none⟩] [0, 1, 5, 11, 12, 13]) (
 .regD [
 ⟨some 17, .mv (.t 0), none⟩,
 ⟨some 18, .fa 0 (.t 5), none⟩,
 ⟨some 19, .ld (.t 18), none⟩,
 ⟨some 20, .fa 1 (.t 5), none⟩,
 ⟨some 21, .ld (.t 20), none⟩,
 ⟨some 22, .nck (.t 17), none⟩,
 ⟨some 23, .fa 0 (.t 22), none⟩,
 ⟨some 24, .iaA 8 1 (.t 23) (.t 19), none⟩,
 ⟨none, .st 1 (.t 24) (.t 21), none⟩] [.q 0, .q 1, .q 2, .q 3, .q 4, .q 5, .q 6, .q 7, .e 8 []] [0, 1, 11, 12, 13]))) (
 .reg [
 ⟨some 25, .bin .add (.t 13) (.c (.int .i64 1)), none⟩,
 ⟨some 13, .mv (.t 25), none⟩] [0, 1, 11, 12, 13])))))))) (
 .reg [
 ⟨some 26, .mv (.t 0), none⟩,
 ⟨some 27, .mv (.t 0), none⟩,
 ⟨some 28, .nck (.t 27), none⟩,
 ⟨some 29, .fa 8 (.t 28), none⟩,
 ⟨some 30, .ld (.t 29), none⟩,
 ⟨some 31, .mv (.t 1), none⟩,
 ⟨some 32, .slR 2 (.t 30) (some (.t 31)) none, none⟩,
 ⟨some 33, .call 114 [none] [(.t 32)], none⟩,
 ⟨some 34, .nck (.t 26), none⟩,
 ⟨some 35, .fa 8 (.t 34), none⟩,
 ⟨none, .st 1 (.t 35) (.t 33), none⟩] [])
def r87 : List RT := [.w 1 0 8]

/-- (*reeve/reeveref16.Journal).drop -/
def a88 : AS :=
 .seq (
 .regD [
 ⟨some 2, .mv (.t 0), none⟩,
 ⟨some 3, .mv (.t 0), none⟩,
 ⟨some 4, .nck (.t 3), none⟩,
 ⟨some 5, .fa 8 (.t 4), none⟩,
 ⟨some 6, .ld (.t 5), none⟩,
 ⟨some 7, .ia 2 (.t 6) (.c (.int .i64 0)), none⟩,
 ⟨some 8, .fa 0 (.t 7), none⟩,
 ⟨some 9, .ld (.t 8), none⟩,
 ⟨some 10, .mv (.t 0), none⟩,
 ⟨some 11, .nck (.t 10), none⟩,
 ⟨some 12, .fa 8 (.t 11), none⟩,
 ⟨some 13, .ld (.t 12), none⟩,
 ⟨some 14, .ia 2 (.t 13) (.c (.int .i64 0)), none⟩,
 ⟨some 15, .fa 1 (.t 14), none⟩,
 ⟨some 16, .ld (.t 15), none⟩,
 ⟨some 17, .nck (.t 2), none⟩,
 ⟨some 18, .fa 0 (.t 17), none⟩,
 ⟨some 19, .iaA 8 1 (.t 18) (.t 9), none⟩,
 ⟨none, .st 1 (.t 19) (.t 16), none⟩] [.q 0, .q 1, .q 2, .q 3, .q 4, .q 5, .q 6, .q 7, .q 8, .q 9, .q 10, .q 11, .q 12, .q 13, .q 14, .q 15, .q 16, .q 17, .e 18 []] [0]) (
 .reg [
 ⟨some 20, .mv (.t 0), none⟩,
 ⟨some 21, .bsl 16 (.pair (.int .i64) (.int .i64)) 0 [], none⟩,
 ⟨some 22, .mv (.t 0), none⟩,
 ⟨some 23, .nck (.t 22), none⟩,
 ⟨some 24, .fa 8 (.t 23), none⟩,
 ⟨some 25, .ld (.t 24), none⟩,
 ⟨some 26, .slR 2 (.t 25) (some (.c (.int .i64 1))) none, none⟩,
 ⟨some 27, .app 16 (.pair (.int .i64) (.int .i64)) (.t 21) (.t 26), none⟩,
 ⟨some 28, .nck (.t 20), none⟩,
 ⟨some 29, .fa 8 (.t 28), none⟩,
 ⟨none, .st 1 (.t 29) (.t 27), none⟩] [])
def r88 : List RT := [.w 1 0 8]

/-- slices.IndexFunc[[]reeve/journal.Event,reeve/journal.Event] -/
def a113 : AS :=
 .seq (
 .reg [
 ⟨some 4, .mv (.c (.int .i64 0)), none⟩] [0, 1]) (
 .seq (
 .seq (
 .reg [
 ⟨some 6, .mv (.t 0), none⟩,
 ⟨some 7, .len .s (.t 6), none⟩,
 ⟨some 8, .mv (.c (.int .i64 0)), none⟩] [0, 1, 7, 8]) (
 .block 0 (
 .loop 1 [0, 1, 7, 8] (
 .seq (
 .reg [
 ⟨some 9, .bin .lss (.t 8) (.t 7), none⟩] [0, 1, 7, 8, 9]) (
 .seq (
 .cond (.t 9) (
 .skip) (
 .exit 0)) (
 .seq (
 .block 1 (
 .seq (
 .reg [
 ⟨some 10, .mv (.t 8), none⟩,
 ⟨some 5, .mv (.t 10), none⟩] [0, 1, 5, 7, 8]) (
 .seq (
 .reg [
 ⟨some 11, .mv (.t 1), none⟩,
 ⟨some 12, .mv (.t 0), none⟩,
 ⟨some 13, .mv (.t 5), none⟩,
 ⟨some 14, .ia 2 (.t 12) (.t 13), none⟩,
 ⟨some 15, .ldA 2 (.t 14), none⟩,
 ⟨some 16, .callv (.t 11) [none] [(.t 15)], none⟩] [0, 1, 5, 7, 8, 16]) (
 .cond (.t 16) (
 .seq (
 .reg [
 ⟨some 17, .mv (.t 5), none⟩,
 ⟨some 4, .mv (.t 17), none⟩] [4]) (
 .ret)) (
 .skip))))) (
 .reg [
 ⟨some 18, .bin .add (.t 8) (.c (.int .i64 1)), none⟩,
 ⟨some 8, .mv (.t 18), none⟩] [0, 1, 7, 8]))))))) (
 .seq (
 .reg [
 ⟨some 4, .mv (.c (.int .i64 (-1))), none⟩] [4]) (
 .ret)))
def r113 : List RT := [.t 4]

/-- slices.Clone[[]reeve/journal.Event,reeve/journal.Event] -/
def a114 : AS :=
 .seq (
 .reg [
 ⟨some 2, .mv (.c (.nils)), none⟩] [0]) (
 .seq (
 .seq (
 .reg [
 ⟨some 3, .mv (.t 0), none⟩,
 ⟨some 4, .isn false (.t 3), none⟩] [0, 4]) (
 .cond (.t 4) (
 .seq (
 .reg [
 ⟨some 2, .mv (.c (.nils)), none⟩] [2]) (
 .lift 2 none 16 (.pair (.int .i64) (.int .i64)) (
 .ret))) (
 .skip))) (
 .seq (
 .reg [
 ⟨some 5, .bsl 16 (.pair (.int .i64) (.int .i64)) 0 [], none⟩,
 ⟨some 6, .mv (.t 0), none⟩,
 ⟨some 7, .app 16 (.pair (.int .i64) (.int .i64)) (.t 5) (.t 6), none⟩,
 ⟨some 2, .mv (.t 7), none⟩] [2]) (
 .lift 2 none 16 (.pair (.int .i64) (.int .i64)) (
 .ret))))
def r114 : List RT := [.t 2]

theorem ok8 : okF Tryz.prog 8 a8 r8 6 = true := by decide +kernel
theorem ok18 : okF Tryz.prog 18 a18 r18 1 = true := by decide +kernel
theorem ok16 : okF Tryz.prog 16 a16 r16 1 = true := by decide +kernel
theorem ok44 : okF Tryz.prog 44 a44 r44 1 = true := by decide +kernel
theorem ok73 : okF Tryz.prog 73 a73 r73 0 = true := by decide +kernel
theorem ok19 : okF Tryz.prog 19 a19 r19 2 = true := by decide +kernel
theorem ok11 : okF Tryz.prog 11 a11 r11 1 = true := by decide +kernel
theorem ok22 : okF Tryz.prog 22 a22 r22 1 = true := by decide +kernel
theorem ok23 : okF Tryz.prog 23 a23 r23 2 = true := by decide +kernel
theorem ok26 : okF Tryz.prog 26 a26 r26 2 = true := by decide +kernel
theorem ok27 : okF Tryz.prog 27 a27 r27 2 = true := by decide +kernel
theorem ok28 : okF Tryz.prog 28 a28 r28 1 = true := by decide +kernel
theorem ok72 : okF Tryz.prog 72 a72 r72 0 = true := by decide +kernel
theorem ok56 : okF Tryz.prog 56 a56 r56 1 = true := by decide +kernel
theorem ok57 : okF Tryz.prog 57 a57 r57 1 = true := by decide +kernel
theorem ok60 : okF Tryz.prog 60 a60 r60 1 = true := by decide +kernel
theorem ok61 : okF Tryz.prog 61 a61 r61 1 = true := by decide +kernel
theorem ok85 : okF Tryz.prog 85 a85 r85 2 = true := by decide +kernel
theorem ok86 : okF Tryz.prog 86 a86 r86 1 = true := by decide +kernel
theorem ok87 : okF Tryz.prog 87 a87 r87 2 = true := by decide +kernel
theorem ok88 : okF Tryz.prog 88 a88 r88 1 = true := by decide +kernel
theorem ok113 : okF Tryz.prog 113 a113 r113 2 = true := by decide +kernel
theorem ok114 : okF Tryz.prog 114 a114 r114 1 = true := by decide +kernel
end Go.V
