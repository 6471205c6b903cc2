/- A part of the proof layer, or functions of the given program in it: contracts and their proofs. -/
import Derived.Test.YtkjecjgfkogkoaaVy
import Derived.Test.YtkjecjgfkogkoaaProg
namespace Go.V
set_option linter.unusedSimpArgs false
set_option linter.unnecessarySimpa false
open Go.Proofs
/-- reeve/reevelaw14.OutboxKeys -/
def a3 : AS :=
  .seq (
    .reg [
      ⟨some 2, .mv (.c (.bool false)), none⟩] [0]) (
    .seq (
      .seq (
        .reg [
          ⟨some 10, .call 9 [] [], none⟩,
          ⟨some 11, .not (.t 10), none⟩] [0, 11]) (
        .cond (.t 11) (
          .seq (
            .reg [
              ⟨some 2, .mv (.c (.bool false)), none⟩] [2]) (
            .ret)) (
          .skip))) (
      .seq (
        .reg [
          ⟨some 13, .call 10 [none] [(.c (.str ⟨#[109, 101]⟩))], none⟩,
          ⟨some 12, .mv (.t 13), none⟩,
          ⟨some 14, .ext (.t 12) 0, none⟩,
          ⟨some 15, .ext (.t 12) 1, none⟩,
          ⟨some 3, .mv (.t 14), none⟩,
          ⟨some 4, .mv (.t 15), none⟩] [0, 3]) (
        .seq (
          .seq (
            .reg [
              ⟨some 16, .mv (.t 0), none⟩,
              ⟨some 17, .bin .rem (.t 16) (.c (.int .u8 80)), none⟩,
              ⟨some 18, .cv .i64 (.t 17), none⟩,
              ⟨some 19, .mv (.c (.int .i64 0)), none⟩] [0, 3, 18, 19]) (
            .block 0 (
              .lift 3 (some 1) 72 (.pair .str (.pair .str (.pair (.int .u64) (.pair (.int .i64) (.sl 8 (.int .i64)))))) (
              .loop 1 [0, 3, 18, 19] (
                .seq (
                  .reg [
                    ⟨some 20, .bin .lss (.t 19) (.t 18), none⟩] [0, 3, 18, 19, 20]) (
                  .seq (
                    .cond (.t 20) (
                      .skip) (
                      .exit 0)) (
                    .seq (
                      .block 1 (
                        .seq (
                          .reg [
                            ⟨some 21, .mv (.t 19), none⟩,
                            ⟨some 5, .mv (.t 21), none⟩] [0, 3, 5, 18, 19]) (
                          .seq (
                            .reg [
                              ⟨some 22, .mv (.t 3), none⟩,
                              ⟨some 23, .call 11 [none] [(.t 22)], none⟩] [0, 3, 5, 18, 19]) (
                            .seq (
                              .reg [
                                ⟨some 25, .mv (.t 3), none⟩,
                                ⟨some 26, .mv (.t 5), none⟩,
                                ⟨some 27, .cv .u8 (.t 26), none⟩,
                                ⟨some 28, .bsl 1 .byte 2 [(0, (.c (.int .u8 107))), (1, (.t 27))], none⟩,
                                ⟨some 29, .b2s (.t 28), none⟩,
                                ⟨some 30, .call 12 [none, none, none, (some (8, (.int .i64)))] [(.t 25), (.t 29), (.c (.int .i64 0)), (.c (.nils))], none⟩,
                                ⟨some 24, .mv (.t 30), none⟩,
                                ⟨some 31, .ext (.t 24) 0, none⟩,
                                ⟨some 32, .ext (.t 24) 1, none⟩,
                                ⟨some 6, .mv (.t 31), none⟩,
                                ⟨some 7, .mv (.t 32), none⟩] [0, 3, 5, 6, 7, 18, 19]) (
                              .seq (
                                .reg [
                                  ⟨some 33, .mv (.t 7), none⟩,
                                  ⟨some 34, .bin .eql (.t 33) (.c (.int .i64 0)), none⟩,
                                  ⟨some 35, .mv (.t 5), none⟩,
                                  ⟨some 36, .bin .lss (.t 35) (.c (.int .i64 64)), none⟩,
                                  ⟨some 37, .binB true (.t 34) (.t 36), none⟩,
                                  ⟨some 38, .mv (.t 37), none⟩,
                                  ⟨some 39, .mv (.t 7), (some (38, false))⟩,
                                  ⟨some 40, .bin .eql (.t 39) (.c (.int .i64 0)), (some (38, false))⟩,
                                  ⟨some 41, .mv (.t 40), (some (38, false))⟩,
                                  ⟨some 42, .mv (.t 6), (some (41, true))⟩,
                                  ⟨some 43, .bin .neq (.t 42) (.c (.int .u64 1)), (some (41, true))⟩,
                                  ⟨some 44, .pick (.t 41) (.t 43) (.c (.bool false)), (some (38, false))⟩,
                                  ⟨some 45, .pick (.t 38) (.c (.bool true)) (.t 44), none⟩,
                                  ⟨some 46, .mv (.t 45), none⟩,
                                  ⟨some 47, .mv (.t 7), (some (46, false))⟩,
                                  ⟨some 48, .bin .neq (.t 47) (.c (.int .i64 0)), (some (46, false))⟩,
                                  ⟨some 49, .mv (.t 48), (some (46, false))⟩,
                                  ⟨some 50, .mv (.t 7), (some (49, true))⟩,
                                  ⟨some 51, .bin .neq (.t 50) (.c (.int .i64 6)), (some (49, true))⟩,
                                  ⟨some 52, .pick (.t 49) (.t 51) (.c (.bool false)), (some (46, false))⟩,
                                  ⟨some 53, .pick (.t 46) (.c (.bool true)) (.t 52), none⟩] [0, 3, 18, 19, 53]) (
                                .cond (.t 53) (
                                  .seq (
                                    .reg [
                                      ⟨some 2, .mv (.c (.bool false)), none⟩] [2]) (
                                    .ret)) (
                                  .skip))))))) (
                      .reg [
                        ⟨some 54, .bin .add (.t 19) (.c (.int .i64 1)), none⟩,
                        ⟨some 19, .mv (.t 54), none⟩] [0, 3, 18, 19])))))))) (
          .seq (
            .seq (
              .reg [
                ⟨some 55, .mv (.t 0), none⟩,
                ⟨some 56, .bin .rem (.t 55) (.c (.int .u8 80)), none⟩,
                ⟨some 57, .bin .eql (.t 56) (.c (.int .u8 0)), none⟩] [3, 57]) (
              .cond (.t 57) (
                .seq (
                  .reg [
                    ⟨some 2, .mv (.c (.bool true)), none⟩] [2]) (
                  .ret)) (
                .skip))) (
            .seq (
              .reg [
                ⟨some 58, .mv (.t 3), none⟩,
                ⟨some 59, .call 11 [none] [(.t 58)], none⟩] [3]) (
              .seq (
                .reg [
                  ⟨some 61, .mv (.t 3), none⟩,
                  ⟨some 62, .bsl 1 .byte 2 [(0, (.c (.int .u8 107))), (1, (.c (.int .u8 0)))], none⟩,
                  ⟨some 63, .b2s (.t 62), none⟩,
                  ⟨some 64, .call 12 [none, none, none, (some (8, (.int .i64)))] [(.t 61), (.t 63), (.c (.int .i64 0)), (.c (.nils))], none⟩,
                  ⟨some 60, .mv (.t 64), none⟩,
                  ⟨some 65, .ext (.t 60) 0, none⟩,
                  ⟨some 66, .ext (.t 60) 1, none⟩,
                  ⟨some 8, .mv (.t 65), none⟩,
                  ⟨some 9, .mv (.t 66), none⟩] [8, 9]) (
                .seq (
                  .reg [
                    ⟨some 67, .mv (.t 8), none⟩,
                    ⟨some 68, .bin .eql (.t 67) (.c (.int .u64 2)), none⟩,
                    ⟨some 69, .mv (.t 68), none⟩,
                    ⟨some 70, .mv (.t 9), (some (69, true))⟩,
                    ⟨some 71, .bin .eql (.t 70) (.c (.int .i64 0)), (some (69, true))⟩,
                    ⟨some 72, .pick (.t 69) (.t 71) (.c (.bool false)), none⟩,
                    ⟨some 2, .mv (.t 72), none⟩] [2]) (
                  .ret))))))))
def r3 : List RT := [.t 2]

/-- reeve/reevelaw14.awake -/
def a9 : AS :=
  .seq (
    .reg [
      ⟨some 0, .mv (.c (.bool false)), none⟩] []) (
    .seq (
      .reg [
        ⟨some 6, .call 10 [none] [(.c (.str ⟨#[97]⟩))], none⟩,
        ⟨some 5, .mv (.t 6), none⟩,
        ⟨some 7, .ext (.t 5) 0, none⟩,
        ⟨some 8, .ext (.t 5) 1, none⟩,
        ⟨some 1, .mv (.t 7), none⟩,
        ⟨some 2, .mv (.t 8), none⟩] [1, 2]) (
      .seq (
        .seq (
          .reg [
            ⟨some 9, .mv (.t 2), none⟩,
            ⟨some 10, .bin .neq (.t 9) (.c (.int .i64 0)), none⟩,
            ⟨some 11, .mv (.t 10), none⟩,
            ⟨some 12, .mv (.t 1), (some (11, false))⟩,
            ⟨some 13, .eqn false .p (.t 12) (.c (.nilp)), (some (11, false))⟩,
            ⟨some 14, .pick (.t 11) (.c (.bool true)) (.t 13), none⟩] [1, 14]) (
          .cond (.t 14) (
            .seq (
              .reg [
                ⟨some 0, .mv (.c (.bool false)), none⟩] [0]) (
              .ret)) (
            .skip))) (
        .seq (
          .reg [
            ⟨some 16, .mv (.t 1), none⟩,
            ⟨some 17, .call 12 [none, none, none, (some (8, (.int .i64)))] [(.t 16), (.c (.str ⟨#[98]⟩)), (.c (.int .i64 1)), (.c (.nils))], none⟩,
            ⟨some 15, .mv (.t 17), none⟩,
            ⟨some 18, .ext (.t 15) 0, none⟩,
            ⟨some 19, .ext (.t 15) 1, none⟩,
            ⟨some 3, .mv (.t 18), none⟩,
            ⟨some 4, .mv (.t 19), none⟩] [1, 3, 4]) (
          .seq (
            .reg [
              ⟨some 20, .mv (.t 3), none⟩,
              ⟨some 21, .bin .eql (.t 20) (.c (.int .u64 1)), none⟩,
              ⟨some 22, .mv (.t 21), none⟩,
              ⟨some 23, .mv (.t 4), (some (22, true))⟩,
              ⟨some 24, .bin .eql (.t 23) (.c (.int .i64 0)), (some (22, true))⟩,
              ⟨some 25, .pick (.t 22) (.t 24) (.c (.bool false)), none⟩,
              ⟨some 26, .mv (.t 25), none⟩,
              ⟨some 27, .mv (.t 1), (some (26, true))⟩,
              ⟨some 28, .call 19 [none] [(.t 27)], (some (26, true))⟩,
              ⟨some 29, .bin .eql (.t 28) (.c (.str ⟨#[97]⟩)), (some (26, true))⟩,
              ⟨some 30, .pick (.t 26) (.t 29) (.c (.bool false)), none⟩,
              ⟨some 0, .mv (.t 30), none⟩] [0]) (
            .ret)))))
def r9 : List RT := [.t 0]

/-- reeve/outbox.New -/
def a10 : AS :=
  .seq (
    .reg [
      ⟨some 2, .mv (.c (.nilp)), none⟩,
      ⟨some 3, .mv (.c (.int .i64 0)), none⟩] [0]) (
    .seq (
      .seq (
        .reg [
          ⟨some 4, .mv (.t 0), none⟩,
          ⟨some 5, .call 26 [none] [(.t 4)], none⟩,
          ⟨some 6, .not (.t 5), none⟩] [0, 6]) (
        .cond (.t 6) (
          .seq (
            .reg [
              ⟨some 2, .mv (.c (.nilp)), none⟩,
              ⟨some 3, .mv (.c (.int .i64 1)), none⟩] [2, 3]) (
            .lift 2 (some 1) 72 (.pair .str (.pair .str (.pair (.int .u64) (.pair (.int .i64) (.sl 8 (.int .i64)))))) (
            .ret))) (
          .skip))) (
      .seq (
        .reg [
          ⟨some 7, .mv (.t 0), none⟩,
          ⟨some 8, .mkm false .str (.int .u64), none⟩,
          ⟨some 9, .bld [.str ByteArray.empty, .nils, .nilm] [(0, 1, (.t 7)), (2, 1, (.t 8))], none⟩,
          ⟨some 10, .box (.t 9), none⟩,
          ⟨some 2, .mv (.t 10), none⟩,
          ⟨some 3, .mv (.c (.int .i64 0)), none⟩] [2, 3]) (
        .lift 2 (some 1) 72 (.pair .str (.pair .str (.pair (.int .u64) (.pair (.int .i64) (.sl 8 (.int .i64)))))) (
        .ret))))
def r10 : List RT := [.t 2, .t 3]

/-- (*reeve/outbox.Outbox).Pop -/
def a11 : AS :=
  .seq (
    .reg [
      ⟨some 2, .alc [.str ByteArray.empty, .str ByteArray.empty, .int .u64 0, .int .i64 0, .nils], none⟩,
      ⟨some 3, .mv (.c (.bool false)), none⟩] [0, 2]) (
    .seq (
      .reg [
        ⟨some 7, .mv (.t 0), none⟩,
        ⟨some 8, .call 18 [none] [(.t 7)], none⟩,
        ⟨some 6, .mv (.t 8), none⟩,
        ⟨some 9, .ext (.t 6) 0, none⟩,
        ⟨some 10, .ext (.t 6) 1, none⟩,
        ⟨some 4, .alc [.str ByteArray.empty, .str ByteArray.empty, .int .u64 0, .int .i64 0, .nils], none⟩,
        ⟨none, .st 5 (.t 4) (.t 9), none⟩,
        ⟨some 5, .mv (.t 10), none⟩] [0, 2, 4, 5]) (
      .seq (
        .seq (
          .reg [
            ⟨some 11, .mv (.t 5), none⟩] [0, 2, 4, 5, 11]) (
          .cond (.t 11) (
            .reg [
              ⟨some 12, .mv (.t 0), none⟩,
              ⟨some 13, .mv (.t 0), none⟩,
              ⟨some 14, .nck (.t 13), none⟩,
              ⟨some 15, .fa 1 (.t 14), none⟩,
              ⟨some 16, .ld (.t 15), none⟩,
              ⟨some 17, .slR 5 (.t 16) (some (.c (.int .i64 1))) none, none⟩,
              ⟨some 18, .nck (.t 12), none⟩,
              ⟨some 19, .fa 1 (.t 18), none⟩,
              ⟨none, .st 1 (.t 19) (.t 17), none⟩] [2, 4, 5]) (
            .skip))) (
        .seq (
          .reg [
            ⟨some 20, .ldA 5 (.t 4), none⟩,
            ⟨some 21, .mv (.t 5), none⟩,
            ⟨none, .st 5 (.t 2) (.t 20), none⟩,
            ⟨some 3, .mv (.t 21), none⟩] [2, 3]) (
          .ret))))
def r11 : List RT := [.c 2 (some 5), .t 3]

/-- (*reeve/outbox.Outbox).Send -/
def a12 : AS :=
  .seq (
    .reg [
      ⟨some 8, .mv (.c (.int .u64 0)), none⟩,
      ⟨some 9, .mv (.c (.int .i64 0)), none⟩] [0, 1, 2, 3]) (
    .seq (
      .seq (
        .reg [
          ⟨some 13, .mv (.t 0), none⟩,
          ⟨some 14, .call 27 [none] [(.t 13)], none⟩,
          ⟨some 15, .mv (.t 14), none⟩,
          ⟨some 16, .mv (.t 1), (some (15, false))⟩,
          ⟨some 17, .call 26 [none] [(.t 16)], (some (15, false))⟩,
          ⟨some 18, .not (.t 17), (some (15, false))⟩,
          ⟨some 19, .pick (.t 15) (.c (.bool true)) (.t 18), none⟩,
          ⟨some 20, .mv (.t 19), none⟩,
          ⟨some 21, .mv (.t 3), (some (20, false))⟩,
          ⟨some 22, .len .s (.t 21), (some (20, false))⟩,
          ⟨some 23, .bin .gtr (.t 22) (.c (.int .i64 4)), (some (20, false))⟩,
          ⟨some 24, .pick (.t 20) (.c (.bool true)) (.t 23), none⟩] [0, 1, 2, 3, 24]) (
        .cond (.t 24) (
          .seq (
            .reg [
              ⟨some 8, .mv (.c (.int .u64 0)), none⟩,
              ⟨some 9, .mv (.c (.int .i64 1)), none⟩] [8, 9]) (
            .ret)) (
          .skip))) (
      .seq (
        .seq (
          .reg [
            ⟨some 26, .mv (.t 0), none⟩,
            ⟨some 27, .nck (.t 26), none⟩,
            ⟨some 28, .fa 2 (.t 27), none⟩,
            ⟨some 29, .ld (.t 28), none⟩,
            ⟨some 30, .mv (.t 1), none⟩,
            ⟨some 31, .lk false .str (.int .u64) true (.t 29) (.t 30), none⟩,
            ⟨some 25, .mv (.t 31), none⟩,
            ⟨some 32, .ext (.t 25) 0, none⟩,
            ⟨some 33, .ext (.t 25) 1, none⟩,
            ⟨some 10, .mv (.t 32), none⟩,
            ⟨some 11, .mv (.t 33), none⟩] [0, 1, 2, 3, 11]) (
          .seq (
            .reg [
              ⟨some 34, .mv (.t 0), none⟩,
              ⟨some 35, .nck (.t 34), none⟩,
              ⟨some 36, .fa 1 (.t 35), none⟩,
              ⟨some 37, .ld (.t 36), none⟩,
              ⟨some 38, .len .s (.t 37), none⟩,
              ⟨some 39, .bin .geq (.t 38) (.c (.int .i64 32)), none⟩,
              ⟨some 40, .mv (.t 39), none⟩,
              ⟨some 41, .mv (.t 11), (some (40, false))⟩,
              ⟨some 42, .not (.t 41), (some (40, false))⟩,
              ⟨some 43, .mv (.t 42), (some (40, false))⟩,
              ⟨some 44, .mv (.t 0), (some (43, true))⟩,
              ⟨some 45, .nck (.t 44), (some (43, true))⟩,
              ⟨some 46, .fa 2 (.t 45), (some (43, true))⟩,
              ⟨some 47, .ld (.t 46), (some (43, true))⟩,
              ⟨some 48, .len .m (.t 47), (some (43, true))⟩,
              ⟨some 49, .bin .geq (.t 48) (.c (.int .i64 64)), (some (43, true))⟩,
              ⟨some 50, .pick (.t 43) (.t 49) (.c (.bool false)), (some (40, false))⟩,
              ⟨some 51, .pick (.t 40) (.c (.bool true)) (.t 50), none⟩] [0, 1, 2, 3, 51]) (
            .cond (.t 51) (
              .seq (
                .reg [
                  ⟨some 8, .mv (.c (.int .u64 0)), none⟩,
                  ⟨some 9, .mv (.c (.int .i64 6)), none⟩] [8, 9]) (
                .ret)) (
              .skip)))) (
        .seq (
          .reg [
            ⟨some 52, .mv (.t 0), none⟩,
            ⟨some 53, .nck (.t 52), none⟩,
            ⟨some 54, .fa 2 (.t 53), none⟩,
            ⟨some 55, .ld (.t 54), none⟩,
            ⟨some 56, .mv (.t 1), none⟩,
            ⟨some 57, .lk false .str (.int .u64) false (.t 55) (.t 56), none⟩,
            ⟨some 58, .bin .add (.t 57) (.c (.int .u64 1)), none⟩,
            ⟨none, .mu false .str (.int .u64) (.t 55) (.t 56) (.t 58), none⟩] [0, 1, 2, 3]) (
          .seq (
            .reg [
              ⟨some 59, .mv (.t 0), none⟩,
              ⟨some 60, .nck (.t 59), none⟩,
              ⟨some 61, .fa 2 (.t 60), none⟩,
              ⟨some 62, .ld (.t 61), none⟩,
              ⟨some 63, .mv (.t 1), none⟩,
              ⟨some 64, .lk false .str (.int .u64) false (.t 62) (.t 63), none⟩,
              ⟨some 12, .mv (.t 64), none⟩] [0, 1, 2, 3, 12]) (
            .seq (
              .regD [
                ⟨some 65, .mv (.t 0), none⟩,
                ⟨some 66, .mv (.t 0), none⟩,
                ⟨some 67, .nck (.t 66), none⟩,
                ⟨some 68, .fa 1 (.t 67), none⟩,
                ⟨some 69, .ld (.t 68), none⟩,
                ⟨some 70, .mv (.t 1), none⟩,
                ⟨some 71, .mv (.t 0), none⟩,
                ⟨some 72, .nck (.t 71), none⟩,
                ⟨some 73, .fa 0 (.t 72), none⟩,
                ⟨some 74, .ld (.t 73), none⟩,
                ⟨some 75, .mv (.t 12), none⟩,
                ⟨some 76, .mv (.t 2), none⟩,
                ⟨some 77, .mv (.t 3), none⟩,
                ⟨some 78, .call 28 [none] [(.t 77)], none⟩,
                ⟨some 79, .bld [.str ByteArray.empty, .int .u64 0, .int .i64 0, .nils] [(0, 1, (.t 74)), (1, 1, (.t 75)), (2, 1, (.t 76)), (3, 1, (.t 78))], none⟩,
                ⟨some 80, .bld [.str ByteArray.empty, .str ByteArray.empty, .int .u64 0, .int .i64 0, .nils] [(0, 1, (.t 70)), (1, 4, (.t 79))], none⟩,
                ⟨some 81, .bsl 72 (.pair .str (.pair .str (.pair (.int .u64) (.pair (.int .i64) (.sl 8 (.int .i64)))))) 1 [(0, (.t 80))], none⟩,
                ⟨some 82, .app 72 (.pair .str (.pair .str (.pair (.int .u64) (.pair (.int .i64) (.sl 8 (.int .i64)))))) (.t 69) (.t 81), none⟩,
                ⟨some 83, .nck (.t 65), none⟩,
                ⟨some 84, .fa 1 (.t 83), none⟩,
                ⟨none, .st 1 (.t 84) (.t 82), none⟩] [.q 0, .q 1, .q 2, .q 3, .q 4, .q 5, .q 6, .q 7, .q 8, .q 9, .q 10, .q 11, .q 12, .e 13 [0, 1, 2, 3, 4, 5, 6, 7, 8, 9, 10, 11], .q 14, .q 15, .e 16 [0, 1, 2, 3, 4], .e 17 [0], .q 18, .q 19, .e 20 []] [12]) (
              .seq (
                .reg [
                  ⟨some 85, .mv (.t 12), none⟩,
                  ⟨some 8, .mv (.t 85), none⟩,
                  ⟨some 9, .mv (.c (.int .i64 0)), none⟩] [8, 9]) (
                .ret)))))))
def r12 : List RT := [.t 8, .t 9]

/-- reeve/reevelaw14.few -/
def a13 : AS :=
  .seq (
    .reg [
      ⟨some 2, .mv (.c (.bool false)), none⟩] [0]) (
    .seq (
      .seq (
        .reg [
          ⟨some 4, .mv (.t 0), none⟩,
          ⟨some 5, .len .s (.t 4), none⟩,
          ⟨some 6, .mv (.c (.int .i64 0)), none⟩] [0, 5, 6]) (
        .block 0 (
          .loop 1 [0, 5, 6] (
            .seq (
              .reg [
                ⟨some 7, .bin .lss (.t 6) (.t 5), none⟩] [0, 5, 6, 7]) (
              .seq (
                .cond (.t 7) (
                  .skip) (
                  .exit 0)) (
                .seq (
                  .block 1 (
                    .seq (
                      .reg [
                        ⟨some 8, .mv (.t 6), none⟩,
                        ⟨some 3, .mv (.t 8), none⟩] [0, 3, 5, 6]) (
                      .seq (
                        .reg [
                          ⟨some 9, .mv (.t 0), none⟩,
                          ⟨some 10, .mv (.t 3), none⟩,
                          ⟨some 11, .ia 4 (.t 9) (.t 10), none⟩,
                          ⟨some 12, .fa 3 (.t 11), none⟩,
                          ⟨some 13, .ld (.t 12), none⟩,
                          ⟨some 14, .len .s (.t 13), none⟩,
                          ⟨some 15, .bin .gtr (.t 14) (.c (.int .i64 1000)), none⟩,
                          ⟨some 16, .mv (.t 15), none⟩,
                          ⟨some 17, .mv (.t 0), (some (16, false))⟩,
                          ⟨some 18, .mv (.t 3), (some (16, false))⟩,
                          ⟨some 19, .ia 4 (.t 17) (.t 18), (some (16, false))⟩,
                          ⟨some 20, .fa 1 (.t 19), (some (16, false))⟩,
                          ⟨some 21, .ld (.t 20), (some (16, false))⟩,
                          ⟨some 22, .len .i (.t 21), (some (16, false))⟩,
                          ⟨some 23, .bin .gtr (.t 22) (.c (.int .i64 1000)), (some (16, false))⟩,
                          ⟨some 24, .pick (.t 16) (.c (.bool true)) (.t 23), none⟩,
                          ⟨some 25, .mv (.t 24), none⟩,
                          ⟨some 26, .mv (.t 3), (some (25, false))⟩,
                          ⟨some 27, .bin .gtr (.t 26) (.c (.int .i64 300)), (some (25, false))⟩,
                          ⟨some 28, .pick (.t 25) (.c (.bool true)) (.t 27), none⟩] [0, 5, 6, 28]) (
                        .cond (.t 28) (
                          .seq (
                            .reg [
                              ⟨some 2, .mv (.c (.bool false)), none⟩] [2]) (
                            .ret)) (
                          .skip))))) (
                  .reg [
                    ⟨some 29, .bin .add (.t 6) (.c (.int .i64 1)), none⟩,
                    ⟨some 6, .mv (.t 29), none⟩] [0, 5, 6]))))))) (
      .seq (
        .reg [
          ⟨some 2, .mv (.c (.bool true)), none⟩] [2]) (
        .ret)))
def r13 : List RT := [.t 2]

/-- (*reeve/outbox.Outbox).All -/
def a16 : AS :=
  .seq (
    .reg [
      ⟨some 2, .mv (.c (.nils)), none⟩] [0]) (
    .seq (
      .seq (
        .reg [
          ⟨some 6, .mv (.t 0), none⟩,
          ⟨some 7, .call 27 [none] [(.t 6)], none⟩] [0, 7]) (
        .cond (.t 7) (
          .seq (
            .reg [
              ⟨some 2, .mv (.c (.nils)), none⟩] [2]) (
            .lift 2 none 72 (.pair .str (.pair .str (.pair (.int .u64) (.pair (.int .i64) (.sl 8 (.int .i64)))))) (
            .ret))) (
          .skip))) (
      .seq (
        .reg [
          ⟨some 3, .mv (.c (.nils)), none⟩] [0, 3]) (
        .seq (
          .seq (
            .reg [
              ⟨some 8, .mv (.t 0), none⟩,
              ⟨some 9, .nck (.t 8), none⟩,
              ⟨some 10, .fa 1 (.t 9), none⟩,
              ⟨some 11, .ld (.t 10), none⟩,
              ⟨some 12, .len .s (.t 11), none⟩,
              ⟨some 13, .mv (.c (.int .i64 0)), none⟩] [3, 11, 12, 13]) (
            .block 0 (
              .lift 3 none 72 (.pair .str (.pair .str (.pair (.int .u64) (.pair (.int .i64) (.sl 8 (.int .i64)))))) (
              .loop 1 [3, 11, 12, 13] (
                .seq (
                  .reg [
                    ⟨some 14, .bin .lss (.t 13) (.t 12), none⟩] [3, 11, 12, 13, 14]) (
                  .seq (
                    .cond (.t 14) (
                      .skip) (
                      .exit 0)) (
                    .seq (
                      .block 1 (
                        .seq (
                          .reg [
                            ⟨some 15, .ia 5 (.t 11) (.t 13), none⟩,
                            ⟨some 16, .ldA 5 (.t 15), none⟩,
                            ⟨some 5, .alc [.str ByteArray.empty, .str ByteArray.empty, .int .u64 0, .int .i64 0, .nils], none⟩,
                            ⟨none, .st 5 (.t 5) (.t 16), none⟩] [3, 5, 11, 12, 13]) (
                          .regD [
                            ⟨some 17, .mv (.t 3), none⟩,
                            ⟨some 18, .fa 0 (.t 5), none⟩,
                            ⟨some 19, .ld (.t 18), none⟩,
                            ⟨some 20, .fa 1 (.t 5), none⟩,
                            ⟨some 21, .ldA 4 (.t 20), none⟩,
                            ⟨some 22, .call 35 [none] [(.t 21)], none⟩,
                            ⟨some 23, .bld [.str ByteArray.empty, .str ByteArray.empty, .int .u64 0, .int .i64 0, .nils] [(0, 1, (.t 19)), (1, 4, (.t 22))], none⟩,
                            ⟨some 24, .bsl 72 (.pair .str (.pair .str (.pair (.int .u64) (.pair (.int .i64) (.sl 8 (.int .i64)))))) 1 [(0, (.t 23))], none⟩,
                            ⟨some 25, .app 72 (.pair .str (.pair .str (.pair (.int .u64) (.pair (.int .i64) (.sl 8 (.int .i64)))))) (.t 17) (.t 24), none⟩,
                            ⟨some 3, .mv (.t 25), none⟩] [.q 0, .q 1, .q 2, .q 3, .q 4, .e 5 [0, 1, 2], .q 6, .e 7 [0], .e 8 [], .q 9] [3, 11, 12, 13]))) (
                      .reg [
                        ⟨some 26, .bin .add (.t 13) (.c (.int .i64 1)), none⟩,
                        ⟨some 13, .mv (.t 26), none⟩] [3, 11, 12, 13])))))))) (
          .seq (
            .reg [
              ⟨some 27, .mv (.t 3), none⟩,
              ⟨some 2, .mv (.t 27), none⟩] [2]) (
            .lift 2 none 72 (.pair .str (.pair .str (.pair (.int .u64) (.pair (.int .i64) (.sl 8 (.int .i64)))))) (
            .ret))))))
def r16 : List RT := [.t 2]

/-- (*reeve/outbox.Outbox).Serial -/
def a17 : AS :=
  .seq (
    .reg [
      ⟨some 4, .mv (.c (.int .u64 0)), none⟩] [0, 1]) (
    .seq (
      .seq (
        .reg [
          ⟨some 5, .mv (.t 0), none⟩,
          ⟨some 6, .call 27 [none] [(.t 5)], none⟩] [0, 1, 6]) (
        .cond (.t 6) (
          .seq (
            .reg [
              ⟨some 4, .mv (.c (.int .u64 0)), none⟩] [4]) (
            .ret)) (
          .skip))) (
      .seq (
        .reg [
          ⟨some 7, .mv (.t 0), none⟩,
          ⟨some 8, .nck (.t 7), none⟩,
          ⟨some 9, .fa 2 (.t 8), none⟩,
          ⟨some 10, .ld (.t 9), none⟩,
          ⟨some 11, .mv (.t 1), none⟩,
          ⟨some 12, .lk false .str (.int .u64) false (.t 10) (.t 11), none⟩,
          ⟨some 4, .mv (.t 12), none⟩] [4]) (
        .ret)))
def r17 : List RT := [.t 4]

/-- (*reeve/outbox.Outbox).First -/
def a18 : AS :=
  .seq (
    .reg [
      ⟨some 2, .alc [.str ByteArray.empty, .str ByteArray.empty, .int .u64 0, .int .i64 0, .nils], none⟩,
      ⟨some 3, .mv (.c (.bool false)), none⟩] [0, 2]) (
    .seq (
      .seq (
        .reg [
          ⟨some 4, .mv (.t 0), none⟩,
          ⟨some 5, .call 27 [none] [(.t 4)], none⟩,
          ⟨some 6, .mv (.t 5), none⟩,
          ⟨some 7, .mv (.t 0), (some (6, false))⟩,
          ⟨some 8, .nck (.t 7), (some (6, false))⟩,
          ⟨some 9, .fa 1 (.t 8), (some (6, false))⟩,
          ⟨some 10, .ld (.t 9), (some (6, false))⟩,
          ⟨some 11, .len .s (.t 10), (some (6, false))⟩,
          ⟨some 12, .bin .eql (.t 11) (.c (.int .i64 0)), (some (6, false))⟩,
          ⟨some 13, .pick (.t 6) (.c (.bool true)) (.t 12), none⟩] [0, 2, 13]) (
        .cond (.t 13) (
          .seq (
            .reg [
              ⟨some 14, .bld [.str ByteArray.empty, .str ByteArray.empty, .int .u64 0, .int .i64 0, .nils] [], none⟩,
              ⟨none, .st 5 (.t 2) (.t 14), none⟩,
              ⟨some 3, .mv (.c (.bool false)), none⟩] [2, 3]) (
            .ret)) (
          .skip))) (
      .seq (
        .regD [
          ⟨some 15, .mv (.t 0), none⟩,
          ⟨some 16, .nck (.t 15), none⟩,
          ⟨some 17, .fa 1 (.t 16), none⟩,
          ⟨some 18, .ld (.t 17), none⟩,
          ⟨some 19, .ia 5 (.t 18) (.c (.int .i64 0)), none⟩,
          ⟨some 20, .fa 0 (.t 19), none⟩,
          ⟨some 21, .ld (.t 20), none⟩,
          ⟨some 22, .mv (.t 0), none⟩,
          ⟨some 23, .nck (.t 22), none⟩,
          ⟨some 24, .fa 1 (.t 23), none⟩,
          ⟨some 25, .ld (.t 24), none⟩,
          ⟨some 26, .ia 5 (.t 25) (.c (.int .i64 0)), none⟩,
          ⟨some 27, .fa 1 (.t 26), none⟩,
          ⟨some 28, .ldA 4 (.t 27), none⟩,
          ⟨some 29, .call 35 [none] [(.t 28)], none⟩,
          ⟨some 30, .bld [.str ByteArray.empty, .str ByteArray.empty, .int .u64 0, .int .i64 0, .nils] [(0, 1, (.t 21)), (1, 4, (.t 29))], none⟩,
          ⟨none, .st 5 (.t 2) (.t 30), none⟩,
          ⟨some 3, .mv (.c (.bool true)), none⟩] [.q 0, .q 1, .q 2, .q 3, .q 4, .q 5, .q 6, .q 7, .q 8, .q 9, .q 10, .q 11, .q 12, .q 13, .e 14 [0, 1, 2, 3, 4, 5, 6], .q 15, .e 16 [], .q 17] [2, 3]) (
        .ret)))
def r18 : List RT := [.c 2 (some 5), .t 3]

/-- (*reeve/outbox.Outbox).Owner -/
def a19 : AS :=
  .seq (
    .reg [
      ⟨some 2, .mv (.c (.str ByteArray.empty)), none⟩] [0]) (
    .seq (
      .seq (
        .reg [
          ⟨some 3, .mv (.t 0), none⟩,
          ⟨some 4, .eqn false .p (.t 3) (.c (.nilp)), none⟩] [0, 4]) (
        .cond (.t 4) (
          .seq (
            .reg [
              ⟨some 2, .mv (.c (.str ByteArray.empty)), none⟩] [2]) (
            .ret)) (
          .skip))) (
      .seq (
        .reg [
          ⟨some 5, .mv (.t 0), none⟩,
          ⟨some 6, .nck (.t 5), none⟩,
          ⟨some 7, .fa 0 (.t 6), none⟩,
          ⟨some 8, .ld (.t 7), none⟩,
          ⟨some 2, .mv (.t 8), none⟩] [2]) (
        .ret)))
def r19 : List RT := [.t 2]

/-- reeve/letter.Key -/
def a26 : AS :=
  .seq (
    .reg [
      ⟨some 2, .mv (.c (.bool false)), none⟩] [0]) (
    .seq (
      .reg [
        ⟨some 3, .mv (.t 0), none⟩,
        ⟨some 4, .bin .neq (.t 3) (.c (.str ByteArray.empty)), none⟩,
        ⟨some 5, .mv (.t 4), none⟩,
        ⟨some 6, .mv (.t 0), (some (5, true))⟩,
        ⟨some 7, .len .i (.t 6), (some (5, true))⟩,
        ⟨some 8, .bin .leq (.t 7) (.c (.int .i64 40)), (some (5, true))⟩,
        ⟨some 9, .pick (.t 5) (.t 8) (.c (.bool false)), none⟩,
        ⟨some 2, .mv (.t 9), none⟩] [2]) (
      .ret))
def r26 : List RT := [.t 2]

/-- (*reeve/outbox.Outbox).none -/
def a27 : AS :=
  .seq (
    .reg [
      ⟨some 2, .mv (.c (.bool false)), none⟩] [0]) (
    .seq (
      .reg [
        ⟨some 3, .mv (.t 0), none⟩,
        ⟨some 4, .eqn false .p (.t 3) (.c (.nilp)), none⟩,
        ⟨some 5, .mv (.t 4), none⟩,
        ⟨some 6, .mv (.t 0), (some (5, false))⟩,
        ⟨some 7, .nck (.t 6), (some (5, false))⟩,
        ⟨some 8, .fa 0 (.t 7), (some (5, false))⟩,
        ⟨some 9, .ld (.t 8), (some (5, false))⟩,
        ⟨some 10, .bin .eql (.t 9) (.c (.str ByteArray.empty)), (some (5, false))⟩,
        ⟨some 11, .pick (.t 5) (.c (.bool true)) (.t 10), none⟩,
        ⟨some 2, .mv (.t 11), none⟩] [2]) (
      .ret))
def r27 : List RT := [.t 2]

/-- slices.Clone[[]int64,int64] -/
def a28 : AS :=
  .seq (
    .reg [
      ⟨some 2, .mv (.c (.nils)), none⟩] [0]) (
    .seq (
      .seq (
        .reg [
          ⟨some 3, .mv (.t 0), none⟩,
          ⟨some 4, .isn false (.t 3), none⟩] [0, 4]) (
        .cond (.t 4) (
          .seq (
            .reg [
              ⟨some 2, .mv (.c (.nils)), none⟩] [2]) (
            .lift 2 none 8 (.int .i64) (
            .ret))) (
          .skip))) (
      .seq (
        .reg [
          ⟨some 5, .bsl 8 (.int .i64) 0 [], none⟩,
          ⟨some 6, .mv (.t 0), none⟩,
          ⟨some 7, .app 8 (.int .i64) (.t 5) (.t 6), none⟩,
          ⟨some 2, .mv (.t 7), none⟩] [2]) (
        .lift 2 none 8 (.int .i64) (
        .ret))))
def r28 : List RT := [.t 2]

/-- reeve/letter.Copy -/
def a35 : AS :=
  .seq (
    .reg [
      ⟨some 1, .box (.t 0), none⟩,
      ⟨some 2, .alc [.str ByteArray.empty, .int .u64 0, .int .i64 0, .nils], none⟩] [1, 2]) (
    .seq (
      .reg [
        ⟨some 3, .fa 3 (.t 1), none⟩,
        ⟨some 4, .ld (.t 3), none⟩,
        ⟨some 5, .call 28 [none] [(.t 4)], none⟩,
        ⟨some 6, .fa 3 (.t 1), none⟩,
        ⟨none, .st 1 (.t 6) (.t 5), none⟩] [1, 2]) (
      .seq (
        .reg [
          ⟨some 7, .ldA 4 (.t 1), none⟩,
          ⟨none, .st 4 (.t 2) (.t 7), none⟩] [2]) (
        .ret)))
def r35 : List RT := [.c 2 (some 4)]

theorem ok3 : okF Try.prog 3 a3 r3 1 = true := by decide +kernel
theorem ok9 : okF Try.prog 9 a9 r9 0 = true := by decide +kernel
theorem ok10 : okF Try.prog 10 a10 r10 1 = true := by decide +kernel
theorem ok11 : okF Try.prog 11 a11 r11 1 = true := by decide +kernel
theorem ok12 : okF Try.prog 12 a12 r12 4 = true := by decide +kernel
theorem ok13 : okF Try.prog 13 a13 r13 1 = true := by decide +kernel
theorem ok16 : okF Try.prog 16 a16 r16 1 = true := by decide +kernel
theorem ok17 : okF Try.prog 17 a17 r17 2 = true := by decide +kernel
theorem ok18 : okF Try.prog 18 a18 r18 1 = true := by decide +kernel
theorem ok19 : okF Try.prog 19 a19 r19 1 = true := by decide +kernel
theorem ok26 : okF Try.prog 26 a26 r26 1 = true := by decide +kernel
theorem ok27 : okF Try.prog 27 a27 r27 1 = true := by decide +kernel
theorem ok28 : okF Try.prog 28 a28 r28 1 = true := by decide +kernel
theorem ok35 : okF Try.prog 35 a35 r35 1 = true := by decide +kernel
end Go.V
