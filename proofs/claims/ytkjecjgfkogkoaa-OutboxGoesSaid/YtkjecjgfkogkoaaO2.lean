/- A part of the proof layer, or functions of the given program in it: contracts and their proofs. -/
import Derived.Test.YtkjecjgfkogkoaaO1
import Derived.Test.YtkjecjgfkogkoaaProg
namespace Go.V
set_option linter.unusedSimpArgs false
set_option linter.unnecessarySimpa false
open Go.Proofs
/-- reeve/reevelaw14.OutboxPlays -/
def a4 : AS :=
  .seq (
    .reg [
      ⟨some 4, .mv (.c (.bool false)), none⟩] [0, 1]) (
    .seq (
      .seq (
        .reg [
          ⟨some 9, .call 9 [] [], none⟩,
          ⟨some 10, .not (.t 9), none⟩,
          ⟨some 11, .mv (.t 10), none⟩,
          ⟨some 12, .mv (.t 1), (some (11, false))⟩,
          ⟨some 13, .call 13 [none] [(.t 12)], (some (11, false))⟩,
          ⟨some 14, .not (.t 13), (some (11, false))⟩,
          ⟨some 15, .pick (.t 11) (.c (.bool true)) (.t 14), none⟩] [0, 1, 15]) (
        .cond (.t 15) (
          .seq (
            .reg [
              ⟨some 16, .call 9 [] [], none⟩,
              ⟨some 4, .mv (.t 16), none⟩] [4]) (
            .ret)) (
          .skip))) (
      .seq (
        .reg [
          ⟨some 18, .mv (.t 0), none⟩,
          ⟨some 19, .call 10 [none] [(.t 18)], none⟩,
          ⟨some 17, .mv (.t 19), none⟩,
          ⟨some 20, .ext (.t 17) 0, none⟩,
          ⟨some 21, .ext (.t 17) 1, none⟩,
          ⟨some 5, .mv (.t 20), none⟩,
          ⟨some 6, .mv (.t 21), none⟩] [0, 1, 5, 6]) (
        .seq (
          .reg [
            ⟨some 23, .mv (.t 0), none⟩,
            ⟨some 24, .call 14 [none] [(.t 23)], none⟩,
            ⟨some 22, .mv (.t 24), none⟩,
            ⟨some 25, .ext (.t 22) 0, none⟩,
            ⟨some 26, .ext (.t 22) 1, none⟩,
            ⟨some 7, .mv (.t 25), none⟩,
            ⟨some 8, .mv (.t 26), none⟩] [1, 5, 6, 7, 8]) (
          .seq (
            .seq (
              .reg [
                ⟨some 27, .mv (.t 6), none⟩,
                ⟨some 28, .mv (.t 8), none⟩,
                ⟨some 29, .bin .neq (.t 27) (.t 28), none⟩,
                ⟨some 30, .mv (.t 29), none⟩,
                ⟨some 31, .mv (.t 6), (some (30, false))⟩,
                ⟨some 32, .bin .neq (.t 31) (.c (.int .i64 0)), (some (30, false))⟩,
                ⟨some 33, .pick (.t 30) (.c (.bool true)) (.t 32), none⟩] [1, 5, 6, 7, 8, 33]) (
              .cond (.t 33) (
                .seq (
                  .reg [
                    ⟨some 34, .mv (.t 6), none⟩,
                    ⟨some 35, .mv (.t 8), none⟩,
                    ⟨some 36, .bin .eql (.t 34) (.t 35), none⟩,
                    ⟨some 37, .mv (.t 36), none⟩,
                    ⟨some 38, .mv (.t 5), (some (37, true))⟩,
                    ⟨some 39, .eqn false .p (.t 38) (.c (.nilp)), (some (37, true))⟩,
                    ⟨some 40, .pick (.t 37) (.t 39) (.c (.bool false)), none⟩,
                    ⟨some 4, .mv (.t 40), none⟩] [4]) (
                  .ret)) (
                .skip))) (
            .seq (
              .reg [
                ⟨some 41, .mv (.t 5), none⟩,
                ⟨some 42, .mv (.t 7), none⟩,
                ⟨some 43, .mv (.t 1), none⟩,
                ⟨some 44, .call 15 [none, none, none] [(.t 41), (.t 42), (.t 43)], none⟩,
                ⟨some 4, .mv (.t 44), none⟩] [4]) (
              .ret))))))
def r4 : List RT := [.t 4]

/-- reeve/reevelaw14.OutboxSerials -/
def a5 : AS :=
  .seq (
    .reg [
      ⟨some 4, .mv (.c (.bool false)), none⟩] [0, 1]) (
    .seq (
      .seq (
        .reg [
          ⟨some 13, .call 9 [] [], none⟩,
          ⟨some 14, .not (.t 13), none⟩,
          ⟨some 15, .mv (.t 14), none⟩,
          ⟨some 16, .mv (.t 0), (some (15, false))⟩,
          ⟨some 17, .len .s (.t 16), (some (15, false))⟩,
          ⟨some 18, .bin .gtr (.t 17) (.c (.int .i64 100)), (some (15, false))⟩,
          ⟨some 19, .pick (.t 15) (.c (.bool true)) (.t 18), none⟩] [0, 1, 19]) (
        .cond (.t 19) (
          .seq (
            .reg [
              ⟨some 20, .call 9 [] [], none⟩,
              ⟨some 4, .mv (.t 20), none⟩] [4]) (
            .ret)) (
          .skip))) (
      .seq (
        .reg [
          ⟨some 22, .call 10 [none] [(.c (.str ⟨#[109, 101]⟩))], none⟩,
          ⟨some 21, .mv (.t 22), none⟩,
          ⟨some 23, .ext (.t 21) 0, none⟩,
          ⟨some 24, .ext (.t 21) 1, none⟩,
          ⟨some 5, .mv (.t 23), none⟩,
          ⟨some 6, .mv (.t 24), none⟩] [0, 1, 5]) (
        .seq (
          .reg [
            ⟨some 7, .alc [.arr 5 (.int .u64) (List.replicate 5 (Ty.dflt (.int .u64)))], none⟩] [0, 1, 5, 7]) (
          .seq (
            .seq (
              .reg [
                ⟨some 25, .mv (.t 0), none⟩,
                ⟨some 26, .len .s (.t 25), none⟩,
                ⟨some 27, .mv (.c (.int .i64 0)), none⟩] [0, 1, 5, 7, 26, 27]) (
              .block 0 (
                .lift 5 (some 1) 72 (.pair .str (.pair .str (.pair (.int .u64) (.pair (.int .i64) (.sl 8 (.int .i64)))))) (
                .loop 1 [0, 1, 5, 7, 26, 27] (
                  .seq (
                    .reg [
                      ⟨some 28, .bin .lss (.t 27) (.t 26), none⟩] [0, 1, 5, 7, 26, 27, 28]) (
                    .seq (
                      .cond (.t 28) (
                        .skip) (
                        .exit 0)) (
                      .seq (
                        .block 1 (
                          .seq (
                            .reg [
                              ⟨some 29, .mv (.t 27), none⟩,
                              ⟨some 8, .mv (.t 29), none⟩] [0, 1, 5, 7, 8, 26, 27]) (
                            .seq (
                              .reg [
                                ⟨some 30, .mv (.t 0), none⟩,
                                ⟨some 31, .mv (.t 8), none⟩,
                                ⟨some 32, .ia 1 (.t 30) (.t 31), none⟩,
                                ⟨some 33, .ld (.t 32), none⟩,
                                ⟨some 34, .bin .rem (.t 33) (.c (.int .u8 5)), none⟩,
                                ⟨some 35, .cv .i64 (.t 34), none⟩,
                                ⟨some 9, .mv (.t 35), none⟩] [0, 1, 5, 7, 8, 9, 26, 27]) (
                              .seq (
                                .seq (
                                  .reg [
                                    ⟨some 36, .mv (.t 1), none⟩,
                                    ⟨some 37, .mv (.t 8), none⟩,
                                    ⟨some 38, .bin .rem (.t 37) (.c (.int .i64 64)), none⟩,
                                    ⟨some 39, .cv .u64 (.t 38), none⟩,
                                    ⟨some 40, .bin .shr (.t 36) (.t 39), none⟩,
                                    ⟨some 41, .bin .and (.t 40) (.c (.int .u64 1)), none⟩,
                                    ⟨some 42, .bin .eql (.t 41) (.c (.int .u64 1)), none⟩] [0, 1, 5, 7, 9, 26, 27, 42]) (
                                  .cond (.t 42) (
                                    .reg [
                                      ⟨some 43, .mv (.t 5), none⟩,
                                      ⟨some 44, .call 11 [none] [(.t 43)], none⟩] [0, 1, 5, 7, 9, 26, 27]) (
                                    .skip))) (
                                .seq (
                                  .reg [
                                    ⟨some 46, .mv (.t 5), none⟩,
                                    ⟨some 47, .mv (.t 9), none⟩,
                                    ⟨some 48, .bin .add (.c (.int .i64 97)) (.t 47), none⟩,
                                    ⟨some 49, .cv .u8 (.t 48), none⟩,
                                    ⟨some 50, .bsl 1 .byte 1 [(0, (.t 49))], none⟩,
                                    ⟨some 51, .b2s (.t 50), none⟩,
                                    ⟨some 52, .call 12 [none, none, none, (some (8, (.int .i64)))] [(.t 46), (.t 51), (.c (.int .i64 0)), (.c (.nils))], none⟩,
                                    ⟨some 45, .mv (.t 52), none⟩,
                                    ⟨some 53, .ext (.t 45) 0, none⟩,
                                    ⟨some 54, .ext (.t 45) 1, none⟩,
                                    ⟨some 10, .mv (.t 53), none⟩,
                                    ⟨some 11, .mv (.t 54), none⟩] [0, 1, 5, 7, 9, 10, 11, 26, 27]) (
                                  .seq (
                                    .seq (
                                      .reg [
                                        ⟨some 55, .mv (.t 11), none⟩,
                                        ⟨some 56, .bin .eql (.t 55) (.c (.int .i64 0)), none⟩] [0, 1, 5, 7, 9, 10, 11, 26, 27, 56]) (
                                      .cond (.t 56) (
                                        .reg [
                                          ⟨some 57, .mv (.t 9), none⟩,
                                          ⟨some 58, .iaA 5 1 (.t 7) (.t 57), none⟩,
                                          ⟨some 59, .ld (.t 58), none⟩,
                                          ⟨some 60, .bin .add (.t 59) (.c (.int .u64 1)), none⟩,
                                          ⟨some 61, .iaA 5 1 (.t 7) (.t 57), none⟩,
                                          ⟨none, .st 1 (.t 61) (.t 60), none⟩] [0, 1, 5, 7, 9, 10, 11, 26, 27]) (
                                        .skip))) (
                                    .seq (
                                      .reg [
                                        ⟨some 62, .mv (.t 11), none⟩,
                                        ⟨some 63, .bin .eql (.t 62) (.c (.int .i64 0)), none⟩,
                                        ⟨some 64, .mv (.t 63), none⟩,
                                        ⟨some 65, .mv (.t 10), (some (64, true))⟩,
                                        ⟨some 66, .mv (.t 9), (some (64, true))⟩,
                                        ⟨some 67, .iaA 5 1 (.t 7) (.t 66), (some (64, true))⟩,
                                        ⟨some 68, .ld (.t 67), (some (64, true))⟩,
                                        ⟨some 69, .bin .neq (.t 65) (.t 68), (some (64, true))⟩,
                                        ⟨some 70, .pick (.t 64) (.t 69) (.c (.bool false)), none⟩,
                                        ⟨some 71, .mv (.t 70), none⟩,
                                        ⟨some 72, .mv (.t 11), (some (71, false))⟩,
                                        ⟨some 73, .bin .neq (.t 72) (.c (.int .i64 0)), (some (71, false))⟩,
                                        ⟨some 74, .mv (.t 73), (some (71, false))⟩,
                                        ⟨some 75, .mv (.t 11), (some (74, true))⟩,
                                        ⟨some 76, .bin .neq (.t 75) (.c (.int .i64 6)), (some (74, true))⟩,
                                        ⟨some 77, .mv (.t 76), (some (74, true))⟩,
                                        ⟨some 78, .mv (.t 5), (some (77, false))⟩,
                                        ⟨some 79, .call 16 [none] [(.t 78)], (some (77, false))⟩,
                                        ⟨some 80, .len .s (.t 79), (some (77, false))⟩,
                                        ⟨some 81, .bin .neq (.t 80) (.c (.int .i64 32)), (some (77, false))⟩,
                                        ⟨some 82, .pick (.t 77) (.c (.bool true)) (.t 81), (some (74, true))⟩,
                                        ⟨some 83, .pick (.t 74) (.t 82) (.c (.bool false)), (some (71, false))⟩,
                                        ⟨some 84, .pick (.t 71) (.c (.bool true)) (.t 83), none⟩] [0, 1, 5, 7, 26, 27, 84]) (
                                      .cond (.t 84) (
                                        .seq (
                                          .reg [
                                            ⟨some 4, .mv (.c (.bool false)), none⟩] [4]) (
                                          .ret)) (
                                        .skip))))))))) (
                        .reg [
                          ⟨some 85, .bin .add (.t 27) (.c (.int .i64 1)), none⟩,
                          ⟨some 27, .mv (.t 85), none⟩] [0, 1, 5, 7, 26, 27])))))))) (
            .seq (
              .seq (
                .reg [
                  ⟨some 86, .mv (.c (.int .i64 0)), none⟩] [5, 7, 86]) (
                .block 2 (
                  .lift 5 (some 1) 72 (.pair .str (.pair .str (.pair (.int .u64) (.pair (.int .i64) (.sl 8 (.int .i64)))))) (
                  .loop 2 [5, 7, 86] (
                    .seq (
                      .reg [
                        ⟨some 87, .bin .lss (.t 86) (.c (.int .i64 5)), none⟩] [5, 7, 86, 87]) (
                      .seq (
                        .cond (.t 87) (
                          .skip) (
                          .exit 2)) (
                        .seq (
                          .block 3 (
                            .seq (
                              .reg [
                                ⟨some 88, .mv (.t 86), none⟩,
                                ⟨some 12, .mv (.t 88), none⟩] [5, 7, 12, 86]) (
                              .seq (
                                .regD [
                                  ⟨some 89, .mv (.t 5), none⟩,
                                  ⟨some 90, .mv (.t 12), none⟩,
                                  ⟨some 91, .bin .add (.c (.int .i64 97)) (.t 90), none⟩,
                                  ⟨some 92, .cv .u8 (.t 91), none⟩,
                                  ⟨some 93, .bsl 1 .byte 1 [(0, (.t 92))], none⟩,
                                  ⟨some 94, .b2s (.t 93), none⟩,
                                  ⟨some 95, .call 17 [none, none] [(.t 89), (.t 94)], none⟩,
                                  ⟨some 96, .mv (.t 12), none⟩,
                                  ⟨some 97, .iaA 5 1 (.t 7) (.t 96), none⟩,
                                  ⟨some 98, .ld (.t 97), none⟩,
                                  ⟨some 99, .bin .neq (.t 95) (.t 98), none⟩] [.q 0, .q 1, .q 2, .q 3, .q 7, .q 8, .q 9, .e 4 [0, 7, 8, 9], .q 5, .e 6 [7, 8, 9], .q 10] [5, 7, 86, 99]) (
                                .cond (.t 99) (
                                  .seq (
                                    .reg [
                                      ⟨some 4, .mv (.c (.bool false)), none⟩] [4]) (
                                    .ret)) (
                                  .skip))))) (
                          .reg [
                            ⟨some 100, .bin .add (.t 86) (.c (.int .i64 1)), none⟩,
                            ⟨some 86, .mv (.t 100), none⟩] [5, 7, 86])))))))) (
              .seq (
                .reg [
                  ⟨some 4, .mv (.c (.bool true)), none⟩] [4]) (
                .ret)))))))
def r5 : List RT := [.t 4]

/-- reeve/reevelaw14.OutboxNil -/
def a6 : AS :=
  .seq (
    .reg [
      ⟨some 4, .mv (.c (.bool false)), none⟩] [0, 1]) (
    .seq (
      .seq (
        .reg [
          ⟨some 24, .call 9 [] [], none⟩,
          ⟨some 25, .not (.t 24), none⟩,
          ⟨some 26, .mv (.t 25), none⟩,
          ⟨some 27, .mv (.t 1), (some (26, false))⟩,
          ⟨some 28, .len .s (.t 27), (some (26, false))⟩,
          ⟨some 29, .bin .gtr (.t 28) (.c (.int .i64 4)), (some (26, false))⟩,
          ⟨some 30, .pick (.t 26) (.c (.bool true)) (.t 29), none⟩,
          ⟨some 31, .mv (.t 30), none⟩,
          ⟨some 32, .mv (.t 0), (some (31, false))⟩,
          ⟨some 33, .len .i (.t 32), (some (31, false))⟩,
          ⟨some 34, .bin .gtr (.t 33) (.c (.int .i64 1000)), (some (31, false))⟩,
          ⟨some 35, .pick (.t 31) (.c (.bool true)) (.t 34), none⟩] [0, 1, 35]) (
        .cond (.t 35) (
          .seq (
            .reg [
              ⟨some 36, .call 9 [] [], none⟩,
              ⟨some 4, .mv (.t 36), none⟩] [4]) (
            .ret)) (
          .skip))) (
      .seq (
        .reg [
          ⟨some 5, .mv (.c (.nilp)), none⟩] [0, 1, 5]) (
        .seq (
          .reg [
            ⟨some 37, .bld [.str ByteArray.empty, .nils, .nilm] [], none⟩,
            ⟨some 38, .box (.t 37), none⟩,
            ⟨some 6, .mv (.t 38), none⟩] [0, 1, 5, 6]) (
          .seq (
            .reg [
              ⟨some 40, .mv (.t 5), none⟩,
              ⟨some 41, .mv (.t 0), none⟩,
              ⟨some 42, .mv (.t 1), none⟩,
              ⟨some 43, .call 12 [none, none, none, (some (8, (.int .i64)))] [(.t 40), (.t 41), (.c (.int .i64 0)), (.t 42)], none⟩,
              ⟨some 39, .mv (.t 43), none⟩,
              ⟨some 44, .ext (.t 39) 0, none⟩,
              ⟨some 45, .ext (.t 39) 1, none⟩,
              ⟨some 7, .mv (.t 44), none⟩,
              ⟨some 8, .mv (.t 45), none⟩] [0, 1, 5, 6, 8]) (
            .seq (
              .reg [
                ⟨some 47, .mv (.t 6), none⟩,
                ⟨some 48, .mv (.t 0), none⟩,
                ⟨some 49, .mv (.t 1), none⟩,
                ⟨some 50, .call 12 [none, none, none, (some (8, (.int .i64)))] [(.t 47), (.t 48), (.c (.int .i64 0)), (.t 49)], none⟩,
                ⟨some 46, .mv (.t 50), none⟩,
                ⟨some 51, .ext (.t 46) 0, none⟩,
                ⟨some 52, .ext (.t 46) 1, none⟩,
                ⟨some 9, .mv (.t 51), none⟩,
                ⟨some 10, .mv (.t 52), none⟩] [0, 1, 5, 6, 8, 10]) (
              .seq (
                .reg [
                  ⟨some 54, .mv (.t 5), none⟩,
                  ⟨some 55, .call 18 [none] [(.t 54)], none⟩,
                  ⟨some 53, .mv (.t 55), none⟩,
                  ⟨some 56, .ext (.t 53) 0, none⟩,
                  ⟨some 57, .ext (.t 53) 1, none⟩,
                  ⟨some 11, .alc [.str ByteArray.empty, .str ByteArray.empty, .int .u64 0, .int .i64 0, .nils], none⟩,
                  ⟨none, .st 5 (.t 11) (.t 56), none⟩,
                  ⟨some 12, .mv (.t 57), none⟩] [0, 1, 5, 6, 8, 10, 12]) (
                .seq (
                  .reg [
                    ⟨some 59, .mv (.t 6), none⟩,
                    ⟨some 60, .call 11 [none] [(.t 59)], none⟩,
                    ⟨some 58, .mv (.t 60), none⟩,
                    ⟨some 61, .ext (.t 58) 0, none⟩,
                    ⟨some 62, .ext (.t 58) 1, none⟩,
                    ⟨some 13, .alc [.str ByteArray.empty, .str ByteArray.empty, .int .u64 0, .int .i64 0, .nils], none⟩,
                    ⟨none, .st 5 (.t 13) (.t 61), none⟩,
                    ⟨some 14, .mv (.t 62), none⟩] [0, 1, 5, 6, 8, 10, 12, 14]) (
                  .seq (
                    .reg [
                      ⟨some 64, .call 10 [none] [(.c (.str ⟨#[109, 101]⟩))], none⟩,
                      ⟨some 63, .mv (.t 64), none⟩,
                      ⟨some 65, .ext (.t 63) 0, none⟩,
                      ⟨some 66, .ext (.t 63) 1, none⟩,
                      ⟨some 15, .mv (.t 65), none⟩,
                      ⟨some 16, .mv (.t 66), none⟩] [0, 1, 5, 6, 8, 10, 12, 14, 15]) (
                    .seq (
                      .reg [
                        ⟨some 67, .bsl 8 (.int .i64) 0 [], none⟩,
                        ⟨some 68, .mv (.t 1), none⟩,
                        ⟨some 69, .app 8 (.int .i64) (.t 67) (.t 68), none⟩,
                        ⟨some 17, .mv (.t 69), none⟩] [0, 1, 5, 6, 8, 10, 12, 14, 15, 17]) (
                      .seq (
                        .reg [
                          ⟨some 70, .mv (.t 15), none⟩,
                          ⟨some 71, .mv (.t 17), none⟩,
                          ⟨some 72, .call 12 [none, none, none, (some (8, (.int .i64)))] [(.t 70), (.c (.str ⟨#[120]⟩)), (.c (.int .i64 0)), (.t 71)], none⟩] [0, 1, 5, 6, 8, 10, 12, 14, 15, 17]) (
                        .seq (
                          .seq (
                            .reg [
                              ⟨some 73, .mv (.t 17), none⟩,
                              ⟨some 74, .len .s (.t 73), none⟩,
                              ⟨some 75, .mv (.c (.int .i64 0)), none⟩] [0, 1, 5, 6, 8, 10, 12, 14, 15, 17, 74, 75]) (
                            .block 0 (
                              .lift 15 (some 1) 72 (.pair .str (.pair .str (.pair (.int .u64) (.pair (.int .i64) (.sl 8 (.int .i64)))))) (
                              .loop 1 [0, 1, 5, 6, 8, 10, 12, 14, 15, 17, 74, 75] (
                                .seq (
                                  .reg [
                                    ⟨some 76, .bin .lss (.t 75) (.t 74), none⟩] [0, 1, 5, 6, 8, 10, 12, 14, 15, 17, 74, 75, 76]) (
                                  .seq (
                                    .cond (.t 76) (
                                      .skip) (
                                      .exit 0)) (
                                    .seq (
                                      .block 1 (
                                        .seq (
                                          .reg [
                                            ⟨some 77, .mv (.t 75), none⟩,
                                            ⟨some 18, .mv (.t 77), none⟩] [0, 1, 5, 6, 8, 10, 12, 14, 15, 17, 18, 74, 75]) (
                                          .reg [
                                            ⟨some 78, .mv (.t 17), none⟩,
                                            ⟨some 79, .mv (.t 18), none⟩,
                                            ⟨some 80, .ia 1 (.t 78) (.t 79), none⟩,
                                            ⟨some 81, .ld (.t 80), none⟩,
                                            ⟨some 82, .bin .add (.t 81) (.c (.int .i64 1)), none⟩,
                                            ⟨some 83, .ia 1 (.t 78) (.t 79), none⟩,
                                            ⟨none, .st 1 (.t 83) (.t 82), none⟩] [0, 1, 5, 6, 8, 10, 12, 14, 15, 17, 74, 75]))) (
                                      .reg [
                                        ⟨some 84, .bin .add (.t 75) (.c (.int .i64 1)), none⟩,
                                        ⟨some 75, .mv (.t 84), none⟩] [0, 1, 5, 6, 8, 10, 12, 14, 15, 17, 74, 75])))))))) (
                          .seq (
                            .reg [
                              ⟨some 86, .mv (.t 15), none⟩,
                              ⟨some 87, .call 18 [none] [(.t 86)], none⟩,
                              ⟨some 85, .mv (.t 87), none⟩,
                              ⟨some 88, .ext (.t 85) 0, none⟩,
                              ⟨some 89, .ext (.t 85) 1, none⟩,
                              ⟨some 19, .alc [.str ByteArray.empty, .str ByteArray.empty, .int .u64 0, .int .i64 0, .nils], none⟩,
                              ⟨none, .st 5 (.t 19) (.t 88), none⟩,
                              ⟨some 20, .mv (.t 89), none⟩] [0, 1, 5, 6, 8, 10, 12, 14, 15, 19]) (
                            .seq (
                              .seq (
                                .reg [
                                  ⟨some 90, .fa 1 (.t 19), none⟩,
                                  ⟨some 91, .fa 3 (.t 90), none⟩,
                                  ⟨some 92, .ld (.t 91), none⟩,
                                  ⟨some 93, .len .s (.t 92), none⟩,
                                  ⟨some 94, .mv (.c (.int .i64 0)), none⟩] [0, 1, 5, 6, 8, 10, 12, 14, 15, 19, 93, 94]) (
                                .block 2 (
                                  .lift 15 (some 1) 72 (.pair .str (.pair .str (.pair (.int .u64) (.pair (.int .i64) (.sl 8 (.int .i64)))))) (
                                  .loop 2 [0, 1, 5, 6, 8, 10, 12, 14, 15, 19, 93, 94] (
                                    .seq (
                                      .reg [
                                        ⟨some 95, .bin .lss (.t 94) (.t 93), none⟩] [0, 1, 5, 6, 8, 10, 12, 14, 15, 19, 93, 94, 95]) (
                                      .seq (
                                        .cond (.t 95) (
                                          .skip) (
                                          .exit 2)) (
                                        .seq (
                                          .block 3 (
                                            .seq (
                                              .reg [
                                                ⟨some 96, .mv (.t 94), none⟩,
                                                ⟨some 21, .mv (.t 96), none⟩] [0, 1, 5, 6, 8, 10, 12, 14, 15, 19, 21, 93, 94]) (
                                              .reg [
                                                ⟨some 97, .fa 1 (.t 19), none⟩,
                                                ⟨some 98, .fa 3 (.t 97), none⟩,
                                                ⟨some 99, .ld (.t 98), none⟩,
                                                ⟨some 100, .mv (.t 21), none⟩,
                                                ⟨some 101, .ia 1 (.t 99) (.t 100), none⟩,
                                                ⟨some 102, .ld (.t 101), none⟩,
                                                ⟨some 103, .bin .sub (.t 102) (.c (.int .i64 1)), none⟩,
                                                ⟨some 104, .ia 1 (.t 99) (.t 100), none⟩,
                                                ⟨none, .st 1 (.t 104) (.t 103), none⟩] [0, 1, 5, 6, 8, 10, 12, 14, 15, 19, 93, 94]))) (
                                          .reg [
                                            ⟨some 105, .bin .add (.t 94) (.c (.int .i64 1)), none⟩,
                                            ⟨some 94, .mv (.t 105), none⟩] [0, 1, 5, 6, 8, 10, 12, 14, 15, 19, 93, 94])))))))) (
                              .seq (
                                .reg [
                                  ⟨some 107, .mv (.t 15), none⟩,
                                  ⟨some 108, .call 11 [none] [(.t 107)], none⟩,
                                  ⟨some 106, .mv (.t 108), none⟩,
                                  ⟨some 109, .ext (.t 106) 0, none⟩,
                                  ⟨some 110, .ext (.t 106) 1, none⟩,
                                  ⟨some 22, .alc [.str ByteArray.empty, .str ByteArray.empty, .int .u64 0, .int .i64 0, .nils], none⟩,
                                  ⟨none, .st 5 (.t 22) (.t 109), none⟩,
                                  ⟨some 23, .mv (.t 110), none⟩] [0, 1, 5, 6, 8, 10, 12, 14, 22]) (
                                .seq (
                                  .reg [
                                    ⟨some 111, .mv (.t 8), none⟩,
                                    ⟨some 112, .bin .eql (.t 111) (.c (.int .i64 1)), none⟩,
                                    ⟨some 113, .mv (.t 112), none⟩,
                                    ⟨some 114, .mv (.t 10), (some (113, true))⟩,
                                    ⟨some 115, .bin .eql (.t 114) (.c (.int .i64 1)), (some (113, true))⟩,
                                    ⟨some 116, .pick (.t 113) (.t 115) (.c (.bool false)), none⟩,
                                    ⟨some 117, .mv (.t 116), none⟩,
                                    ⟨some 118, .mv (.t 12), (some (117, true))⟩,
                                    ⟨some 119, .not (.t 118), (some (117, true))⟩,
                                    ⟨some 120, .pick (.t 117) (.t 119) (.c (.bool false)), none⟩,
                                    ⟨some 121, .mv (.t 120), none⟩,
                                    ⟨some 122, .mv (.t 14), (some (121, true))⟩,
                                    ⟨some 123, .not (.t 122), (some (121, true))⟩,
                                    ⟨some 124, .pick (.t 121) (.t 123) (.c (.bool false)), none⟩,
                                    ⟨some 125, .mv (.t 124), none⟩,
                                    ⟨some 126, .mv (.t 5), (some (125, true))⟩,
                                    ⟨some 127, .call 19 [none] [(.t 126)], (some (125, true))⟩,
                                    ⟨some 128, .bin .eql (.t 127) (.c (.str ByteArray.empty)), (some (125, true))⟩,
                                    ⟨some 129, .pick (.t 125) (.t 128) (.c (.bool false)), none⟩,
                                    ⟨some 130, .mv (.t 129), none⟩,
                                    ⟨some 131, .mv (.t 6), (some (130, true))⟩,
                                    ⟨some 132, .mv (.t 0), (some (130, true))⟩,
                                    ⟨some 133, .call 17 [none, none] [(.t 131), (.t 132)], (some (130, true))⟩,
                                    ⟨some 134, .bin .eql (.t 133) (.c (.int .u64 0)), (some (130, true))⟩,
                                    ⟨some 135, .pick (.t 130) (.t 134) (.c (.bool false)), none⟩,
                                    ⟨some 136, .mv (.t 135), none⟩,
                                    ⟨some 137, .mv (.t 6), (some (136, true))⟩,
                                    ⟨some 138, .call 16 [none] [(.t 137)], (some (136, true))⟩,
                                    ⟨some 139, .len .s (.t 138), (some (136, true))⟩,
                                    ⟨some 140, .bin .eql (.t 139) (.c (.int .i64 0)), (some (136, true))⟩,
                                    ⟨some 141, .pick (.t 136) (.t 140) (.c (.bool false)), none⟩,
                                    ⟨some 142, .mv (.t 141), none⟩,
                                    ⟨some 143, .mv (.t 5), (some (142, true))⟩,
                                    ⟨some 144, .call 20 [none] [(.t 143)], (some (142, true))⟩,
                                    ⟨some 145, .len .s (.t 144), (some (142, true))⟩,
                                    ⟨some 146, .bin .eql (.t 145) (.c (.int .i64 0)), (some (142, true))⟩,
                                    ⟨some 147, .pick (.t 142) (.t 146) (.c (.bool false)), none⟩,
                                    ⟨some 148, .mv (.t 147), none⟩,
                                    ⟨some 149, .fa 1 (.t 22), (some (148, true))⟩,
                                    ⟨some 150, .fa 3 (.t 149), (some (148, true))⟩,
                                    ⟨some 151, .ld (.t 150), (some (148, true))⟩,
                                    ⟨some 152, .mv (.t 1), (some (148, true))⟩,
                                    ⟨some 153, .call 21 [(some (8, (.int .i64))), (some (8, (.int .i64)))] [(.t 151), (.t 152)], (some (148, true))⟩,
                                    ⟨some 154, .pick (.t 148) (.t 153) (.c (.bool false)), none⟩,
                                    ⟨some 4, .mv (.t 154), none⟩] [4]) (
                                  .ret))))))))))))))))
def r6 : List RT := [.t 4]

/-- reeve/reeveref14.New -/
def a14 : AS :=
  .seq (
    .reg [
      ⟨some 2, .mv (.c (.nilp)), none⟩,
      ⟨some 3, .mv (.c (.int .i64 0)), none⟩] [0]) (
    .seq (
      .seq (
        .reg [
          ⟨some 4, .mv (.t 0), none⟩,
          ⟨some 5, .call 29 [none] [(.t 4)], none⟩,
          ⟨some 6, .not (.t 5), none⟩] [0, 6]) (
        .cond (.t 6) (
          .seq (
            .reg [
              ⟨some 2, .mv (.c (.nilp)), none⟩,
              ⟨some 3, .mv (.c (.int .i64 1)), none⟩] [2, 3]) (
            .lift 2 (some 1) 72 (.pair .str (.pair .str (.pair (.int .u64) (.pair (.int .i64) (.sl 8 (.int .i64)))))) (
            .lift 2 (some 2) 24 (.pair .str (.int .u64)) (
            .ret)))) (
          .skip))) (
      .seq (
        .reg [
          ⟨some 7, .mv (.t 0), none⟩,
          ⟨some 8, .bld [.str ByteArray.empty, .nils, .nils] [(0, 1, (.t 7))], none⟩,
          ⟨some 9, .box (.t 8), none⟩,
          ⟨some 2, .mv (.t 9), none⟩,
          ⟨some 3, .mv (.c (.int .i64 0)), none⟩] [2, 3]) (
        .lift 2 (some 1) 72 (.pair .str (.pair .str (.pair (.int .u64) (.pair (.int .i64) (.sl 8 (.int .i64)))))) (
        .lift 2 (some 2) 24 (.pair .str (.int .u64)) (
        .ret)))))
def r14 : List RT := [.t 2, .t 3]

/-- reeve/reevelaw14.play -/
def a15 : AS :=
  .seq (
    .reg [
      ⟨some 6, .mv (.c (.bool false)), none⟩] [0, 1, 2]) (
    .seq (
      .seq (
        .reg [
          ⟨some 17, .mv (.t 2), none⟩,
          ⟨some 18, .len .s (.t 17), none⟩,
          ⟨some 19, .mv (.c (.int .i64 0)), none⟩] [0, 1, 2, 18, 19]) (
        .block 0 (
          .lift 0 (some 1) 72 (.pair .str (.pair .str (.pair (.int .u64) (.pair (.int .i64) (.sl 8 (.int .i64)))))) (
          .lift 1 (some 1) 72 (.pair .str (.pair .str (.pair (.int .u64) (.pair (.int .i64) (.sl 8 (.int .i64)))))) (
          .lift 1 (some 2) 24 (.pair .str (.int .u64)) (
          .swp 1 0 1 (
          .swp 4 3 1 (
          .swp 5 3 2 (
          .loop 1 [0, 1, 2, 18, 19] (
            .seq (
              .reg [
                ⟨some 20, .bin .lss (.t 19) (.t 18), none⟩] [0, 1, 2, 18, 19, 20]) (
              .seq (
                .cond (.t 20) (
                  .skip) (
                  .exit 0)) (
                .seq (
                  .block 1 (
                    .seq (
                      .reg [
                        ⟨some 21, .mv (.t 19), none⟩,
                        ⟨some 7, .mv (.t 21), none⟩] [0, 1, 2, 7, 18, 19]) (
                      .seq (
                        .reg [
                          ⟨some 22, .mv (.t 2), none⟩,
                          ⟨some 23, .mv (.t 7), none⟩,
                          ⟨some 24, .ia 4 (.t 22) (.t 23), none⟩,
                          ⟨some 25, .ldA 4 (.t 24), none⟩,
                          ⟨some 8, .alc [.int .i64 0, .str ByteArray.empty, .int .i64 0, .nils], none⟩,
                          ⟨none, .st 4 (.t 8) (.t 25), none⟩] [0, 1, 2, 8, 18, 19]) (
                        .seq (
                          .seq (
                            .reg [
                              ⟨some 26, .fa 0 (.t 8), none⟩,
                              ⟨some 27, .ld (.t 26), none⟩] [0, 1, 2, 8, 18, 19, 27]) (
                            .block 2 (
                              .seq (
                                .reg [
                                  ⟨some 29, .bin .eql (.t 27) (.c (.int .i64 1)), none⟩,
                                  ⟨some 28, .mv (.t 29), none⟩] [0, 1, 2, 8, 18, 19, 27, 28]) (
                                .cond (.t 28) (
                                  .seq (
                                    .reg [
                                      ⟨some 31, .mv (.t 0), none⟩,
                                      ⟨some 32, .fa 1 (.t 8), none⟩,
                                      ⟨some 33, .ld (.t 32), none⟩,
                                      ⟨some 34, .fa 2 (.t 8), none⟩,
                                      ⟨some 35, .ld (.t 34), none⟩,
                                      ⟨some 36, .fa 3 (.t 8), none⟩,
                                      ⟨some 37, .ld (.t 36), none⟩,
                                      ⟨some 38, .call 12 [none, none, none, (some (8, (.int .i64)))] [(.t 31), (.t 33), (.t 35), (.t 37)], none⟩,
                                      ⟨some 30, .mv (.t 38), none⟩,
                                      ⟨some 39, .ext (.t 30) 0, none⟩,
                                      ⟨some 40, .ext (.t 30) 1, none⟩,
                                      ⟨some 9, .mv (.t 39), none⟩,
                                      ⟨some 10, .mv (.t 40), none⟩] [0, 1, 2, 8, 9, 10, 18, 19]) (
                                    .seq (
                                      .reg [
                                        ⟨some 42, .mv (.t 1), none⟩,
                                        ⟨some 43, .fa 1 (.t 8), none⟩,
                                        ⟨some 44, .ld (.t 43), none⟩,
                                        ⟨some 45, .fa 2 (.t 8), none⟩,
                                        ⟨some 46, .ld (.t 45), none⟩,
                                        ⟨some 47, .fa 3 (.t 8), none⟩,
                                        ⟨some 48, .ld (.t 47), none⟩,
                                        ⟨some 49, .call 30 [none, none, none, none] [(.t 42), (.t 44), (.t 46), (.t 48)], none⟩,
                                        ⟨some 41, .mv (.t 49), none⟩,
                                        ⟨some 50, .ext (.t 41) 0, none⟩,
                                        ⟨some 51, .ext (.t 41) 1, none⟩,
                                        ⟨some 11, .mv (.t 50), none⟩,
                                        ⟨some 12, .mv (.t 51), none⟩] [0, 1, 2, 8, 9, 10, 11, 12, 18, 19]) (
                                      .seq (
                                        .reg [
                                          ⟨some 52, .mv (.t 9), none⟩,
                                          ⟨some 53, .mv (.t 11), none⟩,
                                          ⟨some 54, .bin .neq (.t 52) (.t 53), none⟩,
                                          ⟨some 55, .mv (.t 54), none⟩,
                                          ⟨some 56, .mv (.t 10), (some (55, false))⟩,
                                          ⟨some 57, .mv (.t 12), (some (55, false))⟩,
                                          ⟨some 58, .bin .neq (.t 56) (.t 57), (some (55, false))⟩,
                                          ⟨some 59, .pick (.t 55) (.c (.bool true)) (.t 58), none⟩] [0, 1, 2, 8, 18, 19, 59]) (
                                        .cond (.t 59) (
                                          .seq (
                                            .reg [
                                              ⟨some 6, .mv (.c (.bool false)), none⟩] [6]) (
                                            .ret)) (
                                          .skip))))) (
                                  .seq (
                                    .reg [
                                      ⟨some 61, .bin .eql (.t 27) (.c (.int .i64 2)), none⟩,
                                      ⟨some 60, .mv (.t 61), none⟩] [0, 1, 2, 8, 18, 19, 60]) (
                                    .cond (.t 60) (
                                      .seq (
                                        .reg [
                                          ⟨some 63, .mv (.t 0), none⟩,
                                          ⟨some 64, .call 11 [none] [(.t 63)], none⟩,
                                          ⟨some 62, .mv (.t 64), none⟩,
                                          ⟨some 65, .ext (.t 62) 0, none⟩,
                                          ⟨some 66, .ext (.t 62) 1, none⟩,
                                          ⟨some 13, .alc [.str ByteArray.empty, .str ByteArray.empty, .int .u64 0, .int .i64 0, .nils], none⟩,
                                          ⟨none, .st 5 (.t 13) (.t 65), none⟩,
                                          ⟨some 14, .mv (.t 66), none⟩] [0, 1, 2, 8, 13, 14, 18, 19]) (
                                        .seq (
                                          .reg [
                                            ⟨some 68, .mv (.t 1), none⟩,
                                            ⟨some 69, .call 31 [none] [(.t 68)], none⟩,
                                            ⟨some 67, .mv (.t 69), none⟩,
                                            ⟨some 70, .ext (.t 67) 0, none⟩,
                                            ⟨some 71, .ext (.t 67) 1, none⟩,
                                            ⟨some 15, .alc [.str ByteArray.empty, .str ByteArray.empty, .int .u64 0, .int .i64 0, .nils], none⟩,
                                            ⟨none, .st 5 (.t 15) (.t 70), none⟩,
                                            ⟨some 16, .mv (.t 71), none⟩] [0, 1, 2, 8, 13, 14, 15, 16, 18, 19]) (
                                          .seq (
                                            .frz 13 (
                                            .regT [
                                              ⟨some 72, .mv (.t 14), none⟩,
                                              ⟨some 73, .mv (.t 16), none⟩,
                                              ⟨some 74, .binB true (.t 72) (.t 73), none⟩,
                                              ⟨some 75, .mv (.t 74), none⟩,
                                              ⟨some 76, .ldA 5 (.t 13), (some (75, false))⟩,
                                              ⟨some 77, .call 33 [none] [(.t 76)], (some (75, false))⟩,
                                              ⟨some 78, .bsl 72 (.pair .str (.pair .str (.pair (.int .u64) (.pair (.int .i64) (.sl 8 (.int .i64)))))) 1 [(0, (.t 77))], (some (75, false))⟩,
                                              ⟨some 79, .ldA 5 (.t 15), (some (75, false))⟩,
                                              ⟨some 80, .bsl 72 (.pair .str (.pair .str (.pair (.int .u64) (.pair (.int .i64) (.sl 8 (.int .i64)))))) 1 [(0, (.t 79))], (some (75, false))⟩,
                                              ⟨some 81, .call 32 [(some (72, (.pair .str (.pair .str (.pair (.int .u64) (.pair (.int .i64) (.sl 8 (.int .i64)))))))), (some (72, (.pair .str (.pair .str (.pair (.int .u64) (.pair (.int .i64) (.sl 8 (.int .i64))))))))] [(.t 78), (.t 80)], (some (75, false))⟩,
                                              ⟨some 82, .not (.t 81), (some (75, false))⟩,
                                              ⟨some 83, .pick (.t 75) (.c (.bool true)) (.t 82), none⟩] (.q 0 (.q 1 (.q 2 (.q 3 (.q 4 (.q 7 (.e 5 [7] (.e 6 [7] (.e 8 [4] (.e 9 [] (.q 10 (.q 11 .done)) .no) .no) (.e 8 [4] (.e 6 [7] (.e 9 [] (.q 10 (.q 11 .done)) .no) .no) .no)) (.e 8 [4] (.e 5 [7] (.e 6 [7] (.e 9 [] (.q 10 (.q 11 .done)) .no) .no) .no) .no)))))))) [0, 1, 2, 8, 18, 19, 83])) (
                                            .cond (.t 83) (
                                              .seq (
                                                .reg [
                                                  ⟨some 6, .mv (.c (.bool false)), none⟩] [6]) (
                                                .ret)) (
                                              .skip))))) (
                                      .skip))))))) (
                          .seq (
                            .regD [
                              ⟨some 84, .mv (.t 0), none⟩,
                              ⟨some 85, .mv (.t 1), none⟩,
                              ⟨some 86, .call 25 [none, none] [(.t 84), (.t 85)], none⟩,
                              ⟨some 87, .not (.t 86), none⟩,
                              ⟨some 88, .mv (.t 87), none⟩,
                              ⟨some 89, .mv (.t 0), (some (88, false))⟩,
                              ⟨some 90, .fa 1 (.t 8), (some (88, false))⟩,
                              ⟨some 91, .ld (.t 90), (some (88, false))⟩,
                              ⟨some 92, .call 17 [none, none] [(.t 89), (.t 91)], (some (88, false))⟩,
                              ⟨some 93, .mv (.t 1), (some (88, false))⟩,
                              ⟨some 94, .fa 1 (.t 8), (some (88, false))⟩,
                              ⟨some 95, .ld (.t 94), (some (88, false))⟩,
                              ⟨some 96, .call 34 [none, none] [(.t 93), (.t 95)], (some (88, false))⟩,
                              ⟨some 97, .bin .neq (.t 92) (.t 96), (some (88, false))⟩,
                              ⟨some 98, .pick (.t 88) (.c (.bool true)) (.t 97), none⟩] [.q 0, .q 1, .e 2 [], .q 3, .q 4, .q 5, .q 6, .q 7, .q 9, .q 10, .q 11, .e 8 [9, 10, 11], .e 12 [], .q 13, .q 14] [0, 1, 2, 18, 19, 98]) (
                            .cond (.t 98) (
                              .seq (
                                .reg [
                                  ⟨some 6, .mv (.c (.bool false)), none⟩] [6]) (
                                .ret)) (
                              .skip))))))) (
                  .reg [
                    ⟨some 99, .bin .add (.t 19) (.c (.int .i64 1)), none⟩,
                    ⟨some 19, .mv (.t 99), none⟩] [0, 1, 2, 18, 19]))))))))))))) (
      .seq (
        .reg [
          ⟨some 6, .mv (.c (.bool true)), none⟩] [6]) (
        .ret)))
def r15 : List RT := [.t 6]

/-- reeve/reeveref11.SameInts -/
def a21 : AS :=
  .seq (
    .reg [
      ⟨some 4, .mv (.c (.bool false)), none⟩] [0, 1]) (
    .seq (
      .seq (
        .reg [
          ⟨some 6, .mv (.t 0), none⟩,
          ⟨some 7, .len .s (.t 6), none⟩,
          ⟨some 8, .mv (.t 1), none⟩,
          ⟨some 9, .len .s (.t 8), none⟩,
          ⟨some 10, .bin .neq (.t 7) (.t 9), none⟩] [0, 1, 10]) (
        .cond (.t 10) (
          .seq (
            .reg [
              ⟨some 4, .mv (.c (.bool false)), none⟩] [4]) (
            .ret)) (
          .skip))) (
      .seq (
        .seq (
          .reg [
            ⟨some 11, .mv (.t 0), none⟩,
            ⟨some 12, .len .s (.t 11), none⟩,
            ⟨some 13, .mv (.c (.int .i64 0)), none⟩] [0, 1, 12, 13]) (
          .block 0 (
            .loop 1 [0, 1, 12, 13] (
              .seq (
                .reg [
                  ⟨some 14, .bin .lss (.t 13) (.t 12), none⟩] [0, 1, 12, 13, 14]) (
                .seq (
                  .cond (.t 14) (
                    .skip) (
                    .exit 0)) (
                  .seq (
                    .block 1 (
                      .seq (
                        .reg [
                          ⟨some 15, .mv (.t 13), none⟩,
                          ⟨some 5, .mv (.t 15), none⟩] [0, 1, 5, 12, 13]) (
                        .seq (
                          .regD [
                            ⟨some 16, .mv (.t 0), none⟩,
                            ⟨some 17, .mv (.t 5), none⟩,
                            ⟨some 18, .ia 1 (.t 16) (.t 17), none⟩,
                            ⟨some 19, .ld (.t 18), none⟩,
                            ⟨some 20, .mv (.t 1), none⟩,
                            ⟨some 21, .mv (.t 5), none⟩,
                            ⟨some 22, .ia 1 (.t 20) (.t 21), none⟩,
                            ⟨some 23, .ld (.t 22), none⟩,
                            ⟨some 24, .bin .neq (.t 19) (.t 23), none⟩] [.q 0, .q 1, .q 2, .q 3, .q 4, .q 5, .q 6, .q 7, .q 8] [0, 1, 12, 13, 24]) (
                          .cond (.t 24) (
                            .seq (
                              .reg [
                                ⟨some 4, .mv (.c (.bool false)), none⟩] [4]) (
                              .ret)) (
                            .skip))))) (
                    .reg [
                      ⟨some 25, .bin .add (.t 13) (.c (.int .i64 1)), none⟩,
                      ⟨some 13, .mv (.t 25), none⟩] [0, 1, 12, 13]))))))) (
        .seq (
          .reg [
            ⟨some 4, .mv (.c (.bool true)), none⟩] [4]) (
          .ret))))
def r21 : List RT := [.t 4]

/-- reeve/reevelaw14.same -/
def a25 : AS :=
  .seq (
    .reg [
      ⟨some 4, .mv (.c (.bool false)), none⟩] [0, 1]) (
    .seq (
      .reg [
        ⟨some 11, .mv (.t 0), none⟩,
        ⟨some 12, .call 16 [none] [(.t 11)], none⟩,
        ⟨some 5, .mv (.t 12), none⟩] [0, 1, 5]) (
      .seq (
        .seq (
          .regD [
            ⟨some 13, .mv (.t 0), none⟩,
            ⟨some 14, .call 19 [none] [(.t 13)], none⟩,
            ⟨some 15, .mv (.t 1), none⟩,
            ⟨some 16, .nck (.t 15), none⟩,
            ⟨some 17, .fa 0 (.t 16), none⟩,
            ⟨some 18, .ld (.t 17), none⟩,
            ⟨some 19, .bin .neq (.t 14) (.t 18), none⟩,
            ⟨some 20, .mv (.t 19), none⟩,
            ⟨some 21, .mv (.t 5), (some (20, false))⟩,
            ⟨some 22, .len .s (.t 21), (some (20, false))⟩,
            ⟨some 23, .mv (.t 1), (some (20, false))⟩,
            ⟨some 24, .nck (.t 23), (some (20, false))⟩,
            ⟨some 25, .fa 1 (.t 24), (some (20, false))⟩,
            ⟨some 26, .ld (.t 25), (some (20, false))⟩,
            ⟨some 27, .len .s (.t 26), (some (20, false))⟩,
            ⟨some 28, .bin .neq (.t 22) (.t 27), (some (20, false))⟩,
            ⟨some 29, .pick (.t 20) (.c (.bool true)) (.t 28), none⟩] [.q 0, .q 2, .q 3, .q 4, .q 5, .e 1 [2, 3, 4, 5], .q 6, .q 7, .q 8, .q 9, .q 10, .q 11, .q 12, .q 13, .q 14, .q 15, .q 16] [0, 1, 5, 29]) (
          .cond (.t 29) (
            .seq (
              .reg [
                ⟨some 4, .mv (.c (.bool false)), none⟩] [4]) (
              .ret)) (
            .skip))) (
        .seq (
          .reg [
            ⟨some 31, .mv (.t 0), none⟩,
            ⟨some 32, .call 18 [none] [(.t 31)], none⟩,
            ⟨some 30, .mv (.t 32), none⟩,
            ⟨some 33, .ext (.t 30) 0, none⟩,
            ⟨some 34, .ext (.t 30) 1, none⟩,
            ⟨some 6, .alc [.str ByteArray.empty, .str ByteArray.empty, .int .u64 0, .int .i64 0, .nils], none⟩,
            ⟨none, .st 5 (.t 6) (.t 33), none⟩,
            ⟨some 7, .mv (.t 34), none⟩] [0, 1, 5, 6, 7]) (
          .seq (
            .seq (
              .frz 6 (
              .regD [
                ⟨some 35, .mv (.t 7), none⟩,
                ⟨some 36, .mv (.t 5), none⟩,
                ⟨some 37, .len .s (.t 36), none⟩,
                ⟨some 38, .bin .gtr (.t 37) (.c (.int .i64 0)), none⟩,
                ⟨some 39, .binB true (.t 35) (.t 38), none⟩,
                ⟨some 40, .mv (.t 39), none⟩,
                ⟨some 41, .mv (.t 7), (some (40, false))⟩,
                ⟨some 42, .mv (.t 41), (some (40, false))⟩,
                ⟨some 43, .fa 0 (.t 6), (some (42, true))⟩,
                ⟨some 44, .ld (.t 43), (some (42, true))⟩,
                ⟨some 45, .mv (.t 1), (some (42, true))⟩,
                ⟨some 46, .nck (.t 45), (some (42, true))⟩,
                ⟨some 47, .fa 1 (.t 46), (some (42, true))⟩,
                ⟨some 48, .ld (.t 47), (some (42, true))⟩,
                ⟨some 49, .ia 5 (.t 48) (.c (.int .i64 0)), (some (42, true))⟩,
                ⟨some 50, .fa 0 (.t 49), (some (42, true))⟩,
                ⟨some 51, .ld (.t 50), (some (42, true))⟩,
                ⟨some 52, .bin .neq (.t 44) (.t 51), (some (42, true))⟩,
                ⟨some 53, .mv (.t 52), (some (42, true))⟩,
                ⟨some 54, .fa 1 (.t 6), (some (53, false))⟩,
                ⟨some 55, .ldA 4 (.t 54), (some (53, false))⟩,
                ⟨some 56, .mv (.t 1), (some (53, false))⟩,
                ⟨some 57, .nck (.t 56), (some (53, false))⟩,
                ⟨some 58, .fa 1 (.t 57), (some (53, false))⟩,
                ⟨some 59, .ld (.t 58), (some (53, false))⟩,
                ⟨some 60, .ia 5 (.t 59) (.c (.int .i64 0)), (some (53, false))⟩,
                ⟨some 61, .fa 1 (.t 60), (some (53, false))⟩,
                ⟨some 62, .ldA 4 (.t 61), (some (53, false))⟩,
                ⟨some 63, .call 59 [none, none] [(.t 55), (.t 62)], (some (53, false))⟩,
                ⟨some 64, .not (.t 63), (some (53, false))⟩,
                ⟨some 65, .pick (.t 53) (.c (.bool true)) (.t 64), (some (42, true))⟩,
                ⟨some 66, .pick (.t 42) (.t 65) (.c (.bool false)), (some (40, false))⟩,
                ⟨some 67, .pick (.t 40) (.c (.bool true)) (.t 66), none⟩] [.q 0, .q 1, .q 2, .q 3, .q 4, .q 5, .q 6, .q 7, .q 8, .q 9, .q 10, .q 11, .q 12, .q 13, .q 14, .q 15, .q 16, .q 17, .q 18, .q 19, .q 20, .q 21, .q 22, .q 23, .q 24, .q 25, .q 26, .q 27, .e 28 [], .q 29, .q 30, .q 31, .q 32] [0, 1, 5, 67])) (
              .cond (.t 67) (
                .seq (
                  .reg [
                    ⟨some 4, .mv (.c (.bool false)), none⟩] [4]) (
                  .ret)) (
                .skip))) (
            .seq (
              .seq (
                .reg [
                  ⟨some 68, .mv (.t 5), none⟩,
                  ⟨some 69, .len .s (.t 68), none⟩,
                  ⟨some 70, .mv (.c (.int .i64 0)), none⟩] [0, 1, 5, 69, 70]) (
                .block 0 (
                  .lift 0 (some 1) 72 (.pair .str (.pair .str (.pair (.int .u64) (.pair (.int .i64) (.sl 8 (.int .i64)))))) (
                  .lift 1 (some 1) 72 (.pair .str (.pair .str (.pair (.int .u64) (.pair (.int .i64) (.sl 8 (.int .i64)))))) (
                  .lift 1 (some 2) 24 (.pair .str (.int .u64)) (
                  .loop 1 [0, 1, 5, 69, 70] (
                    .seq (
                      .reg [
                        ⟨some 71, .bin .lss (.t 70) (.t 69), none⟩] [0, 1, 5, 69, 70, 71]) (
                      .seq (
                        .cond (.t 71) (
                          .skip) (
                          .exit 0)) (
                        .seq (
                          .block 1 (
                            .seq (
                              .reg [
                                ⟨some 72, .mv (.t 70), none⟩,
                                ⟨some 8, .mv (.t 72), none⟩] [0, 1, 5, 8, 69, 70]) (
                              .seq (
                                .regD [
                                  ⟨some 73, .mv (.t 5), none⟩,
                                  ⟨some 74, .mv (.t 8), none⟩,
                                  ⟨some 75, .ia 5 (.t 73) (.t 74), none⟩,
                                  ⟨some 76, .fa 0 (.t 75), none⟩,
                                  ⟨some 77, .ld (.t 76), none⟩,
                                  ⟨some 78, .mv (.t 1), none⟩,
                                  ⟨some 79, .nck (.t 78), none⟩,
                                  ⟨some 80, .fa 1 (.t 79), none⟩,
                                  ⟨some 81, .ld (.t 80), none⟩,
                                  ⟨some 82, .mv (.t 8), none⟩,
                                  ⟨some 83, .ia 5 (.t 81) (.t 82), none⟩,
                                  ⟨some 84, .fa 0 (.t 83), none⟩,
                                  ⟨some 85, .ld (.t 84), none⟩,
                                  ⟨some 86, .bin .neq (.t 77) (.t 85), none⟩,
                                  ⟨some 87, .mv (.t 86), none⟩,
                                  ⟨some 88, .mv (.t 5), (some (87, false))⟩,
                                  ⟨some 89, .mv (.t 8), (some (87, false))⟩,
                                  ⟨some 90, .ia 5 (.t 88) (.t 89), (some (87, false))⟩,
                                  ⟨some 91, .fa 1 (.t 90), (some (87, false))⟩,
                                  ⟨some 92, .ldA 4 (.t 91), (some (87, false))⟩,
                                  ⟨some 93, .mv (.t 1), (some (87, false))⟩,
                                  ⟨some 94, .nck (.t 93), (some (87, false))⟩,
                                  ⟨some 95, .fa 1 (.t 94), (some (87, false))⟩,
                                  ⟨some 96, .ld (.t 95), (some (87, false))⟩,
                                  ⟨some 97, .mv (.t 8), (some (87, false))⟩,
                                  ⟨some 98, .ia 5 (.t 96) (.t 97), (some (87, false))⟩,
                                  ⟨some 99, .fa 1 (.t 98), (some (87, false))⟩,
                                  ⟨some 100, .ldA 4 (.t 99), (some (87, false))⟩,
                                  ⟨some 101, .call 59 [none, none] [(.t 92), (.t 100)], (some (87, false))⟩,
                                  ⟨some 102, .not (.t 101), (some (87, false))⟩,
                                  ⟨some 103, .pick (.t 87) (.c (.bool true)) (.t 102), none⟩] [.q 0, .q 1, .q 2, .q 3, .q 4, .q 5, .q 6, .q 7, .q 8, .q 9, .q 10, .q 11, .q 12, .q 13, .q 14, .q 15, .q 16, .q 17, .q 18, .q 19, .q 20, .q 21, .q 22, .q 23, .q 24, .q 25, .q 26, .q 27, .e 28 [], .q 29, .q 30] [0, 1, 5, 69, 70, 103]) (
                                .cond (.t 103) (
                                  .seq (
                                    .reg [
                                      ⟨some 4, .mv (.c (.bool false)), none⟩] [4]) (
                                    .ret)) (
                                  .skip))))) (
                          .reg [
                            ⟨some 104, .bin .add (.t 70) (.c (.int .i64 1)), none⟩,
                            ⟨some 70, .mv (.t 104), none⟩] [0, 1, 5, 69, 70])))))))))) (
              .seq (
                .reg [
                  ⟨some 105, .mv (.t 1), none⟩,
                  ⟨some 106, .call 60 [none] [(.t 105)], none⟩,
                  ⟨some 9, .mv (.t 106), none⟩] [0, 1, 9]) (
                .seq (
                  .seq (
                    .reg [
                      ⟨some 107, .mv (.t 9), none⟩,
                      ⟨some 108, .len .s (.t 107), none⟩,
                      ⟨some 109, .mv (.c (.int .i64 0)), none⟩] [0, 1, 9, 108, 109]) (
                    .block 2 (
                      .lift 0 (some 1) 72 (.pair .str (.pair .str (.pair (.int .u64) (.pair (.int .i64) (.sl 8 (.int .i64)))))) (
                      .lift 1 (some 1) 72 (.pair .str (.pair .str (.pair (.int .u64) (.pair (.int .i64) (.sl 8 (.int .i64)))))) (
                      .lift 1 (some 2) 24 (.pair .str (.int .u64)) (
                      .loop 2 [0, 1, 9, 108, 109] (
                        .seq (
                          .reg [
                            ⟨some 110, .bin .lss (.t 109) (.t 108), none⟩] [0, 1, 9, 108, 109, 110]) (
                          .seq (
                            .cond (.t 110) (
                              .skip) (
                              .exit 2)) (
                            .seq (
                              .block 3 (
                                .seq (
                                  .reg [
                                    ⟨some 111, .mv (.t 109), none⟩,
                                    ⟨some 10, .mv (.t 111), none⟩] [0, 1, 9, 10, 108, 109]) (
                                  .seq (
                                    .regD [
                                      ⟨some 112, .mv (.t 0), none⟩,
                                      ⟨some 113, .mv (.t 9), none⟩,
                                      ⟨some 114, .mv (.t 10), none⟩,
                                      ⟨some 115, .ia 1 (.t 113) (.t 114), none⟩,
                                      ⟨some 116, .ld (.t 115), none⟩,
                                      ⟨some 117, .call 17 [none, none] [(.t 112), (.t 116)], none⟩,
                                      ⟨some 118, .mv (.t 1), none⟩,
                                      ⟨some 119, .mv (.t 9), none⟩,
                                      ⟨some 120, .mv (.t 10), none⟩,
                                      ⟨some 121, .ia 1 (.t 119) (.t 120), none⟩,
                                      ⟨some 122, .ld (.t 121), none⟩,
                                      ⟨some 123, .call 34 [none, none] [(.t 118), (.t 122)], none⟩,
                                      ⟨some 124, .bin .neq (.t 117) (.t 123), none⟩] [.q 0, .q 1, .q 2, .q 3, .q 4, .q 6, .q 7, .q 8, .q 9, .q 10, .e 5 [6, 7, 8, 9, 10], .e 11 [], .q 12] [0, 1, 9, 108, 109, 124]) (
                                    .cond (.t 124) (
                                      .seq (
                                        .reg [
                                          ⟨some 4, .mv (.c (.bool false)), none⟩] [4]) (
                                        .ret)) (
                                      .skip))))) (
                              .reg [
                                ⟨some 125, .bin .add (.t 109) (.c (.int .i64 1)), none⟩,
                                ⟨some 109, .mv (.t 125), none⟩] [0, 1, 9, 108, 109])))))))))) (
                  .seq (
                    .reg [
                      ⟨some 4, .mv (.c (.bool true)), none⟩] [4]) (
                    .ret)))))))))
def r25 : List RT := [.t 4]

/-- reeve/reeveref11.Key -/
def a29 : AS :=
  .seq (
    .reg [
      ⟨some 2, .mv (.c (.bool false)), none⟩] [0]) (
    .seq (
      .reg [
        ⟨some 3, .mv (.t 0), none⟩,
        ⟨some 4, .len .i (.t 3), none⟩,
        ⟨some 5, .bin .geq (.t 4) (.c (.int .i64 1)), none⟩,
        ⟨some 6, .mv (.t 5), none⟩,
        ⟨some 7, .mv (.t 0), (some (6, true))⟩,
        ⟨some 8, .len .i (.t 7), (some (6, true))⟩,
        ⟨some 9, .bin .leq (.t 8) (.c (.int .i64 40)), (some (6, true))⟩,
        ⟨some 10, .pick (.t 6) (.t 9) (.c (.bool false)), none⟩,
        ⟨some 2, .mv (.t 10), none⟩] [2]) (
      .ret))
def r29 : List RT := [.t 2]

/-- (*reeve/reeveref14.Outbox).Send -/
def a30 : AS :=
  .seq (
    .reg [
      ⟨some 8, .mv (.c (.int .u64 0)), none⟩,
      ⟨some 9, .mv (.c (.int .i64 0)), none⟩] [0, 1, 2, 3]) (
    .seq (
      .seq (
        .reg [
          ⟨some 11, .mv (.t 1), none⟩,
          ⟨some 12, .call 29 [none] [(.t 11)], none⟩,
          ⟨some 13, .not (.t 12), none⟩,
          ⟨some 14, .mv (.t 13), none⟩,
          ⟨some 15, .mv (.t 3), (some (14, false))⟩,
          ⟨some 16, .len .s (.t 15), (some (14, false))⟩,
          ⟨some 17, .bin .gtr (.t 16) (.c (.int .i64 4)), (some (14, false))⟩,
          ⟨some 18, .pick (.t 14) (.c (.bool true)) (.t 17), none⟩] [0, 1, 2, 3, 18]) (
        .cond (.t 18) (
          .seq (
            .reg [
              ⟨some 8, .mv (.c (.int .u64 0)), none⟩,
              ⟨some 9, .mv (.c (.int .i64 1)), none⟩] [8, 9]) (
            .ret)) (
          .skip))) (
      .seq (
        .seq (
          .reg [
            ⟨some 19, .mv (.t 0), none⟩,
            ⟨some 20, .nck (.t 19), none⟩,
            ⟨some 21, .fa 1 (.t 20), none⟩,
            ⟨some 22, .ld (.t 21), none⟩,
            ⟨some 23, .len .s (.t 22), none⟩,
            ⟨some 24, .bin .geq (.t 23) (.c (.int .i64 32)), none⟩,
            ⟨some 25, .mv (.t 24), none⟩,
            ⟨some 26, .mv (.t 0), (some (25, false))⟩,
            ⟨some 27, .mv (.t 1), (some (25, false))⟩,
            ⟨some 28, .call 56 [none, none] [(.t 26), (.t 27)], (some (25, false))⟩,
            ⟨some 29, .not (.t 28), (some (25, false))⟩,
            ⟨some 30, .mv (.t 29), (some (25, false))⟩,
            ⟨some 31, .mv (.t 0), (some (30, true))⟩,
            ⟨some 32, .nck (.t 31), (some (30, true))⟩,
            ⟨some 33, .fa 2 (.t 32), (some (30, true))⟩,
            ⟨some 34, .ld (.t 33), (some (30, true))⟩,
            ⟨some 35, .len .s (.t 34), (some (30, true))⟩,
            ⟨some 36, .bin .geq (.t 35) (.c (.int .i64 64)), (some (30, true))⟩,
            ⟨some 37, .pick (.t 30) (.t 36) (.c (.bool false)), (some (25, false))⟩,
            ⟨some 38, .pick (.t 25) (.c (.bool true)) (.t 37), none⟩] [0, 1, 2, 3, 38]) (
          .cond (.t 38) (
            .seq (
              .reg [
                ⟨some 8, .mv (.c (.int .u64 0)), none⟩,
                ⟨some 9, .mv (.c (.int .i64 6)), none⟩] [8, 9]) (
              .ret)) (
            .skip))) (
        .seq (
          .reg [
            ⟨some 39, .mv (.t 0), none⟩,
            ⟨some 40, .mv (.t 1), none⟩,
            ⟨some 41, .call 34 [none, none] [(.t 39), (.t 40)], none⟩,
            ⟨some 42, .bin .add (.t 41) (.c (.int .u64 1)), none⟩,
            ⟨some 10, .mv (.t 42), none⟩] [0, 1, 2, 3, 10]) (
          .seq (
            .reg [
              ⟨some 43, .mv (.t 0), none⟩,
              ⟨some 44, .mv (.t 1), none⟩,
              ⟨some 45, .mv (.t 10), none⟩,
              ⟨some 46, .call 61 [none, none, none] [(.t 43), (.t 44), (.t 45)], none⟩] [0, 1, 2, 3, 10]) (
            .seq (
              .regD [
                ⟨some 47, .mv (.t 0), none⟩,
                ⟨some 48, .mv (.t 0), none⟩,
                ⟨some 49, .nck (.t 48), none⟩,
                ⟨some 50, .fa 1 (.t 49), none⟩,
                ⟨some 51, .ld (.t 50), none⟩,
                ⟨some 52, .mv (.t 1), none⟩,
                ⟨some 53, .mv (.t 0), none⟩,
                ⟨some 54, .nck (.t 53), none⟩,
                ⟨some 55, .fa 0 (.t 54), none⟩,
                ⟨some 56, .ld (.t 55), none⟩,
                ⟨some 57, .mv (.t 10), none⟩,
                ⟨some 58, .mv (.t 2), none⟩,
                ⟨some 59, .mv (.t 3), none⟩,
                ⟨some 60, .bld [.str ByteArray.empty, .int .u64 0, .int .i64 0, .nils] [(0, 1, (.t 56)), (1, 1, (.t 57)), (2, 1, (.t 58)), (3, 1, (.t 59))], none⟩,
                ⟨some 61, .call 62 [none] [(.t 60)], none⟩,
                ⟨some 62, .bld [.str ByteArray.empty, .str ByteArray.empty, .int .u64 0, .int .i64 0, .nils] [(0, 1, (.t 52)), (1, 4, (.t 61))], none⟩,
                ⟨some 63, .bsl 72 (.pair .str (.pair .str (.pair (.int .u64) (.pair (.int .i64) (.sl 8 (.int .i64)))))) 1 [(0, (.t 62))], none⟩,
                ⟨some 64, .app 72 (.pair .str (.pair .str (.pair (.int .u64) (.pair (.int .i64) (.sl 8 (.int .i64)))))) (.t 51) (.t 63), none⟩,
                ⟨some 65, .nck (.t 47), none⟩,
                ⟨some 66, .fa 1 (.t 65), none⟩,
                ⟨none, .st 1 (.t 66) (.t 64), none⟩] [.q 0, .q 1, .q 2, .q 3, .q 4, .q 5, .q 6, .q 7, .q 8, .q 9, .q 10, .q 11, .q 12, .q 13, .e 14 [0, 1, 2, 3, 4, 5], .q 15, .e 16 [0, 1, 2, 3, 4], .e 17 [0], .q 18, .q 19, .e 20 []] [10]) (
              .seq (
                .reg [
                  ⟨some 67, .mv (.t 10), none⟩,
                  ⟨some 8, .mv (.t 67), none⟩,
                  ⟨some 9, .mv (.c (.int .i64 0)), none⟩] [8, 9]) (
                .ret)))))))
def r30 : List RT := [.t 8, .t 9]

/-- (*reeve/reeveref14.Outbox).Pop -/
def a31 : AS :=
  .seq (
    .reg [
      ⟨some 2, .alc [.str ByteArray.empty, .str ByteArray.empty, .int .u64 0, .int .i64 0, .nils], none⟩,
      ⟨some 3, .mv (.c (.bool false)), none⟩] [0, 2]) (
    .seq (
      .seq (
        .reg [
          ⟨some 5, .mv (.t 0), none⟩,
          ⟨some 6, .nck (.t 5), none⟩,
          ⟨some 7, .fa 1 (.t 6), none⟩,
          ⟨some 8, .ld (.t 7), none⟩,
          ⟨some 9, .len .s (.t 8), none⟩,
          ⟨some 10, .bin .eql (.t 9) (.c (.int .i64 0)), none⟩] [0, 2, 10]) (
        .cond (.t 10) (
          .seq (
            .reg [
              ⟨some 11, .bld [.str ByteArray.empty, .str ByteArray.empty, .int .u64 0, .int .i64 0, .nils] [], none⟩,
              ⟨none, .st 5 (.t 2) (.t 11), none⟩,
              ⟨some 3, .mv (.c (.bool false)), none⟩] [2, 3]) (
            .ret)) (
          .skip))) (
      .seq (
        .reg [
          ⟨some 12, .mv (.t 0), none⟩,
          ⟨some 13, .nck (.t 12), none⟩,
          ⟨some 14, .fa 1 (.t 13), none⟩,
          ⟨some 15, .ld (.t 14), none⟩,
          ⟨some 16, .ia 5 (.t 15) (.c (.int .i64 0)), none⟩,
          ⟨some 17, .ldA 5 (.t 16), none⟩,
          ⟨some 4, .alc [.str ByteArray.empty, .str ByteArray.empty, .int .u64 0, .int .i64 0, .nils], none⟩,
          ⟨none, .st 5 (.t 4) (.t 17), none⟩] [0, 2, 4]) (
        .seq (
          .reg [
            ⟨some 18, .mv (.t 0), none⟩,
            ⟨some 19, .bsl 72 (.pair .str (.pair .str (.pair (.int .u64) (.pair (.int .i64) (.sl 8 (.int .i64)))))) 0 [], none⟩,
            ⟨some 20, .mv (.t 0), none⟩,
            ⟨some 21, .nck (.t 20), none⟩,
            ⟨some 22, .fa 1 (.t 21), none⟩,
            ⟨some 23, .ld (.t 22), none⟩,
            ⟨some 24, .slR 5 (.t 23) (some (.c (.int .i64 1))) none, none⟩,
            ⟨some 25, .app 72 (.pair .str (.pair .str (.pair (.int .u64) (.pair (.int .i64) (.sl 8 (.int .i64)))))) (.t 19) (.t 24), none⟩,
            ⟨some 26, .nck (.t 18), none⟩,
            ⟨some 27, .fa 1 (.t 26), none⟩,
            ⟨none, .st 1 (.t 27) (.t 25), none⟩] [2, 4]) (
          .seq (
            .reg [
              ⟨some 28, .ldA 5 (.t 4), none⟩,
              ⟨none, .st 5 (.t 2) (.t 28), none⟩,
              ⟨some 3, .mv (.c (.bool true)), none⟩] [2, 3]) (
            .ret)))))
def r31 : List RT := [.c 2 (some 5), .t 3, .w 1 0 1]

/-- reeve/reeveref14.SameOuts -/
def a32 : AS :=
  .seq (
    .reg [
      ⟨some 4, .mv (.c (.bool false)), none⟩] [0, 1]) (
    .seq (
      .seq (
        .reg [
          ⟨some 6, .mv (.t 0), none⟩,
          ⟨some 7, .len .s (.t 6), none⟩,
          ⟨some 8, .mv (.t 1), none⟩,
          ⟨some 9, .len .s (.t 8), none⟩,
          ⟨some 10, .bin .neq (.t 7) (.t 9), none⟩] [0, 1, 10]) (
        .cond (.t 10) (
          .seq (
            .reg [
              ⟨some 4, .mv (.c (.bool false)), none⟩] [4]) (
            .ret)) (
          .skip))) (
      .seq (
        .seq (
          .reg [
            ⟨some 11, .mv (.t 0), none⟩,
            ⟨some 12, .len .s (.t 11), none⟩,
            ⟨some 13, .mv (.c (.int .i64 0)), none⟩] [0, 1, 12, 13]) (
          .block 0 (
            .loop 1 [0, 1, 12, 13] (
              .seq (
                .reg [
                  ⟨some 14, .bin .lss (.t 13) (.t 12), none⟩] [0, 1, 12, 13, 14]) (
                .seq (
                  .cond (.t 14) (
                    .skip) (
                    .exit 0)) (
                  .seq (
                    .block 1 (
                      .seq (
                        .reg [
                          ⟨some 15, .mv (.t 13), none⟩,
                          ⟨some 5, .mv (.t 15), none⟩] [0, 1, 5, 12, 13]) (
                        .seq (
                          .regD [
                            ⟨some 16, .mv (.t 0), none⟩,
                            ⟨some 17, .mv (.t 5), none⟩,
                            ⟨some 18, .ia 5 (.t 16) (.t 17), none⟩,
                            ⟨some 19, .fa 0 (.t 18), none⟩,
                            ⟨some 20, .ld (.t 19), none⟩,
                            ⟨some 21, .mv (.t 1), none⟩,
                            ⟨some 22, .mv (.t 5), none⟩,
                            ⟨some 23, .ia 5 (.t 21) (.t 22), none⟩,
                            ⟨some 24, .fa 0 (.t 23), none⟩,
                            ⟨some 25, .ld (.t 24), none⟩,
                            ⟨some 26, .bin .neq (.t 20) (.t 25), none⟩,
                            ⟨some 27, .mv (.t 26), none⟩,
                            ⟨some 28, .mv (.t 0), (some (27, false))⟩,
                            ⟨some 29, .mv (.t 5), (some (27, false))⟩,
                            ⟨some 30, .ia 5 (.t 28) (.t 29), (some (27, false))⟩,
                            ⟨some 31, .fa 1 (.t 30), (some (27, false))⟩,
                            ⟨some 32, .ldA 4 (.t 31), (some (27, false))⟩,
                            ⟨some 33, .mv (.t 1), (some (27, false))⟩,
                            ⟨some 34, .mv (.t 5), (some (27, false))⟩,
                            ⟨some 35, .ia 5 (.t 33) (.t 34), (some (27, false))⟩,
                            ⟨some 36, .fa 1 (.t 35), (some (27, false))⟩,
                            ⟨some 37, .ldA 4 (.t 36), (some (27, false))⟩,
                            ⟨some 38, .call 59 [none, none] [(.t 32), (.t 37)], (some (27, false))⟩,
                            ⟨some 39, .not (.t 38), (some (27, false))⟩,
                            ⟨some 40, .pick (.t 27) (.c (.bool true)) (.t 39), none⟩] [.q 0, .q 1, .q 2, .q 3, .q 4, .q 5, .q 6, .q 7, .q 8, .q 9, .q 10, .q 11, .q 12, .q 13, .q 14, .q 15, .q 16, .q 17, .q 18, .q 19, .q 20, .q 21, .e 22 [], .q 23, .q 24] [0, 1, 12, 13, 40]) (
                          .cond (.t 40) (
                            .seq (
                              .reg [
                                ⟨some 4, .mv (.c (.bool false)), none⟩] [4]) (
                              .ret)) (
                            .skip))))) (
                    .reg [
                      ⟨some 41, .bin .add (.t 13) (.c (.int .i64 1)), none⟩,
                      ⟨some 13, .mv (.t 41), none⟩] [0, 1, 12, 13]))))))) (
        .seq (
          .reg [
            ⟨some 4, .mv (.c (.bool true)), none⟩] [4]) (
          .ret))))
def r32 : List RT := [.t 4]

/-- reeve/reevelaw14.out -/
def a33 : AS :=
  .seq (
    .reg [
      ⟨some 1, .box (.t 0), none⟩,
      ⟨some 2, .alc [.str ByteArray.empty, .str ByteArray.empty, .int .u64 0, .int .i64 0, .nils], none⟩] [1, 2]) (
    .seq (
      .reg [
        ⟨some 3, .fa 0 (.t 1), none⟩,
        ⟨some 4, .ld (.t 3), none⟩,
        ⟨some 5, .fa 1 (.t 1), none⟩,
        ⟨some 6, .ldA 4 (.t 5), none⟩,
        ⟨some 7, .bld [.str ByteArray.empty, .str ByteArray.empty, .int .u64 0, .int .i64 0, .nils] [(0, 1, (.t 4)), (1, 4, (.t 6))], none⟩,
        ⟨none, .st 5 (.t 2) (.t 7), none⟩] [2]) (
      .ret))
def r33 : List RT := [.c 2 (some 5)]

/-- (*reeve/reeveref14.Outbox).Serial -/
def a34 : AS :=
  .seq (
    .reg [
      ⟨some 4, .mv (.c (.int .u64 0)), none⟩] [0, 1]) (
    .seq (
      .seq (
        .reg [
          ⟨some 5, .mv (.t 0), none⟩,
          ⟨some 6, .mv (.t 1), none⟩,
          ⟨some 7, .call 56 [none, none] [(.t 5), (.t 6)], none⟩,
          ⟨some 8, .not (.t 7), none⟩] [0, 1, 8]) (
        .cond (.t 8) (
          .seq (
            .reg [
              ⟨some 4, .mv (.c (.int .u64 0)), none⟩] [4]) (
            .ret)) (
          .skip))) (
      .seq (
        .regD [
          ⟨some 9, .mv (.t 0), none⟩,
          ⟨some 10, .nck (.t 9), none⟩,
          ⟨some 11, .fa 2 (.t 10), none⟩,
          ⟨some 12, .ld (.t 11), none⟩,
          ⟨some 13, .mv (.t 0), none⟩,
          ⟨some 14, .mv (.t 1), none⟩,
          ⟨some 15, .call 63 [none, none] [(.t 13), (.t 14)], none⟩,
          ⟨some 16, .ia 2 (.t 12) (.t 15), none⟩,
          ⟨some 17, .fa 1 (.t 16), none⟩,
          ⟨some 18, .ld (.t 17), none⟩,
          ⟨some 4, .mv (.t 18), none⟩] [.q 0, .q 1, .q 2, .q 3, .q 4, .q 5, .e 6 [0, 1, 2, 3], .q 7, .q 8, .q 9, .q 10] [4]) (
        .ret)))
def r34 : List RT := [.t 4]

/-- (*reeve/reeveref14.Outbox).there -/
def a56 : AS :=
  .seq (
    .reg [
      ⟨some 4, .mv (.c (.bool false)), none⟩] [0, 1]) (
    .seq (
      .reg [
        ⟨some 6, .mv (.t 0), none⟩,
        ⟨some 7, .mv (.t 1), none⟩,
        ⟨some 8, .call 63 [none, none] [(.t 6), (.t 7)], none⟩,
        ⟨some 5, .mv (.t 8), none⟩] [0, 1, 5]) (
      .seq (
        .reg [
          ⟨some 9, .mv (.t 5), none⟩,
          ⟨some 10, .mv (.t 0), none⟩,
          ⟨some 11, .nck (.t 10), none⟩,
          ⟨some 12, .fa 2 (.t 11), none⟩,
          ⟨some 13, .ld (.t 12), none⟩,
          ⟨some 14, .len .s (.t 13), none⟩,
          ⟨some 15, .bin .lss (.t 9) (.t 14), none⟩,
          ⟨some 16, .mv (.t 15), none⟩,
          ⟨some 17, .mv (.t 0), (some (16, true))⟩,
          ⟨some 18, .nck (.t 17), (some (16, true))⟩,
          ⟨some 19, .fa 2 (.t 18), (some (16, true))⟩,
          ⟨some 20, .ld (.t 19), (some (16, true))⟩,
          ⟨some 21, .mv (.t 5), (some (16, true))⟩,
          ⟨some 22, .ia 2 (.t 20) (.t 21), (some (16, true))⟩,
          ⟨some 23, .fa 0 (.t 22), (some (16, true))⟩,
          ⟨some 24, .ld (.t 23), (some (16, true))⟩,
          ⟨some 25, .mv (.t 1), (some (16, true))⟩,
          ⟨some 26, .bin .eql (.t 24) (.t 25), (some (16, true))⟩,
          ⟨some 27, .pick (.t 16) (.t 26) (.c (.bool false)), none⟩,
          ⟨some 4, .mv (.t 27), none⟩] [4]) (
        .ret)))
def r56 : List RT := [.t 4]

/-- reeve/reeveref11.Same -/
def a59 : AS :=
  .seq (
    .reg [
      ⟨some 2, .box (.t 0), none⟩,
      ⟨some 3, .box (.t 1), none⟩,
      ⟨some 4, .mv (.c (.bool false)), none⟩] [2, 3]) (
    .seq (
      .reg [
        ⟨some 5, .fa 0 (.t 2), none⟩,
        ⟨some 6, .ld (.t 5), none⟩,
        ⟨some 7, .fa 0 (.t 3), none⟩,
        ⟨some 8, .ld (.t 7), none⟩,
        ⟨some 9, .bin .eql (.t 6) (.t 8), none⟩,
        ⟨some 10, .mv (.t 9), none⟩,
        ⟨some 11, .fa 1 (.t 2), (some (10, true))⟩,
        ⟨some 12, .ld (.t 11), (some (10, true))⟩,
        ⟨some 13, .fa 1 (.t 3), (some (10, true))⟩,
        ⟨some 14, .ld (.t 13), (some (10, true))⟩,
        ⟨some 15, .bin .eql (.t 12) (.t 14), (some (10, true))⟩,
        ⟨some 16, .pick (.t 10) (.t 15) (.c (.bool false)), none⟩,
        ⟨some 17, .mv (.t 16), none⟩,
        ⟨some 18, .fa 2 (.t 2), (some (17, true))⟩,
        ⟨some 19, .ld (.t 18), (some (17, true))⟩,
        ⟨some 20, .fa 2 (.t 3), (some (17, true))⟩,
        ⟨some 21, .ld (.t 20), (some (17, true))⟩,
        ⟨some 22, .bin .eql (.t 19) (.t 21), (some (17, true))⟩,
        ⟨some 23, .pick (.t 17) (.t 22) (.c (.bool false)), none⟩,
        ⟨some 24, .mv (.t 23), none⟩,
        ⟨some 25, .fa 3 (.t 2), (some (24, true))⟩,
        ⟨some 26, .ld (.t 25), (some (24, true))⟩,
        ⟨some 27, .fa 3 (.t 3), (some (24, true))⟩,
        ⟨some 28, .ld (.t 27), (some (24, true))⟩,
        ⟨some 29, .call 21 [(some (8, (.int .i64))), (some (8, (.int .i64)))] [(.t 26), (.t 28)], (some (24, true))⟩,
        ⟨some 30, .pick (.t 24) (.t 29) (.c (.bool false)), none⟩,
        ⟨some 4, .mv (.t 30), none⟩] [4]) (
      .ret))
def r59 : List RT := [.t 4]

/-- (*reeve/reeveref14.Outbox).Keys -/
def a60 : AS :=
  .seq (
    .reg [
      ⟨some 2, .mv (.c (.nils)), none⟩] [0]) (
    .seq (
      .reg [
        ⟨some 3, .mv (.c (.nils)), none⟩] [0, 3]) (
      .seq (
        .seq (
          .reg [
            ⟨some 5, .mv (.t 0), none⟩,
            ⟨some 6, .nck (.t 5), none⟩,
            ⟨some 7, .fa 2 (.t 6), none⟩,
            ⟨some 8, .ld (.t 7), none⟩,
            ⟨some 9, .len .s (.t 8), none⟩,
            ⟨some 10, .mv (.c (.int .i64 0)), none⟩] [0, 3, 9, 10]) (
          .block 0 (
            .lift 3 none 16 .str (
            .lift 0 (some 1) 72 (.pair .str (.pair .str (.pair (.int .u64) (.pair (.int .i64) (.sl 8 (.int .i64)))))) (
            .lift 0 (some 2) 24 (.pair .str (.int .u64)) (
            .loop 1 [0, 3, 9, 10] (
              .seq (
                .reg [
                  ⟨some 11, .bin .lss (.t 10) (.t 9), none⟩] [0, 3, 9, 10, 11]) (
                .seq (
                  .cond (.t 11) (
                    .skip) (
                    .exit 0)) (
                  .seq (
                    .block 1 (
                      .seq (
                        .reg [
                          ⟨some 12, .mv (.t 10), none⟩,
                          ⟨some 4, .mv (.t 12), none⟩] [0, 3, 4, 9, 10]) (
                        .reg [
                          ⟨some 13, .mv (.t 3), none⟩,
                          ⟨some 14, .mv (.t 0), none⟩,
                          ⟨some 15, .nck (.t 14), none⟩,
                          ⟨some 16, .fa 2 (.t 15), none⟩,
                          ⟨some 17, .ld (.t 16), none⟩,
                          ⟨some 18, .mv (.t 4), none⟩,
                          ⟨some 19, .ia 2 (.t 17) (.t 18), none⟩,
                          ⟨some 20, .fa 0 (.t 19), none⟩,
                          ⟨some 21, .ld (.t 20), none⟩,
                          ⟨some 22, .bsl 16 .str 1 [(0, (.t 21))], none⟩,
                          ⟨some 23, .app 16 .str (.t 13) (.t 22), none⟩,
                          ⟨some 3, .mv (.t 23), none⟩] [0, 3, 9, 10]))) (
                    .reg [
                      ⟨some 24, .bin .add (.t 10) (.c (.int .i64 1)), none⟩,
                      ⟨some 10, .mv (.t 24), none⟩] [0, 3, 9, 10])))))))))) (
        .seq (
          .reg [
            ⟨some 25, .mv (.t 3), none⟩,
            ⟨some 2, .mv (.t 25), none⟩] [2]) (
          .lift 2 none 16 .str (
          .ret)))))
def r60 : List RT := [.t 2]

/-- (*reeve/reeveref14.Outbox).set -/
def a61 : AS :=
  .seq (
    .reg [
      ⟨some 8, .mv (.t 0), none⟩,
      ⟨some 9, .mv (.t 1), none⟩,
      ⟨some 10, .call 63 [none, none] [(.t 8), (.t 9)], none⟩,
      ⟨some 6, .mv (.t 10), none⟩] [0, 1, 2, 6]) (
    .seq (
      .seq (
        .reg [
          ⟨some 11, .mv (.t 0), none⟩,
          ⟨some 12, .mv (.t 1), none⟩,
          ⟨some 13, .call 56 [none, none] [(.t 11), (.t 12)], none⟩] [0, 1, 2, 6, 13]) (
        .cond (.t 13) (
          .seq (
            .reg [
              ⟨some 14, .mv (.t 0), none⟩,
              ⟨some 15, .nck (.t 14), none⟩,
              ⟨some 16, .fa 2 (.t 15), none⟩,
              ⟨some 17, .ld (.t 16), none⟩,
              ⟨some 18, .mv (.t 6), none⟩,
              ⟨some 19, .mv (.t 2), none⟩,
              ⟨some 20, .ia 2 (.t 17) (.t 18), none⟩,
              ⟨some 21, .fa 1 (.t 20), none⟩,
              ⟨none, .st 1 (.t 21) (.t 19), none⟩] []) (
            .ret)) (
          .skip))) (
      .seq (
        .reg [
          ⟨some 7, .mv (.c (.nils)), none⟩] [0, 1, 2, 6, 7]) (
        .seq (
          .reg [
            ⟨some 22, .mv (.t 7), none⟩,
            ⟨some 23, .mv (.t 0), none⟩,
            ⟨some 24, .nck (.t 23), none⟩,
            ⟨some 25, .fa 2 (.t 24), none⟩,
            ⟨some 26, .ld (.t 25), none⟩,
            ⟨some 27, .mv (.t 6), none⟩,
            ⟨some 28, .slR 2 (.t 26) none (some (.t 27)), none⟩,
            ⟨some 29, .app 24 (.pair .str (.int .u64)) (.t 22) (.t 28), none⟩,
            ⟨some 7, .mv (.t 29), none⟩] [0, 1, 2, 6, 7]) (
          .seq (
            .reg [
              ⟨some 30, .mv (.t 7), none⟩,
              ⟨some 31, .mv (.t 1), none⟩,
              ⟨some 32, .mv (.t 2), none⟩,
              ⟨some 33, .bld [.str ByteArray.empty, .int .u64 0] [(0, 1, (.t 31)), (1, 1, (.t 32))], none⟩,
              ⟨some 34, .bsl 24 (.pair .str (.int .u64)) 1 [(0, (.t 33))], none⟩,
              ⟨some 35, .app 24 (.pair .str (.int .u64)) (.t 30) (.t 34), none⟩,
              ⟨some 7, .mv (.t 35), none⟩] [0, 6, 7]) (
            .reg [
              ⟨some 36, .mv (.t 0), none⟩,
              ⟨some 37, .mv (.t 7), none⟩,
              ⟨some 38, .mv (.t 0), none⟩,
              ⟨some 39, .nck (.t 38), none⟩,
              ⟨some 40, .fa 2 (.t 39), none⟩,
              ⟨some 41, .ld (.t 40), none⟩,
              ⟨some 42, .mv (.t 6), none⟩,
              ⟨some 43, .slR 2 (.t 41) (some (.t 42)) none, none⟩,
              ⟨some 44, .app 24 (.pair .str (.int .u64)) (.t 37) (.t 43), none⟩,
              ⟨some 45, .nck (.t 36), none⟩,
              ⟨some 46, .fa 2 (.t 45), none⟩,
              ⟨none, .st 1 (.t 46) (.t 44), none⟩] [])))))
def r61 : List RT := [.w 2 0 2]

/-- reeve/reeveref11.Copy -/
def a62 : AS :=
  .seq (
    .reg [
      ⟨some 1, .box (.t 0), none⟩,
      ⟨some 2, .alc [.str ByteArray.empty, .int .u64 0, .int .i64 0, .nils], none⟩] [1, 2]) (
    .seq (
      .reg [
        ⟨some 3, .bsl 8 (.int .i64) 0 [], none⟩,
        ⟨some 4, .fa 3 (.t 1), none⟩,
        ⟨some 5, .ld (.t 4), none⟩,
        ⟨some 6, .app 8 (.int .i64) (.t 3) (.t 5), none⟩,
        ⟨some 7, .fa 3 (.t 1), none⟩,
        ⟨none, .st 1 (.t 7) (.t 6), none⟩] [1, 2]) (
      .seq (
        .reg [
          ⟨some 8, .ldA 4 (.t 1), none⟩,
          ⟨none, .st 4 (.t 2) (.t 8), none⟩] [2]) (
        .ret)))
def r62 : List RT := [.c 2 (some 4)]

/-- (*reeve/reeveref14.Outbox).place -/
def a63 : AS :=
  .seq (
    .reg [
      ⟨some 4, .mv (.c (.int .i64 0)), none⟩] [0, 1]) (
    .seq (
      .reg [
        ⟨some 5, .mv (.c (.int .i64 0)), none⟩] [0, 1, 5]) (
      .seq (
        .block 0 (
          .lift 0 (some 1) 72 (.pair .str (.pair .str (.pair (.int .u64) (.pair (.int .i64) (.sl 8 (.int .i64)))))) (
          .lift 0 (some 2) 24 (.pair .str (.int .u64)) (
          .loop 1 [0, 1, 5] (
            .seq (
              .seq (
                .reg [
                  ⟨some 6, .mv (.t 5), none⟩,
                  ⟨some 7, .mv (.t 0), none⟩,
                  ⟨some 8, .nck (.t 7), none⟩,
                  ⟨some 9, .fa 2 (.t 8), none⟩,
                  ⟨some 10, .ld (.t 9), none⟩,
                  ⟨some 11, .len .s (.t 10), none⟩,
                  ⟨some 12, .bin .lss (.t 6) (.t 11), none⟩,
                  ⟨some 13, .mv (.t 12), none⟩,
                  ⟨some 14, .mv (.t 0), (some (13, true))⟩,
                  ⟨some 15, .nck (.t 14), (some (13, true))⟩,
                  ⟨some 16, .fa 2 (.t 15), (some (13, true))⟩,
                  ⟨some 17, .ld (.t 16), (some (13, true))⟩,
                  ⟨some 18, .mv (.t 5), (some (13, true))⟩,
                  ⟨some 19, .ia 2 (.t 17) (.t 18), (some (13, true))⟩,
                  ⟨some 20, .fa 0 (.t 19), (some (13, true))⟩,
                  ⟨some 21, .ld (.t 20), (some (13, true))⟩,
                  ⟨some 22, .mv (.t 1), (some (13, true))⟩,
                  ⟨some 23, .bin .lss (.t 21) (.t 22), (some (13, true))⟩,
                  ⟨some 24, .pick (.t 13) (.t 23) (.c (.bool false)), none⟩] [0, 1, 5, 24]) (
                .cond (.t 24) (
                  .skip) (
                  .exit 0))) (
              .block 1 (
                .reg [
                  ⟨some 25, .mv (.t 5), none⟩,
                  ⟨some 26, .bin .add (.t 25) (.c (.int .i64 1)), none⟩,
                  ⟨some 5, .mv (.t 26), none⟩] [0, 1, 5]))))))) (
        .seq (
          .reg [
            ⟨some 27, .mv (.t 5), none⟩,
            ⟨some 4, .mv (.t 27), none⟩] [4]) (
          .ret))))
def r63 : List RT := [.t 4]

theorem ok4 : okF Try.prog 4 a4 r4 2 = true := by decide +kernel
theorem ok5 : okF Try.prog 5 a5 r5 2 = true := by decide +kernel
theorem ok6 : okF Try.prog 6 a6 r6 2 = true := by decide +kernel
theorem ok14 : okF Try.prog 14 a14 r14 1 = true := by decide +kernel
theorem ok15 : okF Try.prog 15 a15 r15 3 = true := by decide +kernel
theorem ok21 : okF Try.prog 21 a21 r21 2 = true := by decide +kernel
theorem ok25 : okF Try.prog 25 a25 r25 2 = true := by decide +kernel
theorem ok29 : okF Try.prog 29 a29 r29 1 = true := by decide +kernel
theorem ok30 : okF Try.prog 30 a30 r30 4 = true := by decide +kernel
theorem ok31 : okF Try.prog 31 a31 r31 1 = true := by decide +kernel
theorem ok32 : okF Try.prog 32 a32 r32 2 = true := by decide +kernel
theorem ok33 : okF Try.prog 33 a33 r33 1 = true := by decide +kernel
theorem ok34 : okF Try.prog 34 a34 r34 2 = true := by decide +kernel
theorem ok56 : okF Try.prog 56 a56 r56 2 = true := by decide +kernel
theorem ok59 : okF Try.prog 59 a59 r59 2 = true := by decide +kernel
theorem ok60 : okF Try.prog 60 a60 r60 1 = true := by decide +kernel
theorem ok61 : okF Try.prog 61 a61 r61 3 = true := by decide +kernel
theorem ok62 : okF Try.prog 62 a62 r62 1 = true := by decide +kernel
theorem ok63 : okF Try.prog 63 a63 r63 2 = true := by decide +kernel
end Go.V
