/- A part of the proof layer, or functions of the given program in it: contracts and their proofs. -/
import Derived.Test.YtkoakbgfpnhckaaGreatMVzb
import Derived.Test.YtkoakbgfpnhckaaGreatProg
namespace Go.V
set_option linter.unusedSimpArgs false
set_option linter.unnecessarySimpa false
open Go.Proofs
def xa9 : AS :=
 .seq (
  .reg [
   ⟨some 0, .mv (.c (.bool false)), none⟩] []) (
  .seq (
   .reg [
    ⟨some 8, .call 13 [none] [(.c (.int .i64 51))], none⟩,
    ⟨some 9, .call 12 [none, none, none, none] [(.t 8), (.c (.int .i64 1)), (.c (.int .i64 50)), (.c (.nils))], none⟩,
    ⟨some 7, .mv (.t 9), none⟩,
    ⟨some 10, .ext (.t 7) 0, none⟩,
    ⟨some 11, .ext (.t 7) 1, none⟩,
    ⟨some 1, .mv (.t 10), none⟩,
    ⟨some 2, .mv (.t 11), none⟩] [1]) (
   .seq (
    .reg [
     ⟨some 13, .mv (.t 1), none⟩,
     ⟨some 14, .call 14 [none, none] [(.t 13), (.c (.int .i64 0))], none⟩,
     ⟨some 12, .mv (.t 14), none⟩,
     ⟨some 15, .ext (.t 12) 0, none⟩,
     ⟨some 16, .ext (.t 12) 1, none⟩,
     ⟨some 3, .mv (.t 15), none⟩,
     ⟨some 4, .mv (.t 16), none⟩] [3, 4]) (
    .seq (
     .seq (
      .reg [
       ⟨some 17, .mv (.t 4), none⟩,
       ⟨some 18, .bin .neq (.t 17) (.c (.int .i64 0)), none⟩,
       ⟨some 19, .mv (.t 18), none⟩,
       ⟨some 20, .mv (.t 3), (some (19, false))⟩,
       ⟨some 21, .eqn false .p (.t 20) (.c (.nilp)), (some (19, false))⟩,
       ⟨some 22, .pick (.t 19) (.c (.bool true)) (.t 21), none⟩,
       ⟨some 23, .mv (.t 22), none⟩,
       ⟨some 24, .mv (.t 3), (some (23, false))⟩,
       ⟨some 25, .bsl 1 .byte 1 [(0, (.c (.int .u8 49)))], (some (23, false))⟩,
       ⟨some 26, .mkb (.t 25), (some (23, false))⟩,
       ⟨some 27, .bld [.str ByteArray.empty, .nils, .bool false] [(0, 1, (.c (.str ⟨#[97]⟩))), (1, 1, (.t 26))], (some (23, false))⟩,
       ⟨some 28, .bsl 48 (.pair .str (.pair (.sl 1 .byte) .bool)) 1 [(0, (.t 27))], (some (23, false))⟩,
       ⟨some 29, .call 15 [none, none] [(.t 24), (.t 28)], (some (23, false))⟩,
       ⟨some 30, .bin .neq (.t 29) (.c (.int .i64 0)), (some (23, false))⟩,
       ⟨some 31, .pick (.t 23) (.c (.bool true)) (.t 30), none⟩] [3, 31]) (
      .cond (.t 31) (
       .no) (
       .skip))) (
     .seq (
      .reg [
       ⟨some 33, .mv (.t 3), none⟩,
       ⟨some 34, .call 27 [none, none] [(.t 33), (.c (.str ⟨#[97]⟩))], none⟩,
       ⟨some 32, .mv (.t 34), none⟩,
       ⟨some 35, .ext (.t 32) 0, none⟩,
       ⟨some 36, .ext (.t 32) 1, none⟩,
       ⟨some 5, .mv (.t 35), none⟩,
       ⟨some 6, .mv (.t 36), none⟩] [3, 5, 6]) (
      .seq (
       .reg [
        ⟨some 37, .mv (.t 6), none⟩,
        ⟨some 38, .mv (.t 37), none⟩,
        ⟨some 39, .mv (.t 5), (some (38, true))⟩,
        ⟨some 40, .b2s (.t 39), (some (38, true))⟩,
        ⟨some 41, .bin .eql (.t 40) (.c (.str ⟨#[49]⟩)), (some (38, true))⟩,
        ⟨some 42, .pick (.t 38) (.t 41) (.c (.bool false)), none⟩,
        ⟨some 43, .mv (.t 42), none⟩,
        ⟨some 44, .mv (.t 3), (some (43, true))⟩,
        ⟨some 45, .call 20 [none] [(.t 44)], (some (43, true))⟩,
        ⟨some 46, .bin .neq (.t 45) (.c (.int .i64 0)), (some (43, true))⟩,
        ⟨some 47, .pick (.t 43) (.t 46) (.c (.bool false)), none⟩,
        ⟨some 0, .mv (.t 47), none⟩] [0]) (
       .ret))))))
def xr9 : List RT := [.t 0]
def xa12 : AS :=
 .seq (
  .reg [
   ⟨some 8, .mv (.c (.nilp)), none⟩,
   ⟨some 9, .mv (.c (.int .i64 0)), none⟩] [0, 1, 2, 3]) (
  .seq (
   .seq (
    .reg [
     ⟨some 19, .mv (.t 0), none⟩,
     ⟨some 20, .mv (.t 1), none⟩,
     ⟨some 21, .mv (.t 2), none⟩,
     ⟨some 22, .call 31 [none, none, none] [(.t 19), (.t 20), (.t 21)], none⟩,
     ⟨some 23, .not (.t 22), none⟩] [0, 1, 2, 3, 23]) (
    .cond (.t 23) (
     .no) (
     .skip))) (
   .seq (
    .reg [
     ⟨some 24, .mv (.t 0), none⟩,
     ⟨some 25, .mv (.t 1), none⟩,
     ⟨some 26, .mkm false (.int .i64) (.sl 8 (.int .i64)), none⟩,
     ⟨some 27, .mkm false (.int .i64) .bool, none⟩,
     ⟨some 28, .bld [.nilp, .int .i64 0, .nilm, .nilm] [(0, 1, (.t 24)), (1, 1, (.t 25)), (2, 1, (.t 26)), (3, 1, (.t 27))], none⟩,
     ⟨some 29, .box (.t 28), none⟩,
     ⟨some 10, .mv (.t 29), none⟩] [0, 1, 2, 3, 10]) (
    .seq (
     .seq (
      .reg [
       ⟨some 30, .mv (.t 2), none⟩,
       ⟨some 31, .mv (.c (.int .i64 0)), none⟩] [0, 1, 2, 3, 10, 30, 31]) (
      .block 0 (
       .loop 1 [0, 1, 2, 3, 10, 30, 31] (
        .seq (
         .reg [
          ⟨some 32, .bin .lss (.t 31) (.t 30), none⟩] [0, 1, 2, 3, 10, 30, 31, 32]) (
         .seq (
          .cond (.t 32) (
           .skip) (
           .exit 0)) (
          .seq (
           .block 1 (
            .seq (
             .reg [
              ⟨some 33, .mv (.t 31), none⟩,
              ⟨some 11, .mv (.t 33), none⟩] [0, 1, 2, 3, 10, 11, 30, 31]) (
             .reg [
              ⟨some 34, .mv (.t 10), none⟩,
              ⟨some 35, .nck (.t 34), none⟩,
              ⟨some 36, .fa 3 (.t 35), none⟩,
              ⟨some 37, .ld (.t 36), none⟩,
              ⟨some 38, .mv (.t 1), none⟩,
              ⟨some 39, .mv (.t 11), none⟩,
              ⟨some 40, .bin .add (.t 38) (.t 39), none⟩,
              ⟨none, .mu false (.int .i64) .bool (.t 37) (.t 40) (.c (.bool true)), none⟩] [0, 1, 2, 3, 10, 30, 31]))) (
           .reg [
            ⟨some 41, .bin .add (.t 31) (.c (.int .i64 1)), none⟩,
            ⟨some 31, .mv (.t 41), none⟩] [0, 1, 2, 3, 10, 30, 31]))))))) (
     .seq (
      .seq (
       .reg [
        ⟨some 42, .mv (.t 0), none⟩,
        ⟨some 43, .call 23 [none] [(.t 42)], none⟩] [0, 1, 2, 3, 10, 43]) (
       .cond (.t 43) (
        .no) (
        .skip))) (
      .seq (
       .seq (
        .reg [
         ⟨some 44, .mv (.t 3), none⟩,
         ⟨some 45, .len .s (.t 44), none⟩,
         ⟨some 46, .mv (.c (.int .i64 0)), none⟩] [0, 1, 2, 10, 44, 45, 46]) (
        .block 2 (
         .loop 2 [0, 1, 2, 10, 44, 45, 46] (
          .seq (
           .reg [
            ⟨some 47, .bin .lss (.t 46) (.t 45), none⟩] [0, 1, 2, 10, 44, 45, 46, 47]) (
           .seq (
            .cond (.t 47) (
             .no) (
             .exit 2)) (
            .seq (
             .block 3 (
              .seq (
               .reg [
                ⟨some 48, .ia 1 (.t 44) (.t 46), none⟩,
                ⟨some 49, .ld (.t 48), none⟩,
                ⟨some 13, .mv (.t 49), none⟩] [0, 1, 2, 10, 13, 44, 45, 46]) (
               .seq (
                .reg [
                 ⟨some 51, .mv (.t 0), none⟩,
                 ⟨some 52, .mv (.t 1), none⟩,
                 ⟨some 53, .mv (.t 2), none⟩,
                 ⟨some 54, .mv (.t 13), none⟩,
                 ⟨some 55, .call 32 [none, none, none, none] [(.t 51), (.t 52), (.t 53), (.t 54)], none⟩,
                 ⟨some 50, .mv (.t 55), none⟩,
                 ⟨some 56, .ext (.t 50) 0, none⟩,
                 ⟨some 57, .ext (.t 50) 1, none⟩,
                 ⟨some 58, .ext (.t 50) 2, none⟩,
                 ⟨some 14, .mv (.t 56), none⟩,
                 ⟨some 15, .mv (.t 57), none⟩,
                 ⟨some 16, .mv (.t 58), none⟩] [0, 1, 2, 10, 13, 15, 16, 44, 45, 46]) (
                .seq (
                 .seq (
                  .reg [
                   ⟨some 59, .mv (.t 16), none⟩,
                   ⟨some 60, .bin .neq (.t 59) (.c (.int .i64 0)), none⟩] [0, 1, 2, 10, 13, 15, 16, 44, 45, 46, 60]) (
                  .cond (.t 60) (
                   .no) (
                   .no))) (
                 .seq (
                  .seq (
                   .reg [
                    ⟨some 62, .mv (.t 15), none⟩,
                    ⟨some 63, .len .s (.t 62), none⟩,
                    ⟨some 64, .mv (.c (.int .i64 0)), none⟩] [0, 1, 2, 10, 13, 15, 44, 45, 46, 62, 63, 64]) (
                   .block 4 (
                    .loop 3 [0, 1, 2, 10, 13, 15, 44, 45, 46, 62, 63, 64] (
                     .seq (
                      .reg [
                       ⟨some 65, .bin .lss (.t 64) (.t 63), none⟩] [0, 1, 2, 10, 13, 15, 44, 45, 46, 62, 63, 64, 65]) (
                      .seq (
                       .cond (.t 65) (
                        .no) (
                        .no)) (
                       .seq (
                        .block 5 (
                         .seq (
                          .reg [
                           ⟨some 66, .ia 1 (.t 62) (.t 64), none⟩,
                           ⟨some 67, .ld (.t 66), none⟩,
                           ⟨some 18, .mv (.t 67), none⟩] [0, 1, 2, 10, 13, 15, 18, 44, 45, 46, 62, 63, 64]) (
                          .seq (
                           .seq (
                            .reg [
                             ⟨some 68, .mv (.t 10), none⟩,
                             ⟨some 69, .nck (.t 68), none⟩,
                             ⟨some 70, .fa 3 (.t 69), none⟩,
                             ⟨some 71, .ld (.t 70), none⟩,
                             ⟨some 72, .mv (.t 18), none⟩,
                             ⟨some 73, .lk false (.int .i64) .bool false (.t 71) (.t 72), none⟩,
                             ⟨some 74, .not (.t 73), none⟩] [0, 1, 2, 10, 13, 15, 18, 44, 45, 46, 62, 63, 64, 74]) (
                            .cond (.t 74) (
                             .no) (
                             .no))) (
                           .reg [
                            ⟨some 75, .mv (.t 10), none⟩,
                            ⟨some 76, .nck (.t 75), none⟩,
                            ⟨some 77, .fa 3 (.t 76), none⟩,
                            ⟨some 78, .ld (.t 77), none⟩,
                            ⟨some 79, .mv (.t 18), none⟩,
                            ⟨none, .dl (.int .i64) (.t 78) (.t 79), none⟩] [0, 1, 2, 10, 13, 15, 44, 45, 46, 62, 63, 64])))) (
                        .reg [
                         ⟨some 80, .bin .add (.t 64) (.c (.int .i64 1)), none⟩,
                         ⟨some 64, .mv (.t 80), none⟩] [0, 1, 2, 10, 13, 15, 44, 45, 46, 62, 63, 64]))))))) (
                  .reg [
                   ⟨some 81, .mv (.t 10), none⟩,
                   ⟨some 82, .nck (.t 81), none⟩,
                   ⟨some 83, .fa 2 (.t 82), none⟩,
                   ⟨some 84, .ld (.t 83), none⟩,
                   ⟨some 85, .mv (.t 13), none⟩,
                   ⟨some 86, .mv (.t 15), none⟩,
                   ⟨none, .mu false (.int .i64) (.sl 8 (.int .i64)) (.t 84) (.t 85) (.t 86), none⟩] [0, 1, 2, 10, 44, 45, 46])))))) (
             .reg [
              ⟨some 87, .bin .add (.t 46) (.c (.int .i64 1)), none⟩,
              ⟨some 46, .mv (.t 87), none⟩] [0, 1, 2, 10, 44, 45, 46]))))))) (
       .seq (
        .reg [
         ⟨some 88, .mv (.t 10), none⟩,
         ⟨some 8, .mv (.t 88), none⟩,
         ⟨some 9, .mv (.c (.int .i64 0)), none⟩] [8, 9]) (
        .ret)))))))
def xr12 : List RT := [.t 8, .t 9]
def xa13 : AS :=
 .seq (
  .reg [
   ⟨some 2, .mv (.c (.nilp)), none⟩] [0]) (
  .seq (
   .reg [
    ⟨some 3, .mv (.t 0), none⟩,
    ⟨some 4, .mm true (.t 3) (.c (.int .i64 0)), none⟩,
    ⟨some 5, .mm false (.t 4) (.c (.int .i64 65536)), none⟩,
    ⟨some 6, .mks 24 (.sl 1 .byte) (.t 5) (.t 5), none⟩,
    ⟨some 7, .bld [.nils, .nils, .int .i64 0, .bool false] [(0, 1, (.t 6)), (2, 1, (.c (.int .i64 (-1))))], none⟩,
    ⟨some 8, .box (.t 7), none⟩,
    ⟨some 2, .mv (.t 8), none⟩] [2]) (
   .ret))
def xr13 : List RT := [.t 2]
def xa14 : AS :=
 .seq (
  .reg [
   ⟨some 4, .mv (.c (.nilp)), none⟩,
   ⟨some 5, .mv (.c (.int .i64 0)), none⟩] [0, 1]) (
  .seq (
   .seq (
    .reg [
     ⟨some 10, .mv (.t 0), none⟩,
     ⟨some 11, .call 33 [none] [(.t 10)], none⟩,
     ⟨some 12, .bin .eql (.t 11) (.c (.int .i64 0)), none⟩] [0, 1, 12]) (
    .cond (.t 12) (
     .no) (
     .skip))) (
   .seq (
    .reg [
     ⟨some 13, .mv (.t 0), none⟩,
     ⟨some 14, .mv (.t 1), none⟩,
     ⟨some 15, .mkm true (.int .i64) (.pair .bool (.sl 48 (.pair .str (.pair (.int .i64) (.sl 1 .byte))))), none⟩,
     ⟨some 16, .bld [.nilp, .int .i64 0, .nilm, .nils, .nils, .nils] [(0, 1, (.t 13)), (1, 1, (.t 14)), (2, 1, (.t 15))], none⟩,
     ⟨some 17, .box (.t 16), none⟩,
     ⟨some 6, .mv (.t 17), none⟩] [0, 1, 6]) (
    .seq (
     .seq (
      .reg [
       ⟨some 18, .mv (.t 1), none⟩,
       ⟨some 19, .bin .eql (.t 18) (.c (.int .i64 0)), none⟩] [0, 1, 6, 19]) (
      .cond (.t 19) (
       .seq (
        .reg [
         ⟨some 20, .mv (.t 6), none⟩,
         ⟨some 4, .mv (.t 20), none⟩,
         ⟨some 5, .mv (.c (.int .i64 0)), none⟩] [4, 5]) (
        .ret)) (
       .no))) (
     .seq (
      .reg [
       ⟨some 21, .mv (.t 0), none⟩,
       ⟨some 22, .mkf 1000034 [(.t 21)], none⟩,
       ⟨some 23, .mv (.t 6), none⟩,
       ⟨some 24, .nck (.t 23), none⟩,
       ⟨some 25, .fa 2 (.t 24), none⟩,
       ⟨some 26, .ld (.t 25), none⟩,
       ⟨some 27, .bld [.nilf, .nilm, .int .i64 0] [(0, 1, (.t 22)), (1, 1, (.t 26)), (2, 1, (.c (.int .i64 65536)))], none⟩,
       ⟨some 28, .box (.t 27), none⟩,
       ⟨some 7, .mv (.t 28), none⟩] [1, 6, 7]) (
      .seq (
       .seq (
        .reg [
         ⟨some 30, .mv (.t 7), none⟩,
         ⟨some 31, .mv (.t 1), none⟩,
         ⟨some 32, .call 35 [none, none, none] [(.t 30), (.t 31), (.c (.int .i64 0))], none⟩,
         ⟨some 29, .mv (.t 32), none⟩,
         ⟨some 33, .ext (.t 29) 0, none⟩,
         ⟨some 34, .ext (.t 29) 1, none⟩,
         ⟨some 8, .mv (.t 33), none⟩,
         ⟨some 9, .mv (.t 34), none⟩] [6, 9]) (
        .seq (
         .reg [
          ⟨some 35, .mv (.t 9), none⟩,
          ⟨some 36, .bin .neq (.t 35) (.c (.int .i64 0)), none⟩] [6, 9, 36]) (
         .cond (.t 36) (
          .no) (
          .no)))) (
       .seq (
        .reg [
         ⟨some 40, .mv (.t 6), none⟩,
         ⟨some 4, .mv (.t 40), none⟩,
         ⟨some 5, .mv (.c (.int .i64 0)), none⟩] [4, 5]) (
        .ret)))))))
def xr14 : List RT := [.t 4, .t 5]
def xa15 : AS :=
 .seq (
  .reg [
   ⟨some 4, .mv (.c (.int .i64 0)), none⟩] [0, 1]) (
  .seq (
   .seq (
    .reg [
     ⟨some 13, .mv (.t 0), none⟩,
     ⟨some 14, .eqn false .p (.t 13) (.c (.nilp)), none⟩] [0, 1, 14]) (
    .cond (.t 14) (
     .no) (
     .skip))) (
   .seq (
    .seq (
     .reg [
      ⟨some 15, .mv (.t 1), none⟩,
      ⟨some 16, .call 36 [none] [(.t 15)], none⟩,
      ⟨some 5, .mv (.t 16), none⟩] [0, 1, 5]) (
     .seq (
      .reg [
       ⟨some 17, .mv (.t 5), none⟩,
       ⟨some 18, .bin .neq (.t 17) (.c (.int .i64 0)), none⟩] [0, 1, 5, 18]) (
      .cond (.t 18) (
       .no) (
       .skip)))) (
    .seq (
     .seq (
      .reg [
       ⟨some 20, .mv (.t 1), none⟩,
       ⟨some 21, .len .s (.t 20), none⟩,
       ⟨some 22, .bin .eql (.t 21) (.c (.int .i64 0)), none⟩] [0, 1, 22]) (
      .cond (.t 22) (
       .no) (
       .skip))) (
     .seq (
      .reg [
       ⟨some 23, .mv (.t 1), none⟩,
       ⟨some 24, .call 38 [none] [(.t 23)], none⟩,
       ⟨some 25, .call 37 [none, none] [(.t 24), (.f 39)], none⟩,
       ⟨some 6, .mv (.t 25), none⟩] [0, 6]) (
      .seq (
       .reg [
        ⟨some 26, .mv (.t 0), none⟩,
        ⟨some 27, .mv (.t 0), none⟩,
        ⟨some 28, .nck (.t 26), none⟩,
        ⟨some 29, .fa 4 (.t 28), none⟩,
        ⟨none, .st 1 (.t 29) (.c (.nils)), none⟩,
        ⟨some 30, .nck (.t 27), none⟩,
        ⟨some 31, .fa 5 (.t 30), none⟩,
        ⟨none, .st 1 (.t 31) (.c (.nils)), none⟩] [0, 6]) (
       .seq (
        .reg [
         ⟨some 33, .mv (.t 0), none⟩,
         ⟨some 34, .mv (.t 6), none⟩,
         ⟨some 35, .call 41 [none, none] [(.t 33), (.t 34)], none⟩,
         ⟨some 32, .mv (.t 35), none⟩,
         ⟨some 36, .ext (.t 32) 0, none⟩,
         ⟨some 37, .ext (.t 32) 1, none⟩,
         ⟨some 7, .mv (.t 36), none⟩,
         ⟨some 8, .mv (.t 37), none⟩] [0, 7, 8]) (
        .seq (
         .seq (
          .reg [
           ⟨some 38, .mv (.t 8), none⟩,
           ⟨some 39, .bin .neq (.t 38) (.c (.int .i64 0)), none⟩] [0, 7, 8, 39]) (
          .cond (.t 39) (
           .no) (
           .skip))) (
         .seq (
          .reg [
           ⟨some 62, .mv (.t 0), none⟩,
           ⟨some 63, .mv (.t 7), none⟩,
           ⟨some 64, .nck (.t 62), none⟩,
           ⟨some 65, .fa 1 (.t 64), none⟩,
           ⟨none, .st 1 (.t 65) (.t 63), none⟩] [0]) (
          .seq (
           .seq (
            .reg [
             ⟨some 66, .mv (.t 0), none⟩,
             ⟨some 67, .nck (.t 66), none⟩,
             ⟨some 68, .fa 5 (.t 67), none⟩,
             ⟨some 69, .ld (.t 68), none⟩,
             ⟨some 70, .len .s (.t 69), none⟩,
             ⟨some 71, .mv (.c (.int .i64 0)), none⟩] [0, 69, 70, 71]) (
            .block 2 (
             .loop 1 [0, 69, 70, 71] (
              .seq (
               .reg [
                ⟨some 72, .bin .lss (.t 71) (.t 70), none⟩] [0, 69, 70, 71, 72]) (
               .seq (
                .cond (.t 72) (
                 .no) (
                 .exit 2)) (
                .seq (
                 .block 3 (
                  .seq (
                   .reg [
                    ⟨some 73, .ia 1 (.t 69) (.t 71), none⟩,
                    ⟨some 74, .ld (.t 73), none⟩,
                    ⟨some 12, .mv (.t 74), none⟩] [0, 12, 69, 70, 71]) (
                   .reg [
                    ⟨some 75, .mv (.t 0), none⟩,
                    ⟨some 76, .nck (.t 75), none⟩,
                    ⟨some 77, .fa 2 (.t 76), none⟩,
                    ⟨some 78, .ld (.t 77), none⟩,
                    ⟨some 79, .mv (.t 12), none⟩,
                    ⟨none, .dl (.int .i64) (.t 78) (.t 79), none⟩] [0, 69, 70, 71]))) (
                 .reg [
                  ⟨some 80, .bin .add (.t 71) (.c (.int .i64 1)), none⟩,
                  ⟨some 71, .mv (.t 80), none⟩] [0, 69, 70, 71]))))))) (
           .seq (
            .regD [
             ⟨some 81, .mv (.t 0), none⟩,
             ⟨some 82, .mv (.t 0), none⟩,
             ⟨some 83, .nck (.t 82), none⟩,
             ⟨some 84, .fa 3 (.t 83), none⟩,
             ⟨some 85, .ld (.t 84), none⟩,
             ⟨some 86, .mv (.t 0), none⟩,
             ⟨some 87, .nck (.t 86), none⟩,
             ⟨some 88, .fa 5 (.t 87), none⟩,
             ⟨some 89, .ld (.t 88), none⟩,
             ⟨some 90, .app 8 (.int .i64) (.t 85) (.t 89), none⟩,
             ⟨some 91, .nck (.t 81), none⟩,
             ⟨some 92, .fa 3 (.t 91), none⟩,
             ⟨none, .st 1 (.t 92) (.t 90), none⟩] [.q 0, .q 1, .q 2, .q 3, .q 4, .q 5, .q 6, .q 7, .q 8, .e 9 [0], .q 10, .q 11, .e 12 []] []) (
            .seq (
             .reg [
              ⟨some 4, .mv (.c (.int .i64 0)), none⟩] [4]) (
             .ret))))))))))))
def xr15 : List RT := [.t 4]
def xa20 : AS :=
 .seq (
  .reg [
   ⟨some 2, .mv (.c (.int .i64 0)), none⟩] [0]) (
  .seq (
   .seq (
    .reg [
     ⟨some 3, .mv (.t 0), none⟩,
     ⟨some 4, .eqn false .p (.t 3) (.c (.nilp)), none⟩] [0, 4]) (
    .cond (.t 4) (
     .no) (
     .skip))) (
   .seq (
    .reg [
     ⟨some 5, .mv (.t 0), none⟩,
     ⟨some 6, .nck (.t 5), none⟩,
     ⟨some 7, .fa 1 (.t 6), none⟩,
     ⟨some 8, .ld (.t 7), none⟩,
     ⟨some 2, .mv (.t 8), none⟩] [2]) (
    .ret)))
def xr20 : List RT := [.t 2]
def xa21 : AS :=
 .seq (
  .reg [
   ⟨some 2, .mv (.c (.nils)), none⟩] [0]) (
  .seq (
   .seq (
    .reg [
     ⟨some 3, .mv (.t 0), none⟩,
     ⟨some 4, .eqn false .p (.t 3) (.c (.nilp)), none⟩] [0, 4]) (
    .cond (.t 4) (
     .no) (
     .skip))) (
   .seq (
    .reg [
     ⟨some 5, .mv (.t 0), none⟩,
     ⟨some 6, .nck (.t 5), none⟩,
     ⟨some 7, .fa 3 (.t 6), none⟩,
     ⟨some 8, .ld (.t 7), none⟩,
     ⟨some 9, .call 49 [none] [(.t 8)], none⟩,
     ⟨some 10, .call 48 [none] [(.t 9)], none⟩,
     ⟨some 2, .mv (.t 10), none⟩] [2]) (
    .ret)))
def xr21 : List RT := [.t 2]
def xa23 : AS :=
 .seq (
  .reg [
   ⟨some 2, .mv (.c (.bool false)), none⟩] [0]) (
  .seq (
   .reg [
    ⟨some 3, .mv (.t 0), none⟩,
    ⟨some 4, .eqn false .p (.t 3) (.c (.nilp)), none⟩,
    ⟨some 5, .mv (.t 4), none⟩,
    ⟨some 6, .mv (.t 0), (some (5, false))⟩,
    ⟨some 7, .nck (.t 6), (some (5, false))⟩,
    ⟨some 8, .fa 3 (.t 7), (some (5, false))⟩,
    ⟨some 9, .ld (.t 8), (some (5, false))⟩,
    ⟨some 10, .pick (.t 5) (.c (.bool true)) (.t 9), none⟩,
    ⟨some 2, .mv (.t 10), none⟩] [2]) (
   .ret))
def xr23 : List RT := [.t 2]
def xa27 : AS :=
 .seq (
  .reg [
   ⟨some 4, .mv (.c (.nils)), none⟩,
   ⟨some 5, .mv (.c (.bool false)), none⟩] [0, 1]) (
  .seq (
   .seq (
    .reg [
     ⟨some 9, .mv (.t 0), none⟩,
     ⟨some 10, .eqn false .p (.t 9) (.c (.nilp)), none⟩,
     ⟨some 11, .mv (.t 10), none⟩,
     ⟨some 12, .mv (.t 0), (some (11, false))⟩,
     ⟨some 13, .nck (.t 12), (some (11, false))⟩,
     ⟨some 14, .fa 1 (.t 13), (some (11, false))⟩,
     ⟨some 15, .ld (.t 14), (some (11, false))⟩,
     ⟨some 16, .bin .eql (.t 15) (.c (.int .i64 0)), (some (11, false))⟩,
     ⟨some 17, .pick (.t 11) (.c (.bool true)) (.t 16), none⟩] [0, 1, 17]) (
    .cond (.t 17) (
     .no) (
     .skip))) (
   .seq (
    .regD [
     ⟨some 18, .mv (.t 0), none⟩,
     ⟨some 19, .nck (.t 18), none⟩,
     ⟨some 20, .fa 2 (.t 19), none⟩,
     ⟨some 21, .ld (.t 20), none⟩,
     ⟨some 22, .mv (.t 0), none⟩,
     ⟨some 23, .nck (.t 22), none⟩,
     ⟨some 24, .fa 1 (.t 23), none⟩,
     ⟨some 25, .ld (.t 24), none⟩,
     ⟨some 26, .lk true (.int .i64) (.pair .bool (.sl 48 (.pair .str (.pair (.int .i64) (.sl 1 .byte))))) false (.t 21) (.t 25), none⟩,
     ⟨some 6, .alc [.bool false, .nils], none⟩,
     ⟨none, .st 2 (.t 6) (.t 26), none⟩] [.q 0, .q 1, .q 2, .q 3, .q 4, .q 5, .q 6, .q 7, .q 8, .e 9 [0, 1, 2, 3, 4, 5, 6, 7, 8], .e 10 []] [0, 1, 6]) (
    .block 0 (
     .loop 1 [0, 1, 6] (
      .seq (
       .block 1 (
        .seq (
         .reg [
          ⟨some 27, .ldA 2 (.t 6), none⟩,
          ⟨some 28, .mv (.t 1), none⟩,
          ⟨some 29, .call 52 [none, none] [(.t 27), (.t 28)], none⟩,
          ⟨some 7, .mv (.t 29), none⟩] [0, 1, 6, 7]) (
         .seq (
          .seq (
           .reg [
            ⟨some 30, .mv (.t 7), none⟩,
            ⟨some 31, .bin .lss (.t 30) (.c (.int .i64 0)), none⟩] [0, 1, 6, 7, 31]) (
           .cond (.t 31) (
            .no) (
            .skip))) (
          .seq (
           .reg [
            ⟨some 32, .fa 1 (.t 6), none⟩,
            ⟨some 33, .ld (.t 32), none⟩,
            ⟨some 34, .mv (.t 7), none⟩,
            ⟨some 35, .ia 3 (.t 33) (.t 34), none⟩,
            ⟨some 36, .ldA 3 (.t 35), none⟩,
            ⟨some 8, .alc [.str ByteArray.empty, .int .i64 0, .nils], none⟩,
            ⟨none, .st 3 (.t 8) (.t 36), none⟩] [0, 1, 6, 8]) (
           .seq (
            .seq (
             .reg [
              ⟨some 37, .fa 0 (.t 6), none⟩,
              ⟨some 38, .ld (.t 37), none⟩] [0, 1, 6, 8, 38]) (
             .cond (.t 38) (
              .seq (
               .seq (
                .reg [
                 ⟨some 39, .fa 0 (.t 8), none⟩,
                 ⟨some 40, .ld (.t 39), none⟩,
                 ⟨some 41, .mv (.t 1), none⟩,
                 ⟨some 42, .bin .neq (.t 40) (.t 41), none⟩] [8, 42]) (
                .cond (.t 42) (
                 .no) (
                 .skip))) (
               .seq (
                .reg [
                 ⟨some 43, .fa 2 (.t 8), none⟩,
                 ⟨some 44, .ld (.t 43), none⟩,
                 ⟨some 45, .call 53 [none] [(.t 44)], none⟩,
                 ⟨some 4, .mv (.t 45), none⟩,
                 ⟨some 5, .mv (.c (.bool true)), none⟩] [4, 5]) (
                .ret))) (
              .no))) (
            .regD [
             ⟨some 46, .mv (.t 0), none⟩,
             ⟨some 47, .nck (.t 46), none⟩,
             ⟨some 48, .fa 2 (.t 47), none⟩,
             ⟨some 49, .ld (.t 48), none⟩,
             ⟨some 50, .fa 1 (.t 8), none⟩,
             ⟨some 51, .ld (.t 50), none⟩,
             ⟨some 52, .lk true (.int .i64) (.pair .bool (.sl 48 (.pair .str (.pair (.int .i64) (.sl 1 .byte))))) false (.t 49) (.t 51), none⟩,
             ⟨none, .st 2 (.t 6) (.t 52), none⟩] [.q 0, .q 1, .q 2, .q 3, .q 4, .q 5, .q 6, .e 7 []] [0, 1, 6])))))) (
       .seq (
        .reg [
         ⟨some 53, .ldA 2 (.t 6), none⟩] [0, 1, 53]) (
        .reg [
         ⟨some 6, .alc [.bool false, .nils], none⟩,
         ⟨none, .st 2 (.t 6) (.t 53), none⟩] [0, 1, 6])))))))
def xr27 : List RT := [.t 4, .t 5]
def xa31 : AS :=
 .seq (
  .reg [
   ⟨some 6, .mv (.c (.bool false)), none⟩] [0, 1, 2]) (
  .seq (
   .reg [
    ⟨some 7, .mv (.t 0), none⟩,
    ⟨some 8, .eqn true .p (.t 7) (.c (.nilp)), none⟩,
    ⟨some 9, .mv (.t 8), none⟩,
    ⟨some 10, .mv (.t 2), (some (9, true))⟩,
    ⟨some 11, .bin .geq (.t 10) (.c (.int .i64 1)), (some (9, true))⟩,
    ⟨some 12, .pick (.t 9) (.t 11) (.c (.bool false)), none⟩,
    ⟨some 13, .mv (.t 12), none⟩,
    ⟨some 14, .mv (.t 1), (some (13, true))⟩,
    ⟨some 15, .bin .geq (.t 14) (.c (.int .i64 0)), (some (13, true))⟩,
    ⟨some 16, .pick (.t 13) (.t 15) (.c (.bool false)), none⟩,
    ⟨some 17, .mv (.t 16), none⟩,
    ⟨some 18, .mv (.t 1), (some (17, true))⟩,
    ⟨some 19, .mv (.t 0), (some (17, true))⟩,
    ⟨some 20, .call 56 [none] [(.t 19)], (some (17, true))⟩,
    ⟨some 21, .bin .leq (.t 18) (.t 20), (some (17, true))⟩,
    ⟨some 22, .pick (.t 17) (.t 21) (.c (.bool false)), none⟩,
    ⟨some 23, .mv (.t 22), none⟩,
    ⟨some 24, .mv (.t 2), (some (23, true))⟩,
    ⟨some 25, .mv (.t 0), (some (23, true))⟩,
    ⟨some 26, .call 56 [none] [(.t 25)], (some (23, true))⟩,
    ⟨some 27, .mv (.t 1), (some (23, true))⟩,
    ⟨some 28, .bin .sub (.t 26) (.t 27), (some (23, true))⟩,
    ⟨some 29, .bin .leq (.t 24) (.t 28), (some (23, true))⟩,
    ⟨some 30, .pick (.t 23) (.t 29) (.c (.bool false)), none⟩,
    ⟨some 6, .mv (.t 30), none⟩] [6]) (
   .ret))
def xr31 : List RT := [.t 6]
def xa33 : AS :=
 .seq (
  .reg [
   ⟨some 2, .mv (.c (.int .i64 0)), none⟩] [0]) (
  .seq (
   .seq (
    .reg [
     ⟨some 3, .mv (.t 0), none⟩,
     ⟨some 4, .eqn false .p (.t 3) (.c (.nilp)), none⟩] [0, 4]) (
    .cond (.t 4) (
     .no) (
     .skip))) (
   .seq (
    .reg [
     ⟨some 5, .mv (.t 0), none⟩,
     ⟨some 6, .nck (.t 5), none⟩,
     ⟨some 7, .fa 1 (.t 6), none⟩,
     ⟨some 8, .ld (.t 7), none⟩,
     ⟨some 2, .mv (.t 8), none⟩] [2]) (
    .ret)))
def xr33 : List RT := [.t 2]
def xa36 : AS :=
 .seq (
  .reg [
   ⟨some 2, .mv (.c (.int .i64 0)), none⟩] [0]) (
  .seq (
   .reg [
    ⟨some 7, .mkm false .str .bool, none⟩,
    ⟨some 3, .mv (.t 7), none⟩] [0, 3]) (
   .seq (
    .reg [
     ⟨some 4, .mv (.c (.bool false)), none⟩] [0, 3, 4]) (
    .seq (
     .seq (
      .reg [
       ⟨some 8, .mv (.t 0), none⟩,
       ⟨some 9, .len .s (.t 8), none⟩,
       ⟨some 10, .mv (.c (.int .i64 0)), none⟩] [3, 4, 8, 9, 10]) (
      .block 0 (
       .loop 1 [3, 4, 8, 9, 10] (
        .seq (
         .reg [
          ⟨some 11, .bin .lss (.t 10) (.t 9), none⟩] [3, 4, 8, 9, 10, 11]) (
         .seq (
          .cond (.t 11) (
           .skip) (
           .exit 0)) (
          .seq (
           .block 1 (
            .seq (
             .reg [
              ⟨some 12, .ia 3 (.t 8) (.t 10), none⟩,
              ⟨some 13, .ldA 3 (.t 12), none⟩,
              ⟨some 6, .alc [.str ByteArray.empty, .nils, .bool false], none⟩,
              ⟨none, .st 3 (.t 6) (.t 13), none⟩] [3, 4, 6, 8, 9, 10]) (
             .seq (
              .seq (
               .reg [
                ⟨some 14, .fa 0 (.t 6), none⟩,
                ⟨some 15, .ld (.t 14), none⟩,
                ⟨some 16, .bin .eql (.t 15) (.c (.str ByteArray.empty)), none⟩,
                ⟨some 17, .mv (.t 16), none⟩,
                ⟨some 18, .fa 0 (.t 6), (some (17, false))⟩,
                ⟨some 19, .ld (.t 18), (some (17, false))⟩,
                ⟨some 20, .len .i (.t 19), (some (17, false))⟩,
                ⟨some 21, .bin .gtr (.t 20) (.c (.int .i64 64)), (some (17, false))⟩,
                ⟨some 22, .pick (.t 17) (.c (.bool true)) (.t 21), none⟩,
                ⟨some 23, .mv (.t 22), none⟩,
                ⟨some 24, .mv (.t 3), (some (23, false))⟩,
                ⟨some 25, .fa 0 (.t 6), (some (23, false))⟩,
                ⟨some 26, .ld (.t 25), (some (23, false))⟩,
                ⟨some 27, .lk false .str .bool false (.t 24) (.t 26), (some (23, false))⟩,
                ⟨some 28, .pick (.t 23) (.c (.bool true)) (.t 27), none⟩] [3, 4, 6, 8, 9, 10, 28]) (
               .cond (.t 28) (
                .no) (
                .skip))) (
              .seq (
               .reg [
                ⟨some 29, .mv (.t 3), none⟩,
                ⟨some 30, .fa 0 (.t 6), none⟩,
                ⟨some 31, .ld (.t 30), none⟩,
                ⟨none, .mu false .str .bool (.t 29) (.t 31) (.c (.bool true)), none⟩] [3, 4, 6, 8, 9, 10]) (
               .reg [
                ⟨some 32, .mv (.t 4), none⟩,
                ⟨some 33, .mv (.t 32), none⟩,
                ⟨some 34, .fa 1 (.t 6), (some (33, false))⟩,
                ⟨some 35, .ld (.t 34), (some (33, false))⟩,
                ⟨some 36, .len .s (.t 35), (some (33, false))⟩,
                ⟨some 37, .bin .gtr (.t 36) (.c (.int .i64 20000)), (some (33, false))⟩,
                ⟨some 38, .pick (.t 33) (.c (.bool true)) (.t 37), none⟩,
                ⟨some 4, .mv (.t 38), none⟩] [3, 4, 8, 9, 10]))))) (
           .reg [
            ⟨some 39, .bin .add (.t 10) (.c (.int .i64 1)), none⟩,
            ⟨some 10, .mv (.t 39), none⟩] [3, 4, 8, 9, 10]))))))) (
     .seq (
      .seq (
       .reg [
        ⟨some 40, .mv (.t 4), none⟩] [40]) (
       .cond (.t 40) (
        .no) (
        .skip))) (
      .seq (
       .reg [
        ⟨some 2, .mv (.c (.int .i64 0)), none⟩] [2]) (
       .ret))))))
def xr36 : List RT := [.t 2]
def xa38 : AS :=
 .seq (
  .reg [
   ⟨some 1, .box (.t 0), none⟩,
   ⟨some 2, .mv (.c (.nilf)), none⟩] [1]) (
  .seq (
   .reg [
    ⟨some 3, .mkf 63 [(.t 1)], none⟩,
    ⟨some 2, .mv (.t 3), none⟩] [2]) (
   .ret))
def xr38 : List RT := [.t 2]
def xa41 : AS :=
 .seq (
  .reg [
   ⟨some 4, .mv (.c (.int .i64 0)), none⟩,
   ⟨some 5, .mv (.c (.int .i64 0)), none⟩] [0, 1]) (
  .seq (
   .reg [
    ⟨some 6, .mv (.c (.nils)), none⟩] [0, 1]) (
   .seq (
    .reg [
     ⟨some 7, .mv (.c (.int .i64 0)), none⟩] [0, 1]) (
    .seq (
     .seq (
      .reg [
       ⟨some 10, .mv (.t 0), none⟩,
       ⟨some 11, .nck (.t 10), none⟩,
       ⟨some 12, .fa 1 (.t 11), none⟩,
       ⟨some 13, .ld (.t 12), none⟩,
       ⟨some 14, .bin .eql (.t 13) (.c (.int .i64 0)), none⟩] [0, 1, 14]) (
      .cond (.t 14) (
       .reg [
        ⟨some 16, .mv (.t 0), none⟩,
        ⟨some 17, .mv (.t 1), none⟩,
        ⟨some 18, .call 65 [none, none, none] [(.t 16), (.c (.nils)), (.t 17)], none⟩,
        ⟨some 15, .mv (.t 18), none⟩,
        ⟨some 19, .ext (.t 15) 0, none⟩,
        ⟨some 20, .ext (.t 15) 1, none⟩,
        ⟨some 6, .mv (.t 19), none⟩,
        ⟨some 7, .mv (.t 20), none⟩] [0, 6, 7]) (
       .no))) (
     .seq (
      .block 0 (
       .loop 1 [0, 6, 7] (
        .seq (
         .seq (
          .reg [
           ⟨some 31, .mv (.t 7), none⟩,
           ⟨some 32, .bin .eql (.t 31) (.c (.int .i64 0)), none⟩,
           ⟨some 33, .mv (.t 32), none⟩,
           ⟨some 34, .mv (.t 6), (some (33, true))⟩,
           ⟨some 35, .len .s (.t 34), (some (33, true))⟩,
           ⟨some 36, .bin .gtr (.t 35) (.c (.int .i64 1)), (some (33, true))⟩,
           ⟨some 37, .pick (.t 33) (.t 36) (.c (.bool false)), none⟩] [0, 6, 7, 37]) (
          .cond (.t 37) (
           .no) (
           .exit 0))) (
         .block 1 (
          .reg [
           ⟨some 39, .mv (.t 0), none⟩,
           ⟨some 40, .mv (.t 6), none⟩,
           ⟨some 41, .call 67 [none, none, none] [(.t 39), (.c (.bool false)), (.t 40)], none⟩,
           ⟨some 38, .mv (.t 41), none⟩,
           ⟨some 42, .ext (.t 38) 0, none⟩,
           ⟨some 43, .ext (.t 38) 1, none⟩,
           ⟨some 6, .mv (.t 42), none⟩,
           ⟨some 7, .mv (.t 43), none⟩] [0, 6, 7]))))) (
      .seq (
       .seq (
        .reg [
         ⟨some 44, .mv (.t 7), none⟩,
         ⟨some 45, .bin .neq (.t 44) (.c (.int .i64 0)), none⟩,
         ⟨some 46, .mv (.t 45), none⟩,
         ⟨some 47, .mv (.t 6), (some (46, false))⟩,
         ⟨some 48, .len .s (.t 47), (some (46, false))⟩,
         ⟨some 49, .bin .eql (.t 48) (.c (.int .i64 0)), (some (46, false))⟩,
         ⟨some 50, .pick (.t 46) (.c (.bool true)) (.t 49), none⟩] [0, 6, 7, 50]) (
        .cond (.t 50) (
         .no) (
         .skip))) (
       .seq (
        .reg [
         ⟨some 52, .mv (.t 6), none⟩,
         ⟨some 53, .ia 3 (.t 52) (.c (.int .i64 0)), none⟩,
         ⟨some 54, .fa 1 (.t 53), none⟩,
         ⟨some 55, .ld (.t 54), none⟩,
         ⟨some 8, .mv (.t 55), none⟩] [0, 8]) (
        .seq (
         .seq (
          .reg [
           ⟨some 56, .mv (.t 0), none⟩,
           ⟨some 57, .nck (.t 56), none⟩,
           ⟨some 58, .fa 2 (.t 57), none⟩,
           ⟨some 59, .ld (.t 58), none⟩,
           ⟨some 60, .mv (.t 8), none⟩,
           ⟨some 61, .lk true (.int .i64) (.pair .bool (.sl 48 (.pair .str (.pair (.int .i64) (.sl 1 .byte))))) false (.t 59) (.t 60), none⟩,
           ⟨some 9, .alc [.bool false, .nils], none⟩,
           ⟨none, .st 2 (.t 9) (.t 61), none⟩] [0, 8, 9]) (
          .block 2 (
           .loop 2 [0, 8, 9] (
            .seq (
             .seq (
              .reg [
               ⟨some 62, .fa 0 (.t 9), none⟩,
               ⟨some 63, .ld (.t 62), none⟩,
               ⟨some 64, .not (.t 63), none⟩,
               ⟨some 65, .mv (.t 64), none⟩,
               ⟨some 66, .fa 1 (.t 9), (some (65, true))⟩,
               ⟨some 67, .ld (.t 66), (some (65, true))⟩,
               ⟨some 68, .len .s (.t 67), (some (65, true))⟩,
               ⟨some 69, .bin .eql (.t 68) (.c (.int .i64 1)), (some (65, true))⟩,
               ⟨some 70, .pick (.t 65) (.t 69) (.c (.bool false)), none⟩] [0, 8, 9, 70]) (
              .cond (.t 70) (
               .no) (
               .exit 2))) (
             .seq (
              .block 3 (
               .seq (
                .reg [
                 ⟨some 77, .mv (.t 0), none⟩,
                 ⟨some 78, .mv (.t 0), none⟩,
                 ⟨some 79, .nck (.t 78), none⟩,
                 ⟨some 80, .fa 5 (.t 79), none⟩,
                 ⟨some 81, .ld (.t 80), none⟩,
                 ⟨some 82, .mv (.t 8), none⟩,
                 ⟨some 83, .bsl 8 (.int .i64) 1 [(0, (.t 82))], none⟩,
                 ⟨some 84, .app 8 (.int .i64) (.t 81) (.t 83), none⟩,
                 ⟨some 85, .nck (.t 77), none⟩,
                 ⟨some 86, .fa 5 (.t 85), none⟩,
                 ⟨none, .st 1 (.t 86) (.t 84), none⟩] [0, 9]) (
                .reg [
                 ⟨some 87, .fa 1 (.t 9), none⟩,
                 ⟨some 88, .ld (.t 87), none⟩,
                 ⟨some 89, .ia 3 (.t 88) (.c (.int .i64 0)), none⟩,
                 ⟨some 90, .fa 1 (.t 89), none⟩,
                 ⟨some 91, .ld (.t 90), none⟩,
                 ⟨some 8, .mv (.t 91), none⟩] [0, 8, 9]))) (
              .seq (
               .seq (
                .reg [
                 ⟨some 92, .ldA 2 (.t 9), none⟩] [0, 8, 92]) (
                .reg [
                 ⟨some 9, .alc [.bool false, .nils], none⟩,
                 ⟨none, .st 2 (.t 9) (.t 92), none⟩] [0, 8, 9])) (
               .reg [
                ⟨some 71, .mv (.t 0), none⟩,
                ⟨some 72, .nck (.t 71), none⟩,
                ⟨some 73, .fa 2 (.t 72), none⟩,
                ⟨some 74, .ld (.t 73), none⟩,
                ⟨some 75, .mv (.t 8), none⟩,
                ⟨some 76, .lk true (.int .i64) (.pair .bool (.sl 48 (.pair .str (.pair (.int .i64) (.sl 1 .byte))))) false (.t 74) (.t 75), none⟩,
                ⟨none, .st 2 (.t 9) (.t 76), none⟩] [0, 8, 9]))))))) (
         .seq (
          .reg [
           ⟨some 93, .mv (.t 8), none⟩,
           ⟨some 4, .mv (.t 93), none⟩,
           ⟨some 5, .mv (.c (.int .i64 0)), none⟩] [4, 5]) (
          .ret)))))))))
def xr41 : List RT := [.t 4, .t 5]
def xa49 : AS :=
 .seq (
  .reg [
   ⟨some 1, .box (.t 0), none⟩,
   ⟨some 2, .mv (.c (.nilf)), none⟩] [1]) (
  .seq (
   .reg [
    ⟨some 3, .mkf 71 [(.t 1)], none⟩,
    ⟨some 2, .mv (.t 3), none⟩] [2]) (
   .ret))
def xr49 : List RT := [.t 2]
def xa52 : AS :=
 .seq (
  .reg [
   ⟨some 2, .box (.t 0), none⟩,
   ⟨some 4, .mv (.c (.int .i64 0)), none⟩] [1, 2]) (
  .seq (
   .reg [
    ⟨some 8, .fa 1 (.t 2), none⟩,
    ⟨some 9, .ld (.t 8), none⟩,
    ⟨some 10, .mv (.t 1), none⟩,
    ⟨some 11, .call 73 [none, none, none] [(.t 9), (.t 10), (.f 74)], none⟩,
    ⟨some 7, .mv (.t 11), none⟩,
    ⟨some 12, .ext (.t 7) 0, none⟩,
    ⟨some 13, .ext (.t 7) 1, none⟩,
    ⟨some 5, .mv (.t 12), none⟩,
    ⟨some 6, .mv (.t 13), none⟩] [5, 6]) (
   .seq (
    .seq (
     .reg [
      ⟨some 14, .mv (.t 6), none⟩] [5, 14]) (
     .cond (.t 14) (
      .seq (
       .reg [
        ⟨some 15, .mv (.t 5), none⟩,
        ⟨some 4, .mv (.t 15), none⟩] [4]) (
       .ret)) (
      .no))) (
    .seq (
     .reg [
      ⟨some 16, .mv (.t 5), none⟩,
      ⟨some 17, .bin .sub (.t 16) (.c (.int .i64 1)), none⟩,
      ⟨some 4, .mv (.t 17), none⟩] [4]) (
     .ret))))
def xr52 : List RT := [.t 4]
def xa53 : AS :=
 .seq (
  .reg [
   ⟨some 2, .mv (.c (.nils)), none⟩] [0]) (
  .seq (
   .seq (
    .reg [
     ⟨some 3, .mv (.t 0), none⟩,
     ⟨some 4, .isn false (.t 3), none⟩] [0, 4]) (
    .cond (.t 4) (
     .no) (
     .skip))) (
   .seq (
    .reg [
     ⟨some 5, .bsl 1 .byte 0 [], none⟩,
     ⟨some 6, .mv (.t 0), none⟩,
     ⟨some 7, .app 1 .byte (.t 5) (.t 6), none⟩,
     ⟨some 2, .mv (.t 7), none⟩] [2]) (
    .lift 2 none 1 .byte (
    .ret))))
def xr53 : List RT := [.t 2]
def xa55 : AS :=
 .seq (
  .reg [
   ⟨some 6, .mv (.c (.int .i64 0)), none⟩] [0, 1, 2]) (
  .seq (
   .block 0 (
    .seq (
     .reg [
      ⟨some 8, .mv (.t 0), none⟩,
      ⟨some 9, .eqn false .p (.t 8) (.c (.nilp)), none⟩,
      ⟨some 10, .mv (.t 9), none⟩,
      ⟨some 11, .mv (.t 0), (some (10, false))⟩,
      ⟨some 12, .nck (.t 11), (some (10, false))⟩,
      ⟨some 13, .fa 3 (.t 12), (some (10, false))⟩,
      ⟨some 14, .ld (.t 13), (some (10, false))⟩,
      ⟨some 15, .pick (.t 10) (.c (.bool true)) (.t 14), none⟩,
      ⟨some 7, .mv (.t 15), none⟩] [0, 1, 2, 7]) (
     .cond (.t 7) (
      .no) (
      .seq (
       .reg [
        ⟨some 17, .mv (.t 1), none⟩,
        ⟨some 18, .bin .lss (.t 17) (.c (.int .i64 0)), none⟩,
        ⟨some 19, .mv (.t 18), none⟩,
        ⟨some 20, .mv (.t 1), (some (19, false))⟩,
        ⟨some 21, .mv (.t 0), (some (19, false))⟩,
        ⟨some 22, .nck (.t 21), (some (19, false))⟩,
        ⟨some 23, .fa 0 (.t 22), (some (19, false))⟩,
        ⟨some 24, .ld (.t 23), (some (19, false))⟩,
        ⟨some 25, .len .s (.t 24), (some (19, false))⟩,
        ⟨some 26, .bin .geq (.t 20) (.t 25), (some (19, false))⟩,
        ⟨some 27, .pick (.t 19) (.c (.bool true)) (.t 26), none⟩,
        ⟨some 28, .mv (.t 27), none⟩,
        ⟨some 29, .mv (.t 2), (some (28, false))⟩,
        ⟨some 30, .len .s (.t 29), (some (28, false))⟩,
        ⟨some 31, .bin .neq (.t 30) (.c (.int .i64 256)), (some (28, false))⟩,
        ⟨some 32, .pick (.t 28) (.c (.bool true)) (.t 31), none⟩,
        ⟨some 16, .mv (.t 32), none⟩] [0, 1, 2, 16]) (
       .cond (.t 16) (
        .no) (
        .seq (
         .reg [
          ⟨some 34, .mv (.t 0), none⟩,
          ⟨some 35, .nck (.t 34), none⟩,
          ⟨some 36, .fa 2 (.t 35), none⟩,
          ⟨some 37, .ld (.t 36), none⟩,
          ⟨some 38, .bin .eql (.t 37) (.c (.int .i64 0)), none⟩,
          ⟨some 33, .mv (.t 38), none⟩] [0, 1, 2, 33]) (
         .cond (.t 33) (
          .no) (
          .seq (
           .reg [
            ⟨some 43, .mv (.t 0), none⟩,
            ⟨some 44, .nck (.t 43), none⟩,
            ⟨some 45, .fa 2 (.t 44), none⟩,
            ⟨some 46, .ld (.t 45), none⟩,
            ⟨some 47, .bin .gtr (.t 46) (.c (.int .i64 0)), none⟩,
            ⟨some 42, .mv (.t 47), none⟩] [0, 1, 2, 42]) (
           .cond (.t 42) (
            .no) (
            .skip)))))))))) (
   .seq (
    .regD [
     ⟨some 55, .mv (.t 0), none⟩,
     ⟨some 56, .nck (.t 55), none⟩,
     ⟨some 57, .fa 0 (.t 56), none⟩,
     ⟨some 58, .ld (.t 57), none⟩,
     ⟨some 59, .mv (.t 1), none⟩,
     ⟨some 60, .mv (.t 2), none⟩,
     ⟨some 61, .call 53 [none] [(.t 60)], none⟩,
     ⟨some 62, .ia 1 (.t 58) (.t 59), none⟩,
     ⟨none, .st 1 (.t 62) (.t 61), none⟩] [.q 0, .q 1, .q 2, .q 3, .q 4, .q 5, .e 6 [0, 1, 2, 3, 4], .q 7, .e 8 []] [0, 1]) (
    .seq (
     .regD [
      ⟨some 63, .mv (.t 0), none⟩,
      ⟨some 64, .mv (.t 0), none⟩,
      ⟨some 65, .nck (.t 64), none⟩,
      ⟨some 66, .fa 1 (.t 65), none⟩,
      ⟨some 67, .ld (.t 66), none⟩,
      ⟨some 68, .mv (.t 1), none⟩,
      ⟨some 69, .mv (.t 0), none⟩,
      ⟨some 70, .nck (.t 69), none⟩,
      ⟨some 71, .fa 0 (.t 70), none⟩,
      ⟨some 72, .ld (.t 71), none⟩,
      ⟨some 73, .mv (.t 1), none⟩,
      ⟨some 74, .ia 1 (.t 72) (.t 73), none⟩,
      ⟨some 75, .ld (.t 74), none⟩,
      ⟨some 76, .bld [.int .i64 0, .nils] [(0, 1, (.t 68)), (1, 1, (.t 75))], none⟩,
      ⟨some 77, .bsl 32 (.pair (.int .i64) (.sl 1 .byte)) 1 [(0, (.t 76))], none⟩,
      ⟨some 78, .app 32 (.pair (.int .i64) (.sl 1 .byte)) (.t 67) (.t 77), none⟩,
      ⟨some 79, .nck (.t 63), none⟩,
      ⟨some 80, .fa 1 (.t 79), none⟩,
      ⟨none, .st 1 (.t 80) (.t 78), none⟩] [.q 0, .q 1, .q 2, .q 3, .q 4, .q 5, .q 6, .q 7, .q 8, .q 9, .q 10, .q 11, .q 12, .q 13, .e 14 [0, 1, 2, 3, 4], .e 15 [0], .q 16, .q 17, .e 18 []] []) (
     .seq (
      .reg [
       ⟨some 6, .mv (.c (.int .i64 0)), none⟩] [6]) (
      .ret)))))
def xr55 : List RT := [.t 6]
def xa56 : AS :=
 .seq (
  .reg [
   ⟨some 2, .mv (.c (.int .i64 0)), none⟩] [0]) (
  .seq (
   .seq (
    .reg [
     ⟨some 3, .mv (.t 0), none⟩,
     ⟨some 4, .eqn false .p (.t 3) (.c (.nilp)), none⟩] [0, 4]) (
    .cond (.t 4) (
     .no) (
     .skip))) (
   .seq (
    .reg [
     ⟨some 5, .mv (.t 0), none⟩,
     ⟨some 6, .nck (.t 5), none⟩,
     ⟨some 7, .fa 0 (.t 6), none⟩,
     ⟨some 8, .ld (.t 7), none⟩,
     ⟨some 9, .len .s (.t 8), none⟩,
     ⟨some 2, .mv (.t 9), none⟩] [2]) (
    .ret)))
def xr56 : List RT := [.t 2]
def xa64 : AS :=
 .seq (
  .reg [
   ⟨some 4, .mv (.c (.int .i64 0)), none⟩] [0, 1]) (
  .seq (
   .reg [
    ⟨some 5, .mv (.t 0), none⟩,
    ⟨some 6, .mv (.t 1), none⟩,
    ⟨some 7, .call 87 [none, none] [(.t 5), (.t 6)], none⟩,
    ⟨some 4, .mv (.t 7), none⟩] [4]) (
   .ret))
def xr64 : List RT := [.t 4]
def xa65 : AS :=
 .seq (
  .reg [
   ⟨some 6, .mv (.c (.nils)), none⟩,
   ⟨some 7, .mv (.c (.int .i64 0)), none⟩] [0, 1, 2]) (
  .seq (
   .reg [
    ⟨some 8, .mv (.c (.nils)), none⟩] [0, 1, 2, 8]) (
   .seq (
    .block 0 (
     .loop 1 [0, 1, 2, 8] (
      .seq (
       .seq (
        .reg [
         ⟨some 13, .mv (.t 1), none⟩,
         ⟨some 14, .len .s (.t 13), none⟩,
         ⟨some 15, .bin .gtr (.t 14) (.c (.int .i64 0)), none⟩,
         ⟨some 16, .mv (.t 15), none⟩,
         ⟨some 17, .mv (.t 2), (some (16, false))⟩,
         ⟨some 18, .len .s (.t 17), (some (16, false))⟩,
         ⟨some 19, .bin .gtr (.t 18) (.c (.int .i64 0)), (some (16, false))⟩,
         ⟨some 20, .pick (.t 16) (.c (.bool true)) (.t 19), none⟩] [0, 1, 2, 8, 20]) (
        .cond (.t 20) (
         .skip) (
         .exit 0))) (
       .block 1 (
        .seq (
         .seq (
          .regD [
           ⟨some 21, .mv (.t 2), none⟩,
           ⟨some 22, .len .s (.t 21), none⟩,
           ⟨some 23, .bin .eql (.t 22) (.c (.int .i64 0)), none⟩,
           ⟨some 24, .mv (.t 23), none⟩,
           ⟨some 25, .mv (.t 1), (some (24, false))⟩,
           ⟨some 26, .len .s (.t 25), (some (24, false))⟩,
           ⟨some 27, .bin .gtr (.t 26) (.c (.int .i64 0)), (some (24, false))⟩,
           ⟨some 28, .mv (.t 27), (some (24, false))⟩,
           ⟨some 29, .mv (.t 1), (some (28, true))⟩,
           ⟨some 30, .ia 3 (.t 29) (.c (.int .i64 0)), (some (28, true))⟩,
           ⟨some 31, .fa 0 (.t 30), (some (28, true))⟩,
           ⟨some 32, .ld (.t 31), (some (28, true))⟩,
           ⟨some 33, .mv (.t 2), (some (28, true))⟩,
           ⟨some 34, .ia 3 (.t 33) (.c (.int .i64 0)), (some (28, true))⟩,
           ⟨some 35, .fa 0 (.t 34), (some (28, true))⟩,
           ⟨some 36, .ld (.t 35), (some (28, true))⟩,
           ⟨some 37, .bin .lss (.t 32) (.t 36), (some (28, true))⟩,
           ⟨some 38, .pick (.t 28) (.t 37) (.c (.bool false)), (some (24, false))⟩,
           ⟨some 39, .pick (.t 24) (.c (.bool true)) (.t 38), none⟩] [.q 0, .q 1, .q 2, .q 3, .q 4, .q 5, .q 6, .q 7, .q 8, .q 9, .q 10, .q 11, .q 12, .q 13, .q 14, .q 15, .q 16, .q 17, .q 18] [0, 1, 2, 8, 39]) (
          .cond (.t 39) (
           .no) (
           .skip))) (
         .seq (
          .reg [
           ⟨some 48, .mv (.t 2), none⟩,
           ⟨some 49, .ia 3 (.t 48) (.c (.int .i64 0)), none⟩,
           ⟨some 50, .ldA 3 (.t 49), none⟩,
           ⟨some 9, .alc [.str ByteArray.empty, .nils, .bool false], none⟩,
           ⟨none, .st 3 (.t 9) (.t 50), none⟩] [0, 1, 2, 8, 9]) (
          .seq (
           .seq (
            .regD [
             ⟨some 51, .mv (.t 1), none⟩,
             ⟨some 52, .len .s (.t 51), none⟩,
             ⟨some 53, .bin .gtr (.t 52) (.c (.int .i64 0)), none⟩,
             ⟨some 54, .mv (.t 53), none⟩,
             ⟨some 55, .mv (.t 1), (some (54, true))⟩,
             ⟨some 56, .ia 3 (.t 55) (.c (.int .i64 0)), (some (54, true))⟩,
             ⟨some 57, .fa 0 (.t 56), (some (54, true))⟩,
             ⟨some 58, .ld (.t 57), (some (54, true))⟩,
             ⟨some 59, .fa 0 (.t 9), (some (54, true))⟩,
             ⟨some 60, .ld (.t 59), (some (54, true))⟩,
             ⟨some 61, .bin .eql (.t 58) (.t 60), (some (54, true))⟩,
             ⟨some 62, .pick (.t 54) (.t 61) (.c (.bool false)), none⟩] [.q 0, .q 1, .q 2, .q 3, .q 4, .q 5, .q 6, .q 7, .q 8, .q 9, .q 10, .q 11] [0, 1, 2, 8, 9, 62]) (
            .cond (.t 62) (
             .no) (
             .skip))) (
           .seq (
            .seq (
             .reg [
              ⟨some 83, .fa 2 (.t 9), none⟩,
              ⟨some 84, .ld (.t 83), none⟩,
              ⟨some 85, .not (.t 84), none⟩] [0, 1, 2, 8, 9, 85]) (
             .cond (.t 85) (
              .seq (
               .regT [
                ⟨some 86, .fa 0 (.t 9), none⟩,
                ⟨some 87, .ld (.t 86), none⟩,
                ⟨some 88, .fa 1 (.t 9), none⟩,
                ⟨some 89, .ld (.t 88), none⟩,
                ⟨some 90, .call 53 [none] [(.t 89)], none⟩,
                ⟨some 91, .bld [.str ByteArray.empty, .int .i64 0, .nils] [(0, 1, (.t 87)), (2, 1, (.t 90))], none⟩,
                ⟨some 10, .alc [.str ByteArray.empty, .int .i64 0, .nils], none⟩,
                ⟨none, .st 3 (.t 10) (.t 91), none⟩] (.q 0 (.q 1 (.q 2 (.q 3 (.e 4 [0, 1] (.q 5 (.e 6 [0, 1, 2, 3, 5] (.e 7 [] .done .no) .no)) (.e 6 [0, 1, 2, 3] (.e 4 [0, 1] (.q 5 (.e 7 [] .done .no)) .no) .no)))))) [0, 1, 2, 8, 9, 10]) (
               .seq (
                .seq (
                 .reg [
                  ⟨some 92, .fa 1 (.t 9), none⟩,
                  ⟨some 93, .ld (.t 92), none⟩,
                  ⟨some 94, .len .s (.t 93), none⟩,
                  ⟨some 95, .bin .gtr (.t 94) (.c (.int .i64 100)), none⟩] [0, 1, 2, 8, 9, 10, 95]) (
                 .cond (.t 95) (
                  .no) (
                  .skip))) (
                .reg [
                 ⟨some 114, .mv (.t 8), none⟩,
                 ⟨some 115, .ldA 3 (.t 10), none⟩,
                 ⟨some 116, .bsl 48 (.pair .str (.pair (.int .i64) (.sl 1 .byte))) 1 [(0, (.t 115))], none⟩,
                 ⟨some 117, .app 48 (.pair .str (.pair (.int .i64) (.sl 1 .byte))) (.t 114) (.t 116), none⟩,
                 ⟨some 8, .mv (.t 117), none⟩] [0, 1, 2, 8]))) (
              .no))) (
            .reg [
             ⟨some 118, .mv (.t 2), none⟩,
             ⟨some 119, .slR 3 (.t 118) (some (.c (.int .i64 1))) none, none⟩,
             ⟨some 2, .mv (.t 119), none⟩] [0, 1, 2, 8]))))))))) (
    .seq (
     .reg [
      ⟨some 120, .mv (.t 0), none⟩,
      ⟨some 121, .mv (.t 8), none⟩,
      ⟨some 122, .call 67 [none, none, none] [(.t 120), (.c (.bool true)), (.t 121)], none⟩,
      ⟨some 123, .ext (.t 122) 0, none⟩,
      ⟨some 124, .ext (.t 122) 1, none⟩,
      ⟨some 6, .mv (.t 123), none⟩,
      ⟨some 7, .mv (.t 124), none⟩] [6, 7]) (
     .ret))))
def xr65 : List RT := [.t 6, .t 7]
def xa67 : AS :=
 .seq (
  .reg [
   ⟨some 6, .mv (.c (.nils)), none⟩,
   ⟨some 7, .mv (.c (.int .i64 0)), none⟩] [0, 1, 2]) (
  .seq (
   .reg [
    ⟨some 8, .mv (.c (.nils)), none⟩] [0, 1, 2, 8]) (
   .seq (
    .reg [
     ⟨some 14, .mv (.t 2), none⟩,
     ⟨some 15, .len .s (.t 14), none⟩,
     ⟨some 16, .bin .add (.t 15) (.c (.int .i64 16)), none⟩,
     ⟨some 17, .bin .sub (.t 16) (.c (.int .i64 1)), none⟩,
     ⟨some 18, .bin .quo (.t 17) (.c (.int .i64 16)), none⟩,
     ⟨some 9, .mv (.t 18), none⟩] [0, 1, 2, 8, 9]) (
    .seq (
     .seq (
      .reg [
       ⟨some 19, .mv (.t 9), none⟩,
       ⟨some 20, .mv (.c (.int .i64 0)), none⟩] [0, 1, 2, 8, 9, 19, 20]) (
      .block 0 (
       .loop 1 [0, 1, 2, 8, 9, 19, 20] (
        .seq (
         .reg [
          ⟨some 21, .bin .lss (.t 20) (.t 19), none⟩] [0, 1, 2, 8, 9, 19, 20, 21]) (
         .seq (
          .cond (.t 21) (
           .skip) (
           .exit 0)) (
          .seq (
           .block 1 (
            .seq (
             .reg [
              ⟨some 22, .mv (.t 20), none⟩,
              ⟨some 10, .mv (.t 22), none⟩] [0, 1, 2, 8, 9, 10, 19, 20]) (
             .seq (
              .regD [
               ⟨some 23, .mv (.t 1), none⟩,
               ⟨some 24, .mv (.t 2), none⟩,
               ⟨some 25, .mv (.t 10), none⟩,
               ⟨some 26, .mv (.t 2), none⟩,
               ⟨some 27, .len .s (.t 26), none⟩,
               ⟨some 28, .bin .mul (.t 25) (.t 27), none⟩,
               ⟨some 29, .mv (.t 9), none⟩,
               ⟨some 30, .bin .quo (.t 28) (.t 29), none⟩,
               ⟨some 31, .mv (.t 10), none⟩,
               ⟨some 32, .bin .add (.t 31) (.c (.int .i64 1)), none⟩,
               ⟨some 33, .mv (.t 2), none⟩,
               ⟨some 34, .len .s (.t 33), none⟩,
               ⟨some 35, .bin .mul (.t 32) (.t 34), none⟩,
               ⟨some 36, .mv (.t 9), none⟩,
               ⟨some 37, .bin .quo (.t 35) (.t 36), none⟩,
               ⟨some 38, .slR 3 (.t 24) (some (.t 30)) (some (.t 37)), none⟩,
               ⟨some 39, .bld [.bool false, .nils] [(0, 1, (.t 23)), (1, 1, (.t 38))], none⟩,
               ⟨some 11, .alc [.bool false, .nils], none⟩,
               ⟨none, .st 2 (.t 11) (.t 39), none⟩] [.q 0, .q 1, .q 2, .q 3, .q 4, .q 5, .q 6, .q 7, .q 8, .q 9, .q 10, .q 11, .q 12, .q 13, .q 14, .q 15, .q 16, .e 17 [0, 1, 2, 3, 4, 5, 6, 7, 8, 9, 10, 11, 12, 13, 14, 15, 16], .e 18 []] [0, 1, 2, 8, 9, 11, 19, 20]) (
              .seq (
               .reg [
                ⟨some 41, .mv (.t 0), none⟩,
                ⟨some 42, .ldA 2 (.t 11), none⟩,
                ⟨some 43, .call 91 [none] [(.t 42)], none⟩,
                ⟨some 44, .call 88 [none, none] [(.t 41), (.t 43)], none⟩,
                ⟨some 40, .mv (.t 44), none⟩,
                ⟨some 45, .ext (.t 40) 0, none⟩,
                ⟨some 46, .ext (.t 40) 1, none⟩,
                ⟨some 12, .mv (.t 45), none⟩,
                ⟨some 13, .mv (.t 46), none⟩] [0, 1, 2, 8, 9, 11, 12, 13, 19, 20]) (
               .seq (
                .seq (
                 .reg [
                  ⟨some 47, .mv (.t 13), none⟩,
                  ⟨some 48, .bin .neq (.t 47) (.c (.int .i64 0)), none⟩] [0, 1, 2, 8, 9, 11, 12, 13, 19, 20, 48]) (
                 .cond (.t 48) (
                  .no) (
                  .skip))) (
                .seq (
                 .regD [
                  ⟨some 50, .mv (.t 0), none⟩,
                  ⟨some 51, .nck (.t 50), none⟩,
                  ⟨some 52, .fa 2 (.t 51), none⟩,
                  ⟨some 53, .ld (.t 52), none⟩,
                  ⟨some 54, .mv (.t 12), none⟩,
                  ⟨some 55, .ldA 2 (.t 11), none⟩,
                  ⟨none, .mu true (.int .i64) (.pair .bool (.sl 48 (.pair .str (.pair (.int .i64) (.sl 1 .byte))))) (.t 53) (.t 54) (.t 55), none⟩] [.q 0, .q 1, .q 2, .q 3, .q 4, .q 5, .e 6 []] [0, 1, 2, 8, 9, 11, 12, 19, 20]) (
                 .reg [
                  ⟨some 56, .mv (.t 8), none⟩,
                  ⟨some 57, .fa 1 (.t 11), none⟩,
                  ⟨some 58, .ld (.t 57), none⟩,
                  ⟨some 59, .ia 3 (.t 58) (.c (.int .i64 0)), none⟩,
                  ⟨some 60, .fa 0 (.t 59), none⟩,
                  ⟨some 61, .ld (.t 60), none⟩,
                  ⟨some 62, .mv (.t 12), none⟩,
                  ⟨some 63, .bld [.str ByteArray.empty, .int .i64 0, .nils] [(0, 1, (.t 61)), (1, 1, (.t 62))], none⟩,
                  ⟨some 64, .bsl 48 (.pair .str (.pair (.int .i64) (.sl 1 .byte))) 1 [(0, (.t 63))], none⟩,
                  ⟨some 65, .app 48 (.pair .str (.pair (.int .i64) (.sl 1 .byte))) (.t 56) (.t 64), none⟩,
                  ⟨some 8, .mv (.t 65), none⟩] [0, 1, 2, 8, 9, 19, 20]))))))) (
           .reg [
            ⟨some 66, .bin .add (.t 20) (.c (.int .i64 1)), none⟩,
            ⟨some 20, .mv (.t 66), none⟩] [0, 1, 2, 8, 9, 19, 20]))))))) (
     .seq (
      .reg [
       ⟨some 67, .mv (.t 8), none⟩,
       ⟨some 6, .mv (.t 67), none⟩,
       ⟨some 7, .mv (.c (.int .i64 0)), none⟩] [6, 7]) (
      .ret)))))
def xr67 : List RT := [.t 6, .t 7]
def xa73 : AS :=
 .seq (
  .reg [
   ⟨some 6, .mv (.c (.int .i64 0)), none⟩,
   ⟨some 7, .mv (.c (.bool false)), none⟩] [0, 1, 2]) (
  .seq (
   .reg [
    ⟨some 12, .mv (.t 0), none⟩,
    ⟨some 13, .len .s (.t 12), none⟩,
    ⟨some 8, .mv (.t 13), none⟩] [0, 1, 2, 8]) (
   .seq (
    .reg [
     ⟨some 14, .mv (.t 8), none⟩,
     ⟨some 9, .mv (.c (.int .i64 0)), none⟩,
     ⟨some 10, .mv (.t 14), none⟩] [0, 1, 2, 8, 9, 10]) (
    .seq (
     .block 0 (
      .loop 1 [0, 1, 2, 8, 9, 10] (
       .seq (
        .seq (
         .reg [
          ⟨some 15, .mv (.t 9), none⟩,
          ⟨some 16, .mv (.t 10), none⟩,
          ⟨some 17, .bin .lss (.t 15) (.t 16), none⟩] [0, 1, 2, 8, 9, 10, 17]) (
         .cond (.t 17) (
          .skip) (
          .exit 0))) (
        .block 1 (
         .seq (
          .reg [
           ⟨some 18, .mv (.t 9), none⟩,
           ⟨some 19, .mv (.t 10), none⟩,
           ⟨some 20, .bin .add (.t 18) (.t 19), none⟩,
           ⟨some 21, .cv .u64 (.t 20), none⟩,
           ⟨some 22, .bin .shr (.t 21) (.c (.int .u64 1)), none⟩,
           ⟨some 23, .cv .i64 (.t 22), none⟩,
           ⟨some 11, .mv (.t 23), none⟩] [0, 1, 2, 8, 9, 10, 11]) (
          .seq (
           .reg [
            ⟨some 24, .mv (.t 2), none⟩,
            ⟨some 25, .mv (.t 0), none⟩,
            ⟨some 26, .mv (.t 11), none⟩,
            ⟨some 27, .ia 3 (.t 25) (.t 26), none⟩,
            ⟨some 28, .ldA 3 (.t 27), none⟩,
            ⟨some 29, .mv (.t 1), none⟩,
            ⟨some 30, .callv (.t 24) [none, none] [(.t 28), (.t 29)], none⟩,
            ⟨some 31, .bin .lss (.t 30) (.c (.int .i64 0)), none⟩] [0, 1, 2, 8, 9, 10, 11, 31]) (
           .cond (.t 31) (
            .no) (
            .reg [
             ⟨some 34, .mv (.t 11), none⟩,
             ⟨some 10, .mv (.t 34), none⟩] [0, 1, 2, 8, 9, 10])))))))) (
     .seq (
      .reg [
       ⟨some 35, .mv (.t 9), none⟩,
       ⟨some 36, .mv (.t 9), none⟩,
       ⟨some 37, .mv (.t 8), none⟩,
       ⟨some 38, .bin .lss (.t 36) (.t 37), none⟩,
       ⟨some 39, .mv (.t 38), none⟩,
       ⟨some 40, .mv (.t 2), (some (39, true))⟩,
       ⟨some 41, .mv (.t 0), (some (39, true))⟩,
       ⟨some 42, .mv (.t 9), (some (39, true))⟩,
       ⟨some 43, .ia 3 (.t 41) (.t 42), (some (39, true))⟩,
       ⟨some 44, .ldA 3 (.t 43), (some (39, true))⟩,
       ⟨some 45, .mv (.t 1), (some (39, true))⟩,
       ⟨some 46, .callv (.t 40) [none, none] [(.t 44), (.t 45)], (some (39, true))⟩,
       ⟨some 47, .bin .eql (.t 46) (.c (.int .i64 0)), (some (39, true))⟩,
       ⟨some 48, .pick (.t 39) (.t 47) (.c (.bool false)), none⟩,
       ⟨some 6, .mv (.t 35), none⟩,
       ⟨some 7, .mv (.t 48), none⟩] [6, 7]) (
      .ret)))))
def xr73 : List RT := [.t 6, .t 7]
def xa74 : AS :=
 .seq (
  .reg [
   ⟨some 2, .box (.t 0), none⟩,
   ⟨some 4, .mv (.c (.int .i64 0)), none⟩] [1, 2]) (
  .seq (
   .reg [
    ⟨some 5, .fa 0 (.t 2), none⟩,
    ⟨some 6, .ld (.t 5), none⟩,
    ⟨some 7, .mv (.t 1), none⟩,
    ⟨some 8, .call 40 [none, none] [(.t 6), (.t 7)], none⟩,
    ⟨some 4, .mv (.t 8), none⟩] [4]) (
   .ret))
def xr74 : List RT := [.t 4]
def xa76 : AS :=
 .seq (
  .reg [
   ⟨some 6, .mv (.c (.nils)), none⟩,
   ⟨some 7, .mv (.c (.int .i64 0)), none⟩] [0, 1, 2]) (
  .seq (
   .seq (
    .reg [
     ⟨some 12, .mv (.t 2), none⟩,
     ⟨some 13, .len .s (.t 12), none⟩,
     ⟨some 14, .bin .gtr (.t 13) (.c (.int .i64 242)), none⟩] [0, 1, 2, 14]) (
    .cond (.t 14) (
     .no) (
     .skip))) (
   .seq (
    .reg [
     ⟨some 15, .mks 1 .byte (.c (.int .i64 256)) (.c (.int .i64 256)), none⟩,
     ⟨some 8, .mv (.t 15), none⟩] [0, 1, 2, 8]) (
    .seq (
     .reg [
      ⟨some 16, .mv (.t 8), none⟩,
      ⟨some 17, .mv (.t 0), none⟩,
      ⟨some 18, .ia 1 (.t 16) (.c (.int .i64 8)), none⟩,
      ⟨none, .st 1 (.t 18) (.t 17), none⟩] [1, 2, 8]) (
     .seq (
      .seq (
       .reg [
        ⟨some 19, .mv (.c (.int .i64 0)), none⟩] [1, 2, 8, 19]) (
       .block 0 (
        .loop 1 [1, 2, 8, 19] (
         .seq (
          .reg [
           ⟨some 20, .bin .lss (.t 19) (.c (.int .i64 4)), none⟩] [1, 2, 8, 19, 20]) (
          .seq (
           .cond (.t 20) (
            .skip) (
            .exit 0)) (
           .seq (
            .block 1 (
             .seq (
              .reg [
               ⟨some 21, .mv (.t 19), none⟩,
               ⟨some 9, .mv (.t 21), none⟩] [1, 2, 8, 9, 19]) (
              .reg [
               ⟨some 22, .mv (.t 8), none⟩,
               ⟨some 23, .mv (.t 9), none⟩,
               ⟨some 24, .bin .add (.c (.int .i64 9)) (.t 23), none⟩,
               ⟨some 25, .mv (.t 1), none⟩,
               ⟨some 26, .mv (.t 9), none⟩,
               ⟨some 27, .bin .mul (.c (.int .i64 8)) (.t 26), none⟩,
               ⟨some 28, .bin .sub (.c (.int .i64 24)) (.t 27), none⟩,
               ⟨some 29, .bin .shr (.t 25) (.t 28), none⟩,
               ⟨some 30, .cv .u8 (.t 29), none⟩,
               ⟨some 31, .ia 1 (.t 22) (.t 24), none⟩,
               ⟨none, .st 1 (.t 31) (.t 30), none⟩] [1, 2, 8, 19]))) (
            .reg [
             ⟨some 32, .bin .add (.t 19) (.c (.int .i64 1)), none⟩,
             ⟨some 19, .mv (.t 32), none⟩] [1, 2, 8, 19]))))))) (
      .seq (
       .reg [
        ⟨some 33, .mv (.t 8), none⟩,
        ⟨some 34, .mv (.t 2), none⟩,
        ⟨some 35, .len .s (.t 34), none⟩,
        ⟨some 36, .cv .u8 (.t 35), none⟩,
        ⟨some 37, .ia 1 (.t 33) (.c (.int .i64 13)), none⟩,
        ⟨none, .st 1 (.t 37) (.t 36), none⟩] [2, 8]) (
       .seq (
        .reg [
         ⟨some 38, .mv (.t 8), none⟩,
         ⟨some 39, .slR 1 (.t 38) (some (.c (.int .i64 14))) none, none⟩,
         ⟨some 40, .mv (.t 2), none⟩,
         ⟨some 41, .cpy .byte (.t 39) (.t 40), none⟩] [8]) (
        .seq (
         .reg [
          ⟨some 42, .mv (.t 8), none⟩,
          ⟨some 43, .slR 1 (.t 42) (some (.c (.int .i64 8))) none, none⟩,
          ⟨some 44, .call 94 [none] [(.t 43)], none⟩,
          ⟨some 10, .mv (.t 44), none⟩] [8, 10]) (
         .seq (
          .seq (
           .reg [
            ⟨some 45, .mv (.c (.int .i64 0)), none⟩] [8, 10, 45]) (
           .block 2 (
            .loop 2 [8, 10, 45] (
             .seq (
              .reg [
               ⟨some 46, .bin .lss (.t 45) (.c (.int .i64 8)), none⟩] [8, 10, 45, 46]) (
              .seq (
               .cond (.t 46) (
                .skip) (
                .exit 2)) (
               .seq (
                .block 3 (
                 .seq (
                  .reg [
                   ⟨some 47, .mv (.t 45), none⟩,
                   ⟨some 11, .mv (.t 47), none⟩] [8, 10, 11, 45]) (
                  .reg [
                   ⟨some 48, .mv (.t 8), none⟩,
                   ⟨some 49, .mv (.t 11), none⟩,
                   ⟨some 50, .mv (.t 10), none⟩,
                   ⟨some 51, .mv (.t 11), none⟩,
                   ⟨some 52, .bin .mul (.c (.int .i64 8)) (.t 51), none⟩,
                   ⟨some 53, .bin .sub (.c (.int .i64 56)) (.t 52), none⟩,
                   ⟨some 54, .bin .shr (.t 50) (.t 53), none⟩,
                   ⟨some 55, .cv .u8 (.t 54), none⟩,
                   ⟨some 56, .ia 1 (.t 48) (.t 49), none⟩,
                   ⟨none, .st 1 (.t 56) (.t 55), none⟩] [8, 10, 45]))) (
                .reg [
                 ⟨some 57, .bin .add (.t 45) (.c (.int .i64 1)), none⟩,
                 ⟨some 45, .mv (.t 57), none⟩] [8, 10, 45]))))))) (
          .seq (
           .reg [
            ⟨some 58, .mv (.t 8), none⟩,
            ⟨some 6, .mv (.t 58), none⟩,
            ⟨some 7, .mv (.c (.int .i64 0)), none⟩] [6, 7]) (
           .ret))))))))))
def xr76 : List RT := [.t 6, .t 7]
def xa88 : AS :=
 .seq (
  .reg [
   ⟨some 4, .mv (.c (.int .i64 0)), none⟩,
   ⟨some 5, .mv (.c (.int .i64 0)), none⟩] [0, 1]) (
  .seq (
   .reg [
    ⟨some 9, .mv (.t 0), none⟩,
    ⟨some 10, .nck (.t 9), none⟩,
    ⟨some 11, .fa 0 (.t 10), none⟩,
    ⟨some 12, .ld (.t 11), none⟩,
    ⟨some 13, .mv (.t 1), none⟩,
    ⟨some 14, .call 106 [none, none] [(.t 12), (.t 13)], none⟩,
    ⟨some 8, .mv (.t 14), none⟩,
    ⟨some 15, .ext (.t 8) 0, none⟩,
    ⟨some 16, .ext (.t 8) 1, none⟩,
    ⟨some 6, .mv (.t 15), none⟩,
    ⟨some 7, .mv (.t 16), none⟩] [0, 6, 7]) (
   .seq (
    .seq (
     .reg [
      ⟨some 17, .mv (.t 7), none⟩,
      ⟨some 18, .bin .eql (.t 17) (.c (.int .i64 0)), none⟩] [0, 6, 7, 18]) (
     .cond (.t 18) (
      .reg [
       ⟨some 19, .mv (.t 0), none⟩,
       ⟨some 20, .mv (.t 0), none⟩,
       ⟨some 21, .nck (.t 20), none⟩,
       ⟨some 22, .fa 4 (.t 21), none⟩,
       ⟨some 23, .ld (.t 22), none⟩,
       ⟨some 24, .mv (.t 6), none⟩,
       ⟨some 25, .bsl 8 (.int .i64) 1 [(0, (.t 24))], none⟩,
       ⟨some 26, .app 8 (.int .i64) (.t 23) (.t 25), none⟩,
       ⟨some 27, .nck (.t 19), none⟩,
       ⟨some 28, .fa 4 (.t 27), none⟩,
       ⟨none, .st 1 (.t 28) (.t 26), none⟩] [6, 7]) (
      .no))) (
    .seq (
     .reg [
      ⟨some 29, .mv (.t 6), none⟩,
      ⟨some 30, .mv (.t 7), none⟩,
      ⟨some 4, .mv (.t 29), none⟩,
      ⟨some 5, .mv (.t 30), none⟩] [4, 5]) (
     .ret))))
def xr88 : List RT := [.t 4, .t 5]
def xa91 : AS :=
 .seq (
  .reg [
   ⟨some 1, .box (.t 0), none⟩,
   ⟨some 2, .mv (.c (.nils)), none⟩] [1]) (
  .seq (
   .reg [
    ⟨some 7, .call 107 [] [], none⟩,
    ⟨some 3, .mv (.t 7), none⟩] [1, 3]) (
   .seq (
    .reg [
     ⟨some 4, .mv (.c (.int .u64 1)), none⟩] [1, 3, 4]) (
    .seq (
     .seq (
      .reg [
       ⟨some 8, .fa 0 (.t 1), none⟩,
       ⟨some 9, .ld (.t 8), none⟩] [1, 3, 4, 9]) (
      .cond (.t 9) (
       .reg [
        ⟨some 4, .mv (.c (.int .u64 0)), none⟩] [1, 3, 4]) (
       .no))) (
     .seq (
      .reg [
       ⟨some 10, .mv (.t 3), none⟩,
       ⟨some 11, .mv (.t 4), none⟩,
       ⟨some 12, .call 108 [none, none] [(.t 10), (.t 11)], none⟩] [1, 3]) (
      .seq (
       .reg [
        ⟨some 13, .mv (.t 3), none⟩,
        ⟨some 14, .fa 1 (.t 1), none⟩,
        ⟨some 15, .ld (.t 14), none⟩,
        ⟨some 16, .len .s (.t 15), none⟩,
        ⟨some 17, .cv .u64 (.t 16), none⟩,
        ⟨some 18, .call 108 [none, none] [(.t 13), (.t 17)], none⟩] [1, 3]) (
       .seq (
        .seq (
         .reg [
          ⟨some 19, .fa 1 (.t 1), none⟩,
          ⟨some 20, .ld (.t 19), none⟩,
          ⟨some 21, .len .s (.t 20), none⟩,
          ⟨some 22, .mv (.c (.int .i64 0)), none⟩] [1, 3, 20, 21, 22]) (
         .block 0 (
          .loop 1 [1, 3, 20, 21, 22] (
           .seq (
            .reg [
             ⟨some 23, .bin .lss (.t 22) (.t 21), none⟩] [1, 3, 20, 21, 22, 23]) (
            .seq (
             .cond (.t 23) (
              .skip) (
              .exit 0)) (
             .seq (
              .block 1 (
               .seq (
                .reg [
                 ⟨some 24, .ia 3 (.t 20) (.t 22), none⟩,
                 ⟨some 25, .ldA 3 (.t 24), none⟩,
                 ⟨some 6, .alc [.str ByteArray.empty, .int .i64 0, .nils], none⟩,
                 ⟨none, .st 3 (.t 6) (.t 25), none⟩] [1, 3, 6, 20, 21, 22]) (
                .seq (
                 .reg [
                  ⟨some 26, .mv (.t 3), none⟩,
                  ⟨some 27, .fa 0 (.t 6), none⟩,
                  ⟨some 28, .ld (.t 27), none⟩,
                  ⟨some 29, .call 109 [none, none] [(.t 26), (.t 28)], none⟩] [1, 3, 6, 20, 21, 22]) (
                 .seq (
                  .reg [
                   ⟨some 30, .mv (.t 3), none⟩,
                   ⟨some 31, .fa 1 (.t 6), none⟩,
                   ⟨some 32, .ld (.t 31), none⟩,
                   ⟨some 33, .cv .u64 (.t 32), none⟩,
                   ⟨some 34, .call 108 [none, none] [(.t 30), (.t 33)], none⟩] [1, 3, 6, 20, 21, 22]) (
                  .seq (
                   .reg [
                    ⟨some 35, .fa 0 (.t 1), none⟩,
                    ⟨some 36, .ld (.t 35), none⟩,
                    ⟨some 37, .mv (.t 36), none⟩,
                    ⟨some 38, .fa 1 (.t 6), (some (37, true))⟩,
                    ⟨some 39, .ld (.t 38), (some (37, true))⟩,
                    ⟨some 40, .bin .eql (.t 39) (.c (.int .i64 0)), (some (37, true))⟩,
                    ⟨some 41, .pick (.t 37) (.t 40) (.c (.bool false)), none⟩] [1, 3, 6, 20, 21, 22, 41]) (
                   .cond (.t 41) (
                    .reg [
                     ⟨some 42, .mv (.t 3), none⟩,
                     ⟨some 43, .fa 2 (.t 6), none⟩,
                     ⟨some 44, .ld (.t 43), none⟩,
                     ⟨some 45, .b2s (.t 44), none⟩,
                     ⟨some 46, .call 109 [none, none] [(.t 42), (.t 45)], none⟩] [1, 3, 20, 21, 22]) (
                    .no))))))) (
              .reg [
               ⟨some 47, .bin .add (.t 22) (.c (.int .i64 1)), none⟩,
               ⟨some 22, .mv (.t 47), none⟩] [1, 3, 20, 21, 22]))))))) (
        .seq (
         .reg [
          ⟨some 48, .mv (.t 3), none⟩,
          ⟨some 49, .call 110 [none] [(.t 48)], none⟩,
          ⟨some 2, .mv (.t 49), none⟩] [2]) (
         .ret))))))))
def xr91 : List RT := [.t 2]
def xa94 : AS :=
 .seq (
  .reg [
   ⟨some 2, .mv (.c (.int .u64 0)), none⟩] [0]) (
  .seq (
   .reg [
    ⟨some 3, .mv (.c (.int .u64 14695981039346656037)), none⟩] [0, 3]) (
   .seq (
    .seq (
     .reg [
      ⟨some 6, .mv (.t 0), none⟩,
      ⟨some 7, .len .s (.t 6), none⟩,
      ⟨some 8, .mv (.c (.int .i64 0)), none⟩] [3, 6, 7, 8]) (
     .block 0 (
      .loop 1 [3, 6, 7, 8] (
       .seq (
        .reg [
         ⟨some 9, .bin .lss (.t 8) (.t 7), none⟩] [3, 6, 7, 8, 9]) (
        .seq (
         .cond (.t 9) (
          .skip) (
          .exit 0)) (
         .seq (
          .block 1 (
           .seq (
            .reg [
             ⟨some 10, .ia 1 (.t 6) (.t 8), none⟩,
             ⟨some 11, .ld (.t 10), none⟩,
             ⟨some 5, .mv (.t 11), none⟩] [3, 5, 6, 7, 8]) (
            .seq (
             .reg [
              ⟨some 12, .mv (.t 3), none⟩,
              ⟨some 13, .mv (.t 5), none⟩,
              ⟨some 14, .cv .u64 (.t 13), none⟩,
              ⟨some 15, .bin .xor (.t 12) (.t 14), none⟩,
              ⟨some 3, .mv (.t 15), none⟩] [3, 6, 7, 8]) (
             .reg [
              ⟨some 16, .mv (.t 3), none⟩,
              ⟨some 17, .bin .mul (.t 16) (.c (.int .u64 1099511628211)), none⟩,
              ⟨some 3, .mv (.t 17), none⟩] [3, 6, 7, 8])))) (
          .reg [
           ⟨some 18, .bin .add (.t 8) (.c (.int .i64 1)), none⟩,
           ⟨some 8, .mv (.t 18), none⟩] [3, 6, 7, 8]))))))) (
    .seq (
     .reg [
      ⟨some 19, .mv (.t 3), none⟩,
      ⟨some 2, .mv (.t 19), none⟩] [2]) (
     .ret))))
def xr94 : List RT := [.t 2]
def xa106 : AS :=
 .seq (
  .reg [
   ⟨some 4, .mv (.c (.int .i64 0)), none⟩,
   ⟨some 5, .mv (.c (.int .i64 0)), none⟩] [0, 1]) (
  .seq (
   .reg [
    ⟨some 17, .mv (.t 1), none⟩,
    ⟨some 18, .len .s (.t 17), none⟩,
    ⟨some 19, .bin .add (.t 18) (.c (.int .i64 238)), none⟩,
    ⟨some 20, .bin .sub (.t 19) (.c (.int .i64 1)), none⟩,
    ⟨some 21, .bin .quo (.t 20) (.c (.int .i64 238)), none⟩,
    ⟨some 22, .mm true (.t 21) (.c (.int .i64 1)), none⟩,
    ⟨some 6, .mv (.t 22), none⟩] [0, 1, 6]) (
   .seq (
    .block 0 (
     .seq (
      .reg [
       ⟨some 24, .mv (.t 0), none⟩,
       ⟨some 25, .eqn false .p (.t 24) (.c (.nilp)), none⟩,
       ⟨some 23, .mv (.t 25), none⟩] [0, 1, 6, 23]) (
      .cond (.t 23) (
       .no) (
       .seq (
        .reg [
         ⟨some 27, .mv (.t 1), none⟩,
         ⟨some 28, .len .s (.t 27), none⟩,
         ⟨some 29, .bin .gtr (.t 28) (.c (.int .i64 20000)), none⟩,
         ⟨some 26, .mv (.t 29), none⟩] [0, 1, 6, 26]) (
        .cond (.t 26) (
         .no) (
         .seq (
          .reg [
           ⟨some 31, .mv (.t 6), none⟩,
           ⟨some 32, .mv (.t 0), none⟩,
           ⟨some 33, .nck (.t 32), none⟩,
           ⟨some 34, .fa 3 (.t 33), none⟩,
           ⟨some 35, .ld (.t 34), none⟩,
           ⟨some 36, .len .m (.t 35), none⟩,
           ⟨some 37, .bin .gtr (.t 31) (.t 36), none⟩,
           ⟨some 30, .mv (.t 37), none⟩] [0, 1, 6, 30]) (
          .cond (.t 30) (
           .no) (
           .skip)))))))) (
    .seq (
     .reg [
      ⟨some 38, .mv (.t 0), none⟩,
      ⟨some 39, .call 21 [none] [(.t 38)], none⟩,
      ⟨some 40, .mv (.t 6), none⟩,
      ⟨some 41, .slR 1 (.t 39) none (some (.t 40)), none⟩,
      ⟨some 7, .mv (.t 41), none⟩] [0, 1, 6, 7]) (
     .seq (
      .seq (
       .reg [
        ⟨some 42, .mv (.t 7), none⟩,
        ⟨some 43, .len .s (.t 42), none⟩,
        ⟨some 44, .mv (.c (.int .i64 0)), none⟩] [0, 1, 6, 7, 42, 43, 44]) (
       .block 1 (
        .loop 1 [0, 1, 6, 7, 42, 43, 44] (
         .seq (
          .reg [
           ⟨some 45, .bin .lss (.t 44) (.t 43), none⟩] [0, 1, 6, 7, 42, 43, 44, 45]) (
          .seq (
           .cond (.t 45) (
            .skip) (
            .exit 1)) (
           .seq (
            .block 2 (
             .seq (
              .reg [
               ⟨some 46, .mv (.t 44), none⟩,
               ⟨some 47, .ia 1 (.t 42) (.t 44), none⟩,
               ⟨some 48, .ld (.t 47), none⟩,
               ⟨some 8, .mv (.t 46), none⟩,
               ⟨some 9, .mv (.t 48), none⟩] [0, 1, 6, 7, 8, 9, 42, 43, 44]) (
              .seq (
               .reg [
                ⟨some 49, .mks 1 .byte (.c (.int .i64 4)) (.c (.int .i64 4)), none⟩,
                ⟨some 10, .mv (.t 49), none⟩] [0, 1, 6, 7, 8, 9, 10, 42, 43, 44]) (
               .seq (
                .seq (
                 .reg [
                  ⟨some 50, .mv (.t 8), none⟩,
                  ⟨some 51, .bin .eql (.t 50) (.c (.int .i64 0)), none⟩] [0, 1, 6, 7, 8, 9, 10, 42, 43, 44, 51]) (
                 .cond (.t 51) (
                  .reg [
                   ⟨some 52, .mv (.t 10), none⟩,
                   ⟨some 53, .ia 1 (.t 52) (.c (.int .i64 0)), none⟩,
                   ⟨none, .st 1 (.t 53) (.c (.int .u8 1)), none⟩] [0, 1, 6, 7, 8, 9, 10, 42, 43, 44]) (
                  .no))) (
                .seq (
                 .seq (
                  .reg [
                   ⟨some 54, .mv (.t 8), none⟩,
                   ⟨some 55, .bin .add (.t 54) (.c (.int .i64 1)), none⟩,
                   ⟨some 56, .mv (.t 6), none⟩,
                   ⟨some 57, .bin .lss (.t 55) (.t 56), none⟩] [0, 1, 6, 7, 8, 9, 10, 42, 43, 44, 57]) (
                  .cond (.t 57) (
                   .no) (
                   .skip))) (
                 .seq (
                  .reg [
                   ⟨some 78, .mv (.t 1), none⟩,
                   ⟨some 79, .mv (.t 8), none⟩,
                   ⟨some 80, .bin .mul (.t 79) (.c (.int .i64 238)), none⟩,
                   ⟨some 81, .mv (.t 8), none⟩,
                   ⟨some 82, .bin .add (.t 81) (.c (.int .i64 1)), none⟩,
                   ⟨some 83, .bin .mul (.t 82) (.c (.int .i64 238)), none⟩,
                   ⟨some 84, .mv (.t 1), none⟩,
                   ⟨some 85, .len .s (.t 84), none⟩,
                   ⟨some 86, .mm false (.t 83) (.t 85), none⟩,
                   ⟨some 87, .slR 1 (.t 78) (some (.t 80)) (some (.t 86)), none⟩,
                   ⟨some 12, .mv (.t 87), none⟩] [0, 1, 6, 7, 9, 10, 12, 42, 43, 44]) (
                  .seq (
                   .reg [
                    ⟨some 89, .mv (.t 9), none⟩,
                    ⟨some 90, .cv .u32 (.t 89), none⟩,
                    ⟨some 91, .mv (.t 10), none⟩,
                    ⟨some 92, .mv (.t 12), none⟩,
                    ⟨some 93, .app 1 .byte (.t 91) (.t 92), none⟩,
                    ⟨some 94, .call 76 [none, none, none] [(.c (.int .u8 80)), (.t 90), (.t 93)], none⟩,
                    ⟨some 88, .mv (.t 94), none⟩,
                    ⟨some 95, .ext (.t 88) 0, none⟩,
                    ⟨some 96, .ext (.t 88) 1, none⟩,
                    ⟨some 13, .mv (.t 95), none⟩,
                    ⟨some 14, .mv (.t 96), none⟩] [0, 1, 6, 7, 9, 13, 42, 43, 44]) (
                   .seq (
                    .reg [
                     ⟨some 97, .mv (.t 0), none⟩,
                     ⟨some 98, .nck (.t 97), none⟩,
                     ⟨some 99, .fa 0 (.t 98), none⟩,
                     ⟨some 100, .ld (.t 99), none⟩,
                     ⟨some 101, .mv (.t 9), none⟩,
                     ⟨some 102, .mv (.t 13), none⟩,
                     ⟨some 103, .call 55 [none, none, none] [(.t 100), (.t 101), (.t 102)], none⟩,
                     ⟨some 104, .bin .neq (.t 103) (.c (.int .i64 0)), none⟩] [0, 1, 6, 7, 42, 43, 44, 104]) (
                    .cond (.t 104) (
                     .no) (
                     .skip)))))))))) (
            .reg [
             ⟨some 105, .bin .add (.t 44) (.c (.int .i64 1)), none⟩,
             ⟨some 44, .mv (.t 105), none⟩] [0, 1, 6, 7, 42, 43, 44]))))))) (
      .seq (
       .seq (
        .reg [
         ⟨some 106, .mv (.t 7), none⟩,
         ⟨some 107, .len .s (.t 106), none⟩,
         ⟨some 108, .mv (.c (.int .i64 0)), none⟩] [0, 7, 106, 107, 108]) (
        .block 3 (
         .loop 2 [0, 7, 106, 107, 108] (
          .seq (
           .reg [
            ⟨some 109, .bin .lss (.t 108) (.t 107), none⟩] [0, 7, 106, 107, 108, 109]) (
           .seq (
            .cond (.t 109) (
             .skip) (
             .exit 3)) (
            .seq (
             .block 4 (
              .seq (
               .reg [
                ⟨some 110, .ia 1 (.t 106) (.t 108), none⟩,
                ⟨some 111, .ld (.t 110), none⟩,
                ⟨some 16, .mv (.t 111), none⟩] [0, 7, 16, 106, 107, 108]) (
               .reg [
                ⟨some 112, .mv (.t 0), none⟩,
                ⟨some 113, .nck (.t 112), none⟩,
                ⟨some 114, .fa 3 (.t 113), none⟩,
                ⟨some 115, .ld (.t 114), none⟩,
                ⟨some 116, .mv (.t 16), none⟩,
                ⟨none, .dl (.int .i64) (.t 115) (.t 116), none⟩] [0, 7, 106, 107, 108]))) (
             .reg [
              ⟨some 117, .bin .add (.t 108) (.c (.int .i64 1)), none⟩,
              ⟨some 108, .mv (.t 117), none⟩] [0, 7, 106, 107, 108]))))))) (
       .seq (
        .regD [
         ⟨some 118, .mv (.t 0), none⟩,
         ⟨some 119, .nck (.t 118), none⟩,
         ⟨some 120, .fa 2 (.t 119), none⟩,
         ⟨some 121, .ld (.t 120), none⟩,
         ⟨some 122, .mv (.t 7), none⟩,
         ⟨some 123, .ia 1 (.t 122) (.c (.int .i64 0)), none⟩,
         ⟨some 124, .ld (.t 123), none⟩,
         ⟨some 125, .mv (.t 7), none⟩,
         ⟨none, .mu false (.int .i64) (.sl 8 (.int .i64)) (.t 121) (.t 124) (.t 125), none⟩] [.q 0, .q 1, .q 2, .q 3, .q 4, .q 5, .q 6, .q 7, .e 8 []] [7]) (
        .seq (
         .reg [
          ⟨some 126, .mv (.t 7), none⟩,
          ⟨some 127, .ia 1 (.t 126) (.c (.int .i64 0)), none⟩,
          ⟨some 128, .ld (.t 127), none⟩,
          ⟨some 4, .mv (.t 128), none⟩,
          ⟨some 5, .mv (.c (.int .i64 0)), none⟩] [4, 5]) (
         .ret))))))))
def xr106 : List RT := [.t 4, .t 5]
def xa107 : AS :=
 .seq (
  .reg [
   ⟨some 0, .mv (.c (.nilp)), none⟩] []) (
  .seq (
   .reg [
    ⟨some 1, .bld [.nils] [], none⟩,
    ⟨some 2, .box (.t 1), none⟩,
    ⟨some 0, .mv (.t 2), none⟩] [0]) (
   .ret))
def xr107 : List RT := [.t 0]
def xa108 : AS :=
 .seq (
  .seq (
   .reg [
    ⟨some 6, .mv (.t 0), none⟩,
    ⟨some 7, .eqn false .p (.t 6) (.c (.nilp)), none⟩] [0, 1, 7]) (
   .cond (.t 7) (
    .no) (
    .skip))) (
  .seq (
   .seq (
    .reg [
     ⟨some 8, .mv (.t 1), none⟩,
     ⟨some 9, .bin .lss (.t 8) (.c (.int .u64 248)), none⟩] [0, 1, 9]) (
    .cond (.t 9) (
     .seq (
      .reg [
       ⟨some 10, .mv (.t 0), none⟩,
       ⟨some 11, .mv (.t 0), none⟩,
       ⟨some 12, .nck (.t 11), none⟩,
       ⟨some 13, .fa 0 (.t 12), none⟩,
       ⟨some 14, .ld (.t 13), none⟩,
       ⟨some 15, .mv (.t 1), none⟩,
       ⟨some 16, .cv .u8 (.t 15), none⟩,
       ⟨some 17, .bsl 1 .byte 1 [(0, (.t 16))], none⟩,
       ⟨some 18, .app 1 .byte (.t 14) (.t 17), none⟩,
       ⟨some 19, .nck (.t 10), none⟩,
       ⟨some 20, .fa 0 (.t 19), none⟩,
       ⟨none, .st 1 (.t 20) (.t 18), none⟩] []) (
      .ret)) (
     .no))) (
   .seq (
    .reg [
     ⟨some 21, .mv (.t 1), none⟩,
     ⟨some 22, .call 105 [none] [(.t 21)], none⟩,
     ⟨some 23, .bin .add (.t 22) (.c (.int .i64 7)), none⟩,
     ⟨some 24, .bin .quo (.t 23) (.c (.int .i64 8)), none⟩,
     ⟨some 4, .mv (.t 24), none⟩] [0, 1, 4]) (
    .seq (
     .reg [
      ⟨some 25, .mv (.t 0), none⟩,
      ⟨some 26, .mv (.t 0), none⟩,
      ⟨some 27, .nck (.t 26), none⟩,
      ⟨some 28, .fa 0 (.t 27), none⟩,
      ⟨some 29, .ld (.t 28), none⟩,
      ⟨some 30, .mv (.t 4), none⟩,
      ⟨some 31, .bin .add (.c (.int .i64 247)) (.t 30), none⟩,
      ⟨some 32, .cv .u8 (.t 31), none⟩,
      ⟨some 33, .bsl 1 .byte 1 [(0, (.t 32))], none⟩,
      ⟨some 34, .app 1 .byte (.t 29) (.t 33), none⟩,
      ⟨some 35, .nck (.t 25), none⟩,
      ⟨some 36, .fa 0 (.t 35), none⟩,
      ⟨none, .st 1 (.t 36) (.t 34), none⟩] [0, 1, 4]) (
     .seq (
      .reg [
       ⟨some 37, .mv (.t 4), none⟩,
       ⟨some 38, .bin .sub (.t 37) (.c (.int .i64 1)), none⟩,
       ⟨some 5, .mv (.t 38), none⟩] [0, 1, 5]) (
      .block 0 (
       .loop 1 [0, 1, 5] (
        .seq (
         .seq (
          .reg [
           ⟨some 39, .mv (.t 5), none⟩,
           ⟨some 40, .bin .geq (.t 39) (.c (.int .i64 0)), none⟩] [0, 1, 5, 40]) (
          .cond (.t 40) (
           .no) (
           .no))) (
         .seq (
          .block 1 (
           .regD [
            ⟨some 43, .mv (.t 0), none⟩,
            ⟨some 44, .mv (.t 0), none⟩,
            ⟨some 45, .nck (.t 44), none⟩,
            ⟨some 46, .fa 0 (.t 45), none⟩,
            ⟨some 47, .ld (.t 46), none⟩,
            ⟨some 48, .mv (.t 1), none⟩,
            ⟨some 49, .mv (.t 5), none⟩,
            ⟨some 50, .bin .mul (.c (.int .i64 8)) (.t 49), none⟩,
            ⟨some 51, .bin .shr (.t 48) (.t 50), none⟩,
            ⟨some 52, .cv .u8 (.t 51), none⟩,
            ⟨some 53, .bsl 1 .byte 1 [(0, (.t 52))], none⟩,
            ⟨some 54, .app 1 .byte (.t 47) (.t 53), none⟩,
            ⟨some 55, .nck (.t 43), none⟩,
            ⟨some 56, .fa 0 (.t 55), none⟩,
            ⟨none, .st 1 (.t 56) (.t 54), none⟩] [.q 0, .q 1, .q 2, .q 3, .q 4, .q 5, .q 6, .q 7, .q 8, .q 9, .e 10 [0, 1, 2, 3, 4], .e 11 [0], .q 12, .q 13, .e 14 []] [0, 1, 5])) (
          .reg [
           ⟨some 41, .mv (.t 5), none⟩,
           ⟨some 42, .bin .sub (.t 41) (.c (.int .i64 1)), none⟩,
           ⟨some 5, .mv (.t 42), none⟩] [0, 1, 5])))))))))
def xr108 : List RT := []
def xa109 : AS :=
 .seq (
  .reg [
   ⟨some 4, .mv (.t 0), none⟩,
   ⟨some 5, .eqn true .p (.t 4) (.c (.nilp)), none⟩] [0, 1, 5]) (
  .cond (.t 5) (
   .seq (
    .reg [
     ⟨some 6, .mv (.t 0), none⟩,
     ⟨some 7, .mv (.t 1), none⟩,
     ⟨some 8, .len .i (.t 7), none⟩,
     ⟨some 9, .cv .u64 (.t 8), none⟩,
     ⟨some 10, .call 108 [none, none] [(.t 6), (.t 9)], none⟩] [0, 1]) (
    .reg [
     ⟨some 11, .mv (.t 0), none⟩,
     ⟨some 12, .mv (.t 0), none⟩,
     ⟨some 13, .nck (.t 12), none⟩,
     ⟨some 14, .fa 0 (.t 13), none⟩,
     ⟨some 15, .ld (.t 14), none⟩,
     ⟨some 16, .mv (.t 1), none⟩,
     ⟨some 17, .app 1 .byte (.t 15) (.t 16), none⟩,
     ⟨some 18, .nck (.t 11), none⟩,
     ⟨some 19, .fa 0 (.t 18), none⟩,
     ⟨none, .st 1 (.t 19) (.t 17), none⟩] [])) (
   .no))
def xr109 : List RT := []
def xa110 : AS :=
 .seq (
  .reg [
   ⟨some 2, .mv (.c (.nils)), none⟩] [0]) (
  .seq (
   .seq (
    .reg [
     ⟨some 3, .mv (.t 0), none⟩,
     ⟨some 4, .eqn false .p (.t 3) (.c (.nilp)), none⟩] [0, 4]) (
    .cond (.t 4) (
     .no) (
     .skip))) (
   .seq (
    .reg [
     ⟨some 5, .bsl 1 .byte 0 [], none⟩,
     ⟨some 6, .mv (.t 0), none⟩,
     ⟨some 7, .nck (.t 6), none⟩,
     ⟨some 8, .fa 0 (.t 7), none⟩,
     ⟨some 9, .ld (.t 8), none⟩,
     ⟨some 10, .app 1 .byte (.t 5) (.t 9), none⟩,
     ⟨some 2, .mv (.t 10), none⟩] [2]) (
    .ret)))
def xr110 : List RT := [.t 2]
theorem xk9 : okF Tryz.prog 9 xa9 xr9 0 = true := by decide +kernel
theorem xk12 : okF Tryz.prog 12 xa12 xr12 4 = true := by decide +kernel
theorem xk13 : okF Tryz.prog 13 xa13 xr13 1 = true := by decide +kernel
theorem xk14 : okF Tryz.prog 14 xa14 xr14 2 = true := by decide +kernel
theorem xk15 : okF Tryz.prog 15 xa15 xr15 2 = true := by decide +kernel
theorem xk20 : okF Tryz.prog 20 xa20 xr20 1 = true := by decide +kernel
theorem xk21 : okF Tryz.prog 21 xa21 xr21 1 = true := by decide +kernel
theorem xk23 : okF Tryz.prog 23 xa23 xr23 1 = true := by decide +kernel
theorem xk27 : okF Tryz.prog 27 xa27 xr27 2 = true := by decide +kernel
theorem xk31 : okF Tryz.prog 31 xa31 xr31 3 = true := by decide +kernel
theorem xk33 : okF Tryz.prog 33 xa33 xr33 1 = true := by decide +kernel
theorem xk36 : okF Tryz.prog 36 xa36 xr36 1 = true := by decide +kernel
theorem xk38 : okF Tryz.prog 38 xa38 xr38 1 = true := by decide +kernel
theorem xk41 : okF Tryz.prog 41 xa41 xr41 2 = true := by decide +kernel
theorem xk49 : okF Tryz.prog 49 xa49 xr49 1 = true := by decide +kernel
theorem xk52 : okF Tryz.prog 52 xa52 xr52 2 = true := by decide +kernel
theorem xk53 : okF Tryz.prog 53 xa53 xr53 1 = true := by decide +kernel
theorem xk55 : okF Tryz.prog 55 xa55 xr55 3 = true := by decide +kernel
theorem xk56 : okF Tryz.prog 56 xa56 xr56 1 = true := by decide +kernel
theorem xk64 : okF Tryz.prog 64 xa64 xr64 2 = true := by decide +kernel
theorem xk65 : okF Tryz.prog 65 xa65 xr65 3 = true := by decide +kernel
theorem xk67 : okF Tryz.prog 67 xa67 xr67 3 = true := by decide +kernel
theorem xk73 : okF Tryz.prog 73 xa73 xr73 3 = true := by decide +kernel
theorem xk74 : okF Tryz.prog 74 xa74 xr74 2 = true := by decide +kernel
theorem xk76 : okF Tryz.prog 76 xa76 xr76 3 = true := by decide +kernel
theorem xk88 : okF Tryz.prog 88 xa88 xr88 2 = true := by decide +kernel
theorem xk91 : okF Tryz.prog 91 xa91 xr91 1 = true := by decide +kernel
theorem xk94 : okF Tryz.prog 94 xa94 xr94 1 = true := by decide +kernel
theorem xk106 : okF Tryz.prog 106 xa106 xr106 2 = true := by decide +kernel
theorem xk107 : okF Tryz.prog 107 xa107 xr107 0 = true := by decide +kernel
theorem xk108 : okF Tryz.prog 108 xa108 xr108 2 = true := by decide +kernel
theorem xk109 : okF Tryz.prog 109 xa109 xr109 2 = true := by decide +kernel
theorem xk110 : okF Tryz.prog 110 xa110 xr110 1 = true := by decide +kernel
def XT : List (Nat × FX) := [(9, .code xa9 xr9 0), (12, .code xa12 xr12 4), (13, .code xa13 xr13 1), (14, .code xa14 xr14 2), (15, .code xa15 xr15 2), (20, .code xa20 xr20 1), (21, .code xa21 xr21 1), (23, .code xa23 xr23 1), (27, .code xa27 xr27 2), (31, .code xa31 xr31 3), (33, .code xa33 xr33 1), (36, .code xa36 xr36 1), (38, .code xa38 xr38 1), (41, .code xa41 xr41 2), (49, .code xa49 xr49 1), (52, .code xa52 xr52 2), (53, .code xa53 xr53 1), (55, .code xa55 xr55 3), (56, .code xa56 xr56 1), (64, .code xa64 xr64 2), (65, .code xa65 xr65 3), (67, .code xa67 xr67 3), (73, .code xa73 xr73 3), (74, .code xa74 xr74 2), (76, .code xa76 xr76 3), (88, .code xa88 xr88 2), (91, .code xa91 xr91 1), (94, .code xa94 xr94 1), (106, .code xa106 xr106 2), (107, .code xa107 xr107 0), (108, .code xa108 xr108 2), (109, .code xa109 xr109 2), (110, .code xa110 xr110 1), (48, .nat nSortI), (37, .nat nSortF), (40, .nat nCmp)]
theorem XT_ok : TOk Tryz.prog XT := (.code xk9 (.code xk12 (.code xk13 (.code xk14 (.code xk15 (.code xk20 (.code xk21 (.code xk23 (.code xk27 (.code xk31 (.code xk33 (.code xk36 (.code xk38 (.code xk41 (.code xk49 (.code xk52 (.code xk53 (.code xk55 (.code xk56 (.code xk64 (.code xk65 (.code xk67 (.code xk73 (.code xk74 (.code xk76 (.code xk88 (.code xk91 (.code xk94 (.code xk106 (.code xk107 (.code xk108 (.code xk109 (.code xk110 (.nat nSortI_ok nSortI_c (.nat nSortF_ok nSortF_c (.nat nCmp_ok nCmp_c .nil))))))))))))))))))))))))))))))))))))
end Go.V
