/- A part of the proof layer, or functions of the given program in it: contracts and their proofs. -/
import Derived.Test.YtmjjlpcielgjnaaGreatMVzb
import Derived.Test.YtmjjlpcielgjnaaGreatProg
namespace Go.V
set_option linter.unusedSimpArgs false
set_option linter.unnecessarySimpa false
open Go.Proofs
def xa4 : AS :=
 .seq (
  .reg [
   ⟨some 0, .mv (.c (.bool false)), none⟩] []) (
  .seq (
   .reg [
    ⟨some 6, .call 18 [none] [(.c (.int .i64 200))], none⟩,
    ⟨some 7, .call 6 [none, none] [(.t 6), (.c (.int .i64 2))], none⟩,
    ⟨some 5, .mv (.t 7), none⟩,
    ⟨some 8, .ext (.t 5) 0, none⟩,
    ⟨some 9, .ext (.t 5) 1, none⟩,
    ⟨some 1, .mv (.t 8), none⟩,
    ⟨some 2, .mv (.t 9), none⟩] [1, 2]) (
   .seq (
    .seq (
     .reg [
      ⟨some 10, .mv (.t 2), none⟩,
      ⟨some 11, .bin .neq (.t 10) (.c (.int .i64 0)), none⟩,
      ⟨some 12, .mv (.t 11), none⟩,
      ⟨some 13, .mv (.t 1), (some (12, false))⟩,
      ⟨some 14, .eqn false .p (.t 13) (.c (.nilp)), (some (12, false))⟩,
      ⟨some 15, .pick (.t 12) (.c (.bool true)) (.t 14), none⟩] [1, 15]) (
     .cond (.t 15) (
      .no) (
      .skip))) (
    .seq (
     .reg [
      ⟨some 17, .mv (.t 1), none⟩,
      ⟨some 18, .call 19 [none, none, none, none, none, none] [(.t 17), (.c (.int .u64 1)), (.c (.int .u64 1)), (.c (.str ⟨#[97]⟩)), (.c (.int .i64 5)), (.c (.nils))], none⟩,
      ⟨some 16, .mv (.t 18), none⟩,
      ⟨some 19, .ext (.t 16) 0, none⟩,
      ⟨some 20, .ext (.t 16) 1, none⟩,
      ⟨some 3, .mv (.t 19), none⟩,
      ⟨some 4, .mv (.t 20), none⟩] [1, 3, 4]) (
     .seq (
      .reg [
       ⟨some 21, .mv (.t 3), none⟩,
       ⟨some 22, .mv (.t 21), none⟩,
       ⟨some 23, .mv (.t 4), (some (22, true))⟩,
       ⟨some 24, .bin .eql (.t 23) (.c (.int .i64 0)), (some (22, true))⟩,
       ⟨some 25, .pick (.t 22) (.t 24) (.c (.bool false)), none⟩,
       ⟨some 26, .mv (.t 25), none⟩,
       ⟨some 27, .mv (.t 1), (some (26, true))⟩,
       ⟨some 28, .call 10 [none] [(.t 27)], (some (26, true))⟩,
       ⟨some 29, .len .s (.t 28), (some (26, true))⟩,
       ⟨some 30, .bin .eql (.t 29) (.c (.int .i64 1)), (some (26, true))⟩,
       ⟨some 31, .pick (.t 26) (.t 30) (.c (.bool false)), none⟩,
       ⟨some 32, .mv (.t 31), none⟩,
       ⟨some 33, .mv (.t 1), (some (32, true))⟩,
       ⟨some 34, .call 10 [none] [(.t 33)], (some (32, true))⟩,
       ⟨some 35, .ia 1 (.t 34) (.c (.int .i64 0)), (some (32, true))⟩,
       ⟨some 36, .ld (.t 35), (some (32, true))⟩,
       ⟨some 37, .bin .eql (.t 36) (.c (.str ⟨#[97]⟩)), (some (32, true))⟩,
       ⟨some 38, .pick (.t 32) (.t 37) (.c (.bool false)), none⟩,
       ⟨some 0, .mv (.t 38), none⟩] [0]) (
      .ret)))))
def xr4 : List RT := [.t 0]
def xa6 : AS :=
 .seq (
  .reg [
   ⟨some 4, .mv (.c (.nilp)), none⟩,
   ⟨some 5, .mv (.c (.int .i64 0)), none⟩] [0, 1]) (
  .seq (
   .reg [
    ⟨some 26, .mv (.t 0), none⟩,
    ⟨some 27, .call 21 [none] [(.t 26)], none⟩,
    ⟨some 25, .mv (.t 27), none⟩,
    ⟨some 28, .ext (.t 25) 0, none⟩,
    ⟨some 29, .ext (.t 25) 1, none⟩,
    ⟨some 6, .mv (.t 28), none⟩,
    ⟨some 7, .mv (.t 29), none⟩] [1, 6, 7]) (
   .seq (
    .seq (
     .reg [
      ⟨some 30, .mv (.t 7), none⟩,
      ⟨some 31, .bin .neq (.t 30) (.c (.int .i64 0)), none⟩] [1, 6, 7, 31]) (
     .cond (.t 31) (
      .seq (
       .reg [
        ⟨some 32, .mv (.t 7), none⟩,
        ⟨some 4, .mv (.c (.nilp)), none⟩,
        ⟨some 5, .mv (.t 32), none⟩] [4, 5]) (
       .ret)) (
      .skip))) (
    .seq (
     .reg [
      ⟨some 33, .mv (.t 6), none⟩,
      ⟨some 34, .mv (.t 1), none⟩,
      ⟨some 35, .call 22 [none] [(.t 34)], none⟩,
      ⟨some 36, .mkm false .str .any1, none⟩,
      ⟨some 37, .call 23 [] [], none⟩,
      ⟨some 38, .call 24 [] [], none⟩,
      ⟨some 39, .call 25 [] [], none⟩,
      ⟨some 40, .bld [.nilp, .nilp, .nilm, .nilp, .nilp, .int .i64 0, .nils, .nils, .nilp, .bool false] [(0, 1, (.t 33)), (1, 1, (.t 35)), (2, 1, (.t 36)), (3, 1, (.t 37)), (4, 1, (.t 38)), (8, 1, (.t 39))], none⟩,
      ⟨some 41, .box (.t 40), none⟩,
      ⟨some 8, .mv (.t 41), none⟩] [6, 8]) (
     .seq (
      .reg [
       ⟨some 9, .mv (.c (.bool true)), none⟩] [6, 8, 9]) (
      .seq (
       .seq (
        .reg [
         ⟨some 43, .mv (.t 6), none⟩,
         ⟨some 44, .call 26 [none, none] [(.t 43), (.c (.str ⟨#[99]⟩))], none⟩,
         ⟨some 42, .mv (.t 44), none⟩,
         ⟨some 45, .ext (.t 42) 0, none⟩,
         ⟨some 46, .ext (.t 42) 1, none⟩,
         ⟨some 10, .mv (.t 45), none⟩,
         ⟨some 11, .mv (.t 46), none⟩] [6, 8, 9, 10, 11]) (
        .seq (
         .reg [
          ⟨some 47, .mv (.t 11), none⟩] [6, 8, 9, 10, 47]) (
         .cond (.t 47) (
          .no) (
          .skip)))) (
       .seq (
        .seq (
         .reg [
          ⟨some 68, .mv (.t 6), none⟩,
          ⟨some 69, .call 26 [none, none] [(.t 68), (.c (.str ⟨#[112]⟩))], none⟩,
          ⟨some 67, .mv (.t 69), none⟩,
          ⟨some 70, .ext (.t 67) 0, none⟩,
          ⟨some 71, .ext (.t 67) 1, none⟩,
          ⟨some 13, .mv (.t 70), none⟩,
          ⟨some 14, .mv (.t 71), none⟩] [6, 8, 9, 13, 14]) (
         .seq (
          .reg [
           ⟨some 72, .mv (.t 14), none⟩] [6, 8, 9, 13, 72]) (
          .cond (.t 72) (
           .no) (
           .skip)))) (
        .seq (
         .seq (
          .reg [
           ⟨some 87, .mv (.t 6), none⟩,
           ⟨some 88, .call 26 [none, none] [(.t 87), (.c (.str ⟨#[114]⟩))], none⟩,
           ⟨some 86, .mv (.t 88), none⟩,
           ⟨some 89, .ext (.t 86) 0, none⟩,
           ⟨some 90, .ext (.t 86) 1, none⟩,
           ⟨some 15, .mv (.t 89), none⟩,
           ⟨some 16, .mv (.t 90), none⟩] [6, 8, 9, 15, 16]) (
          .seq (
           .reg [
            ⟨some 91, .mv (.t 16), none⟩] [6, 8, 9, 15, 91]) (
           .cond (.t 91) (
            .no) (
            .skip)))) (
         .seq (
          .seq (
           .reg [
            ⟨some 106, .mv (.t 6), none⟩,
            ⟨some 107, .call 26 [none, none] [(.t 106), (.c (.str ⟨#[119]⟩))], none⟩,
            ⟨some 105, .mv (.t 107), none⟩,
            ⟨some 108, .ext (.t 105) 0, none⟩,
            ⟨some 109, .ext (.t 105) 1, none⟩,
            ⟨some 17, .mv (.t 108), none⟩,
            ⟨some 18, .mv (.t 109), none⟩] [6, 8, 9, 17, 18]) (
           .seq (
            .reg [
             ⟨some 110, .mv (.t 18), none⟩] [6, 8, 9, 17, 110]) (
            .cond (.t 110) (
             .no) (
             .skip)))) (
          .seq (
           .seq (
            .reg [
             ⟨some 124, .mv (.t 8), none⟩,
             ⟨some 125, .call 10 [none] [(.t 124)], none⟩,
             ⟨some 126, .len .s (.t 125), none⟩,
             ⟨some 127, .mv (.c (.int .i64 0)), none⟩] [6, 8, 9, 125, 126, 127]) (
            .block 0 (
             .loop 1 [6, 8, 9, 125, 126, 127] (
              .seq (
               .reg [
                ⟨some 128, .bin .lss (.t 127) (.t 126), none⟩] [6, 8, 9, 125, 126, 127, 128]) (
               .seq (
                .cond (.t 128) (
                 .no) (
                 .exit 0)) (
                .seq (
                 .block 1 (
                  .seq (
                   .reg [
                    ⟨some 129, .ia 1 (.t 125) (.t 127), none⟩,
                    ⟨some 130, .ld (.t 129), none⟩,
                    ⟨some 20, .mv (.t 130), none⟩] [6, 8, 9, 20, 125, 126, 127]) (
                   .seq (
                    .reg [
                     ⟨some 132, .mv (.t 6), none⟩,
                     ⟨some 133, .mv (.t 20), none⟩,
                     ⟨some 134, .bin .add (.c (.str ⟨#[97]⟩)) (.t 133), none⟩,
                     ⟨some 135, .call 26 [none, none] [(.t 132), (.t 134)], none⟩,
                     ⟨some 131, .mv (.t 135), none⟩,
                     ⟨some 136, .ext (.t 131) 0, none⟩,
                     ⟨some 137, .ext (.t 131) 1, none⟩,
                     ⟨some 21, .mv (.t 136), none⟩,
                     ⟨some 22, .mv (.t 137), none⟩] [6, 8, 9, 20, 21, 125, 126, 127]) (
                    .seq (
                     .reg [
                      ⟨some 139, .mv (.t 21), none⟩,
                      ⟨some 140, .call 33 [none] [(.t 139)], none⟩,
                      ⟨some 138, .mv (.t 140), none⟩,
                      ⟨some 141, .ext (.t 138) 0, none⟩,
                      ⟨some 142, .ext (.t 138) 1, none⟩,
                      ⟨some 23, .mv (.t 141), none⟩,
                      ⟨some 24, .mv (.t 142), none⟩] [6, 8, 9, 20, 23, 24, 125, 126, 127]) (
                     .reg [
                      ⟨some 143, .mv (.t 9), none⟩,
                      ⟨some 144, .mv (.t 143), none⟩,
                      ⟨some 145, .mv (.t 24), (some (144, true))⟩,
                      ⟨some 146, .bin .eql (.t 145) (.c (.int .i64 0)), (some (144, true))⟩,
                      ⟨some 147, .pick (.t 144) (.t 146) (.c (.bool false)), none⟩,
                      ⟨some 148, .mv (.t 147), none⟩,
                      ⟨some 149, .mv (.t 23), (some (148, true))⟩,
                      ⟨some 150, .call 34 [none] [(.t 149)], (some (148, true))⟩,
                      ⟨some 151, .mv (.t 20), (some (148, true))⟩,
                      ⟨some 152, .bin .eql (.t 150) (.t 151), (some (148, true))⟩,
                      ⟨some 153, .pick (.t 148) (.t 152) (.c (.bool false)), none⟩,
                      ⟨some 9, .mv (.t 153), none⟩] [6, 8, 9, 125, 126, 127]))))) (
                 .reg [
                  ⟨some 154, .bin .add (.t 127) (.c (.int .i64 1)), none⟩,
                  ⟨some 127, .mv (.t 154), none⟩] [6, 8, 9, 125, 126, 127]))))))) (
           .seq (
            .seq (
             .reg [
              ⟨some 155, .mv (.t 9), none⟩,
              ⟨some 156, .not (.t 155), none⟩] [8, 156]) (
             .cond (.t 156) (
              .no) (
              .skip))) (
            .seq (
             .reg [
              ⟨some 157, .mv (.t 8), none⟩,
              ⟨some 4, .mv (.t 157), none⟩,
              ⟨some 5, .mv (.c (.int .i64 0)), none⟩] [4, 5]) (
             .ret))))))))))))
def xr6 : List RT := [.t 4, .t 5]
def xa8 : AS :=
 .seq (
  .reg [
   ⟨some 4, .mv (.c (.nilp)), none⟩,
   ⟨some 5, .mv (.c (.int .i64 0)), none⟩] [0, 1]) (
  .seq (
   .seq (
    .reg [
     ⟨some 6, .mv (.t 0), none⟩,
     ⟨some 7, .eqn false .p (.t 6) (.c (.nilp)), none⟩,
     ⟨some 8, .mv (.t 7), none⟩,
     ⟨some 9, .mv (.t 1), (some (8, false))⟩,
     ⟨some 10, .call 49 [none] [(.t 9)], (some (8, false))⟩,
     ⟨some 11, .not (.t 10), (some (8, false))⟩,
     ⟨some 12, .pick (.t 8) (.c (.bool true)) (.t 11), none⟩] [0, 1, 12]) (
    .cond (.t 12) (
     .seq (
      .reg [
       ⟨some 4, .mv (.c (.nilp)), none⟩,
       ⟨some 5, .mv (.c (.int .i64 1)), none⟩] [4, 5]) (
      .ret)) (
     .no))) (
   .seq (
    .reg [
     ⟨some 13, .mv (.t 0), none⟩,
     ⟨some 14, .mv (.t 1), none⟩,
     ⟨some 15, .call 51 [none, none] [(.t 13), (.t 14)], none⟩,
     ⟨some 16, .call 50 [none] [(.t 15)], none⟩,
     ⟨some 4, .mv (.t 16), none⟩,
     ⟨some 5, .mv (.c (.int .i64 0)), none⟩] [4, 5]) (
    .ret)))
def xr8 : List RT := [.t 4, .t 5]
def xa9 : AS :=
 .seq (
  .reg [
   ⟨some 2, .alc [.nils, .nils, .nils, .nils], none⟩] [0, 2]) (
  .seq (
   .seq (
    .reg [
     ⟨some 3, .mv (.t 0), none⟩,
     ⟨some 4, .eqn false .p (.t 3) (.c (.nilp)), none⟩] [0, 2, 4]) (
    .cond (.t 4) (
     .seq (
      .reg [
       ⟨some 5, .bld [.nils, .nils, .nils, .nils] [], none⟩,
       ⟨none, .st 4 (.t 2) (.t 5), none⟩] [2]) (
      .ret)) (
     .no))) (
   .seq (
    .reg [
     ⟨some 6, .mv (.t 0), none⟩,
     ⟨some 7, .nck (.t 6), none⟩,
     ⟨some 8, .fa 0 (.t 7), none⟩,
     ⟨some 9, .ld (.t 8), none⟩,
     ⟨some 10, .call 52 [none] [(.t 9)], none⟩,
     ⟨none, .st 4 (.t 2) (.t 10), none⟩] [2]) (
    .ret)))
def xr9 : List RT := [.c 2 (some 4)]
def xa10 : AS :=
 .seq (
  .reg [
   ⟨some 2, .mv (.c (.nils)), none⟩] [0]) (
  .seq (
   .seq (
    .reg [
     ⟨some 6, .mv (.t 0), none⟩,
     ⟨some 7, .eqn false .p (.t 6) (.c (.nilp)), none⟩] [0, 7]) (
    .cond (.t 7) (
     .seq (
      .reg [
       ⟨some 2, .mv (.c (.nils)), none⟩] [2]) (
      .ret)) (
     .skip))) (
   .seq (
    .reg [
     ⟨some 3, .mv (.c (.nils)), none⟩] [0, 3]) (
    .seq (
     .seq (
      .reg [
       ⟨some 8, .mv (.t 0), none⟩,
       ⟨some 9, .nck (.t 8), none⟩,
       ⟨some 10, .fa 0 (.t 9), none⟩,
       ⟨some 11, .ld (.t 10), none⟩,
       ⟨some 12, .call 53 [none, none, none] [(.t 11), (.c (.str ⟨#[97]⟩)), (.c (.str ⟨#[98]⟩))], none⟩,
       ⟨some 13, .len .s (.t 12), none⟩,
       ⟨some 14, .mv (.c (.int .i64 0)), none⟩] [3, 12, 13, 14]) (
      .block 0 (
       .loop 1 [3, 12, 13, 14] (
        .seq (
         .reg [
          ⟨some 15, .bin .lss (.t 14) (.t 13), none⟩] [3, 12, 13, 14, 15]) (
         .seq (
          .cond (.t 15) (
           .skip) (
           .exit 0)) (
          .seq (
           .block 1 (
            .seq (
             .reg [
              ⟨some 16, .ia 1 (.t 12) (.t 14), none⟩,
              ⟨some 17, .ld (.t 16), none⟩,
              ⟨some 5, .mv (.t 17), none⟩] [3, 5, 12, 13, 14]) (
             .reg [
              ⟨some 18, .mv (.t 3), none⟩,
              ⟨some 19, .mv (.t 5), none⟩,
              ⟨some 20, .slS (.t 19) (some (.c (.int .i64 1))) none, none⟩,
              ⟨some 21, .bsl 16 .str 1 [(0, (.t 20))], none⟩,
              ⟨some 22, .app 16 .str (.t 18) (.t 21), none⟩,
              ⟨some 3, .mv (.t 22), none⟩] [3, 12, 13, 14]))) (
           .reg [
            ⟨some 23, .bin .add (.t 14) (.c (.int .i64 1)), none⟩,
            ⟨some 14, .mv (.t 23), none⟩] [3, 12, 13, 14]))))))) (
     .seq (
      .reg [
       ⟨some 24, .mv (.t 3), none⟩,
       ⟨some 2, .mv (.t 24), none⟩] [2]) (
      .ret)))))
def xr10 : List RT := [.t 2]
def xa11 : AS :=
 .seq (
  .reg [
   ⟨some 2, .mv (.c (.int .i64 0)), none⟩] [0]) (
  .seq (
   .seq (
    .reg [
     ⟨some 3, .mv (.t 0), none⟩,
     ⟨some 4, .eqn false .p (.t 3) (.c (.nilp)), none⟩] [0, 4]) (
    .cond (.t 4) (
     .seq (
      .reg [
       ⟨some 2, .mv (.c (.int .i64 0)), none⟩] [2]) (
      .ret)) (
     .no))) (
   .seq (
    .reg [
     ⟨some 5, .mv (.t 0), none⟩,
     ⟨some 6, .nck (.t 5), none⟩,
     ⟨some 7, .fa 5 (.t 6), none⟩,
     ⟨some 8, .ld (.t 7), none⟩,
     ⟨some 2, .mv (.t 8), none⟩] [2]) (
    .ret)))
def xr11 : List RT := [.t 2]
def xa12 : AS :=
 .seq (
  .reg [
   ⟨some 2, .box (.t 0), none⟩,
   ⟨some 3, .box (.t 1), none⟩,
   ⟨some 4, .mv (.c (.bool false)), none⟩] [2, 3]) (
  .seq (
   .reg [
    ⟨some 5, .fa 0 (.t 2), none⟩,
    ⟨some 6, .ld (.t 5), none⟩,
    ⟨some 7, .fa 0 (.t 3), none⟩,
    ⟨some 8, .ld (.t 7), none⟩,
    ⟨some 9, .call 54 [none, none] [(.t 6), (.t 8)], none⟩,
    ⟨some 10, .mv (.t 9), none⟩,
    ⟨some 11, .fa 1 (.t 2), (some (10, true))⟩,
    ⟨some 12, .ld (.t 11), (some (10, true))⟩,
    ⟨some 13, .fa 1 (.t 3), (some (10, true))⟩,
    ⟨some 14, .ld (.t 13), (some (10, true))⟩,
    ⟨some 15, .call 55 [none, none] [(.t 12), (.t 14)], (some (10, true))⟩,
    ⟨some 16, .pick (.t 10) (.t 15) (.c (.bool false)), none⟩,
    ⟨some 4, .mv (.t 16), none⟩] [4]) (
   .ret))
def xr12 : List RT := [.t 4]
def xa13 : AS :=
 .seq (
  .reg [
   ⟨some 2, .alc [.nils, .nils], none⟩] [0, 2]) (
  .seq (
   .seq (
    .reg [
     ⟨some 3, .mv (.t 0), none⟩,
     ⟨some 4, .eqn false .p (.t 3) (.c (.nilp)), none⟩] [0, 2, 4]) (
    .cond (.t 4) (
     .seq (
      .reg [
       ⟨some 5, .bld [.nils, .nils] [], none⟩,
       ⟨none, .st 2 (.t 2) (.t 5), none⟩] [2]) (
      .ret)) (
     .no))) (
   .seq (
    .reg [
     ⟨some 6, .mv (.t 0), none⟩,
     ⟨some 7, .nck (.t 6), none⟩,
     ⟨some 8, .fa 6 (.t 7), none⟩,
     ⟨some 9, .ldA 2 (.t 8), none⟩,
     ⟨some 10, .call 56 [none] [(.t 9)], none⟩,
     ⟨none, .st 2 (.t 2) (.t 10), none⟩] [2]) (
    .ret)))
def xr13 : List RT := [.c 2 (some 2)]
def xa14 : AS :=
 .seq (
  .reg [
   ⟨some 2, .mv (.c (.nils)), none⟩] [0]) (
  .seq (
   .seq (
    .reg [
     ⟨some 3, .mv (.t 0), none⟩,
     ⟨some 4, .eqn false .p (.t 3) (.c (.nilp)), none⟩] [0, 4]) (
    .cond (.t 4) (
     .seq (
      .reg [
       ⟨some 2, .mv (.c (.nils)), none⟩] [2]) (
      .ret)) (
     .no))) (
   .seq (
    .reg [
     ⟨some 5, .mv (.t 0), none⟩,
     ⟨some 6, .nck (.t 5), none⟩,
     ⟨some 7, .fa 3 (.t 6), none⟩,
     ⟨some 8, .ld (.t 7), none⟩,
     ⟨some 9, .call 57 [none] [(.t 8)], none⟩,
     ⟨some 2, .mv (.t 9), none⟩] [2]) (
    .ret)))
def xr14 : List RT := [.t 2]
def xa15 : AS :=
 .seq (
  .reg [
   ⟨some 4, .mv (.c (.nils)), none⟩] [0, 1]) (
  .seq (
   .seq (
    .reg [
     ⟨some 5, .mv (.t 0), none⟩,
     ⟨some 6, .eqn false .p (.t 5) (.c (.nilp)), none⟩] [0, 1, 6]) (
    .cond (.t 6) (
     .seq (
      .reg [
       ⟨some 4, .mv (.c (.nils)), none⟩] [4]) (
      .ret)) (
     .no))) (
   .seq (
    .reg [
     ⟨some 7, .mv (.t 0), none⟩,
     ⟨some 8, .nck (.t 7), none⟩,
     ⟨some 9, .fa 4 (.t 8), none⟩,
     ⟨some 10, .ld (.t 9), none⟩,
     ⟨some 11, .mv (.t 1), none⟩,
     ⟨some 12, .call 58 [none, none] [(.t 10), (.t 11)], none⟩,
     ⟨some 4, .mv (.t 12), none⟩] [4]) (
    .ret)))
def xr15 : List RT := [.t 4]
def xa16 : AS :=
 .seq (
  .reg [
   ⟨some 2, .mv (.c (.nils)), none⟩] [0]) (
  .seq (
   .seq (
    .reg [
     ⟨some 3, .mv (.t 0), none⟩,
     ⟨some 4, .eqn false .p (.t 3) (.c (.nilp)), none⟩] [0, 4]) (
    .cond (.t 4) (
     .seq (
      .reg [
       ⟨some 2, .mv (.c (.nils)), none⟩] [2]) (
      .ret)) (
     .no))) (
   .seq (
    .reg [
     ⟨some 5, .mv (.t 0), none⟩,
     ⟨some 6, .nck (.t 5), none⟩,
     ⟨some 7, .fa 1 (.t 6), none⟩,
     ⟨some 8, .ld (.t 7), none⟩,
     ⟨some 9, .call 59 [none] [(.t 8)], none⟩,
     ⟨some 2, .mv (.t 9), none⟩] [2]) (
    .ret)))
def xr16 : List RT := [.t 2]
def xa17 : AS :=
 .seq (
  .reg [
   ⟨some 2, .mv (.c (.nils)), none⟩] [0]) (
  .seq (
   .seq (
    .reg [
     ⟨some 3, .mv (.t 0), none⟩,
     ⟨some 4, .eqn false .p (.t 3) (.c (.nilp)), none⟩] [0, 4]) (
    .cond (.t 4) (
     .seq (
      .reg [
       ⟨some 2, .mv (.c (.nils)), none⟩] [2]) (
      .ret)) (
     .no))) (
   .seq (
    .reg [
     ⟨some 5, .mv (.t 0), none⟩,
     ⟨some 6, .nck (.t 5), none⟩,
     ⟨some 7, .fa 8 (.t 6), none⟩,
     ⟨some 8, .ld (.t 7), none⟩,
     ⟨some 9, .call 60 [none] [(.t 8)], none⟩,
     ⟨some 2, .mv (.t 9), none⟩] [2]) (
    .ret)))
def xr17 : List RT := [.t 2]
def xa18 : AS :=
 .seq (
  .reg [
   ⟨some 2, .mv (.c (.nilp)), none⟩] [0]) (
  .seq (
   .reg [
    ⟨some 3, .mv (.t 0), none⟩,
    ⟨some 4, .mm true (.t 3) (.c (.int .i64 0)), none⟩,
    ⟨some 5, .mm false (.t 4) (.c (.int .i64 65536)), none⟩,
    ⟨some 6, .mks 24 (.sl 1 .byte) (.t 5) (.t 5), none⟩,
    ⟨some 7, .bld [.nils, .nils, .int .i64 0, .bool false] [(0, 1, (.t 6)), (2, 1, (.c (.int .i64 (-1))))], none⟩,
    ⟨some 8, .box (.t 7), none⟩,
    ⟨some 2, .mv (.t 8), none⟩] [2]) (
   .ret))
def xr18 : List RT := [.t 2]
def xa19 : AS :=
 .seq (
  .reg [
   ⟨some 12, .mv (.c (.bool false)), none⟩,
   ⟨some 13, .mv (.c (.int .i64 0)), none⟩] [0, 1, 2, 3, 4, 5]) (
  .seq (
   .seq (
    .reg [
     ⟨some 20, .mv (.t 0), none⟩,
     ⟨some 21, .call 61 [none] [(.t 20)], none⟩,
     ⟨some 14, .mv (.t 21), none⟩] [0, 1, 2, 3, 4, 5, 14]) (
    .seq (
     .reg [
      ⟨some 22, .mv (.t 14), none⟩,
      ⟨some 23, .bin .neq (.t 22) (.c (.int .i64 0)), none⟩] [0, 1, 2, 3, 4, 5, 14, 23]) (
     .cond (.t 23) (
      .seq (
       .reg [
        ⟨some 24, .mv (.t 14), none⟩,
        ⟨some 12, .mv (.c (.bool false)), none⟩,
        ⟨some 13, .mv (.t 24), none⟩] [12, 13]) (
       .ret)) (
      .skip)))) (
   .seq (
    .reg [
     ⟨some 25, .mv (.t 2), none⟩,
     ⟨some 26, .mv (.t 4), none⟩,
     ⟨some 27, .mv (.t 5), none⟩,
     ⟨some 28, .bld [.str ByteArray.empty, .int .u64 0, .int .i64 0, .nils] [(1, 1, (.t 25)), (2, 1, (.t 26)), (3, 1, (.t 27))], none⟩,
     ⟨some 29, .call 62 [none] [(.t 28)], none⟩,
     ⟨some 15, .alc [.str ByteArray.empty, .int .u64 0, .int .i64 0, .nils], none⟩,
     ⟨none, .st 4 (.t 15) (.t 29), none⟩] [0, 1, 2, 3, 15]) (
    .seq (
     .block 0 (
      .seq (
       .reg [
        ⟨some 31, .mv (.t 3), none⟩,
        ⟨some 32, .call 49 [none] [(.t 31)], none⟩,
        ⟨some 33, .not (.t 32), none⟩,
        ⟨some 34, .mv (.t 33), none⟩,
        ⟨some 35, .ldA 4 (.t 15), (some (34, false))⟩,
        ⟨some 36, .call 63 [none] [(.t 35)], (some (34, false))⟩,
        ⟨some 37, .not (.t 36), (some (34, false))⟩,
        ⟨some 38, .pick (.t 34) (.c (.bool true)) (.t 37), none⟩,
        ⟨some 30, .mv (.t 38), none⟩] [0, 1, 2, 3, 15, 30]) (
       .cond (.t 30) (
        .no) (
        .seq (
         .reg [
          ⟨some 42, .mv (.t 0), none⟩,
          ⟨some 43, .nck (.t 42), none⟩,
          ⟨some 44, .fa 4 (.t 43), none⟩,
          ⟨some 45, .ld (.t 44), none⟩,
          ⟨some 46, .mv (.t 1), none⟩,
          ⟨some 47, .mv (.t 2), none⟩,
          ⟨some 48, .call 65 [none, none, none] [(.t 45), (.t 46), (.t 47)], none⟩,
          ⟨some 41, .mv (.t 48), none⟩] [0, 1, 2, 3, 15, 41]) (
         .cond (.t 41) (
          .no) (
          .skip)))))) (
     .seq (
      .reg [
       ⟨some 49, .mv (.t 0), none⟩,
       ⟨some 50, .mv (.t 3), none⟩,
       ⟨some 51, .call 51 [none, none] [(.t 49), (.t 50)], none⟩,
       ⟨some 52, .call 50 [none] [(.t 51)], none⟩,
       ⟨some 16, .mv (.t 52), none⟩] [0, 1, 2, 15, 16]) (
      .seq (
       .regD [
        ⟨some 53, .mv (.t 16), none⟩,
        ⟨some 54, .nck (.t 53), none⟩,
        ⟨some 55, .fa 1 (.t 54), none⟩,
        ⟨some 56, .ld (.t 55), none⟩,
        ⟨some 57, .ldA 4 (.t 15), none⟩,
        ⟨some 58, .call 66 [none, none] [(.t 56), (.t 57)], none⟩,
        ⟨some 17, .mv (.t 58), none⟩] [.q 0, .q 1, .q 2, .q 3, .q 4, .e 5 [], .q 6] [0, 1, 2, 16, 17]) (
       .seq (
        .seq (
         .reg [
          ⟨some 59, .mv (.t 17), none⟩,
          ⟨some 60, .bin .eql (.t 59) (.c (.int .i64 0)), none⟩] [0, 1, 2, 16, 17, 60]) (
         .cond (.t 60) (
          .seq (
           .reg [
            ⟨some 62, .mv (.t 0), none⟩,
            ⟨some 63, .nck (.t 62), none⟩,
            ⟨some 64, .fa 4 (.t 63), none⟩,
            ⟨some 65, .ld (.t 64), none⟩,
            ⟨some 66, .call 67 [none] [(.t 65)], none⟩,
            ⟨some 67, .call 32 [none] [(.t 66)], none⟩,
            ⟨some 61, .mv (.t 67), none⟩,
            ⟨some 68, .ext (.t 61) 0, none⟩,
            ⟨some 69, .ext (.t 61) 1, none⟩,
            ⟨some 18, .mv (.t 68), none⟩,
            ⟨some 19, .mv (.t 69), none⟩] [0, 1, 2, 16, 18]) (
           .seq (
            .reg [
             ⟨some 70, .mv (.t 18), none⟩,
             ⟨some 71, .mv (.t 1), none⟩,
             ⟨some 72, .mv (.t 2), none⟩,
             ⟨some 73, .call 68 [none, none, none] [(.t 70), (.t 71), (.t 72)], none⟩] [0, 16, 18]) (
            .reg [
             ⟨some 74, .mv (.t 0), none⟩,
             ⟨some 75, .mv (.t 16), none⟩,
             ⟨some 76, .bslP 1 [(0, (.t 75))], none⟩,
             ⟨some 77, .mv (.t 18), none⟩,
             ⟨some 78, .bld [.nils, .nilp, .nilp, .nils] [(0, 1, (.t 76)), (2, 1, (.t 77))], none⟩,
             ⟨some 79, .call 69 [none, none] [(.t 74), (.t 78)], none⟩,
             ⟨some 17, .mv (.t 79), none⟩] [0, 17]))) (
          .no))) (
        .seq (
         .seq (
          .reg [
           ⟨some 80, .mv (.t 17), none⟩,
           ⟨some 81, .bin .eql (.t 80) (.c (.int .i64 0)), none⟩] [0, 17, 81]) (
          .cond (.t 81) (
           .reg [
            ⟨some 82, .mv (.t 0), none⟩,
            ⟨some 83, .nck (.t 82), none⟩,
            ⟨some 84, .fa 8 (.t 83), none⟩,
            ⟨some 85, .ld (.t 84), none⟩,
            ⟨some 86, .call 70 [none, none, none] [(.t 85), (.c (.int .i64 0)), (.c (.int .u64 1))], none⟩] [0, 17]) (
           .no))) (
         .seq (
          .reg [
           ⟨some 87, .mv (.t 17), none⟩,
           ⟨some 88, .bin .eql (.t 87) (.c (.int .i64 0)), none⟩,
           ⟨some 89, .mv (.t 0), none⟩,
           ⟨some 90, .mv (.t 17), none⟩,
           ⟨some 91, .call 64 [none, none] [(.t 89), (.t 90)], none⟩,
           ⟨some 12, .mv (.t 88), none⟩,
           ⟨some 13, .mv (.t 91), none⟩] [12, 13]) (
          .ret)))))))))
def xr19 : List RT := [.t 12, .t 13]
def xa21 : AS :=
 .seq (
  .reg [
   ⟨some 2, .mv (.c (.nilp)), none⟩,
   ⟨some 3, .mv (.c (.int .i64 0)), none⟩] [0]) (
  .seq (
   .seq (
    .reg [
     ⟨some 17, .mv (.t 0), none⟩,
     ⟨some 18, .call 71 [none] [(.t 17)], none⟩,
     ⟨some 19, .bin .lss (.t 18) (.c (.int .i64 24)), none⟩] [0, 19]) (
    .cond (.t 19) (
     .seq (
      .reg [
       ⟨some 2, .mv (.c (.nilp)), none⟩,
       ⟨some 3, .mv (.c (.int .i64 1)), none⟩] [2, 3]) (
      .ret)) (
     .skip))) (
   .seq (
    .reg [
     ⟨some 20, .mv (.t 0), none⟩,
     ⟨some 21, .mkm false .str (.sl 1 .byte), none⟩,
     ⟨some 22, .mkm false .str .bool, none⟩,
     ⟨some 23, .bld [.nilp, .nilp, .nilp, .nilp, .nilp, .int .u64 0, .nilm, .nilm, .int .i64 0, .bool false] [(0, 1, (.t 20)), (5, 1, (.c (.int .u64 1))), (6, 1, (.t 21)), (7, 1, (.t 22))], none⟩,
     ⟨some 24, .box (.t 23), none⟩,
     ⟨some 4, .mv (.t 24), none⟩] [0, 4]) (
    .seq (
     .reg [
      ⟨some 5, .mv (.c (.int .i64 0)), none⟩] [0, 4]) (
     .seq (
      .seq (
       .reg [
        ⟨some 26, .mv (.t 4), none⟩,
        ⟨some 27, .mv (.t 0), none⟩,
        ⟨some 28, .call 72 [none] [(.t 27)], none⟩,
        ⟨some 25, .mv (.t 28), none⟩,
        ⟨some 29, .ext (.t 25) 0, none⟩,
        ⟨some 30, .ext (.t 25) 1, none⟩,
        ⟨some 31, .nck (.t 26), none⟩,
        ⟨some 32, .fa 1 (.t 31), none⟩,
        ⟨none, .st 1 (.t 32) (.t 29), none⟩,
        ⟨some 5, .mv (.t 30), none⟩] [0, 4, 5]) (
       .seq (
        .reg [
         ⟨some 33, .mv (.t 5), none⟩,
         ⟨some 34, .bin .neq (.t 33) (.c (.int .i64 0)), none⟩] [0, 4, 34]) (
        .cond (.t 34) (
         .no) (
         .skip)))) (
      .seq (
       .reg [
        ⟨some 6, .mv (.c (.int .i64 0)), none⟩] [0, 4, 6]) (
       .seq (
        .seq (
         .reg [
          ⟨some 35, .mv (.t 4), none⟩,
          ⟨some 36, .nck (.t 35), none⟩,
          ⟨some 37, .fa 1 (.t 36), none⟩,
          ⟨some 38, .ld (.t 37), none⟩,
          ⟨some 39, .call 73 [none] [(.t 38)], none⟩,
          ⟨some 40, .bin .gtr (.t 39) (.c (.int .u64 0)), none⟩] [0, 4, 6, 40]) (
         .cond (.t 40) (
          .no) (
          .skip))) (
        .seq (
         .reg [
          ⟨some 56, .mv (.t 0), none⟩,
          ⟨some 57, .call 76 [none] [(.t 56)], none⟩,
          ⟨some 55, .mv (.t 57), none⟩,
          ⟨some 58, .ext (.t 55) 0, none⟩,
          ⟨some 59, .ext (.t 55) 1, none⟩,
          ⟨some 60, .ext (.t 55) 2, none⟩,
          ⟨some 61, .ext (.t 55) 3, none⟩,
          ⟨some 8, .mv (.t 58), none⟩,
          ⟨some 9, .mv (.t 59), none⟩,
          ⟨some 10, .mv (.t 60), none⟩,
          ⟨some 11, .mv (.t 61), none⟩] [0, 4, 6, 8, 9, 10, 11]) (
         .seq (
          .reg [
           ⟨some 63, .mv (.t 0), none⟩,
           ⟨some 64, .mv (.t 10), none⟩,
           ⟨some 65, .mv (.t 11), none⟩,
           ⟨some 66, .mv (.t 6), none⟩,
           ⟨some 67, .call 77 [none, none, none, none] [(.t 63), (.t 64), (.t 65), (.t 66)], none⟩,
           ⟨some 62, .mv (.t 67), none⟩,
           ⟨some 68, .ext (.t 62) 0, none⟩,
           ⟨some 69, .ext (.t 62) 1, none⟩,
           ⟨some 12, .mv (.t 68), none⟩,
           ⟨some 5, .mv (.t 69), none⟩] [0, 4, 5, 6, 8, 9, 10, 11, 12]) (
          .seq (
           .seq (
            .reg [
             ⟨some 70, .mv (.t 5), none⟩,
             ⟨some 71, .bin .eql (.t 70) (.c (.int .i64 0)), none⟩] [0, 4, 5, 6, 8, 9, 10, 11, 12, 71]) (
            .cond (.t 71) (
             .reg [
              ⟨some 73, .mv (.t 4), none⟩,
              ⟨some 74, .mv (.t 0), none⟩,
              ⟨some 75, .mv (.t 10), none⟩,
              ⟨some 76, .mv (.t 11), none⟩,
              ⟨some 77, .mv (.t 12), none⟩,
              ⟨some 78, .call 78 [none, none, none, none] [(.t 74), (.t 75), (.t 76), (.t 77)], none⟩,
              ⟨some 72, .mv (.t 78), none⟩,
              ⟨some 79, .ext (.t 72) 0, none⟩,
              ⟨some 80, .ext (.t 72) 1, none⟩,
              ⟨some 81, .nck (.t 73), none⟩,
              ⟨some 82, .fa 3 (.t 81), none⟩,
              ⟨none, .st 1 (.t 82) (.t 79), none⟩,
              ⟨some 5, .mv (.t 80), none⟩] [0, 4, 5, 6, 8, 9]) (
             .no))) (
           .seq (
            .seq (
             .reg [
              ⟨some 83, .mv (.t 5), none⟩,
              ⟨some 84, .bin .eql (.t 83) (.c (.int .i64 0)), none⟩] [0, 4, 5, 6, 8, 9, 84]) (
             .cond (.t 84) (
              .reg [
               ⟨some 86, .mv (.t 4), none⟩,
               ⟨some 87, .mv (.t 4), none⟩,
               ⟨some 88, .nck (.t 87), none⟩,
               ⟨some 89, .fa 3 (.t 88), none⟩,
               ⟨some 90, .ld (.t 89), none⟩,
               ⟨some 91, .mv (.t 6), none⟩,
               ⟨some 92, .call 79 [none, none] [(.t 90), (.t 91)], none⟩,
               ⟨some 85, .mv (.t 92), none⟩,
               ⟨some 93, .ext (.t 85) 0, none⟩,
               ⟨some 94, .ext (.t 85) 1, none⟩,
               ⟨some 95, .nck (.t 86), none⟩,
               ⟨some 96, .fa 4 (.t 95), none⟩,
               ⟨none, .st 1 (.t 96) (.t 93), none⟩,
               ⟨some 5, .mv (.t 94), none⟩] [0, 4, 5, 8, 9]) (
              .no))) (
            .seq (
             .seq (
              .reg [
               ⟨some 97, .mv (.t 5), none⟩,
               ⟨some 98, .bin .eql (.t 97) (.c (.int .i64 0)), none⟩] [0, 4, 5, 8, 9, 98]) (
              .cond (.t 98) (
               .reg [
                ⟨some 100, .mv (.t 4), none⟩,
                ⟨some 101, .mv (.t 0), none⟩,
                ⟨some 102, .mv (.t 8), none⟩,
                ⟨some 103, .mv (.t 9), none⟩,
                ⟨some 104, .mv (.t 4), none⟩,
                ⟨some 105, .nck (.t 104), none⟩,
                ⟨some 106, .fa 5 (.t 105), none⟩,
                ⟨some 107, .ld (.t 106), none⟩,
                ⟨some 108, .call 80 [none, none, none, none] [(.t 101), (.t 102), (.t 103), (.t 107)], none⟩,
                ⟨some 99, .mv (.t 108), none⟩,
                ⟨some 109, .ext (.t 99) 0, none⟩,
                ⟨some 110, .ext (.t 99) 1, none⟩,
                ⟨some 111, .nck (.t 100), none⟩,
                ⟨some 112, .fa 2 (.t 111), none⟩,
                ⟨none, .st 1 (.t 112) (.t 109), none⟩,
                ⟨some 5, .mv (.t 110), none⟩] [4, 5]) (
               .no))) (
             .seq (
              .seq (
               .reg [
                ⟨some 113, .mv (.t 5), none⟩,
                ⟨some 114, .bin .neq (.t 113) (.c (.int .i64 0)), none⟩] [4, 114]) (
               .cond (.t 114) (
                .no) (
                .skip))) (
              .seq (
               .seq (
                .reg [
                 ⟨some 115, .mv (.t 4), none⟩,
                 ⟨some 116, .nck (.t 115), none⟩,
                 ⟨some 117, .fa 4 (.t 116), none⟩,
                 ⟨some 118, .ld (.t 117), none⟩,
                 ⟨some 119, .call 81 [none, none, none] [(.t 118), (.c (.str ByteArray.empty)), (.c (.str ByteArray.empty))], none⟩,
                 ⟨some 120, .len .s (.t 119), none⟩,
                 ⟨some 121, .mv (.c (.int .i64 0)), none⟩] [4, 119, 120, 121]) (
                .block 0 (
                 .loop 1 [4, 119, 120, 121] (
                  .seq (
                   .reg [
                    ⟨some 122, .bin .lss (.t 121) (.t 120), none⟩] [4, 119, 120, 121, 122]) (
                   .seq (
                    .cond (.t 122) (
                     .no) (
                     .exit 0)) (
                    .seq (
                     .block 1 (
                      .seq (
                       .reg [
                        ⟨some 123, .ia 1 (.t 119) (.t 121), none⟩,
                        ⟨some 124, .ld (.t 123), none⟩,
                        ⟨some 14, .mv (.t 124), none⟩] [4, 14, 119, 120, 121]) (
                       .regD [
                        ⟨some 126, .mv (.t 4), none⟩,
                        ⟨some 127, .nck (.t 126), none⟩,
                        ⟨some 128, .fa 6 (.t 127), none⟩,
                        ⟨some 129, .ld (.t 128), none⟩,
                        ⟨some 130, .mv (.t 14), none⟩,
                        ⟨some 131, .mv (.t 4), none⟩,
                        ⟨some 132, .nck (.t 131), none⟩,
                        ⟨some 133, .fa 4 (.t 132), none⟩,
                        ⟨some 134, .ld (.t 133), none⟩,
                        ⟨some 135, .mv (.t 14), none⟩,
                        ⟨some 136, .call 82 [none, none] [(.t 134), (.t 135)], none⟩,
                        ⟨some 125, .mv (.t 136), none⟩,
                        ⟨some 137, .ext (.t 125) 0, none⟩,
                        ⟨some 138, .ext (.t 125) 1, none⟩,
                        ⟨none, .mu false .str (.sl 1 .byte) (.t 129) (.t 130) (.t 137), none⟩] [.q 0, .q 1, .q 2, .q 3, .q 4, .q 5, .q 6, .q 7, .q 8, .q 9, .e 10 [0, 1, 2, 3, 4], .q 11, .q 12, .q 13, .e 14 [13]] [4, 119, 120, 121]))) (
                     .reg [
                      ⟨some 139, .bin .add (.t 121) (.c (.int .i64 1)), none⟩,
                      ⟨some 121, .mv (.t 139), none⟩] [4, 119, 120, 121]))))))) (
               .seq (
                .seq (
                 .reg [
                  ⟨some 140, .mv (.t 4), none⟩,
                  ⟨some 141, .nck (.t 140), none⟩,
                  ⟨some 142, .fa 2 (.t 141), none⟩,
                  ⟨some 143, .ld (.t 142), none⟩,
                  ⟨some 144, .call 83 [none] [(.t 143)], none⟩,
                  ⟨some 145, .len .s (.t 144), none⟩,
                  ⟨some 146, .mv (.c (.int .i64 0)), none⟩] [4, 144, 145, 146]) (
                 .block 2 (
                  .loop 2 [4, 144, 145, 146] (
                   .seq (
                    .reg [
                     ⟨some 147, .bin .lss (.t 146) (.t 145), none⟩] [4, 144, 145, 146, 147]) (
                    .seq (
                     .cond (.t 147) (
                      .no) (
                      .exit 2)) (
                     .seq (
                      .block 3 (
                       .seq (
                        .reg [
                         ⟨some 148, .ia 1 (.t 144) (.t 146), none⟩,
                         ⟨some 149, .ld (.t 148), none⟩,
                         ⟨some 16, .mv (.t 149), none⟩] [4, 16, 144, 145, 146]) (
                        .seq (
                         .reg [
                          ⟨some 150, .mv (.t 4), none⟩,
                          ⟨some 151, .mv (.t 16), none⟩,
                          ⟨some 152, .call 85 [none] [(.t 151)], none⟩,
                          ⟨some 153, .call 84 [none, none] [(.t 150), (.t 152)], none⟩] [4, 144, 145, 146]) (
                         .reg [
                          ⟨some 154, .mv (.t 4), none⟩,
                          ⟨some 155, .nck (.t 154), none⟩,
                          ⟨some 156, .fa 8 (.t 155), none⟩,
                          ⟨some 157, .ld (.t 156), none⟩,
                          ⟨some 158, .bin .add (.t 157) (.c (.int .i64 1)), none⟩,
                          ⟨some 159, .nck (.t 154), none⟩,
                          ⟨some 160, .fa 8 (.t 159), none⟩,
                          ⟨none, .st 1 (.t 160) (.t 158), none⟩] [4, 144, 145, 146])))) (
                      .reg [
                       ⟨some 161, .bin .add (.t 146) (.c (.int .i64 1)), none⟩,
                       ⟨some 146, .mv (.t 161), none⟩] [4, 144, 145, 146]))))))) (
                .seq (
                 .reg [
                  ⟨some 162, .mv (.t 4), none⟩,
                  ⟨some 2, .mv (.t 162), none⟩,
                  ⟨some 3, .mv (.c (.int .i64 0)), none⟩] [2, 3]) (
                 .ret))))))))))))))))
def xr21 : List RT := [.t 2, .t 3]
def xa22 : AS :=
 .seq (
  .reg [
   ⟨some 2, .mv (.c (.nilp)), none⟩] [0]) (
  .seq (
   .reg [
    ⟨some 3, .mv (.t 0), none⟩,
    ⟨some 4, .mm true (.t 3) (.c (.int .i64 1)), none⟩,
    ⟨some 5, .mm false (.t 4) (.c (.int .i64 10000)), none⟩,
    ⟨some 6, .bld [.int .i64 0, .nils] [(0, 1, (.t 5))], none⟩,
    ⟨some 7, .box (.t 6), none⟩,
    ⟨some 2, .mv (.t 7), none⟩] [2]) (
   .ret))
def xr22 : List RT := [.t 2]
def xa23 : AS :=
 .seq (
  .reg [
   ⟨some 0, .mv (.c (.nilp)), none⟩] []) (
  .seq (
   .reg [
    ⟨some 1, .bld [.nils] [], none⟩,
    ⟨some 2, .box (.t 1), none⟩,
    ⟨some 0, .mv (.t 2), none⟩] [0]) (
   .ret))
def xr23 : List RT := [.t 0]
def xa24 : AS :=
 .seq (
  .reg [
   ⟨some 0, .mv (.c (.nilp)), none⟩] []) (
  .seq (
   .reg [
    ⟨some 1, .bld [.nilm, .nils] [], none⟩,
    ⟨some 2, .box (.t 1), none⟩,
    ⟨some 0, .mv (.t 2), none⟩] [0]) (
   .ret))
def xr24 : List RT := [.t 0]
def xa25 : AS :=
 .seq (
  .reg [
   ⟨some 0, .mv (.c (.nilp)), none⟩] []) (
  .seq (
   .reg [
    ⟨some 1, .bld [.arr 8 (.pair .unit (.pair .unit (.int .u64))) (List.replicate 8 (Ty.dflt (.pair .unit (.pair .unit (.int .u64)))))] [], none⟩,
    ⟨some 2, .box (.t 1), none⟩,
    ⟨some 0, .mv (.t 2), none⟩] [0]) (
   .ret))
def xr25 : List RT := [.t 0]
def xa26 : AS :=
 .seq (
  .reg [
   ⟨some 4, .mv (.c (.nils)), none⟩,
   ⟨some 5, .mv (.c (.bool false)), none⟩] [0, 1]) (
  .seq (
   .seq (
    .reg [
     ⟨some 8, .mv (.t 0), none⟩,
     ⟨some 9, .eqn false .p (.t 8) (.c (.nilp)), none⟩] [0, 1, 9]) (
    .cond (.t 9) (
     .no) (
     .skip))) (
   .seq (
    .reg [
     ⟨some 11, .mv (.t 0), none⟩,
     ⟨some 12, .nck (.t 11), none⟩,
     ⟨some 13, .fa 6 (.t 12), none⟩,
     ⟨some 14, .ld (.t 13), none⟩,
     ⟨some 15, .mv (.t 1), none⟩,
     ⟨some 16, .lk false .str (.sl 1 .byte) true (.t 14) (.t 15), none⟩,
     ⟨some 10, .mv (.t 16), none⟩,
     ⟨some 17, .ext (.t 10) 0, none⟩,
     ⟨some 18, .ext (.t 10) 1, none⟩,
     ⟨some 6, .mv (.t 17), none⟩,
     ⟨some 7, .mv (.t 18), none⟩] [6, 7]) (
    .seq (
     .reg [
      ⟨some 19, .mv (.t 6), none⟩,
      ⟨some 20, .call 86 [none] [(.t 19)], none⟩,
      ⟨some 21, .mv (.t 7), none⟩,
      ⟨some 4, .mv (.t 20), none⟩,
      ⟨some 5, .mv (.t 21), none⟩] [4, 5]) (
     .ret))))
def xr26 : List RT := [.t 4, .t 5]
def xa27 : AS :=
 .seq (
  .reg [
   ⟨some 2, .mv (.c (.nilp)), none⟩] [0]) (
  .seq (
   .reg [
    ⟨some 3, .bsl 1 .byte 0 [], none⟩,
    ⟨some 4, .mv (.t 0), none⟩,
    ⟨some 5, .app 1 .byte (.t 3) (.t 4), none⟩,
    ⟨some 6, .bld [.nils, .bool false] [(0, 1, (.t 5))], none⟩,
    ⟨some 7, .box (.t 6), none⟩,
    ⟨some 2, .mv (.t 7), none⟩] [2]) (
   .ret))
def xr27 : List RT := [.t 2]
def xa28 : AS :=
 .seq (
  .reg [
   ⟨some 2, .mv (.c (.int .i64 0)), none⟩] [0]) (
  .seq (
   .reg [
    ⟨some 4, .mv (.t 0), none⟩,
    ⟨some 5, .call 75 [none] [(.t 4)], none⟩,
    ⟨some 3, .mv (.t 5), none⟩] [3]) (
   .seq (
    .reg [
     ⟨some 6, .mv (.t 3), none⟩,
     ⟨some 7, .bin .shr (.t 6) (.c (.int .u64 1)), none⟩,
     ⟨some 8, .cv .i64 (.t 7), none⟩,
     ⟨some 9, .mv (.t 3), none⟩,
     ⟨some 10, .bin .and (.t 9) (.c (.int .u64 1)), none⟩,
     ⟨some 11, .cv .i64 (.t 10), none⟩,
     ⟨some 12, .neg (.t 11), none⟩,
     ⟨some 13, .bin .xor (.t 8) (.t 12), none⟩,
     ⟨some 2, .mv (.t 13), none⟩] [2]) (
    .ret)))
def xr28 : List RT := [.t 2]
def xa29 : AS :=
 .seq (
  .reg [
   ⟨some 2, .mv (.c (.bool false)), none⟩] [0]) (
  .seq (
   .reg [
    ⟨some 3, .mv (.t 0), none⟩,
    ⟨some 4, .eqn true .p (.t 3) (.c (.nilp)), none⟩,
    ⟨some 5, .mv (.t 4), none⟩,
    ⟨some 6, .mv (.t 0), (some (5, true))⟩,
    ⟨some 7, .nck (.t 6), (some (5, true))⟩,
    ⟨some 8, .fa 1 (.t 7), (some (5, true))⟩,
    ⟨some 9, .ld (.t 8), (some (5, true))⟩,
    ⟨some 10, .not (.t 9), (some (5, true))⟩,
    ⟨some 11, .pick (.t 5) (.t 10) (.c (.bool false)), none⟩,
    ⟨some 12, .mv (.t 11), none⟩,
    ⟨some 13, .mv (.t 0), (some (12, true))⟩,
    ⟨some 14, .nck (.t 13), (some (12, true))⟩,
    ⟨some 15, .fa 0 (.t 14), (some (12, true))⟩,
    ⟨some 16, .ld (.t 15), (some (12, true))⟩,
    ⟨some 17, .len .s (.t 16), (some (12, true))⟩,
    ⟨some 18, .bin .eql (.t 17) (.c (.int .i64 0)), (some (12, true))⟩,
    ⟨some 19, .pick (.t 12) (.t 18) (.c (.bool false)), none⟩,
    ⟨some 2, .mv (.t 19), none⟩] [2]) (
   .ret))
def xr29 : List RT := [.t 2]
def xa32 : AS :=
 .seq (
  .reg [
   ⟨some 2, .mv (.c (.nilp)), none⟩,
   ⟨some 3, .mv (.c (.int .i64 0)), none⟩] [0]) (
  .seq (
   .reg [
    ⟨some 10, .mv (.t 0), none⟩,
    ⟨some 11, .call 27 [none] [(.t 10)], none⟩,
    ⟨some 4, .mv (.t 11), none⟩] [4]) (
   .seq (
    .reg [
     ⟨some 12, .mv (.t 4), none⟩,
     ⟨some 13, .call 75 [none] [(.t 12)], none⟩,
     ⟨some 5, .mv (.t 13), none⟩] [4, 5]) (
    .seq (
     .seq (
      .reg [
       ⟨some 14, .mv (.t 5), none⟩,
       ⟨some 15, .bin .gtr (.t 14) (.c (.int .u64 64)), none⟩] [4, 5, 15]) (
      .cond (.t 15) (
       .no) (
       .skip))) (
     .seq (
      .reg [
       ⟨some 16, .call 24 [] [], none⟩,
       ⟨some 6, .mv (.t 16), none⟩] [4, 5, 6]) (
      .seq (
       .seq (
        .reg [
         ⟨some 17, .mv (.t 5), none⟩,
         ⟨some 18, .mv (.c (.int .u64 0)), none⟩] [4, 6, 17, 18]) (
        .block 0 (
         .loop 1 [4, 6, 17, 18] (
          .seq (
           .reg [
            ⟨some 19, .bin .lss (.t 18) (.t 17), none⟩] [4, 6, 17, 18, 19]) (
           .seq (
            .cond (.t 19) (
             .no) (
             .exit 0)) (
            .seq (
             .block 1 (
              .seq (
               .reg [
                ⟨some 20, .mv (.t 4), none⟩,
                ⟨some 21, .call 75 [none] [(.t 20)], none⟩,
                ⟨some 22, .mv (.t 4), none⟩,
                ⟨some 23, .call 75 [none] [(.t 22)], none⟩,
                ⟨some 7, .mv (.t 21), none⟩,
                ⟨some 8, .mv (.t 23), none⟩] [4, 6, 7, 8, 17, 18]) (
               .seq (
                .seq (
                 .reg [
                  ⟨some 24, .mv (.t 4), none⟩,
                  ⟨some 25, .call 89 [none] [(.t 24)], none⟩,
                  ⟨some 26, .mv (.t 25), none⟩,
                  ⟨some 27, .mv (.t 8), (some (26, false))⟩,
                  ⟨some 28, .bin .lss (.t 27) (.c (.int .u64 1)), (some (26, false))⟩,
                  ⟨some 29, .pick (.t 26) (.c (.bool true)) (.t 28), none⟩,
                  ⟨some 30, .mv (.t 29), none⟩,
                  ⟨some 31, .mv (.t 8), (some (30, false))⟩,
                  ⟨some 32, .bin .gtr (.t 31) (.c (.int .u64 4)), (some (30, false))⟩,
                  ⟨some 33, .pick (.t 30) (.c (.bool true)) (.t 32), none⟩,
                  ⟨some 34, .mv (.t 33), none⟩,
                  ⟨some 35, .mv (.t 6), (some (34, false))⟩,
                  ⟨some 36, .nck (.t 35), (some (34, false))⟩,
                  ⟨some 37, .fa 1 (.t 36), (some (34, false))⟩,
                  ⟨some 38, .ld (.t 37), (some (34, false))⟩,
                  ⟨some 39, .mv (.t 7), (some (34, false))⟩,
                  ⟨some 40, .call 93 [none, none] [(.t 38), (.t 39)], (some (34, false))⟩,
                  ⟨some 41, .pick (.t 34) (.c (.bool true)) (.t 40), none⟩] [4, 6, 7, 8, 17, 18, 41]) (
                 .cond (.t 41) (
                  .no) (
                  .no))) (
                .seq (
                 .reg [
                  ⟨some 42, .mv (.t 8), none⟩,
                  ⟨some 43, .mv (.c (.int .u64 0)), none⟩] [4, 6, 7, 17, 18, 42, 43]) (
                 .block 2 (
                  .loop 2 [4, 6, 7, 17, 18, 42, 43] (
                   .seq (
                    .reg [
                     ⟨some 44, .bin .lss (.t 43) (.t 42), none⟩] [4, 6, 7, 17, 18, 42, 43, 44]) (
                    .seq (
                     .cond (.t 44) (
                      .no) (
                      .no)) (
                     .seq (
                      .block 3 (
                       .seq (
                        .reg [
                         ⟨some 45, .mv (.t 4), none⟩,
                         ⟨some 46, .call 75 [none] [(.t 45)], none⟩,
                         ⟨some 9, .mv (.t 46), none⟩] [4, 6, 7, 9, 17, 18, 42, 43]) (
                        .seq (
                         .reg [
                          ⟨some 47, .mv (.t 4), none⟩,
                          ⟨some 48, .call 89 [none] [(.t 47)], none⟩,
                          ⟨some 49, .mv (.t 48), none⟩,
                          ⟨some 50, .mv (.t 6), (some (49, false))⟩,
                          ⟨some 51, .mv (.t 7), (some (49, false))⟩,
                          ⟨some 52, .mv (.t 9), (some (49, false))⟩,
                          ⟨some 53, .call 68 [none, none, none] [(.t 50), (.t 51), (.t 52)], (some (49, false))⟩,
                          ⟨some 54, .not (.t 53), (some (49, false))⟩,
                          ⟨some 55, .pick (.t 49) (.c (.bool true)) (.t 54), none⟩] [4, 6, 7, 17, 18, 42, 43, 55]) (
                         .cond (.t 55) (
                          .no) (
                          .no))))) (
                      .reg [
                       ⟨some 56, .bin .add (.t 43) (.c (.int .u64 1)), none⟩,
                       ⟨some 43, .mv (.t 56), none⟩] [4, 6, 7, 17, 18, 42, 43])))))))))) (
             .reg [
              ⟨some 57, .bin .add (.t 18) (.c (.int .u64 1)), none⟩,
              ⟨some 18, .mv (.t 57), none⟩] [4, 6, 17, 18]))))))) (
       .seq (
        .seq (
         .reg [
          ⟨some 58, .mv (.t 4), none⟩,
          ⟨some 59, .call 29 [none] [(.t 58)], none⟩,
          ⟨some 60, .not (.t 59), none⟩] [6, 60]) (
         .cond (.t 60) (
          .no) (
          .skip))) (
        .seq (
         .reg [
          ⟨some 61, .mv (.t 6), none⟩,
          ⟨some 2, .mv (.t 61), none⟩,
          ⟨some 3, .mv (.c (.int .i64 0)), none⟩] [2, 3]) (
         .ret))))))))
def xr32 : List RT := [.t 2, .t 3]
def xa33 : AS :=
 .seq (
  .reg [
   ⟨some 2, .mv (.c (.nilp)), none⟩,
   ⟨some 3, .mv (.c (.int .i64 0)), none⟩] [0]) (
  .seq (
   .reg [
    ⟨some 8, .mv (.t 0), none⟩,
    ⟨some 9, .call 27 [none] [(.t 8)], none⟩,
    ⟨some 4, .mv (.t 9), none⟩] [4]) (
   .seq (
    .reg [
     ⟨some 10, .mv (.t 4), none⟩,
     ⟨some 11, .call 75 [none] [(.t 10)], none⟩,
     ⟨some 5, .mv (.t 11), none⟩] [4, 5]) (
    .seq (
     .reg [
      ⟨some 12, .mv (.t 5), none⟩,
      ⟨some 13, .mm false (.t 12) (.c (.int .u64 3)), none⟩,
      ⟨some 14, .cv .i64 (.t 13), none⟩,
      ⟨some 15, .bld [.nilp, .nilp, .nilp, .int .i64 0, .nils] [(3, 1, (.t 14))], none⟩,
      ⟨some 16, .box (.t 15), none⟩,
      ⟨some 6, .mv (.t 16), none⟩] [4, 6]) (
     .seq (
      .reg [
       ⟨some 7, .alc [.arr 4 (.int .i64) (List.replicate 4 (Ty.dflt (.int .i64)))], none⟩] [4, 6, 7]) (
      .seq (
       .reg [
        ⟨some 18, .mv (.t 6), none⟩,
        ⟨some 19, .mv (.t 4), none⟩,
        ⟨some 20, .call 87 [none] [(.t 19)], none⟩,
        ⟨some 21, .s2b (.t 20), none⟩,
        ⟨some 22, .call 94 [none] [(.t 21)], none⟩,
        ⟨some 17, .mv (.t 22), none⟩,
        ⟨some 23, .ext (.t 17) 0, none⟩,
        ⟨some 24, .ext (.t 17) 1, none⟩,
        ⟨some 25, .nck (.t 18), none⟩,
        ⟨some 26, .fa 0 (.t 25), none⟩,
        ⟨none, .st 1 (.t 26) (.t 23), none⟩,
        ⟨some 27, .iaA 4 1 (.t 7) (.c (.int .i64 0)), none⟩,
        ⟨none, .st 1 (.t 27) (.t 24), none⟩] [4, 6, 7]) (
       .seq (
        .reg [
         ⟨some 29, .mv (.t 6), none⟩,
         ⟨some 30, .mv (.t 4), none⟩,
         ⟨some 31, .call 87 [none] [(.t 30)], none⟩,
         ⟨some 32, .s2b (.t 31), none⟩,
         ⟨some 33, .call 95 [none] [(.t 32)], none⟩,
         ⟨some 28, .mv (.t 33), none⟩,
         ⟨some 34, .ext (.t 28) 0, none⟩,
         ⟨some 35, .ext (.t 28) 1, none⟩,
         ⟨some 36, .nck (.t 29), none⟩,
         ⟨some 37, .fa 1 (.t 36), none⟩,
         ⟨none, .st 1 (.t 37) (.t 34), none⟩,
         ⟨some 38, .iaA 4 1 (.t 7) (.c (.int .i64 1)), none⟩,
         ⟨none, .st 1 (.t 38) (.t 35), none⟩] [4, 6, 7]) (
        .seq (
         .reg [
          ⟨some 40, .mv (.t 6), none⟩,
          ⟨some 41, .mv (.t 4), none⟩,
          ⟨some 42, .call 87 [none] [(.t 41)], none⟩,
          ⟨some 43, .s2b (.t 42), none⟩,
          ⟨some 44, .call 96 [none] [(.t 43)], none⟩,
          ⟨some 39, .mv (.t 44), none⟩,
          ⟨some 45, .ext (.t 39) 0, none⟩,
          ⟨some 46, .ext (.t 39) 1, none⟩,
          ⟨some 47, .nck (.t 40), none⟩,
          ⟨some 48, .fa 2 (.t 47), none⟩,
          ⟨none, .st 1 (.t 48) (.t 45), none⟩,
          ⟨some 49, .iaA 4 1 (.t 7) (.c (.int .i64 2)), none⟩,
          ⟨none, .st 1 (.t 49) (.t 46), none⟩] [4, 6, 7]) (
         .seq (
          .reg [
           ⟨some 51, .mv (.t 6), none⟩,
           ⟨some 52, .mv (.t 4), none⟩,
           ⟨some 53, .call 87 [none] [(.t 52)], none⟩,
           ⟨some 54, .s2b (.t 53), none⟩,
           ⟨some 55, .call 97 [none] [(.t 54)], none⟩,
           ⟨some 50, .mv (.t 55), none⟩,
           ⟨some 56, .ext (.t 50) 0, none⟩,
           ⟨some 57, .ext (.t 50) 1, none⟩,
           ⟨some 58, .nck (.t 51), none⟩,
           ⟨some 59, .fa 4 (.t 58), none⟩,
           ⟨none, .st 1 (.t 59) (.t 56), none⟩,
           ⟨some 60, .iaA 4 1 (.t 7) (.c (.int .i64 3)), none⟩,
           ⟨none, .st 1 (.t 60) (.t 57), none⟩] [4, 6, 7]) (
          .seq (
           .seq (
            .reg [
             ⟨some 61, .mv (.t 4), none⟩,
             ⟨some 62, .call 29 [none] [(.t 61)], none⟩,
             ⟨some 63, .not (.t 62), none⟩,
             ⟨some 64, .mv (.t 63), none⟩,
             ⟨some 65, .ldA 4 (.t 7), (some (64, false))⟩,
             ⟨some 66, .bldA [.int .i64 0, .int .i64 0, .int .i64 0, .int .i64 0] 4 (.int .i64) [], (some (64, false))⟩,
             ⟨some 67, .eqR true 4 (.t 65) (.t 66), (some (64, false))⟩,
             ⟨some 68, .pick (.t 64) (.c (.bool true)) (.t 67), none⟩,
             ⟨some 69, .mv (.t 68), none⟩,
             ⟨some 70, .mv (.t 6), (some (69, false))⟩,
             ⟨some 71, .call 98 [none] [(.t 70)], (some (69, false))⟩,
             ⟨some 72, .not (.t 71), (some (69, false))⟩,
             ⟨some 73, .pick (.t 69) (.c (.bool true)) (.t 72), none⟩] [6, 73]) (
            .cond (.t 73) (
             .no) (
             .skip))) (
           .seq (
            .reg [
             ⟨some 74, .mv (.t 6), none⟩,
             ⟨some 2, .mv (.t 74), none⟩,
             ⟨some 3, .mv (.c (.int .i64 0)), none⟩] [2, 3]) (
            .ret)))))))))))
def xr33 : List RT := [.t 2, .t 3]
def xa34 : AS :=
 .seq (
  .reg [
   ⟨some 2, .mv (.c (.str ByteArray.empty)), none⟩] [0]) (
  .seq (
   .seq (
    .reg [
     ⟨some 3, .mv (.t 0), none⟩,
     ⟨some 4, .eqn false .p (.t 3) (.c (.nilp)), none⟩] [0, 4]) (
    .cond (.t 4) (
     .no) (
     .skip))) (
   .seq (
    .reg [
     ⟨some 5, .mv (.t 0), none⟩,
     ⟨some 6, .nck (.t 5), none⟩,
     ⟨some 7, .fa 2 (.t 6), none⟩,
     ⟨some 8, .ld (.t 7), none⟩,
     ⟨some 9, .call 99 [none] [(.t 8)], none⟩,
     ⟨some 2, .mv (.t 9), none⟩] [2]) (
    .ret)))
def xr34 : List RT := [.t 2]
def xa35 : AS :=
 .seq (
  .reg [
   ⟨some 2, .mv (.c (.str ByteArray.empty)), none⟩] [0]) (
  .seq (
   .seq (
    .reg [
     ⟨some 3, .mv (.t 0), none⟩] [3]) (
    .cond (.t 3) (
     .no) (
     .skip))) (
   .seq (
    .reg [
     ⟨some 2, .mv (.c (.str ⟨#[110, 111]⟩)), none⟩] [2]) (
    .ret)))
def xr35 : List RT := [.t 2]
def xa36 : AS :=
 .seq (
  .reg [
   ⟨some 4, .alc [.bool false, .bool false, .int .i64 0, .int .i64 0, .nils], none⟩,
   ⟨some 5, .mv (.c (.int .i64 0)), none⟩] [0, 1, 4]) (
  .seq (
   .seq (
    .reg [
     ⟨some 13, .mv (.t 0), none⟩,
     ⟨some 14, .call 61 [none] [(.t 13)], none⟩,
     ⟨some 6, .mv (.t 14), none⟩] [0, 1, 4, 6]) (
    .seq (
     .reg [
      ⟨some 15, .mv (.t 6), none⟩,
      ⟨some 16, .bin .neq (.t 15) (.c (.int .i64 0)), none⟩] [0, 1, 4, 6, 16]) (
     .cond (.t 16) (
      .seq (
       .reg [
        ⟨some 17, .bld [.bool false, .bool false, .int .i64 0, .int .i64 0, .nils] [], none⟩,
        ⟨some 18, .mv (.t 6), none⟩,
        ⟨none, .st 5 (.t 4) (.t 17), none⟩,
        ⟨some 5, .mv (.t 18), none⟩] [4, 5]) (
       .ret)) (
      .no)))) (
   .seq (
    .seq (
     .reg [
      ⟨some 19, .mv (.t 1), none⟩,
      ⟨some 20, .call 49 [none] [(.t 19)], none⟩,
      ⟨some 21, .not (.t 20), none⟩] [0, 1, 4, 21]) (
     .cond (.t 21) (
      .no) (
      .no))) (
    .seq (
     .reg [
      ⟨some 25, .mv (.t 0), none⟩,
      ⟨some 26, .mv (.t 1), none⟩,
      ⟨some 27, .call 51 [none, none] [(.t 25), (.t 26)], none⟩,
      ⟨some 28, .call 50 [none] [(.t 27)], none⟩,
      ⟨some 7, .mv (.t 28), none⟩] [0, 1, 4, 7]) (
     .seq (
      .regT [
       ⟨some 30, .mv (.t 0), none⟩,
       ⟨some 31, .nck (.t 30), none⟩,
       ⟨some 32, .fa 6 (.t 31), none⟩,
       ⟨some 33, .ldA 2 (.t 32), none⟩,
       ⟨some 34, .mv (.t 7), none⟩,
       ⟨some 35, .mv (.t 0), none⟩,
       ⟨some 36, .nck (.t 35), none⟩,
       ⟨some 37, .fa 5 (.t 36), none⟩,
       ⟨some 38, .ld (.t 37), none⟩,
       ⟨some 39, .call 100 [none, none, none] [(.t 33), (.t 34), (.t 38)], none⟩,
       ⟨some 29, .mv (.t 39), none⟩,
       ⟨some 40, .ext (.t 29) 0, none⟩,
       ⟨some 41, .ext (.t 29) 1, none⟩,
       ⟨some 8, .alc [.bool false, .bool false, .int .i64 0, .int .i64 0, .nils], none⟩,
       ⟨none, .st 5 (.t 8) (.t 40), none⟩,
       ⟨some 9, .mv (.t 41), none⟩] (.q 0 (.q 1 (.q 2 (.q 3 (.q 4 (.q 5 (.q 6 (.q 7 (.q 8 (.e 9 [] (.q 10 (.q 11 (.q 12 (.e 13 [0, 1, 2, 3, 4, 5, 6, 7, 8, 10, 11, 12] (.e 14 [12] (.q 15 .done) .no) .no)))) (.e 13 [0, 1, 2, 3, 4, 5, 6, 7, 8] (.e 9 [] (.q 10 (.q 11 (.q 12 (.e 14 [12] (.q 15 .done) .no)))) .no) .no))))))))))) [0, 1, 4, 7, 8, 9]) (
      .seq (
       .reg [
        ⟨some 42, .mv (.t 7), none⟩,
        ⟨some 43, .bslP 1 [(0, (.t 42))], none⟩,
        ⟨some 44, .bld [.nils, .nilp, .nilp, .nils] [(0, 1, (.t 43))], none⟩,
        ⟨some 10, .alc [.nils, .nilp, .nilp, .nils], none⟩,
        ⟨none, .st 4 (.t 10) (.t 44), none⟩] [0, 1, 4, 8, 9, 10]) (
       .seq (
        .seq (
         .reg [
          ⟨some 45, .mv (.t 9), none⟩,
          ⟨some 46, .bin .eql (.t 45) (.c (.int .i64 0)), none⟩,
          ⟨some 47, .mv (.t 46), none⟩,
          ⟨some 48, .fa 4 (.t 8), (some (47, true))⟩,
          ⟨some 49, .ld (.t 48), (some (47, true))⟩,
          ⟨some 50, .len .s (.t 49), (some (47, true))⟩,
          ⟨some 51, .bin .gtr (.t 50) (.c (.int .i64 0)), (some (47, true))⟩,
          ⟨some 52, .pick (.t 47) (.t 51) (.c (.bool false)), none⟩] [0, 1, 4, 8, 9, 10, 52]) (
         .cond (.t 52) (
          .no) (
          .no))) (
        .seq (
         .seq (
          .reg [
           ⟨some 86, .mv (.t 9), none⟩,
           ⟨some 87, .bin .eql (.t 86) (.c (.int .i64 0)), none⟩] [0, 4, 8, 9, 10, 87]) (
          .cond (.t 87) (
           .no) (
           .no))) (
         .seq (
          .block 2 (
           .seq (
            .reg [
             ⟨some 97, .mv (.t 9), none⟩,
             ⟨some 98, .bin .neq (.t 97) (.c (.int .i64 0)), none⟩,
             ⟨some 96, .mv (.t 98), none⟩] [0, 4, 8, 9, 96]) (
            .cond (.t 96) (
             .no) (
             .no)))) (
          .seq (
           .reg [
            ⟨some 111, .ldA 5 (.t 8), none⟩,
            ⟨none, .st 5 (.t 4) (.t 111), none⟩,
            ⟨some 5, .mv (.c (.int .i64 0)), none⟩] [4, 5]) (
           .ret))))))))))
def xr36 : List RT := [.c 4 (some 5), .t 5]
def xa37 : AS :=
 .seq (
  .reg [
   ⟨some 1, .box (.t 0), none⟩,
   ⟨some 2, .mv (.c (.str ByteArray.empty)), none⟩] [1]) (
  .seq (
   .regD [
    ⟨some 6, .fa 0 (.t 1), none⟩,
    ⟨some 7, .ld (.t 6), none⟩,
    ⟨some 8, .call 35 [none] [(.t 7)], none⟩,
    ⟨some 9, .fa 1 (.t 1), none⟩,
    ⟨some 10, .ld (.t 9), none⟩,
    ⟨some 11, .call 35 [none] [(.t 10)], none⟩,
    ⟨some 12, .bin .add (.t 8) (.t 11), none⟩,
    ⟨some 13, .fa 2 (.t 1), none⟩,
    ⟨some 14, .ld (.t 13), none⟩,
    ⟨some 15, .call 41 [none] [(.t 14)], none⟩,
    ⟨some 16, .bin .add (.t 12) (.t 15), none⟩,
    ⟨some 17, .fa 3 (.t 1), none⟩,
    ⟨some 18, .ld (.t 17), none⟩,
    ⟨some 19, .call 41 [none] [(.t 18)], none⟩,
    ⟨some 20, .bin .add (.t 16) (.t 19), none⟩,
    ⟨some 21, .fa 4 (.t 1), none⟩,
    ⟨some 22, .ld (.t 21), none⟩,
    ⟨some 23, .len .s (.t 22), none⟩,
    ⟨some 24, .call 41 [none] [(.t 23)], none⟩,
    ⟨some 25, .bin .add (.t 20) (.t 24), none⟩,
    ⟨some 3, .mv (.t 25), none⟩] [.q 0, .q 1, .q 3, .q 4, .q 7, .q 8, .q 11, .q 12, .q 15, .q 16, .q 17, .e 2 [3, 4, 7, 8, 11, 12, 15, 16, 17], .e 5 [7, 8, 11, 12, 15, 16, 17], .q 6, .e 9 [11, 12, 15, 16, 17, 6], .q 10, .e 13 [15, 16, 17, 6, 10], .q 14, .e 18 [6, 10, 14], .q 19, .q 20] [1, 3]) (
   .seq (
    .seq (
     .reg [
      ⟨some 26, .fa 4 (.t 1), none⟩,
      ⟨some 27, .ld (.t 26), none⟩,
      ⟨some 28, .len .s (.t 27), none⟩,
      ⟨some 29, .mv (.c (.int .i64 0)), none⟩] [1, 3, 28, 29]) (
     .block 0 (
      .loop 1 [1, 3, 28, 29] (
       .seq (
        .reg [
         ⟨some 30, .bin .lss (.t 29) (.t 28), none⟩] [1, 3, 28, 29, 30]) (
        .seq (
         .cond (.t 30) (
          .no) (
          .exit 0)) (
         .seq (
          .block 1 (
           .seq (
            .reg [
             ⟨some 31, .mv (.t 29), none⟩,
             ⟨some 4, .mv (.t 31), none⟩] [1, 3, 4, 28, 29]) (
            .seq (
             .reg [
              ⟨some 32, .fa 4 (.t 1), none⟩,
              ⟨some 33, .ld (.t 32), none⟩,
              ⟨some 34, .mv (.t 4), none⟩,
              ⟨some 35, .ia 5 (.t 33) (.t 34), none⟩,
              ⟨some 36, .ldA 5 (.t 35), none⟩,
              ⟨some 5, .alc [.str ByteArray.empty, .bool false, .int .i64 0, .int .i64 0, .int .i64 0], none⟩,
              ⟨none, .st 5 (.t 5) (.t 36), none⟩] [1, 3, 5, 28, 29]) (
             .regD [
              ⟨some 37, .mv (.t 3), none⟩,
              ⟨some 38, .fa 0 (.t 5), none⟩,
              ⟨some 39, .ld (.t 38), none⟩,
              ⟨some 40, .bin .add (.t 37) (.t 39), none⟩,
              ⟨some 41, .fa 1 (.t 5), none⟩,
              ⟨some 42, .ld (.t 41), none⟩,
              ⟨some 43, .call 35 [none] [(.t 42)], none⟩,
              ⟨some 44, .bin .add (.t 40) (.t 43), none⟩,
              ⟨some 45, .fa 2 (.t 5), none⟩,
              ⟨some 46, .ld (.t 45), none⟩,
              ⟨some 47, .call 41 [none] [(.t 46)], none⟩,
              ⟨some 48, .bin .add (.t 44) (.t 47), none⟩,
              ⟨some 49, .fa 3 (.t 5), none⟩,
              ⟨some 50, .ld (.t 49), none⟩,
              ⟨some 51, .call 41 [none] [(.t 50)], none⟩,
              ⟨some 52, .bin .add (.t 48) (.t 51), none⟩,
              ⟨some 53, .fa 4 (.t 5), none⟩,
              ⟨some 54, .ld (.t 53), none⟩,
              ⟨some 55, .call 41 [none] [(.t 54)], none⟩,
              ⟨some 56, .bin .add (.t 52) (.t 55), none⟩,
              ⟨some 3, .mv (.t 56), none⟩] [.q 0, .q 1, .q 2, .q 3, .q 4, .q 5, .q 8, .q 9, .q 12, .q 13, .q 16, .q 17, .e 6 [0, 1, 2, 3, 8, 9, 12, 13, 16, 17], .q 7, .e 10 [0, 1, 2, 3, 12, 13, 16, 17, 7], .q 11, .e 14 [0, 1, 2, 3, 16, 17, 7, 11], .q 15, .e 18 [0, 1, 2, 3, 7, 11, 15], .q 19, .e 20 []] [1, 3, 28, 29])))) (
          .reg [
           ⟨some 57, .bin .add (.t 29) (.c (.int .i64 1)), none⟩,
           ⟨some 29, .mv (.t 57), none⟩] [1, 3, 28, 29]))))))) (
    .seq (
     .reg [
      ⟨some 58, .mv (.t 3), none⟩,
      ⟨some 2, .mv (.t 58), none⟩] [2]) (
     .ret))))
def xr37 : List RT := [.t 2]
def xa38 : AS :=
 .seq (
  .reg [
   ⟨some 1, .box (.t 0), none⟩,
   ⟨some 2, .alc [.bool false, .bool false, .int .i64 0, .int .i64 0, .nils], none⟩] [1, 2]) (
  .seq (
   .regD [
    ⟨some 3, .fa 0 (.t 1), none⟩,
    ⟨some 4, .ld (.t 3), none⟩,
    ⟨some 5, .fa 1 (.t 1), none⟩,
    ⟨some 6, .ld (.t 5), none⟩,
    ⟨some 7, .fa 2 (.t 1), none⟩,
    ⟨some 8, .ld (.t 7), none⟩,
    ⟨some 9, .fa 3 (.t 1), none⟩,
    ⟨some 10, .ld (.t 9), none⟩,
    ⟨some 11, .fa 4 (.t 1), none⟩,
    ⟨some 12, .ld (.t 11), none⟩,
    ⟨some 13, .call 104 [none] [(.t 12)], none⟩,
    ⟨some 14, .bld [.bool false, .bool false, .int .i64 0, .int .i64 0, .nils] [(0, 1, (.t 4)), (1, 1, (.t 6)), (2, 1, (.t 8)), (3, 1, (.t 10)), (4, 1, (.t 13))], none⟩,
    ⟨none, .st 5 (.t 2) (.t 14), none⟩] [.q 0, .q 1, .q 2, .q 3, .q 4, .q 5, .q 6, .q 7, .q 8, .q 9, .e 10 [0, 1, 2, 3, 4, 5, 6, 7], .q 11, .e 12 []] [2]) (
   .ret))
def xr38 : List RT := [.c 2 (some 5)]
def xa39 : AS :=
 .seq (
  .reg [
   ⟨some 4, .mv (.c (.str ByteArray.empty)), none⟩,
   ⟨some 5, .mv (.c (.int .i64 0)), none⟩] [0, 1]) (
  .seq (
   .seq (
    .reg [
     ⟨some 13, .mv (.t 0), none⟩,
     ⟨some 14, .call 61 [none] [(.t 13)], none⟩,
     ⟨some 6, .mv (.t 14), none⟩] [0, 1, 6]) (
    .seq (
     .reg [
      ⟨some 15, .mv (.t 6), none⟩,
      ⟨some 16, .bin .neq (.t 15) (.c (.int .i64 0)), none⟩] [0, 1, 6, 16]) (
     .cond (.t 16) (
      .seq (
       .reg [
        ⟨some 17, .mv (.t 6), none⟩,
        ⟨some 4, .mv (.c (.str ByteArray.empty)), none⟩,
        ⟨some 5, .mv (.t 17), none⟩] [4, 5]) (
       .ret)) (
      .no)))) (
   .seq (
    .seq (
     .reg [
      ⟨some 18, .mv (.t 1), none⟩,
      ⟨some 19, .call 49 [none] [(.t 18)], none⟩,
      ⟨some 20, .not (.t 19), none⟩] [0, 1, 20]) (
     .cond (.t 20) (
      .no) (
      .no))) (
    .seq (
     .reg [
      ⟨some 23, .mv (.t 0), none⟩,
      ⟨some 24, .mv (.t 1), none⟩,
      ⟨some 25, .call 51 [none, none] [(.t 23), (.t 24)], none⟩,
      ⟨some 26, .call 50 [none] [(.t 25)], none⟩,
      ⟨some 7, .mv (.t 26), none⟩] [0, 1, 7]) (
     .seq (
      .reg [
       ⟨some 28, .mv (.t 7), none⟩,
       ⟨some 29, .nck (.t 28), none⟩,
       ⟨some 30, .fa 2 (.t 29), none⟩,
       ⟨some 31, .ld (.t 30), none⟩,
       ⟨some 32, .call 105 [none] [(.t 31)], none⟩,
       ⟨some 27, .mv (.t 32), none⟩,
       ⟨some 33, .ext (.t 27) 0, none⟩,
       ⟨some 34, .ext (.t 27) 1, none⟩,
       ⟨some 8, .alc [.str ByteArray.empty, .str ByteArray.empty, .int .u64 0, .int .i64 0, .nils], none⟩,
       ⟨none, .st 5 (.t 8) (.t 33), none⟩,
       ⟨some 9, .mv (.t 34), none⟩] [0, 1, 7, 8, 9]) (
      .seq (
       .seq (
        .reg [
         ⟨some 35, .mv (.t 9), none⟩,
         ⟨some 36, .not (.t 35), none⟩] [0, 1, 7, 8, 36]) (
        .cond (.t 36) (
         .no) (
         .no))) (
       .seq (
        .reg [
         ⟨some 39, .mv (.t 7), none⟩,
         ⟨some 40, .bslP 1 [(0, (.t 39))], none⟩,
         ⟨some 41, .bld [.nils, .nilp, .nilp, .nils] [(0, 1, (.t 40))], none⟩,
         ⟨some 10, .alc [.nils, .nilp, .nilp, .nils], none⟩,
         ⟨none, .st 4 (.t 10) (.t 41), none⟩] [0, 1, 7, 8, 10]) (
        .seq (
         .reg [
          ⟨some 42, .mv (.t 0), none⟩,
          ⟨some 43, .fa 0 (.t 8), none⟩,
          ⟨some 44, .ld (.t 43), none⟩,
          ⟨some 45, .call 51 [none, none] [(.t 42), (.t 44)], none⟩,
          ⟨some 11, .mv (.t 45), none⟩] [0, 1, 7, 8, 10, 11]) (
         .seq (
          .seq (
           .reg [
            ⟨some 46, .fa 0 (.t 8), none⟩,
            ⟨some 47, .ld (.t 46), none⟩,
            ⟨some 48, .mv (.t 1), none⟩,
            ⟨some 49, .bin .eql (.t 47) (.t 48), none⟩] [0, 7, 8, 10, 11, 49]) (
           .cond (.t 49) (
            .no) (
            .no))) (
          .seq (
           .regD [
            ⟨some 59, .mv (.t 11), none⟩,
            ⟨some 60, .nck (.t 59), none⟩,
            ⟨some 61, .fa 1 (.t 60), none⟩,
            ⟨some 62, .ld (.t 61), none⟩,
            ⟨some 63, .fa 1 (.t 8), none⟩,
            ⟨some 64, .ldA 4 (.t 63), none⟩,
            ⟨some 65, .call 66 [none, none] [(.t 62), (.t 64)], none⟩,
            ⟨some 12, .mv (.t 65), none⟩] [.q 0, .q 1, .q 2, .q 3, .q 4, .q 5, .e 6 [], .q 7] [0, 8, 10, 12]) (
           .seq (
            .seq (
             .reg [
              ⟨some 66, .mv (.t 12), none⟩,
              ⟨some 67, .bin .eql (.t 66) (.c (.int .i64 0)), none⟩] [0, 8, 10, 12, 67]) (
             .cond (.t 67) (
              .no) (
              .no))) (
            .seq (
             .seq (
              .reg [
               ⟨some 71, .mv (.t 12), none⟩,
               ⟨some 72, .bin .neq (.t 71) (.c (.int .i64 0)), none⟩] [0, 8, 12, 72]) (
              .cond (.t 72) (
               .no) (
               .no))) (
             .seq (
              .reg [
               ⟨some 76, .mv (.t 0), none⟩,
               ⟨some 77, .nck (.t 76), none⟩,
               ⟨some 78, .fa 8 (.t 77), none⟩,
               ⟨some 79, .ld (.t 78), none⟩,
               ⟨some 80, .call 70 [none, none, none] [(.t 79), (.c (.int .i64 3)), (.c (.int .u64 1))], none⟩] [8]) (
              .seq (
               .reg [
                ⟨some 81, .fa 0 (.t 8), none⟩,
                ⟨some 82, .ld (.t 81), none⟩,
                ⟨some 4, .mv (.t 82), none⟩,
                ⟨some 5, .mv (.c (.int .i64 0)), none⟩] [4, 5]) (
               .ret))))))))))))))
def xr39 : List RT := [.t 4, .t 5]
def xa40 : AS :=
 .seq (
  .reg [
   ⟨some 4, .mv (.c (.int .i64 0)), none⟩,
   ⟨some 5, .mv (.c (.int .i64 0)), none⟩] [0, 1]) (
  .seq (
   .seq (
    .reg [
     ⟨some 10, .mv (.t 0), none⟩,
     ⟨some 11, .call 61 [none] [(.t 10)], none⟩,
     ⟨some 6, .mv (.t 11), none⟩] [0, 1, 6]) (
    .seq (
     .reg [
      ⟨some 12, .mv (.t 6), none⟩,
      ⟨some 13, .bin .neq (.t 12) (.c (.int .i64 0)), none⟩] [0, 1, 6, 13]) (
     .cond (.t 13) (
      .seq (
       .reg [
        ⟨some 14, .mv (.t 6), none⟩,
        ⟨some 4, .mv (.c (.int .i64 0)), none⟩,
        ⟨some 5, .mv (.t 14), none⟩] [4, 5]) (
       .ret)) (
      .no)))) (
   .seq (
    .reg [
     ⟨some 15, .mv (.t 0), none⟩,
     ⟨some 16, .nck (.t 15), none⟩,
     ⟨some 17, .fa 5 (.t 16), none⟩,
     ⟨some 18, .ld (.t 17), none⟩,
     ⟨some 19, .mv (.t 1), none⟩,
     ⟨some 20, .bin .add (.t 18) (.t 19), none⟩,
     ⟨some 7, .mv (.t 20), none⟩] [0, 1, 7]) (
    .seq (
     .seq (
      .reg [
       ⟨some 21, .mv (.t 1), none⟩,
       ⟨some 22, .bin .lss (.t 21) (.c (.int .i64 0)), none⟩,
       ⟨some 23, .mv (.t 22), none⟩,
       ⟨some 24, .mv (.t 7), (some (23, false))⟩,
       ⟨some 25, .bin .lss (.t 24) (.c (.int .i64 0)), (some (23, false))⟩,
       ⟨some 26, .pick (.t 23) (.c (.bool true)) (.t 25), none⟩] [0, 7, 26]) (
      .cond (.t 26) (
       .no) (
       .no))) (
     .seq (
      .reg [
       ⟨some 29, .call 106 [] [], none⟩,
       ⟨some 8, .mv (.t 29), none⟩] [0, 7, 8]) (
      .seq (
       .reg [
        ⟨some 30, .mv (.t 8), none⟩,
        ⟨some 31, .mv (.t 7), none⟩,
        ⟨some 32, .call 107 [none, none] [(.t 30), (.t 31)], none⟩] [0, 7, 8]) (
       .seq (
        .seq (
         .regD [
          ⟨some 33, .mv (.t 0), none⟩,
          ⟨some 34, .nck (.t 33), none⟩,
          ⟨some 35, .fa 0 (.t 34), none⟩,
          ⟨some 36, .ld (.t 35), none⟩,
          ⟨some 37, .mv (.t 8), none⟩,
          ⟨some 38, .call 109 [none] [(.t 37)], none⟩,
          ⟨some 39, .bld [.str ByteArray.empty, .nils, .bool false] [(0, 1, (.c (.str ⟨#[99]⟩))), (1, 1, (.t 38))], none⟩,
          ⟨some 40, .bsl 48 (.pair .str (.pair (.sl 1 .byte) .bool)) 1 [(0, (.t 39))], none⟩,
          ⟨some 41, .call 108 [none, none] [(.t 36), (.t 40)], none⟩,
          ⟨some 9, .mv (.t 41), none⟩] [.q 0, .q 1, .q 2, .q 3, .q 4, .e 5 [0, 1, 2, 3], .q 6, .e 7 [0, 1, 2, 3], .e 8 [], .q 9] [0, 7, 9]) (
         .seq (
          .reg [
           ⟨some 42, .mv (.t 9), none⟩,
           ⟨some 43, .bin .neq (.t 42) (.c (.int .i64 0)), none⟩] [0, 7, 9, 43]) (
          .cond (.t 43) (
           .no) (
           .no)))) (
        .seq (
         .reg [
          ⟨some 47, .mv (.t 0), none⟩,
          ⟨some 48, .mv (.t 7), none⟩,
          ⟨some 49, .nck (.t 47), none⟩,
          ⟨some 50, .fa 5 (.t 49), none⟩,
          ⟨none, .st 1 (.t 50) (.t 48), none⟩] [7]) (
         .seq (
          .reg [
           ⟨some 51, .mv (.t 7), none⟩,
           ⟨some 4, .mv (.t 51), none⟩,
           ⟨some 5, .mv (.c (.int .i64 0)), none⟩] [4, 5]) (
          .ret)))))))))
def xr40 : List RT := [.t 4, .t 5]
def xa41 : AS :=
 .seq (
  .reg [
   ⟨some 2, .mv (.c (.str ByteArray.empty)), none⟩] [0]) (
  .seq (
   .reg [
    ⟨some 3, .mv (.c (.nils)), none⟩] [0, 3]) (
   .seq (
    .seq (
     .reg [
      ⟨some 5, .mv (.c (.int .i64 0)), none⟩] [0, 3, 5]) (
     .block 0 (
      .loop 1 [0, 3, 5] (
       .seq (
        .reg [
         ⟨some 6, .bin .lss (.t 5) (.c (.int .i64 8)), none⟩] [0, 3, 5, 6]) (
        .seq (
         .cond (.t 6) (
          .skip) (
          .exit 0)) (
         .seq (
          .block 1 (
           .seq (
            .reg [
             ⟨some 7, .mv (.t 5), none⟩,
             ⟨some 4, .mv (.t 7), none⟩] [0, 3, 4, 5]) (
            .reg [
             ⟨some 8, .mv (.t 3), none⟩,
             ⟨some 9, .mv (.t 0), none⟩,
             ⟨some 10, .mv (.t 4), none⟩,
             ⟨some 11, .bin .mul (.c (.int .i64 8)) (.t 10), none⟩,
             ⟨some 12, .cv .u64 (.t 11), none⟩,
             ⟨some 13, .bin .shr (.t 9) (.t 12), none⟩,
             ⟨some 14, .cv .u8 (.t 13), none⟩,
             ⟨some 15, .bsl 1 .byte 1 [(0, (.t 14))], none⟩,
             ⟨some 16, .app 1 .byte (.t 8) (.t 15), none⟩,
             ⟨some 3, .mv (.t 16), none⟩] [0, 3, 5]))) (
          .reg [
           ⟨some 17, .bin .add (.t 5) (.c (.int .i64 1)), none⟩,
           ⟨some 5, .mv (.t 17), none⟩] [0, 3, 5]))))))) (
    .seq (
     .reg [
      ⟨some 18, .mv (.t 3), none⟩,
      ⟨some 19, .b2s (.t 18), none⟩,
      ⟨some 2, .mv (.t 19), none⟩] [2]) (
     .ret))))
def xr41 : List RT := [.t 2]
def xa42 : AS :=
 .seq (
  .reg [
   ⟨some 2, .alc [.str ByteArray.empty, .str ByteArray.empty, .int .i64 0, .int .i64 0, .int .i64 0], none⟩,
   ⟨some 3, .mv (.c (.int .i64 0)), none⟩] [0, 2]) (
  .seq (
   .seq (
    .reg [
     ⟨some 10, .mv (.t 0), none⟩,
     ⟨some 11, .call 61 [none] [(.t 10)], none⟩,
     ⟨some 4, .mv (.t 11), none⟩] [0, 2, 4]) (
    .seq (
     .reg [
      ⟨some 12, .mv (.t 4), none⟩,
      ⟨some 13, .bin .neq (.t 12) (.c (.int .i64 0)), none⟩] [0, 2, 4, 13]) (
     .cond (.t 13) (
      .seq (
       .reg [
        ⟨some 14, .bld [.str ByteArray.empty, .str ByteArray.empty, .int .i64 0, .int .i64 0, .int .i64 0] [], none⟩,
        ⟨some 15, .mv (.t 4), none⟩,
        ⟨none, .st 5 (.t 2) (.t 14), none⟩,
        ⟨some 3, .mv (.t 15), none⟩] [2, 3]) (
       .ret)) (
      .no)))) (
   .seq (
    .reg [
     ⟨some 16, .mv (.t 0), none⟩,
     ⟨some 17, .call 101 [none] [(.t 16)], none⟩,
     ⟨some 18, .bld [.nils, .nilp, .nilp, .nils] [(1, 1, (.t 17))], none⟩,
     ⟨some 5, .alc [.nils, .nilp, .nilp, .nils], none⟩,
     ⟨none, .st 4 (.t 5) (.t 18), none⟩] [0, 2, 5]) (
    .seq (
     .regT [
      ⟨some 20, .fa 1 (.t 5), none⟩,
      ⟨some 21, .ld (.t 20), none⟩,
      ⟨some 22, .mv (.t 0), none⟩,
      ⟨some 23, .nck (.t 22), none⟩,
      ⟨some 24, .fa 5 (.t 23), none⟩,
      ⟨some 25, .ld (.t 24), none⟩,
      ⟨some 26, .call 110 [none, none] [(.t 21), (.t 25)], none⟩,
      ⟨some 19, .mv (.t 26), none⟩,
      ⟨some 27, .ext (.t 19) 0, none⟩,
      ⟨some 28, .ext (.t 19) 1, none⟩,
      ⟨some 6, .alc [.str ByteArray.empty, .str ByteArray.empty, .int .i64 0, .int .i64 0, .int .i64 0], none⟩,
      ⟨none, .st 5 (.t 6) (.t 27), none⟩,
      ⟨some 7, .mv (.t 28), none⟩] (.q 0 (.q 1 (.q 2 (.q 3 (.q 4 (.q 5 (.e 6 [] (.q 7 (.q 8 (.q 9 (.e 10 [0, 1, 2, 3, 4, 5, 7, 8, 9] (.e 11 [9] (.q 12 .done) .no) .no)))) (.e 10 [0, 1, 2, 3, 4, 5] (.e 6 [] (.q 7 (.q 8 (.q 9 (.e 11 [9] (.q 12 .done) .no)))) .no) .no)))))))) [0, 2, 5, 6, 7]) (
     .seq (
      .seq (
       .reg [
        ⟨some 29, .mv (.t 7), none⟩,
        ⟨some 30, .not (.t 29), none⟩] [0, 2, 5, 6, 30]) (
       .cond (.t 30) (
        .no) (
        .no))) (
      .seq (
       .reg [
        ⟨some 34, .mv (.t 0), none⟩,
        ⟨some 35, .fa 0 (.t 6), none⟩,
        ⟨some 36, .ld (.t 35), none⟩,
        ⟨some 37, .call 51 [none, none] [(.t 34), (.t 36)], none⟩,
        ⟨some 38, .call 50 [none] [(.t 37)], none⟩,
        ⟨some 8, .mv (.t 38), none⟩] [0, 2, 5, 6, 8]) (
       .seq (
        .regD [
         ⟨some 39, .mv (.t 8), none⟩,
         ⟨some 40, .nck (.t 39), none⟩,
         ⟨some 41, .fa 1 (.t 40), none⟩,
         ⟨some 42, .ld (.t 41), none⟩,
         ⟨some 43, .fa 4 (.t 6), none⟩,
         ⟨some 44, .ld (.t 43), none⟩,
         ⟨some 45, .fa 2 (.t 6), none⟩,
         ⟨some 46, .ld (.t 45), none⟩,
         ⟨some 47, .bsl 8 (.int .i64) 1 [(0, (.t 46))], none⟩,
         ⟨some 48, .bld [.str ByteArray.empty, .int .u64 0, .int .i64 0, .nils] [(2, 1, (.t 44)), (3, 1, (.t 47))], none⟩,
         ⟨some 49, .call 66 [none, none] [(.t 42), (.t 48)], none⟩,
         ⟨some 9, .mv (.t 49), none⟩] [.q 0, .q 1, .q 2, .q 3, .q 4, .q 5, .q 6, .q 7, .e 8 [0, 1, 2, 3, 4, 5], .q 9, .e 10 [], .q 11] [0, 2, 5, 6, 8, 9]) (
        .seq (
         .seq (
          .reg [
           ⟨some 50, .mv (.t 9), none⟩,
           ⟨some 51, .bin .eql (.t 50) (.c (.int .i64 0)), none⟩] [0, 2, 5, 6, 8, 9, 51]) (
          .cond (.t 51) (
           .no) (
           .no))) (
         .seq (
          .seq (
           .reg [
            ⟨some 61, .mv (.t 9), none⟩,
            ⟨some 62, .bin .neq (.t 61) (.c (.int .i64 0)), none⟩] [0, 2, 6, 9, 62]) (
           .cond (.t 62) (
            .no) (
            .no))) (
          .seq (
           .reg [
            ⟨some 67, .mv (.t 0), none⟩,
            ⟨some 68, .nck (.t 67), none⟩,
            ⟨some 69, .fa 8 (.t 68), none⟩,
            ⟨some 70, .ld (.t 69), none⟩,
            ⟨some 71, .call 70 [none, none, none] [(.t 70), (.c (.int .i64 4)), (.c (.int .u64 1))], none⟩] [2, 6]) (
           .seq (
            .reg [
             ⟨some 72, .ldA 5 (.t 6), none⟩,
             ⟨none, .st 5 (.t 2) (.t 72), none⟩,
             ⟨some 3, .mv (.c (.int .i64 0)), none⟩] [2, 3]) (
            .ret)))))))))))
def xr42 : List RT := [.c 2 (some 5), .t 3]
def xa43 : AS :=
 .seq (
  .reg [
   ⟨some 3, .box (.t 1), none⟩,
   ⟨some 4, .mv (.c (.int .i64 0)), none⟩] [0, 3]) (
  .seq (
   .seq (
    .reg [
     ⟨some 8, .mv (.t 0), none⟩,
     ⟨some 9, .call 61 [none] [(.t 8)], none⟩,
     ⟨some 5, .mv (.t 9), none⟩] [0, 3, 5]) (
    .seq (
     .reg [
      ⟨some 10, .mv (.t 5), none⟩,
      ⟨some 11, .bin .neq (.t 10) (.c (.int .i64 0)), none⟩] [0, 3, 5, 11]) (
     .cond (.t 11) (
      .seq (
       .reg [
        ⟨some 12, .mv (.t 5), none⟩,
        ⟨some 4, .mv (.t 12), none⟩] [4]) (
       .ret)) (
      .no)))) (
   .seq (
    .reg [
     ⟨some 13, .mv (.t 0), none⟩,
     ⟨some 14, .call 101 [none] [(.t 13)], none⟩,
     ⟨some 15, .bld [.nils, .nilp, .nilp, .nils] [(1, 1, (.t 14))], none⟩,
     ⟨some 6, .alc [.nils, .nilp, .nilp, .nils], none⟩,
     ⟨none, .st 4 (.t 6) (.t 15), none⟩] [0, 3, 6]) (
    .seq (
     .reg [
      ⟨some 16, .fa 1 (.t 6), none⟩,
      ⟨some 17, .ld (.t 16), none⟩,
      ⟨some 18, .ldA 5 (.t 3), none⟩,
      ⟨some 19, .call 103 [none, none] [(.t 17), (.t 18)], none⟩,
      ⟨some 7, .mv (.t 19), none⟩] [0, 6, 7]) (
     .seq (
      .seq (
       .reg [
        ⟨some 20, .mv (.t 7), none⟩,
        ⟨some 21, .bin .eql (.t 20) (.c (.int .i64 0)), none⟩] [0, 6, 7, 21]) (
       .cond (.t 21) (
        .no) (
        .no))) (
      .seq (
       .reg [
        ⟨some 25, .mv (.t 0), none⟩,
        ⟨some 26, .mv (.t 7), none⟩,
        ⟨some 27, .call 64 [none, none] [(.t 25), (.t 26)], none⟩,
        ⟨some 4, .mv (.t 27), none⟩] [4]) (
       .ret))))))
def xr43 : List RT := [.t 4]
def xa44 : AS :=
 .seq (
  .reg [
   ⟨some 6, .mv (.c (.bool false)), none⟩,
   ⟨some 7, .mv (.c (.int .i64 0)), none⟩] [0, 1, 2]) (
  .seq (
   .seq (
    .reg [
     ⟨some 11, .mv (.t 0), none⟩,
     ⟨some 12, .call 61 [none] [(.t 11)], none⟩,
     ⟨some 8, .mv (.t 12), none⟩] [0, 1, 2, 8]) (
    .seq (
     .reg [
      ⟨some 13, .mv (.t 8), none⟩,
      ⟨some 14, .bin .neq (.t 13) (.c (.int .i64 0)), none⟩] [0, 1, 2, 8, 14]) (
     .cond (.t 14) (
      .seq (
       .reg [
        ⟨some 15, .mv (.t 8), none⟩,
        ⟨some 6, .mv (.c (.bool false)), none⟩,
        ⟨some 7, .mv (.t 15), none⟩] [6, 7]) (
       .ret)) (
      .no)))) (
   .seq (
    .reg [
     ⟨some 16, .mv (.t 0), none⟩,
     ⟨some 17, .call 101 [none] [(.t 16)], none⟩,
     ⟨some 18, .bld [.nils, .nilp, .nilp, .nils] [(1, 1, (.t 17))], none⟩,
     ⟨some 9, .alc [.nils, .nilp, .nilp, .nils], none⟩,
     ⟨none, .st 4 (.t 9) (.t 18), none⟩] [0, 1, 2, 9]) (
    .seq (
     .seq (
      .reg [
       ⟨some 19, .fa 1 (.t 9), none⟩,
       ⟨some 20, .ld (.t 19), none⟩,
       ⟨some 21, .mv (.t 1), none⟩,
       ⟨some 22, .mv (.t 2), none⟩,
       ⟨some 23, .call 102 [none, none, none] [(.t 20), (.t 21), (.t 22)], none⟩,
       ⟨some 24, .not (.t 23), none⟩] [0, 9, 24]) (
      .cond (.t 24) (
       .no) (
       .no))) (
     .seq (
      .reg [
       ⟨some 25, .mv (.t 0), none⟩,
       ⟨some 26, .mv (.t 0), none⟩,
       ⟨some 27, .ldA 4 (.t 9), none⟩,
       ⟨some 28, .call 69 [none, none] [(.t 26), (.t 27)], none⟩,
       ⟨some 29, .call 64 [none, none] [(.t 25), (.t 28)], none⟩,
       ⟨some 10, .mv (.t 29), none⟩] [10]) (
      .seq (
       .reg [
        ⟨some 30, .mv (.t 10), none⟩,
        ⟨some 31, .bin .eql (.t 30) (.c (.int .i64 0)), none⟩,
        ⟨some 32, .mv (.t 10), none⟩,
        ⟨some 6, .mv (.t 31), none⟩,
        ⟨some 7, .mv (.t 32), none⟩] [6, 7]) (
       .ret))))))
def xr44 : List RT := [.t 6, .t 7]
def xa45 : AS :=
 .seq (
  .reg [
   ⟨some 4, .mv (.c (.int .i64 0)), none⟩,
   ⟨some 5, .mv (.c (.int .i64 0)), none⟩] [0, 1]) (
  .seq (
   .seq (
    .reg [
     ⟨some 10, .mv (.t 0), none⟩,
     ⟨some 11, .call 61 [none] [(.t 10)], none⟩,
     ⟨some 6, .mv (.t 11), none⟩] [0, 1, 6]) (
    .seq (
     .reg [
      ⟨some 12, .mv (.t 6), none⟩,
      ⟨some 13, .bin .neq (.t 12) (.c (.int .i64 0)), none⟩] [0, 1, 6, 13]) (
     .cond (.t 13) (
      .seq (
       .reg [
        ⟨some 14, .mv (.t 6), none⟩,
        ⟨some 4, .mv (.c (.int .i64 0)), none⟩,
        ⟨some 5, .mv (.t 14), none⟩] [4, 5]) (
       .ret)) (
      .no)))) (
   .seq (
    .seq (
     .reg [
      ⟨some 15, .mv (.t 1), none⟩,
      ⟨some 16, .call 49 [none] [(.t 15)], none⟩,
      ⟨some 17, .not (.t 16), none⟩] [0, 1, 17]) (
     .cond (.t 17) (
      .no) (
      .no))) (
    .seq (
     .reg [
      ⟨some 20, .mv (.t 0), none⟩,
      ⟨some 21, .mv (.t 1), none⟩,
      ⟨some 22, .call 51 [none, none] [(.t 20), (.t 21)], none⟩,
      ⟨some 23, .call 50 [none] [(.t 22)], none⟩,
      ⟨some 7, .mv (.t 23), none⟩] [0, 7]) (
     .seq (
      .reg [
       ⟨some 24, .mv (.t 7), none⟩,
       ⟨some 25, .nck (.t 24), none⟩,
       ⟨some 26, .fa 4 (.t 25), none⟩,
       ⟨some 27, .ld (.t 26), none⟩,
       ⟨some 28, .len .s (.t 27), none⟩,
       ⟨some 8, .mv (.t 28), none⟩] [0, 7, 8]) (
      .seq (
       .seq (
        .reg [
         ⟨some 29, .mv (.t 8), none⟩,
         ⟨some 30, .bin .eql (.t 29) (.c (.int .i64 0)), none⟩] [0, 7, 8, 30]) (
        .cond (.t 30) (
         .no) (
         .no))) (
       .seq (
        .reg [
         ⟨some 31, .mv (.t 7), none⟩,
         ⟨some 32, .nck (.t 31), none⟩,
         ⟨some 33, .fa 4 (.t 32), none⟩,
         ⟨none, .st 1 (.t 33) (.c (.nils)), none⟩] [0, 7, 8]) (
        .seq (
         .seq (
          .reg [
           ⟨some 34, .mv (.t 0), none⟩,
           ⟨some 35, .mv (.t 7), none⟩,
           ⟨some 36, .bslP 1 [(0, (.t 35))], none⟩,
           ⟨some 37, .bld [.nils, .nilp, .nilp, .nils] [(0, 1, (.t 36))], none⟩,
           ⟨some 38, .call 69 [none, none] [(.t 34), (.t 37)], none⟩,
           ⟨some 9, .mv (.t 38), none⟩] [0, 8, 9]) (
          .seq (
           .reg [
            ⟨some 39, .mv (.t 9), none⟩,
            ⟨some 40, .bin .neq (.t 39) (.c (.int .i64 0)), none⟩] [0, 8, 9, 40]) (
           .cond (.t 40) (
            .no) (
            .no)))) (
         .seq (
          .reg [
           ⟨some 44, .mv (.t 8), none⟩,
           ⟨some 4, .mv (.t 44), none⟩,
           ⟨some 5, .mv (.c (.int .i64 0)), none⟩] [4, 5]) (
          .ret)))))))))
def xr45 : List RT := [.t 4, .t 5]
def xa46 : AS :=
 .seq (
  .reg [
   ⟨some 2, .mv (.c (.int .i64 0)), none⟩] [0]) (
  .seq (
   .seq (
    .reg [
     ⟨some 4, .mv (.t 0), none⟩,
     ⟨some 5, .call 61 [none] [(.t 4)], none⟩,
     ⟨some 3, .mv (.t 5), none⟩] [0, 3]) (
    .seq (
     .reg [
      ⟨some 6, .mv (.t 3), none⟩,
      ⟨some 7, .bin .neq (.t 6) (.c (.int .i64 0)), none⟩] [0, 3, 7]) (
     .cond (.t 7) (
      .seq (
       .reg [
        ⟨some 8, .mv (.t 3), none⟩,
        ⟨some 2, .mv (.t 8), none⟩] [2]) (
       .ret)) (
      .no)))) (
   .seq (
    .reg [
     ⟨some 9, .mv (.t 0), none⟩,
     ⟨some 10, .mv (.t 0), none⟩,
     ⟨some 11, .nck (.t 10), none⟩,
     ⟨some 12, .fa 0 (.t 11), none⟩,
     ⟨some 13, .ld (.t 12), none⟩,
     ⟨some 14, .call 111 [none] [(.t 13)], none⟩,
     ⟨some 15, .call 64 [none, none] [(.t 9), (.t 14)], none⟩,
     ⟨some 2, .mv (.t 15), none⟩] [2]) (
    .ret)))
def xr46 : List RT := [.t 2]
def xa47 : AS :=
 .seq (
  .reg [
   ⟨some 3, .box (.t 1), none⟩,
   ⟨some 4, .mv (.c (.int .i64 0)), none⟩] [0, 3]) (
  .seq (
   .seq (
    .reg [
     ⟨some 8, .mv (.t 0), none⟩,
     ⟨some 9, .call 61 [none] [(.t 8)], none⟩,
     ⟨some 5, .mv (.t 9), none⟩] [0, 3, 5]) (
    .seq (
     .reg [
      ⟨some 10, .mv (.t 5), none⟩,
      ⟨some 11, .bin .neq (.t 10) (.c (.int .i64 0)), none⟩] [0, 3, 5, 11]) (
     .cond (.t 11) (
      .seq (
       .reg [
        ⟨some 12, .mv (.t 5), none⟩,
        ⟨some 4, .mv (.t 12), none⟩] [4]) (
       .ret)) (
      .no)))) (
   .seq (
    .reg [
     ⟨some 14, .ldA 2 (.t 3), none⟩,
     ⟨some 15, .call 112 [none] [(.t 14)], none⟩,
     ⟨some 13, .mv (.t 15), none⟩,
     ⟨some 16, .ext (.t 13) 0, none⟩,
     ⟨some 17, .ext (.t 13) 1, none⟩,
     ⟨some 6, .mv (.t 16), none⟩,
     ⟨some 7, .mv (.t 17), none⟩] [0, 3, 6, 7]) (
    .seq (
     .seq (
      .reg [
       ⟨some 18, .mv (.t 7), none⟩,
       ⟨some 19, .bin .eql (.t 18) (.c (.int .i64 0)), none⟩] [0, 3, 6, 7, 19]) (
      .cond (.t 19) (
       .no) (
       .no))) (
     .seq (
      .seq (
       .reg [
        ⟨some 28, .mv (.t 7), none⟩,
        ⟨some 29, .bin .eql (.t 28) (.c (.int .i64 0)), none⟩] [0, 3, 7, 29]) (
       .cond (.t 29) (
        .no) (
        .no))) (
      .seq (
       .reg [
        ⟨some 35, .mv (.t 0), none⟩,
        ⟨some 36, .mv (.t 7), none⟩,
        ⟨some 37, .call 64 [none, none] [(.t 35), (.t 36)], none⟩,
        ⟨some 4, .mv (.t 37), none⟩] [4]) (
       .ret))))))
def xr47 : List RT := [.t 4]
def xa49 : AS :=
 .seq (
  .reg [
   ⟨some 2, .mv (.c (.bool false)), none⟩] [0]) (
  .seq (
   .reg [
    ⟨some 3, .mv (.t 0), none⟩,
    ⟨some 4, .bin .neq (.t 3) (.c (.str ByteArray.empty)), none⟩,
    ⟨some 5, .mv (.t 4), none⟩,
    ⟨some 6, .mv (.t 0), (some (5, true))⟩,
    ⟨some 7, .len .i (.t 6), (some (5, true))⟩,
    ⟨some 8, .bin .leq (.t 7) (.c (.int .i64 40)), (some (5, true))⟩,
    ⟨some 9, .pick (.t 5) (.t 8) (.c (.bool false)), none⟩,
    ⟨some 2, .mv (.t 9), none⟩] [2]) (
   .ret))
def xr49 : List RT := [.t 2]
def xa50 : AS :=
 .seq (
  .reg [
   ⟨some 2, .mv (.c (.nilp)), none⟩] [0]) (
  .seq (
   .reg [
    ⟨some 8, .mv (.t 0), none⟩,
    ⟨some 9, .call 113 [none] [(.t 8)], none⟩,
    ⟨some 7, .mv (.t 9), none⟩,
    ⟨some 10, .ext (.t 7) 0, none⟩,
    ⟨some 11, .ext (.t 7) 1, none⟩,
    ⟨some 3, .mv (.t 10), none⟩,
    ⟨some 4, .mv (.t 11), none⟩] [3]) (
   .seq (
    .reg [
     ⟨some 13, .mv (.t 3), none⟩,
     ⟨some 14, .call 33 [none] [(.t 13)], none⟩,
     ⟨some 12, .mv (.t 14), none⟩,
     ⟨some 15, .ext (.t 12) 0, none⟩,
     ⟨some 16, .ext (.t 12) 1, none⟩,
     ⟨some 5, .mv (.t 15), none⟩,
     ⟨some 6, .mv (.t 16), none⟩] [5]) (
    .seq (
     .reg [
      ⟨some 17, .mv (.t 5), none⟩,
      ⟨some 2, .mv (.t 17), none⟩] [2]) (
     .ret))))
def xr50 : List RT := [.t 2]
def xa51 : AS :=
 .seq (
  .reg [
   ⟨some 4, .mv (.c (.nilp)), none⟩] [0, 1]) (
  .seq (
   .seq (
    .reg [
     ⟨some 10, .mv (.t 0), none⟩,
     ⟨some 11, .nck (.t 10), none⟩,
     ⟨some 12, .fa 1 (.t 11), none⟩,
     ⟨some 13, .ld (.t 12), none⟩,
     ⟨some 14, .mv (.t 1), none⟩,
     ⟨some 15, .call 114 [none, none] [(.t 13), (.t 14)], none⟩,
     ⟨some 9, .mv (.t 15), none⟩,
     ⟨some 16, .ext (.t 9) 0, none⟩,
     ⟨some 17, .ext (.t 9) 1, none⟩,
     ⟨some 5, .mv (.t 16), none⟩,
     ⟨some 6, .mv (.t 17), none⟩] [0, 1, 5, 6]) (
    .seq (
     .reg [
      ⟨some 18, .mv (.t 6), none⟩] [0, 1, 5, 18]) (
     .cond (.t 18) (
      .no) (
      .skip)))) (
   .seq (
    .reg [
     ⟨some 30, .mv (.t 0), none⟩,
     ⟨some 31, .nck (.t 30), none⟩,
     ⟨some 32, .fa 2 (.t 31), none⟩,
     ⟨some 33, .ld (.t 32), none⟩,
     ⟨some 34, .mv (.t 1), none⟩,
     ⟨some 35, .lk false .str .any1 true (.t 33) (.t 34), none⟩,
     ⟨some 29, .mv (.t 35), none⟩,
     ⟨some 36, .ext (.t 29) 0, none⟩,
     ⟨some 37, .ext (.t 29) 1, none⟩,
     ⟨some 7, .mv (.t 36), none⟩,
     ⟨some 8, .mv (.t 37), none⟩] [0, 1, 7, 8]) (
    .seq (
     .seq (
      .reg [
       ⟨some 38, .mv (.t 8), none⟩,
       ⟨some 39, .not (.t 38), none⟩] [0, 1, 7, 39]) (
      .cond (.t 39) (
       .seq (
        .reg [
         ⟨some 40, .mv (.t 0), none⟩,
         ⟨some 41, .mv (.t 1), none⟩,
         ⟨some 42, .call 115 [none, none] [(.t 40), (.t 41)], none⟩,
         ⟨some 7, .mv (.t 42), none⟩] [0, 1, 7]) (
        .reg [
         ⟨some 43, .mv (.t 0), none⟩,
         ⟨some 44, .nck (.t 43), none⟩,
         ⟨some 45, .fa 2 (.t 44), none⟩,
         ⟨some 46, .ld (.t 45), none⟩,
         ⟨some 47, .mv (.t 1), none⟩,
         ⟨some 48, .mv (.t 7), none⟩,
         ⟨none, .mu false .str .any1 (.t 46) (.t 47) (.t 48), none⟩] [7])) (
       .no))) (
     .seq (
      .reg [
       ⟨some 49, .mv (.t 7), none⟩,
       ⟨some 4, .mv (.t 49), none⟩] [4]) (
      .ret)))))
def xr51 : List RT := [.t 4]
def xa53 : AS :=
 .seq (
  .reg [
   ⟨some 6, .mv (.c (.nils)), none⟩] [0, 1, 2]) (
  .seq (
   .seq (
    .reg [
     ⟨some 10, .mv (.t 0), none⟩,
     ⟨some 11, .eqn false .p (.t 10) (.c (.nilp)), none⟩] [0, 1, 2, 11]) (
    .cond (.t 11) (
     .no) (
     .skip))) (
   .seq (
    .reg [
     ⟨some 7, .mv (.c (.nils)), none⟩] [0, 1, 2, 7]) (
    .seq (
     .seq (
      .reg [
       ⟨some 12, .mv (.t 0), none⟩,
       ⟨some 13, .nck (.t 12), none⟩,
       ⟨some 14, .fa 6 (.t 13), none⟩,
       ⟨some 15, .ld (.t 14), none⟩,
       ⟨some 16, .call 122 [none] [(.t 15)], none⟩,
       ⟨some 17, .call 121 [none] [(.t 16)], none⟩,
       ⟨some 18, .len .s (.t 17), none⟩,
       ⟨some 19, .mv (.c (.int .i64 0)), none⟩] [1, 2, 7, 17, 18, 19]) (
      .block 0 (
       .loop 1 [1, 2, 7, 17, 18, 19] (
        .seq (
         .reg [
          ⟨some 20, .bin .lss (.t 19) (.t 18), none⟩] [1, 2, 7, 17, 18, 19, 20]) (
         .seq (
          .cond (.t 20) (
           .skip) (
           .exit 0)) (
          .seq (
           .block 1 (
            .seq (
             .reg [
              ⟨some 21, .ia 1 (.t 17) (.t 19), none⟩,
              ⟨some 22, .ld (.t 21), none⟩,
              ⟨some 9, .mv (.t 22), none⟩] [1, 2, 7, 9, 17, 18, 19]) (
             .seq (
              .reg [
               ⟨some 23, .mv (.t 9), none⟩,
               ⟨some 24, .mv (.t 1), none⟩,
               ⟨some 25, .bin .geq (.t 23) (.t 24), none⟩,
               ⟨some 26, .mv (.t 25), none⟩,
               ⟨some 27, .mv (.t 2), (some (26, true))⟩,
               ⟨some 28, .bin .eql (.t 27) (.c (.str ByteArray.empty)), (some (26, true))⟩,
               ⟨some 29, .mv (.t 28), (some (26, true))⟩,
               ⟨some 30, .mv (.t 9), (some (29, false))⟩,
               ⟨some 31, .mv (.t 2), (some (29, false))⟩,
               ⟨some 32, .bin .lss (.t 30) (.t 31), (some (29, false))⟩,
               ⟨some 33, .pick (.t 29) (.c (.bool true)) (.t 32), (some (26, true))⟩,
               ⟨some 34, .pick (.t 26) (.t 33) (.c (.bool false)), none⟩] [1, 2, 7, 9, 17, 18, 19, 34]) (
              .cond (.t 34) (
               .reg [
                ⟨some 35, .mv (.t 7), none⟩,
                ⟨some 36, .mv (.t 9), none⟩,
                ⟨some 37, .bsl 16 .str 1 [(0, (.t 36))], none⟩,
                ⟨some 38, .app 16 .str (.t 35) (.t 37), none⟩,
                ⟨some 7, .mv (.t 38), none⟩] [1, 2, 7, 17, 18, 19]) (
               .skip))))) (
           .reg [
            ⟨some 39, .bin .add (.t 19) (.c (.int .i64 1)), none⟩,
            ⟨some 19, .mv (.t 39), none⟩] [1, 2, 7, 17, 18, 19]))))))) (
     .seq (
      .reg [
       ⟨some 40, .mv (.t 7), none⟩,
       ⟨some 6, .mv (.t 40), none⟩] [6]) (
      .ret)))))
def xr53 : List RT := [.t 6]
def xa54 : AS :=
 .seq (
  .reg [
   ⟨some 4, .mv (.c (.bool false)), none⟩] [0, 1]) (
  .seq (
   .seq (
    .reg [
     ⟨some 6, .mv (.t 0), none⟩,
     ⟨some 7, .len .s (.t 6), none⟩,
     ⟨some 8, .mv (.t 1), none⟩,
     ⟨some 9, .len .s (.t 8), none⟩,
     ⟨some 10, .bin .neq (.t 7) (.t 9), none⟩] [0, 1, 10]) (
    .cond (.t 10) (
     .no) (
     .skip))) (
   .seq (
    .seq (
     .reg [
      ⟨some 11, .mv (.t 0), none⟩,
      ⟨some 12, .len .s (.t 11), none⟩,
      ⟨some 13, .mv (.c (.int .i64 0)), none⟩] [0, 1, 12, 13]) (
     .block 0 (
      .loop 1 [0, 1, 12, 13] (
       .seq (
        .reg [
         ⟨some 14, .bin .lss (.t 13) (.t 12), none⟩] [0, 1, 12, 13, 14]) (
        .seq (
         .cond (.t 14) (
          .no) (
          .exit 0)) (
         .seq (
          .block 1 (
           .seq (
            .reg [
             ⟨some 15, .mv (.t 13), none⟩,
             ⟨some 5, .mv (.t 15), none⟩] [0, 1, 5, 12, 13]) (
            .seq (
             .regD [
              ⟨some 16, .mv (.t 0), none⟩,
              ⟨some 17, .mv (.t 5), none⟩,
              ⟨some 18, .ia 1 (.t 16) (.t 17), none⟩,
              ⟨some 19, .ld (.t 18), none⟩,
              ⟨some 20, .mv (.t 1), none⟩,
              ⟨some 21, .mv (.t 5), none⟩,
              ⟨some 22, .ia 1 (.t 20) (.t 21), none⟩,
              ⟨some 23, .ld (.t 22), none⟩,
              ⟨some 24, .bin .neq (.t 19) (.t 23), none⟩] [.q 0, .q 1, .q 2, .q 3, .q 4, .q 5, .q 6, .q 7, .q 8] [0, 1, 12, 13, 24]) (
             .cond (.t 24) (
              .no) (
              .no))))) (
          .reg [
           ⟨some 25, .bin .add (.t 13) (.c (.int .i64 1)), none⟩,
           ⟨some 13, .mv (.t 25), none⟩] [0, 1, 12, 13]))))))) (
    .seq (
     .reg [
      ⟨some 4, .mv (.c (.bool true)), none⟩] [4]) (
     .ret))))
def xr54 : List RT := [.t 4]
def xa55 : AS :=
 .seq (
  .reg [
   ⟨some 4, .mv (.c (.bool false)), none⟩] [0, 1]) (
  .seq (
   .seq (
    .reg [
     ⟨some 6, .mv (.t 0), none⟩,
     ⟨some 7, .len .s (.t 6), none⟩,
     ⟨some 8, .mv (.t 1), none⟩,
     ⟨some 9, .len .s (.t 8), none⟩,
     ⟨some 10, .bin .neq (.t 7) (.t 9), none⟩] [0, 1, 10]) (
    .cond (.t 10) (
     .no) (
     .skip))) (
   .seq (
    .seq (
     .reg [
      ⟨some 11, .mv (.t 0), none⟩,
      ⟨some 12, .len .s (.t 11), none⟩,
      ⟨some 13, .mv (.c (.int .i64 0)), none⟩] [0, 1, 12, 13]) (
     .block 0 (
      .loop 1 [0, 1, 12, 13] (
       .seq (
        .reg [
         ⟨some 14, .bin .lss (.t 13) (.t 12), none⟩] [0, 1, 12, 13, 14]) (
        .seq (
         .cond (.t 14) (
          .no) (
          .exit 0)) (
         .seq (
          .block 1 (
           .seq (
            .reg [
             ⟨some 15, .mv (.t 13), none⟩,
             ⟨some 5, .mv (.t 15), none⟩] [0, 1, 5, 12, 13]) (
            .seq (
             .regD [
              ⟨some 16, .mv (.t 0), none⟩,
              ⟨some 17, .mv (.t 5), none⟩,
              ⟨some 18, .ia 2 (.t 16) (.t 17), none⟩,
              ⟨some 19, .ldA 2 (.t 18), none⟩,
              ⟨some 20, .mv (.t 1), none⟩,
              ⟨some 21, .mv (.t 5), none⟩,
              ⟨some 22, .ia 2 (.t 20) (.t 21), none⟩,
              ⟨some 23, .ldA 2 (.t 22), none⟩,
              ⟨some 24, .eqS true [.int .i64, .int .i64] (.t 19) (.t 23), none⟩] [.q 0, .q 1, .q 2, .q 3, .q 4, .q 5, .q 6, .q 7, .q 8] [0, 1, 12, 13, 24]) (
             .cond (.t 24) (
              .no) (
              .no))))) (
          .reg [
           ⟨some 25, .bin .add (.t 13) (.c (.int .i64 1)), none⟩,
           ⟨some 13, .mv (.t 25), none⟩] [0, 1, 12, 13]))))))) (
    .seq (
     .reg [
      ⟨some 4, .mv (.c (.bool true)), none⟩] [4]) (
     .ret))))
def xr55 : List RT := [.t 4]
def xa58 : AS :=
 .seq (
  .reg [
   ⟨some 4, .mv (.c (.nils)), none⟩] [0, 1]) (
  .seq (
   .seq (
    .reg [
     ⟨some 5, .mv (.t 0), none⟩,
     ⟨some 6, .eqn false .p (.t 5) (.c (.nilp)), none⟩] [0, 1, 6]) (
    .cond (.t 6) (
     .no) (
     .skip))) (
   .seq (
    .reg [
     ⟨some 7, .mv (.t 0), none⟩,
     ⟨some 8, .nck (.t 7), none⟩,
     ⟨some 9, .fa 0 (.t 8), none⟩,
     ⟨some 10, .ld (.t 9), none⟩,
     ⟨some 11, .mv (.t 1), none⟩,
     ⟨some 12, .lk false (.int .u64) (.sl 8 (.int .u64)) false (.t 10) (.t 11), none⟩,
     ⟨some 13, .call 126 [none] [(.t 12)], none⟩,
     ⟨some 4, .mv (.t 13), none⟩] [4]) (
    .ret)))
def xr58 : List RT := [.t 4]
def xa61 : AS :=
 .seq (
  .reg [
   ⟨some 2, .mv (.c (.int .i64 0)), none⟩] [0]) (
  .seq (
   .block 0 (
    .seq (
     .reg [
      ⟨some 4, .mv (.t 0), none⟩,
      ⟨some 5, .eqn false .p (.t 4) (.c (.nilp)), none⟩,
      ⟨some 3, .mv (.t 5), none⟩] [0, 3]) (
     .cond (.t 3) (
      .seq (
       .reg [
        ⟨some 2, .mv (.c (.int .i64 1)), none⟩] [2]) (
       .ret)) (
      .seq (
       .reg [
        ⟨some 7, .mv (.t 0), none⟩,
        ⟨some 8, .nck (.t 7), none⟩,
        ⟨some 9, .fa 9 (.t 8), none⟩,
        ⟨some 10, .ld (.t 9), none⟩,
        ⟨some 6, .mv (.t 10), none⟩] [0, 6]) (
       .cond (.t 6) (
        .no) (
        .skip)))))) (
   .seq (
    .reg [
     ⟨some 2, .mv (.c (.int .i64 0)), none⟩] [2]) (
    .ret)))
def xr61 : List RT := [.t 2]
def xa62 : AS :=
 .seq (
  .reg [
   ⟨some 1, .box (.t 0), none⟩,
   ⟨some 2, .alc [.str ByteArray.empty, .int .u64 0, .int .i64 0, .nils], none⟩] [1, 2]) (
  .seq (
   .reg [
    ⟨some 3, .fa 3 (.t 1), none⟩,
    ⟨some 4, .ld (.t 3), none⟩,
    ⟨some 5, .call 128 [none] [(.t 4)], none⟩,
    ⟨some 6, .fa 3 (.t 1), none⟩,
    ⟨none, .st 1 (.t 6) (.t 5), none⟩] [1, 2]) (
   .seq (
    .reg [
     ⟨some 7, .ldA 4 (.t 1), none⟩,
     ⟨none, .st 4 (.t 2) (.t 7), none⟩] [2]) (
    .ret)))
def xr62 : List RT := [.c 2 (some 4)]
def xa63 : AS :=
 .seq (
  .reg [
   ⟨some 1, .box (.t 0), none⟩,
   ⟨some 2, .mv (.c (.bool false)), none⟩] [1]) (
  .seq (
   .reg [
    ⟨some 3, .fa 0 (.t 1), none⟩,
    ⟨some 4, .ld (.t 3), none⟩,
    ⟨some 5, .len .i (.t 4), none⟩,
    ⟨some 6, .bin .leq (.t 5) (.c (.int .i64 40)), none⟩,
    ⟨some 7, .mv (.t 6), none⟩,
    ⟨some 8, .fa 3 (.t 1), (some (7, true))⟩,
    ⟨some 9, .ld (.t 8), (some (7, true))⟩,
    ⟨some 10, .len .s (.t 9), (some (7, true))⟩,
    ⟨some 11, .bin .leq (.t 10) (.c (.int .i64 4)), (some (7, true))⟩,
    ⟨some 12, .pick (.t 7) (.t 11) (.c (.bool false)), none⟩,
    ⟨some 2, .mv (.t 12), none⟩] [2]) (
   .ret))
def xr63 : List RT := [.t 2]
def xa64 : AS :=
 .seq (
  .reg [
   ⟨some 4, .mv (.c (.int .i64 0)), none⟩] [0, 1]) (
  .seq (
   .seq (
    .reg [
     ⟨some 5, .mv (.t 1), none⟩,
     ⟨some 6, .bin .eql (.t 5) (.c (.int .i64 9)), none⟩] [0, 1, 6]) (
    .cond (.t 6) (
     .no) (
     .skip))) (
   .seq (
    .seq (
     .reg [
      ⟨some 10, .mv (.t 1), none⟩,
      ⟨some 11, .bin .neq (.t 10) (.c (.int .i64 0)), none⟩] [0, 1, 11]) (
     .cond (.t 11) (
      .no) (
      .skip))) (
    .seq (
     .reg [
      ⟨some 17, .mv (.t 1), none⟩,
      ⟨some 4, .mv (.t 17), none⟩] [4]) (
     .ret))))
def xr64 : List RT := [.t 4]
def xa65 : AS :=
 .seq (
  .reg [
   ⟨some 6, .mv (.c (.bool false)), none⟩] [0, 1, 2]) (
  .seq (
   .reg [
    ⟨some 7, .mv (.t 0), none⟩,
    ⟨some 8, .eqn true .p (.t 7) (.c (.nilp)), none⟩,
    ⟨some 9, .mv (.t 8), none⟩,
    ⟨some 10, .mv (.t 0), (some (9, true))⟩,
    ⟨some 11, .nck (.t 10), (some (9, true))⟩,
    ⟨some 12, .fa 0 (.t 11), (some (9, true))⟩,
    ⟨some 13, .ld (.t 12), (some (9, true))⟩,
    ⟨some 14, .mv (.t 1), (some (9, true))⟩,
    ⟨some 15, .lk false (.int .u64) (.sl 8 (.int .u64)) false (.t 13) (.t 14), (some (9, true))⟩,
    ⟨some 16, .mv (.t 2), (some (9, true))⟩,
    ⟨some 17, .call 93 [none, none] [(.t 15), (.t 16)], (some (9, true))⟩,
    ⟨some 18, .pick (.t 9) (.t 17) (.c (.bool false)), none⟩,
    ⟨some 6, .mv (.t 18), none⟩] [6]) (
   .ret))
def xr65 : List RT := [.t 6]
def xa66 : AS :=
 .seq (
  .reg [
   ⟨some 3, .box (.t 1), none⟩,
   ⟨some 4, .mv (.c (.int .i64 0)), none⟩] [0, 3]) (
  .seq (
   .block 0 (
    .seq (
     .reg [
      ⟨some 6, .mv (.t 0), none⟩,
      ⟨some 7, .eqn false .p (.t 6) (.c (.nilp)), none⟩,
      ⟨some 8, .mv (.t 7), none⟩,
      ⟨some 9, .ldA 4 (.t 3), (some (8, false))⟩,
      ⟨some 10, .call 63 [none] [(.t 9)], (some (8, false))⟩,
      ⟨some 11, .not (.t 10), (some (8, false))⟩,
      ⟨some 12, .pick (.t 8) (.c (.bool true)) (.t 11), none⟩,
      ⟨some 5, .mv (.t 12), none⟩] [0, 3, 5]) (
     .cond (.t 5) (
      .no) (
      .seq (
       .reg [
        ⟨some 14, .mv (.t 0), none⟩,
        ⟨some 15, .nck (.t 14), none⟩,
        ⟨some 16, .fa 0 (.t 15), none⟩,
        ⟨some 17, .ld (.t 16), none⟩,
        ⟨some 18, .len .s (.t 17), none⟩,
        ⟨some 19, .bin .geq (.t 18) (.c (.int .i64 8)), none⟩,
        ⟨some 13, .mv (.t 19), none⟩] [0, 3, 13]) (
       .cond (.t 13) (
        .no) (
        .skip)))))) (
   .seq (
    .regD [
     ⟨some 20, .mv (.t 0), none⟩,
     ⟨some 21, .mv (.t 0), none⟩,
     ⟨some 22, .nck (.t 21), none⟩,
     ⟨some 23, .fa 0 (.t 22), none⟩,
     ⟨some 24, .ld (.t 23), none⟩,
     ⟨some 25, .ldA 4 (.t 3), none⟩,
     ⟨some 26, .call 62 [none] [(.t 25)], none⟩,
     ⟨some 27, .bsl 56 (.pair .str (.pair (.int .u64) (.pair (.int .i64) (.sl 8 (.int .i64))))) 1 [(0, (.t 26))], none⟩,
     ⟨some 28, .app 56 (.pair .str (.pair (.int .u64) (.pair (.int .i64) (.sl 8 (.int .i64))))) (.t 24) (.t 27), none⟩,
     ⟨some 29, .nck (.t 20), none⟩,
     ⟨some 30, .fa 0 (.t 29), none⟩,
     ⟨none, .st 1 (.t 30) (.t 28), none⟩] [.q 0, .q 1, .q 2, .q 3, .q 4, .q 5, .e 6 [0, 1, 2, 3, 4], .e 7 [0, 1, 2, 3, 4], .e 8 [0], .q 9, .q 10, .e 11 []] []) (
    .seq (
     .reg [
      ⟨some 4, .mv (.c (.int .i64 0)), none⟩] [4]) (
     .ret))))
def xr66 : List RT := [.t 4]
def xa67 : AS :=
 .seq (
  .reg [
   ⟨some 2, .mv (.c (.nils)), none⟩] [0]) (
  .seq (
   .seq (
    .reg [
     ⟨some 8, .mv (.t 0), none⟩,
     ⟨some 9, .eqn false .p (.t 8) (.c (.nilp)), none⟩] [0, 9]) (
    .cond (.t 9) (
     .no) (
     .skip))) (
   .seq (
    .reg [
     ⟨some 10, .call 106 [] [], none⟩,
     ⟨some 3, .mv (.t 10), none⟩] [0, 3]) (
    .seq (
     .reg [
      ⟨some 11, .mv (.t 3), none⟩,
      ⟨some 12, .mv (.t 0), none⟩,
      ⟨some 13, .nck (.t 12), none⟩,
      ⟨some 14, .fa 1 (.t 13), none⟩,
      ⟨some 15, .ld (.t 14), none⟩,
      ⟨some 16, .len .s (.t 15), none⟩,
      ⟨some 17, .cv .u64 (.t 16), none⟩,
      ⟨some 18, .call 129 [none, none] [(.t 11), (.t 17)], none⟩] [0, 3]) (
     .seq (
      .seq (
       .reg [
        ⟨some 19, .mv (.t 0), none⟩,
        ⟨some 20, .nck (.t 19), none⟩,
        ⟨some 21, .fa 1 (.t 20), none⟩,
        ⟨some 22, .ld (.t 21), none⟩,
        ⟨some 23, .len .s (.t 22), none⟩,
        ⟨some 24, .mv (.c (.int .i64 0)), none⟩] [0, 3, 22, 23, 24]) (
       .block 0 (
        .loop 1 [0, 3, 22, 23, 24] (
         .seq (
          .reg [
           ⟨some 25, .bin .lss (.t 24) (.t 23), none⟩] [0, 3, 22, 23, 24, 25]) (
          .seq (
           .cond (.t 25) (
            .skip) (
            .exit 0)) (
           .seq (
            .block 1 (
             .seq (
              .reg [
               ⟨some 26, .ia 1 (.t 22) (.t 24), none⟩,
               ⟨some 27, .ld (.t 26), none⟩,
               ⟨some 5, .mv (.t 27), none⟩] [0, 3, 5, 22, 23, 24]) (
              .seq (
               .reg [
                ⟨some 28, .mv (.t 3), none⟩,
                ⟨some 29, .mv (.t 5), none⟩,
                ⟨some 30, .call 129 [none, none] [(.t 28), (.t 29)], none⟩] [0, 3, 5, 22, 23, 24]) (
               .seq (
                .reg [
                 ⟨some 31, .mv (.t 3), none⟩,
                 ⟨some 32, .mv (.t 0), none⟩,
                 ⟨some 33, .nck (.t 32), none⟩,
                 ⟨some 34, .fa 0 (.t 33), none⟩,
                 ⟨some 35, .ld (.t 34), none⟩,
                 ⟨some 36, .mv (.t 5), none⟩,
                 ⟨some 37, .lk false (.int .u64) (.sl 8 (.int .u64)) false (.t 35) (.t 36), none⟩,
                 ⟨some 38, .len .s (.t 37), none⟩,
                 ⟨some 39, .cv .u64 (.t 38), none⟩,
                 ⟨some 40, .call 129 [none, none] [(.t 31), (.t 39)], none⟩] [0, 3, 5, 22, 23, 24]) (
                .seq (
                 .reg [
                  ⟨some 41, .mv (.t 0), none⟩,
                  ⟨some 42, .nck (.t 41), none⟩,
                  ⟨some 43, .fa 0 (.t 42), none⟩,
                  ⟨some 44, .ld (.t 43), none⟩,
                  ⟨some 45, .mv (.t 5), none⟩,
                  ⟨some 46, .lk false (.int .u64) (.sl 8 (.int .u64)) false (.t 44) (.t 45), none⟩,
                  ⟨some 47, .len .s (.t 46), none⟩,
                  ⟨some 48, .mv (.c (.int .i64 0)), none⟩] [0, 3, 22, 23, 24, 46, 47, 48]) (
                 .block 2 (
                  .loop 2 [0, 3, 22, 23, 24, 46, 47, 48] (
                   .seq (
                    .reg [
                     ⟨some 49, .bin .lss (.t 48) (.t 47), none⟩] [0, 3, 22, 23, 24, 46, 47, 48, 49]) (
                    .seq (
                     .cond (.t 49) (
                      .skip) (
                      .exit 2)) (
                     .seq (
                      .block 3 (
                       .seq (
                        .reg [
                         ⟨some 50, .ia 1 (.t 46) (.t 48), none⟩,
                         ⟨some 51, .ld (.t 50), none⟩,
                         ⟨some 7, .mv (.t 51), none⟩] [0, 3, 7, 22, 23, 24, 46, 47, 48]) (
                        .reg [
                         ⟨some 52, .mv (.t 3), none⟩,
                         ⟨some 53, .mv (.t 7), none⟩,
                         ⟨some 54, .call 129 [none, none] [(.t 52), (.t 53)], none⟩] [0, 3, 22, 23, 24, 46, 47, 48]))) (
                      .reg [
                       ⟨some 55, .bin .add (.t 48) (.c (.int .i64 1)), none⟩,
                       ⟨some 48, .mv (.t 55), none⟩] [0, 3, 22, 23, 24, 46, 47, 48]))))))))))) (
            .reg [
             ⟨some 56, .bin .add (.t 24) (.c (.int .i64 1)), none⟩,
             ⟨some 24, .mv (.t 56), none⟩] [0, 3, 22, 23, 24]))))))) (
      .seq (
       .reg [
        ⟨some 57, .mv (.t 3), none⟩,
        ⟨some 58, .call 109 [none] [(.t 57)], none⟩,
        ⟨some 2, .mv (.t 58), none⟩] [2]) (
       .ret))))))
def xr67 : List RT := [.t 2]
def xa68 : AS :=
 .seq (
  .reg [
   ⟨some 4, .box (.t 1), none⟩,
   ⟨some 6, .mv (.c (.bool false)), none⟩] [0, 2, 4]) (
  .seq (
   .seq (
    .reg [
     ⟨some 8, .mv (.t 0), none⟩,
     ⟨some 9, .eqn false .p (.t 8) (.c (.nilp)), none⟩,
     ⟨some 10, .mv (.t 9), none⟩,
     ⟨some 11, .mv (.t 0), (some (10, false))⟩,
     ⟨some 12, .ld (.t 4), (some (10, false))⟩,
     ⟨some 13, .mv (.t 2), (some (10, false))⟩,
     ⟨some 14, .call 65 [none, none, none] [(.t 11), (.t 12), (.t 13)], (some (10, false))⟩,
     ⟨some 15, .pick (.t 10) (.c (.bool true)) (.t 14), none⟩] [0, 2, 4, 15]) (
    .cond (.t 15) (
     .no) (
     .skip))) (
   .seq (
    .seq (
     .reg [
      ⟨some 16, .mv (.t 0), none⟩,
      ⟨some 17, .nck (.t 16), none⟩,
      ⟨some 18, .fa 0 (.t 17), none⟩,
      ⟨some 19, .ld (.t 18), none⟩,
      ⟨some 20, .eqn false .m (.t 19) (.c (.nilm)), none⟩] [0, 2, 4, 20]) (
     .cond (.t 20) (
      .reg [
       ⟨some 21, .mv (.t 0), none⟩,
       ⟨some 22, .mkm false (.int .u64) (.sl 8 (.int .u64)), none⟩,
       ⟨some 23, .nck (.t 21), none⟩,
       ⟨some 24, .fa 0 (.t 23), none⟩,
       ⟨none, .st 1 (.t 24) (.t 22), none⟩] [0, 2, 4]) (
      .no))) (
    .seq (
     .reg [
      ⟨some 25, .mv (.t 0), none⟩,
      ⟨some 26, .ld (.t 4), none⟩,
      ⟨some 27, .call 58 [none, none] [(.t 25), (.t 26)], none⟩,
      ⟨some 28, .mv (.t 2), none⟩,
      ⟨some 29, .bsl 8 (.int .u64) 1 [(0, (.t 28))], none⟩,
      ⟨some 30, .app 8 (.int .u64) (.t 27) (.t 29), none⟩,
      ⟨some 7, .mv (.t 30), none⟩] [0, 4, 7]) (
     .seq (
      .regD [
       ⟨some 31, .mv (.t 0), none⟩,
       ⟨some 32, .nck (.t 31), none⟩,
       ⟨some 33, .fa 0 (.t 32), none⟩,
       ⟨some 34, .ld (.t 33), none⟩,
       ⟨some 35, .ld (.t 4), none⟩,
       ⟨some 36, .mv (.t 7), none⟩,
       ⟨some 37, .mv (.t 7), none⟩,
       ⟨some 38, .len .s (.t 37), none⟩,
       ⟨some 39, .bin .sub (.t 38) (.c (.int .i64 4)), none⟩,
       ⟨some 40, .mm true (.t 39) (.c (.int .i64 0)), none⟩,
       ⟨some 41, .slR 1 (.t 36) (some (.t 40)) none, none⟩,
       ⟨none, .mu false (.int .u64) (.sl 8 (.int .u64)) (.t 34) (.t 35) (.t 41), none⟩] [.q 0, .q 1, .q 2, .q 3, .q 4, .q 5, .q 6, .q 7, .q 8, .q 9, .q 10, .e 11 []] [0, 4]) (
      .seq (
       .regT [
        ⟨some 42, .mv (.t 0), none⟩,
        ⟨some 43, .mv (.t 0), none⟩,
        ⟨some 44, .nck (.t 43), none⟩,
        ⟨some 45, .fa 1 (.t 44), none⟩,
        ⟨some 46, .ld (.t 45), none⟩,
        ⟨some 47, .mkf 131 [(.t 4)], none⟩,
        ⟨some 48, .call 130 [none, none] [(.t 46), (.t 47)], none⟩,
        ⟨some 49, .ld (.t 4), none⟩,
        ⟨some 50, .bsl 8 (.int .u64) 1 [(0, (.t 49))], none⟩,
        ⟨some 51, .app 8 (.int .u64) (.t 48) (.t 50), none⟩,
        ⟨some 52, .nck (.t 42), none⟩,
        ⟨some 53, .fa 1 (.t 52), none⟩,
        ⟨none, .st 1 (.t 53) (.t 51), none⟩] (.q 0 (.q 1 (.q 2 (.q 3 (.q 4 (.q 5 (.q 7 (.e 6 [0, 7] (.e 8 [0, 1, 2, 3, 4, 5] (.e 9 [0] (.q 10 (.q 11 (.e 12 [] .done .no))) .no) .no) (.e 8 [0, 1, 2, 3, 4, 5] (.e 6 [0, 7] (.e 9 [0] (.q 10 (.q 11 (.e 12 [] .done .no))) .no) .no) .no))))))))) [0]) (
       .seq (
        .seq (
         .reg [
          ⟨some 54, .mv (.t 0), none⟩,
          ⟨some 55, .nck (.t 54), none⟩,
          ⟨some 56, .fa 1 (.t 55), none⟩,
          ⟨some 57, .ld (.t 56), none⟩,
          ⟨some 58, .len .s (.t 57), none⟩,
          ⟨some 59, .bin .gtr (.t 58) (.c (.int .i64 64)), none⟩] [0, 59]) (
         .cond (.t 59) (
          .no) (
          .skip))) (
        .seq (
         .reg [
          ⟨some 6, .mv (.c (.bool true)), none⟩] [6]) (
         .ret))))))))
def xr68 : List RT := [.t 6]
def xa69 : AS :=
 .seq (
  .reg [
   ⟨some 3, .box (.t 1), none⟩,
   ⟨some 4, .mv (.c (.int .i64 0)), none⟩] [0, 3]) (
  .seq (
   .seq (
    .reg [
     ⟨some 12, .fa 0 (.t 3), none⟩,
     ⟨some 13, .ld (.t 12), none⟩,
     ⟨some 14, .lenP (.t 13), none⟩,
     ⟨some 15, .mv (.c (.int .i64 0)), none⟩] [0, 3, 13, 14, 15]) (
    .block 0 (
     .loop 1 [0, 3, 13, 14, 15] (
      .seq (
       .reg [
        ⟨some 16, .bin .lss (.t 15) (.t 14), none⟩] [0, 3, 13, 14, 15, 16]) (
       .seq (
        .cond (.t 16) (
         .skip) (
         .exit 0)) (
        .seq (
         .block 1 (
          .seq (
           .reg [
            ⟨some 17, .iaP (.t 13) (.t 15), none⟩,
            ⟨some 18, .ld (.t 17), none⟩,
            ⟨some 6, .mv (.t 18), none⟩] [0, 3, 6, 13, 14, 15]) (
           .seq (
            .reg [
             ⟨some 20, .mv (.t 6), none⟩,
             ⟨some 21, .call 113 [none] [(.t 20)], none⟩,
             ⟨some 19, .mv (.t 21), none⟩,
             ⟨some 22, .ext (.t 19) 0, none⟩,
             ⟨some 23, .ext (.t 19) 1, none⟩,
             ⟨some 7, .mv (.t 22), none⟩,
             ⟨some 8, .mv (.t 23), none⟩] [0, 3, 6, 7, 13, 14, 15]) (
            .regD [
             ⟨some 24, .fa 3 (.t 3), none⟩,
             ⟨some 25, .ld (.t 24), none⟩,
             ⟨some 26, .mv (.t 6), none⟩,
             ⟨some 27, .call 34 [none] [(.t 26)], none⟩,
             ⟨some 28, .bin .add (.c (.str ⟨#[97]⟩)) (.t 27), none⟩,
             ⟨some 29, .mv (.t 7), none⟩,
             ⟨some 30, .mv (.t 6), none⟩,
             ⟨some 31, .call 132 [none] [(.t 30)], none⟩,
             ⟨some 32, .bld [.str ByteArray.empty, .nils, .bool false] [(0, 1, (.t 28)), (1, 1, (.t 29)), (2, 1, (.t 31))], none⟩,
             ⟨some 33, .bsl 48 (.pair .str (.pair (.sl 1 .byte) .bool)) 1 [(0, (.t 32))], none⟩,
             ⟨some 34, .app 48 (.pair .str (.pair (.sl 1 .byte) .bool)) (.t 25) (.t 33), none⟩,
             ⟨some 35, .fa 3 (.t 3), none⟩,
             ⟨none, .st 1 (.t 35) (.t 34), none⟩] [.q 0, .q 1, .q 2, .q 5, .q 6, .e 3 [0, 1, 5, 6], .q 4, .e 7 [0, 1, 5, 4], .q 8, .e 9 [0, 1], .e 10 [], .q 11, .e 12 []] [0, 3, 13, 14, 15])))) (
         .reg [
          ⟨some 36, .bin .add (.t 15) (.c (.int .i64 1)), none⟩,
          ⟨some 15, .mv (.t 36), none⟩] [0, 3, 13, 14, 15]))))))) (
   .seq (
    .seq (
     .reg [
      ⟨some 37, .fa 1 (.t 3), none⟩,
      ⟨some 38, .ld (.t 37), none⟩,
      ⟨some 39, .eqn true .p (.t 38) (.c (.nilp)), none⟩] [0, 3, 39]) (
     .cond (.t 39) (
      .no) (
      .skip))) (
    .seq (
     .seq (
      .reg [
       ⟨some 49, .fa 2 (.t 3), none⟩,
       ⟨some 50, .ld (.t 49), none⟩,
       ⟨some 51, .eqn true .p (.t 50) (.c (.nilp)), none⟩] [0, 3, 51]) (
      .cond (.t 51) (
       .regD [
        ⟨some 52, .fa 3 (.t 3), none⟩,
        ⟨some 53, .ld (.t 52), none⟩,
        ⟨some 54, .fa 2 (.t 3), none⟩,
        ⟨some 55, .ld (.t 54), none⟩,
        ⟨some 56, .call 67 [none] [(.t 55)], none⟩,
        ⟨some 57, .bld [.str ByteArray.empty, .nils, .bool false] [(0, 1, (.c (.str ⟨#[119]⟩))), (1, 1, (.t 56))], none⟩,
        ⟨some 58, .bsl 48 (.pair .str (.pair (.sl 1 .byte) .bool)) 1 [(0, (.t 57))], none⟩,
        ⟨some 59, .app 48 (.pair .str (.pair (.sl 1 .byte) .bool)) (.t 53) (.t 58), none⟩,
        ⟨some 60, .fa 3 (.t 3), none⟩,
        ⟨none, .st 1 (.t 60) (.t 59), none⟩] [.q 0, .q 1, .q 2, .q 3, .e 4 [0, 1], .q 5, .e 6 [0, 1], .e 7 [], .q 8, .e 9 []] [0, 3]) (
       .no))) (
     .seq (
      .seq (
       .regD [
        ⟨some 61, .mv (.t 0), none⟩,
        ⟨some 62, .nck (.t 61), none⟩,
        ⟨some 63, .fa 0 (.t 62), none⟩,
        ⟨some 64, .ld (.t 63), none⟩,
        ⟨some 65, .fa 3 (.t 3), none⟩,
        ⟨some 66, .ld (.t 65), none⟩,
        ⟨some 67, .call 108 [none, none] [(.t 64), (.t 66)], none⟩,
        ⟨some 9, .mv (.t 67), none⟩] [.q 0, .q 1, .q 2, .q 3, .q 4, .q 5, .e 6 [], .q 7] [0, 3, 9]) (
       .seq (
        .reg [
         ⟨some 68, .mv (.t 9), none⟩,
         ⟨some 69, .bin .neq (.t 68) (.c (.int .i64 0)), none⟩] [0, 3, 9, 69]) (
        .cond (.t 69) (
         .no) (
         .skip)))) (
      .seq (
       .seq (
        .reg [
         ⟨some 71, .fa 0 (.t 3), none⟩,
         ⟨some 72, .ld (.t 71), none⟩,
         ⟨some 73, .lenP (.t 72), none⟩,
         ⟨some 74, .mv (.c (.int .i64 0)), none⟩] [0, 3, 72, 73, 74]) (
        .block 2 (
         .loop 2 [0, 3, 72, 73, 74] (
          .seq (
           .reg [
            ⟨some 75, .bin .lss (.t 74) (.t 73), none⟩] [0, 3, 72, 73, 74, 75]) (
           .seq (
            .cond (.t 75) (
             .skip) (
             .exit 2)) (
            .seq (
             .block 3 (
              .seq (
               .reg [
                ⟨some 76, .iaP (.t 72) (.t 74), none⟩,
                ⟨some 77, .ld (.t 76), none⟩,
                ⟨some 11, .mv (.t 77), none⟩] [0, 3, 11, 72, 73, 74]) (
               .seq (
                .regD [
                 ⟨some 78, .mv (.t 0), none⟩,
                 ⟨some 79, .nck (.t 78), none⟩,
                 ⟨some 80, .fa 1 (.t 79), none⟩,
                 ⟨some 81, .ld (.t 80), none⟩,
                 ⟨some 82, .mv (.t 11), none⟩,
                 ⟨some 83, .call 34 [none] [(.t 82)], none⟩,
                 ⟨some 84, .call 134 [none, none] [(.t 81), (.t 83)], none⟩] [.q 0, .q 1, .q 2, .q 3, .q 4, .e 5 [0, 1, 2, 3], .e 6 []] [0, 3, 11, 72, 73, 74, 84]) (
                .cond (.t 84) (
                 .regD [
                  ⟨some 85, .mv (.t 0), none⟩,
                  ⟨some 86, .nck (.t 85), none⟩,
                  ⟨some 87, .fa 2 (.t 86), none⟩,
                  ⟨some 88, .ld (.t 87), none⟩,
                  ⟨some 89, .mv (.t 11), none⟩,
                  ⟨some 90, .call 34 [none] [(.t 89)], none⟩,
                  ⟨some 91, .mv (.t 11), none⟩,
                  ⟨none, .mu false .str .any1 (.t 88) (.t 90) (.t 91), none⟩] [.q 0, .q 1, .q 2, .q 3, .q 4, .q 6, .e 5 [0, 1, 2, 3, 6], .e 7 []] [0, 3, 72, 73, 74]) (
                 .no))))) (
             .reg [
              ⟨some 92, .bin .add (.t 74) (.c (.int .i64 1)), none⟩,
              ⟨some 74, .mv (.t 92), none⟩] [0, 3, 72, 73, 74]))))))) (
       .seq (
        .seq (
         .reg [
          ⟨some 93, .fa 1 (.t 3), none⟩,
          ⟨some 94, .ld (.t 93), none⟩,
          ⟨some 95, .eqn true .p (.t 94) (.c (.nilp)), none⟩] [0, 3, 95]) (
         .cond (.t 95) (
          .no) (
          .skip))) (
        .seq (
         .seq (
          .reg [
           ⟨some 101, .fa 2 (.t 3), none⟩,
           ⟨some 102, .ld (.t 101), none⟩,
           ⟨some 103, .eqn true .p (.t 102) (.c (.nilp)), none⟩] [0, 3, 103]) (
          .cond (.t 103) (
           .reg [
            ⟨some 104, .mv (.t 0), none⟩,
            ⟨some 105, .fa 2 (.t 3), none⟩,
            ⟨some 106, .ld (.t 105), none⟩,
            ⟨some 107, .nck (.t 104), none⟩,
            ⟨some 108, .fa 4 (.t 107), none⟩,
            ⟨none, .st 1 (.t 108) (.t 106), none⟩] []) (
           .no))) (
         .seq (
          .reg [
           ⟨some 4, .mv (.c (.int .i64 0)), none⟩] [4]) (
          .ret)))))))))
def xr69 : List RT := [.t 4]
def xa71 : AS :=
 .seq (
  .reg [
   ⟨some 2, .mv (.c (.int .i64 0)), none⟩] [0]) (
  .seq (
   .seq (
    .reg [
     ⟨some 3, .mv (.t 0), none⟩,
     ⟨some 4, .eqn false .p (.t 3) (.c (.nilp)), none⟩] [0, 4]) (
    .cond (.t 4) (
     .seq (
      .reg [
       ⟨some 2, .mv (.c (.int .i64 0)), none⟩] [2]) (
      .ret)) (
     .skip))) (
   .seq (
    .reg [
     ⟨some 5, .mv (.t 0), none⟩,
     ⟨some 6, .nck (.t 5), none⟩,
     ⟨some 7, .fa 0 (.t 6), none⟩,
     ⟨some 8, .ld (.t 7), none⟩,
     ⟨some 9, .len .s (.t 8), none⟩,
     ⟨some 2, .mv (.t 9), none⟩] [2]) (
    .ret)))
def xr71 : List RT := [.t 2]
def xa72 : AS :=
 .seq (
  .reg [
   ⟨some 2, .mv (.c (.nilp)), none⟩,
   ⟨some 3, .mv (.c (.int .i64 0)), none⟩] [0]) (
  .seq (
   .seq (
    .reg [
     ⟨some 12, .mv (.t 0), none⟩,
     ⟨some 13, .call 71 [none] [(.t 12)], none⟩,
     ⟨some 14, .bin .lss (.t 13) (.c (.int .i64 2)), none⟩] [0, 14]) (
    .cond (.t 14) (
     .no) (
     .skip))) (
   .seq (
    .reg [
     ⟨some 15, .mv (.t 0), none⟩,
     ⟨some 16, .bld [.nilp, .int .u64 0, .nils, .bool false] [(0, 1, (.t 15))], none⟩,
     ⟨some 17, .box (.t 16), none⟩,
     ⟨some 4, .mv (.t 17), none⟩] [0, 4]) (
    .seq (
     .seq (
      .reg [
       ⟨some 18, .mv (.c (.int .i64 0)), none⟩] [0, 4, 18]) (
      .block 0 (
       .loop 1 [0, 4, 18] (
        .seq (
         .reg [
          ⟨some 19, .bin .lss (.t 18) (.c (.int .i64 2)), none⟩] [0, 4, 18, 19]) (
         .seq (
          .cond (.t 19) (
           .skip) (
           .exit 0)) (
          .seq (
           .block 1 (
            .seq (
             .reg [
              ⟨some 20, .mv (.t 18), none⟩,
              ⟨some 5, .mv (.t 20), none⟩] [0, 4, 5, 18]) (
             .seq (
              .reg [
               ⟨some 22, .mv (.t 0), none⟩,
               ⟨some 23, .mv (.t 5), none⟩,
               ⟨some 24, .call 137 [none, none] [(.t 22), (.t 23)], none⟩,
               ⟨some 21, .mv (.t 24), none⟩,
               ⟨some 25, .ext (.t 21) 0, none⟩,
               ⟨some 26, .ext (.t 21) 1, none⟩,
               ⟨some 6, .mv (.t 25), none⟩,
               ⟨some 7, .mv (.t 26), none⟩] [0, 4, 5, 6, 7, 18]) (
              .seq (
               .seq (
                .reg [
                 ⟨some 27, .mv (.t 7), none⟩,
                 ⟨some 28, .bin .neq (.t 27) (.c (.int .i64 0)), none⟩] [0, 4, 5, 6, 18, 28]) (
                .cond (.t 28) (
                 .no) (
                 .skip))) (
               .seq (
                .reg [
                 ⟨some 30, .mv (.t 5), none⟩,
                 ⟨some 31, .cv .u32 (.t 30), none⟩,
                 ⟨some 32, .mv (.t 6), none⟩,
                 ⟨some 33, .call 138 [none, none, none] [(.c (.int .u8 83)), (.t 31), (.t 32)], none⟩,
                 ⟨some 29, .mv (.t 33), none⟩,
                 ⟨some 34, .ext (.t 29) 0, none⟩,
                 ⟨some 35, .ext (.t 29) 1, none⟩,
                 ⟨some 8, .mv (.t 34), none⟩,
                 ⟨some 9, .mv (.t 35), none⟩] [0, 4, 8, 9, 18]) (
                .seq (
                 .reg [
                  ⟨some 36, .mv (.t 8), none⟩,
                  ⟨some 37, .call 27 [none] [(.t 36)], none⟩,
                  ⟨some 10, .mv (.t 37), none⟩] [0, 4, 8, 9, 10, 18]) (
                 .seq (
                  .reg [
                   ⟨some 38, .mv (.t 10), none⟩,
                   ⟨some 39, .call 75 [none] [(.t 38)], none⟩,
                   ⟨some 11, .mv (.t 39), none⟩] [0, 4, 8, 9, 10, 11, 18]) (
                  .seq (
                   .reg [
                    ⟨some 40, .mv (.t 9), none⟩,
                    ⟨some 41, .mv (.t 40), none⟩,
                    ⟨some 42, .mv (.t 10), (some (41, true))⟩,
                    ⟨some 43, .call 89 [none] [(.t 42)], (some (41, true))⟩,
                    ⟨some 44, .not (.t 43), (some (41, true))⟩,
                    ⟨some 45, .pick (.t 41) (.t 44) (.c (.bool false)), none⟩,
                    ⟨some 46, .mv (.t 45), none⟩,
                    ⟨some 47, .mv (.t 11), (some (46, true))⟩,
                    ⟨some 48, .mv (.t 4), (some (46, true))⟩,
                    ⟨some 49, .nck (.t 48), (some (46, true))⟩,
                    ⟨some 50, .fa 1 (.t 49), (some (46, true))⟩,
                    ⟨some 51, .ld (.t 50), (some (46, true))⟩,
                    ⟨some 52, .bin .gtr (.t 47) (.t 51), (some (46, true))⟩,
                    ⟨some 53, .pick (.t 46) (.t 52) (.c (.bool false)), none⟩] [0, 4, 8, 10, 11, 18, 53]) (
                   .cond (.t 53) (
                    .no) (
                    .skip)))))))))) (
           .reg [
            ⟨some 68, .bin .add (.t 18) (.c (.int .i64 1)), none⟩,
            ⟨some 18, .mv (.t 68), none⟩] [0, 4, 18]))))))) (
     .seq (
      .reg [
       ⟨some 69, .mv (.t 4), none⟩,
       ⟨some 2, .mv (.t 69), none⟩,
       ⟨some 3, .mv (.c (.int .i64 0)), none⟩] [2, 3]) (
      .ret)))))
def xr72 : List RT := [.t 2, .t 3]
def xa73 : AS :=
 .seq (
  .reg [
   ⟨some 2, .mv (.c (.int .u64 0)), none⟩] [0]) (
  .seq (
   .seq (
    .reg [
     ⟨some 3, .mv (.t 0), none⟩,
     ⟨some 4, .eqn false .p (.t 3) (.c (.nilp)), none⟩] [0, 4]) (
    .cond (.t 4) (
     .no) (
     .skip))) (
   .seq (
    .reg [
     ⟨some 5, .mv (.t 0), none⟩,
     ⟨some 6, .nck (.t 5), none⟩,
     ⟨some 7, .fa 1 (.t 6), none⟩,
     ⟨some 8, .ld (.t 7), none⟩,
     ⟨some 2, .mv (.t 8), none⟩] [2]) (
    .ret)))
def xr73 : List RT := [.t 2]
def xa75 : AS :=
 .seq (
  .reg [
   ⟨some 2, .mv (.c (.int .u64 0)), none⟩] [0]) (
  .seq (
   .seq (
    .reg [
     ⟨some 8, .mv (.t 0), none⟩,
     ⟨some 9, .eqn false .p (.t 8) (.c (.nilp)), none⟩,
     ⟨some 10, .mv (.t 9), none⟩,
     ⟨some 11, .mv (.t 0), (some (10, false))⟩,
     ⟨some 12, .nck (.t 11), (some (10, false))⟩,
     ⟨some 13, .fa 1 (.t 12), (some (10, false))⟩,
     ⟨some 14, .ld (.t 13), (some (10, false))⟩,
     ⟨some 15, .pick (.t 10) (.c (.bool true)) (.t 14), none⟩] [0, 15]) (
    .cond (.t 15) (
     .no) (
     .skip))) (
   .seq (
    .seq (
     .reg [
      ⟨some 16, .mv (.t 0), none⟩,
      ⟨some 17, .nck (.t 16), none⟩,
      ⟨some 18, .fa 0 (.t 17), none⟩,
      ⟨some 19, .ld (.t 18), none⟩,
      ⟨some 20, .len .s (.t 19), none⟩,
      ⟨some 21, .bin .eql (.t 20) (.c (.int .i64 0)), none⟩] [0, 21]) (
     .cond (.t 21) (
      .seq (
       .reg [
        ⟨some 22, .mv (.t 0), none⟩,
        ⟨some 23, .call 140 [none] [(.t 22)], none⟩] []) (
       .seq (
        .reg [
         ⟨some 2, .mv (.c (.int .u64 0)), none⟩] [2]) (
        .ret))) (
      .skip))) (
    .seq (
     .reg [
      ⟨some 24, .mv (.t 0), none⟩,
      ⟨some 25, .nck (.t 24), none⟩,
      ⟨some 26, .fa 0 (.t 25), none⟩,
      ⟨some 27, .ld (.t 26), none⟩,
      ⟨some 28, .ia 1 (.t 27) (.c (.int .i64 0)), none⟩,
      ⟨some 29, .ld (.t 28), none⟩,
      ⟨some 3, .mv (.t 29), none⟩] [0, 3]) (
     .seq (
      .seq (
       .reg [
        ⟨some 30, .mv (.t 3), none⟩,
        ⟨some 31, .bin .lss (.t 30) (.c (.int .u8 248)), none⟩] [0, 3, 31]) (
       .cond (.t 31) (
        .seq (
         .reg [
          ⟨some 32, .mv (.t 0), none⟩,
          ⟨some 33, .mv (.t 0), none⟩,
          ⟨some 34, .nck (.t 33), none⟩,
          ⟨some 35, .fa 0 (.t 34), none⟩,
          ⟨some 36, .ld (.t 35), none⟩,
          ⟨some 37, .slR 1 (.t 36) (some (.c (.int .i64 1))) none, none⟩,
          ⟨some 38, .nck (.t 32), none⟩,
          ⟨some 39, .fa 0 (.t 38), none⟩,
          ⟨none, .st 1 (.t 39) (.t 37), none⟩] [3]) (
         .seq (
          .reg [
           ⟨some 40, .mv (.t 3), none⟩,
           ⟨some 41, .cv .u64 (.t 40), none⟩,
           ⟨some 2, .mv (.t 41), none⟩] [2]) (
          .ret))) (
        .no))) (
      .seq (
       .reg [
        ⟨some 42, .mv (.t 3), none⟩,
        ⟨some 43, .cv .i64 (.t 42), none⟩,
        ⟨some 44, .bin .sub (.t 43) (.c (.int .i64 247)), none⟩,
        ⟨some 4, .mv (.t 44), none⟩] [0, 4]) (
       .seq (
        .seq (
         .reg [
          ⟨some 45, .mv (.t 4), none⟩,
          ⟨some 46, .mv (.t 0), none⟩,
          ⟨some 47, .nck (.t 46), none⟩,
          ⟨some 48, .fa 0 (.t 47), none⟩,
          ⟨some 49, .ld (.t 48), none⟩,
          ⟨some 50, .len .s (.t 49), none⟩,
          ⟨some 51, .bin .sub (.t 50) (.c (.int .i64 1)), none⟩,
          ⟨some 52, .bin .gtr (.t 45) (.t 51), none⟩] [0, 4, 52]) (
         .cond (.t 52) (
          .no) (
          .no))) (
        .seq (
         .reg [
          ⟨some 5, .mv (.c (.int .u64 0)), none⟩] [0, 4, 5]) (
         .seq (
          .seq (
           .reg [
            ⟨some 55, .mv (.t 0), none⟩,
            ⟨some 56, .nck (.t 55), none⟩,
            ⟨some 57, .fa 0 (.t 56), none⟩,
            ⟨some 58, .ld (.t 57), none⟩,
            ⟨some 59, .mv (.t 4), none⟩,
            ⟨some 60, .bin .add (.c (.int .i64 1)) (.t 59), none⟩,
            ⟨some 61, .slR 1 (.t 58) (some (.c (.int .i64 1))) (some (.t 60)), none⟩,
            ⟨some 62, .len .s (.t 61), none⟩,
            ⟨some 63, .mv (.c (.int .i64 0)), none⟩] [0, 4, 5, 61, 62, 63]) (
           .block 0 (
            .loop 1 [0, 4, 5, 61, 62, 63] (
             .seq (
              .reg [
               ⟨some 64, .bin .lss (.t 63) (.t 62), none⟩] [0, 4, 5, 61, 62, 63, 64]) (
              .seq (
               .cond (.t 64) (
                .no) (
                .no)) (
               .seq (
                .block 1 (
                 .seq (
                  .reg [
                   ⟨some 65, .ia 1 (.t 61) (.t 63), none⟩,
                   ⟨some 66, .ld (.t 65), none⟩,
                   ⟨some 7, .mv (.t 66), none⟩] [0, 4, 5, 7, 61, 62, 63]) (
                  .reg [
                   ⟨some 67, .mv (.t 5), none⟩,
                   ⟨some 68, .bin .shl (.t 67) (.c (.int .u64 8)), none⟩,
                   ⟨some 69, .mv (.t 7), none⟩,
                   ⟨some 70, .cv .u64 (.t 69), none⟩,
                   ⟨some 71, .bin .or (.t 68) (.t 70), none⟩,
                   ⟨some 5, .mv (.t 71), none⟩] [0, 4, 5, 61, 62, 63]))) (
                .reg [
                 ⟨some 72, .bin .add (.t 63) (.c (.int .i64 1)), none⟩,
                 ⟨some 63, .mv (.t 72), none⟩] [0, 4, 5, 61, 62, 63]))))))) (
          .seq (
           .seq (
            .reg [
             ⟨some 73, .mv (.t 5), none⟩,
             ⟨some 74, .bin .lss (.t 73) (.c (.int .u64 248)), none⟩,
             ⟨some 75, .mv (.t 74), none⟩,
             ⟨some 76, .mv (.t 0), (some (75, false))⟩,
             ⟨some 77, .nck (.t 76), (some (75, false))⟩,
             ⟨some 78, .fa 0 (.t 77), (some (75, false))⟩,
             ⟨some 79, .ld (.t 78), (some (75, false))⟩,
             ⟨some 80, .ia 1 (.t 79) (.c (.int .i64 1)), (some (75, false))⟩,
             ⟨some 81, .ld (.t 80), (some (75, false))⟩,
             ⟨some 82, .bin .eql (.t 81) (.c (.int .u8 0)), (some (75, false))⟩,
             ⟨some 83, .pick (.t 75) (.c (.bool true)) (.t 82), none⟩] [0, 4, 5, 83]) (
            .cond (.t 83) (
             .no) (
             .no))) (
           .seq (
            .reg [
             ⟨some 86, .mv (.t 0), none⟩,
             ⟨some 87, .mv (.t 0), none⟩,
             ⟨some 88, .nck (.t 87), none⟩,
             ⟨some 89, .fa 0 (.t 88), none⟩,
             ⟨some 90, .ld (.t 89), none⟩,
             ⟨some 91, .mv (.t 4), none⟩,
             ⟨some 92, .bin .add (.c (.int .i64 1)) (.t 91), none⟩,
             ⟨some 93, .slR 1 (.t 90) (some (.t 92)) none, none⟩,
             ⟨some 94, .nck (.t 86), none⟩,
             ⟨some 95, .fa 0 (.t 94), none⟩,
             ⟨none, .st 1 (.t 95) (.t 93), none⟩] [5]) (
            .seq (
             .reg [
              ⟨some 96, .mv (.t 5), none⟩,
              ⟨some 2, .mv (.t 96), none⟩] [2]) (
             .ret))))))))))))
def xr75 : List RT := [.t 2]
def xa76 : AS :=
 .seq (
  .reg [
   ⟨some 2, .mv (.c (.int .i64 0)), none⟩,
   ⟨some 3, .mv (.c (.int .i64 0)), none⟩,
   ⟨some 4, .mv (.c (.int .i64 0)), none⟩,
   ⟨some 5, .mv (.c (.int .i64 0)), none⟩] [0]) (
  .seq (
   .reg [
    ⟨some 7, .mv (.t 0), none⟩,
    ⟨some 8, .call 71 [none] [(.t 7)], none⟩,
    ⟨some 9, .bin .quo (.t 8) (.c (.int .i64 4)), none⟩,
    ⟨some 6, .mv (.t 9), none⟩] [0, 6]) (
   .seq (
    .reg [
     ⟨some 10, .mv (.t 6), none⟩,
     ⟨some 11, .mv (.t 6), none⟩,
     ⟨some 12, .bin .add (.c (.int .i64 2)) (.t 11), none⟩,
     ⟨some 13, .mv (.t 0), none⟩,
     ⟨some 14, .call 71 [none] [(.t 13)], none⟩,
     ⟨some 15, .bin .sub (.t 14) (.c (.int .i64 2)), none⟩,
     ⟨some 16, .mv (.t 6), none⟩,
     ⟨some 17, .bin .sub (.t 15) (.t 16), none⟩,
     ⟨some 2, .mv (.c (.int .i64 2)), none⟩,
     ⟨some 3, .mv (.t 10), none⟩,
     ⟨some 4, .mv (.t 12), none⟩,
     ⟨some 5, .mv (.t 17), none⟩] [2, 3, 4, 5]) (
    .ret)))
def xr76 : List RT := [.t 2, .t 3, .t 4, .t 5]
def xa77 : AS :=
 .seq (
  .reg [
   ⟨some 4, .box (.t 0), none⟩,
   ⟨some 5, .box (.t 1), none⟩,
   ⟨some 6, .box (.t 2), none⟩,
   ⟨some 8, .mv (.c (.nils)), none⟩,
   ⟨some 9, .mv (.c (.int .i64 0)), none⟩] [3, 4, 5, 6]) (
  .seq (
   .block 0 (
    .seq (
     .reg [
      ⟨some 14, .ld (.t 4), none⟩,
      ⟨some 15, .ld (.t 5), none⟩,
      ⟨some 16, .ld (.t 6), none⟩,
      ⟨some 17, .call 141 [none, none, none] [(.t 14), (.t 15), (.t 16)], none⟩,
      ⟨some 18, .not (.t 17), none⟩,
      ⟨some 19, .mv (.t 18), none⟩,
      ⟨some 20, .ld (.t 5), (some (19, false))⟩,
      ⟨some 21, .bin .eql (.t 20) (.c (.int .i64 0)), (some (19, false))⟩,
      ⟨some 22, .pick (.t 19) (.c (.bool true)) (.t 21), none⟩,
      ⟨some 13, .mv (.t 22), none⟩] [3, 4, 5, 6, 13]) (
     .cond (.t 13) (
      .no) (
      .seq (
       .reg [
        ⟨some 24, .ld (.t 4), none⟩,
        ⟨some 25, .call 142 [none] [(.t 24)], none⟩,
        ⟨some 23, .mv (.t 25), none⟩] [3, 4, 5, 6, 23]) (
       .cond (.t 23) (
        .no) (
        .seq (
         .reg [
          ⟨some 27, .mv (.t 3), none⟩,
          ⟨some 28, .bin .eql (.t 27) (.c (.int .i64 0)), none⟩,
          ⟨some 26, .mv (.t 28), none⟩] [3, 4, 5, 6, 26]) (
         .cond (.t 26) (
          .seq (
           .reg [
            ⟨some 8, .mv (.c (.nils)), none⟩,
            ⟨some 9, .mv (.c (.int .i64 0)), none⟩] [8, 9]) (
           .ret)) (
          .no)))))))) (
   .seq (
    .reg [
     ⟨some 29, .mkm true (.int .i64) (.pair .bool (.sl 48 (.pair .str (.pair (.int .i64) (.sl 1 .byte))))), none⟩,
     ⟨some 30, .ld (.t 6), none⟩,
     ⟨some 31, .bld [.nilf, .nilm, .int .i64 0] [(1, 1, (.t 29)), (2, 1, (.t 30))], none⟩,
     ⟨some 32, .box (.t 31), none⟩,
     ⟨some 10, .mv (.t 32), none⟩] [3, 4, 5, 6, 10]) (
    .seq (
     .reg [
      ⟨some 33, .mv (.t 10), none⟩,
      ⟨some 34, .mkf 143 [(.t 4), (.t 5), (.t 6)], none⟩,
      ⟨some 35, .nck (.t 33), none⟩,
      ⟨some 36, .fa 0 (.t 35), none⟩,
      ⟨none, .st 1 (.t 36) (.t 34), none⟩] [3, 10]) (
     .seq (
      .seq (
       .reg [
        ⟨some 38, .mv (.t 10), none⟩,
        ⟨some 39, .mv (.t 3), none⟩,
        ⟨some 40, .call 145 [none, none, none] [(.t 38), (.t 39), (.c (.int .i64 0))], none⟩,
        ⟨some 37, .mv (.t 40), none⟩,
        ⟨some 41, .ext (.t 37) 0, none⟩,
        ⟨some 42, .ext (.t 37) 1, none⟩,
        ⟨some 11, .mv (.t 41), none⟩,
        ⟨some 12, .mv (.t 42), none⟩] [10, 12]) (
       .seq (
        .reg [
         ⟨some 43, .mv (.t 12), none⟩,
         ⟨some 44, .bin .neq (.t 43) (.c (.int .i64 0)), none⟩] [10, 12, 44]) (
        .cond (.t 44) (
         .no) (
         .no)))) (
      .seq (
       .reg [
        ⟨some 46, .mv (.t 10), none⟩,
        ⟨some 47, .nck (.t 46), none⟩,
        ⟨some 48, .fa 1 (.t 47), none⟩,
        ⟨some 49, .ld (.t 48), none⟩,
        ⟨some 50, .call 147 [none] [(.t 49)], none⟩,
        ⟨some 51, .call 146 [none] [(.t 50)], none⟩,
        ⟨some 8, .mv (.t 51), none⟩,
        ⟨some 9, .mv (.c (.int .i64 0)), none⟩] [8, 9]) (
       .ret))))))
def xr77 : List RT := [.t 8, .t 9]
def xa78 : AS :=
 .seq (
  .reg [
   ⟨some 8, .mv (.c (.nilp)), none⟩,
   ⟨some 9, .mv (.c (.int .i64 0)), none⟩] [0, 1, 2, 3]) (
  .seq (
   .seq (
    .reg [
     ⟨some 19, .mv (.t 0), none⟩,
     ⟨some 20, .mv (.t 1), none⟩,
     ⟨some 21, .mv (.t 2), none⟩,
     ⟨some 22, .call 141 [none, none, none] [(.t 19), (.t 20), (.t 21)], none⟩,
     ⟨some 23, .not (.t 22), none⟩] [0, 1, 2, 3, 23]) (
    .cond (.t 23) (
     .no) (
     .skip))) (
   .seq (
    .reg [
     ⟨some 24, .mv (.t 0), none⟩,
     ⟨some 25, .mv (.t 1), none⟩,
     ⟨some 26, .mkm false (.int .i64) (.sl 8 (.int .i64)), none⟩,
     ⟨some 27, .mkm false (.int .i64) .bool, none⟩,
     ⟨some 28, .bld [.nilp, .int .i64 0, .nilm, .nilm] [(0, 1, (.t 24)), (1, 1, (.t 25)), (2, 1, (.t 26)), (3, 1, (.t 27))], none⟩,
     ⟨some 29, .box (.t 28), none⟩,
     ⟨some 10, .mv (.t 29), none⟩] [0, 1, 2, 3, 10]) (
    .seq (
     .seq (
      .reg [
       ⟨some 30, .mv (.t 2), none⟩,
       ⟨some 31, .mv (.c (.int .i64 0)), none⟩] [0, 1, 2, 3, 10, 30, 31]) (
      .block 0 (
       .loop 1 [0, 1, 2, 3, 10, 30, 31] (
        .seq (
         .reg [
          ⟨some 32, .bin .lss (.t 31) (.t 30), none⟩] [0, 1, 2, 3, 10, 30, 31, 32]) (
         .seq (
          .cond (.t 32) (
           .skip) (
           .exit 0)) (
          .seq (
           .block 1 (
            .seq (
             .reg [
              ⟨some 33, .mv (.t 31), none⟩,
              ⟨some 11, .mv (.t 33), none⟩] [0, 1, 2, 3, 10, 11, 30, 31]) (
             .reg [
              ⟨some 34, .mv (.t 10), none⟩,
              ⟨some 35, .nck (.t 34), none⟩,
              ⟨some 36, .fa 3 (.t 35), none⟩,
              ⟨some 37, .ld (.t 36), none⟩,
              ⟨some 38, .mv (.t 1), none⟩,
              ⟨some 39, .mv (.t 11), none⟩,
              ⟨some 40, .bin .add (.t 38) (.t 39), none⟩,
              ⟨none, .mu false (.int .i64) .bool (.t 37) (.t 40) (.c (.bool true)), none⟩] [0, 1, 2, 3, 10, 30, 31]))) (
           .reg [
            ⟨some 41, .bin .add (.t 31) (.c (.int .i64 1)), none⟩,
            ⟨some 31, .mv (.t 41), none⟩] [0, 1, 2, 3, 10, 30, 31]))))))) (
     .seq (
      .seq (
       .reg [
        ⟨some 42, .mv (.t 0), none⟩,
        ⟨some 43, .call 142 [none] [(.t 42)], none⟩] [0, 1, 2, 3, 10, 43]) (
       .cond (.t 43) (
        .no) (
        .skip))) (
      .seq (
       .seq (
        .reg [
         ⟨some 44, .mv (.t 3), none⟩,
         ⟨some 45, .len .s (.t 44), none⟩,
         ⟨some 46, .mv (.c (.int .i64 0)), none⟩] [0, 1, 2, 10, 44, 45, 46]) (
        .block 2 (
         .loop 2 [0, 1, 2, 10, 44, 45, 46] (
          .seq (
           .reg [
            ⟨some 47, .bin .lss (.t 46) (.t 45), none⟩] [0, 1, 2, 10, 44, 45, 46, 47]) (
           .seq (
            .cond (.t 47) (
             .no) (
             .exit 2)) (
            .seq (
             .block 3 (
              .seq (
               .reg [
                ⟨some 48, .ia 1 (.t 44) (.t 46), none⟩,
                ⟨some 49, .ld (.t 48), none⟩,
                ⟨some 13, .mv (.t 49), none⟩] [0, 1, 2, 10, 13, 44, 45, 46]) (
               .seq (
                .reg [
                 ⟨some 51, .mv (.t 0), none⟩,
                 ⟨some 52, .mv (.t 1), none⟩,
                 ⟨some 53, .mv (.t 2), none⟩,
                 ⟨some 54, .mv (.t 13), none⟩,
                 ⟨some 55, .call 144 [none, none, none, none] [(.t 51), (.t 52), (.t 53), (.t 54)], none⟩,
                 ⟨some 50, .mv (.t 55), none⟩,
                 ⟨some 56, .ext (.t 50) 0, none⟩,
                 ⟨some 57, .ext (.t 50) 1, none⟩,
                 ⟨some 58, .ext (.t 50) 2, none⟩,
                 ⟨some 14, .mv (.t 56), none⟩,
                 ⟨some 15, .mv (.t 57), none⟩,
                 ⟨some 16, .mv (.t 58), none⟩] [0, 1, 2, 10, 13, 15, 16, 44, 45, 46]) (
                .seq (
                 .seq (
                  .reg [
                   ⟨some 59, .mv (.t 16), none⟩,
                   ⟨some 60, .bin .neq (.t 59) (.c (.int .i64 0)), none⟩] [0, 1, 2, 10, 13, 15, 16, 44, 45, 46, 60]) (
                  .cond (.t 60) (
                   .no) (
                   .no))) (
                 .seq (
                  .seq (
                   .reg [
                    ⟨some 62, .mv (.t 15), none⟩,
                    ⟨some 63, .len .s (.t 62), none⟩,
                    ⟨some 64, .mv (.c (.int .i64 0)), none⟩] [0, 1, 2, 10, 13, 15, 44, 45, 46, 62, 63, 64]) (
                   .block 4 (
                    .loop 3 [0, 1, 2, 10, 13, 15, 44, 45, 46, 62, 63, 64] (
                     .seq (
                      .reg [
                       ⟨some 65, .bin .lss (.t 64) (.t 63), none⟩] [0, 1, 2, 10, 13, 15, 44, 45, 46, 62, 63, 64, 65]) (
                      .seq (
                       .cond (.t 65) (
                        .no) (
                        .no)) (
                       .seq (
                        .block 5 (
                         .seq (
                          .reg [
                           ⟨some 66, .ia 1 (.t 62) (.t 64), none⟩,
                           ⟨some 67, .ld (.t 66), none⟩,
                           ⟨some 18, .mv (.t 67), none⟩] [0, 1, 2, 10, 13, 15, 18, 44, 45, 46, 62, 63, 64]) (
                          .seq (
                           .seq (
                            .reg [
                             ⟨some 68, .mv (.t 10), none⟩,
                             ⟨some 69, .nck (.t 68), none⟩,
                             ⟨some 70, .fa 3 (.t 69), none⟩,
                             ⟨some 71, .ld (.t 70), none⟩,
                             ⟨some 72, .mv (.t 18), none⟩,
                             ⟨some 73, .lk false (.int .i64) .bool false (.t 71) (.t 72), none⟩,
                             ⟨some 74, .not (.t 73), none⟩] [0, 1, 2, 10, 13, 15, 18, 44, 45, 46, 62, 63, 64, 74]) (
                            .cond (.t 74) (
                             .no) (
                             .no))) (
                           .reg [
                            ⟨some 75, .mv (.t 10), none⟩,
                            ⟨some 76, .nck (.t 75), none⟩,
                            ⟨some 77, .fa 3 (.t 76), none⟩,
                            ⟨some 78, .ld (.t 77), none⟩,
                            ⟨some 79, .mv (.t 18), none⟩,
                            ⟨none, .dl (.int .i64) (.t 78) (.t 79), none⟩] [0, 1, 2, 10, 13, 15, 44, 45, 46, 62, 63, 64])))) (
                        .reg [
                         ⟨some 80, .bin .add (.t 64) (.c (.int .i64 1)), none⟩,
                         ⟨some 64, .mv (.t 80), none⟩] [0, 1, 2, 10, 13, 15, 44, 45, 46, 62, 63, 64]))))))) (
                  .reg [
                   ⟨some 81, .mv (.t 10), none⟩,
                   ⟨some 82, .nck (.t 81), none⟩,
                   ⟨some 83, .fa 2 (.t 82), none⟩,
                   ⟨some 84, .ld (.t 83), none⟩,
                   ⟨some 85, .mv (.t 13), none⟩,
                   ⟨some 86, .mv (.t 15), none⟩,
                   ⟨none, .mu false (.int .i64) (.sl 8 (.int .i64)) (.t 84) (.t 85) (.t 86), none⟩] [0, 1, 2, 10, 44, 45, 46])))))) (
             .reg [
              ⟨some 87, .bin .add (.t 46) (.c (.int .i64 1)), none⟩,
              ⟨some 46, .mv (.t 87), none⟩] [0, 1, 2, 10, 44, 45, 46]))))))) (
       .seq (
        .reg [
         ⟨some 88, .mv (.t 10), none⟩,
         ⟨some 8, .mv (.t 88), none⟩,
         ⟨some 9, .mv (.c (.int .i64 0)), none⟩] [8, 9]) (
        .ret)))))))
def xr78 : List RT := [.t 8, .t 9]
def xa79 : AS :=
 .seq (
  .reg [
   ⟨some 4, .mv (.c (.nilp)), none⟩,
   ⟨some 5, .mv (.c (.int .i64 0)), none⟩] [0, 1]) (
  .seq (
   .seq (
    .reg [
     ⟨some 10, .mv (.t 0), none⟩,
     ⟨some 11, .call 148 [none] [(.t 10)], none⟩,
     ⟨some 12, .bin .eql (.t 11) (.c (.int .i64 0)), none⟩] [0, 1, 12]) (
    .cond (.t 12) (
     .no) (
     .skip))) (
   .seq (
    .reg [
     ⟨some 13, .mv (.t 0), none⟩,
     ⟨some 14, .mv (.t 1), none⟩,
     ⟨some 15, .mkm true (.int .i64) (.pair .bool (.sl 48 (.pair .str (.pair (.int .i64) (.sl 1 .byte))))), none⟩,
     ⟨some 16, .bld [.nilp, .int .i64 0, .nilm, .nils, .nils, .nils] [(0, 1, (.t 13)), (1, 1, (.t 14)), (2, 1, (.t 15))], none⟩,
     ⟨some 17, .box (.t 16), none⟩,
     ⟨some 6, .mv (.t 17), none⟩] [0, 1, 6]) (
    .seq (
     .seq (
      .reg [
       ⟨some 18, .mv (.t 1), none⟩,
       ⟨some 19, .bin .eql (.t 18) (.c (.int .i64 0)), none⟩] [0, 1, 6, 19]) (
      .cond (.t 19) (
       .seq (
        .reg [
         ⟨some 20, .mv (.t 6), none⟩,
         ⟨some 4, .mv (.t 20), none⟩,
         ⟨some 5, .mv (.c (.int .i64 0)), none⟩] [4, 5]) (
        .ret)) (
       .no))) (
     .seq (
      .reg [
       ⟨some 21, .mv (.t 0), none⟩,
       ⟨some 22, .mkf 1000149 [(.t 21)], none⟩,
       ⟨some 23, .mv (.t 6), none⟩,
       ⟨some 24, .nck (.t 23), none⟩,
       ⟨some 25, .fa 2 (.t 24), none⟩,
       ⟨some 26, .ld (.t 25), none⟩,
       ⟨some 27, .bld [.nilf, .nilm, .int .i64 0] [(0, 1, (.t 22)), (1, 1, (.t 26)), (2, 1, (.c (.int .i64 65536)))], none⟩,
       ⟨some 28, .box (.t 27), none⟩,
       ⟨some 7, .mv (.t 28), none⟩] [1, 6, 7]) (
      .seq (
       .seq (
        .reg [
         ⟨some 30, .mv (.t 7), none⟩,
         ⟨some 31, .mv (.t 1), none⟩,
         ⟨some 32, .call 145 [none, none, none] [(.t 30), (.t 31), (.c (.int .i64 0))], none⟩,
         ⟨some 29, .mv (.t 32), none⟩,
         ⟨some 33, .ext (.t 29) 0, none⟩,
         ⟨some 34, .ext (.t 29) 1, none⟩,
         ⟨some 8, .mv (.t 33), none⟩,
         ⟨some 9, .mv (.t 34), none⟩] [6, 9]) (
        .seq (
         .reg [
          ⟨some 35, .mv (.t 9), none⟩,
          ⟨some 36, .bin .neq (.t 35) (.c (.int .i64 0)), none⟩] [6, 9, 36]) (
         .cond (.t 36) (
          .no) (
          .no)))) (
       .seq (
        .reg [
         ⟨some 40, .mv (.t 6), none⟩,
         ⟨some 4, .mv (.t 40), none⟩,
         ⟨some 5, .mv (.c (.int .i64 0)), none⟩] [4, 5]) (
        .ret)))))))
def xr79 : List RT := [.t 4, .t 5]
def xa80 : AS :=
 .seq (
  .reg [
   ⟨some 8, .mv (.c (.nilp)), none⟩,
   ⟨some 9, .mv (.c (.int .i64 0)), none⟩] [0, 1, 2, 3]) (
  .seq (
   .seq (
    .reg [
     ⟨some 18, .mv (.t 0), none⟩,
     ⟨some 19, .mv (.t 1), none⟩,
     ⟨some 20, .mv (.t 2), none⟩,
     ⟨some 21, .call 141 [none, none, none] [(.t 18), (.t 19), (.t 20)], none⟩,
     ⟨some 22, .not (.t 21), none⟩] [0, 1, 2, 3, 22]) (
    .cond (.t 22) (
     .no) (
     .skip))) (
   .seq (
    .reg [
     ⟨some 23, .mv (.t 0), none⟩,
     ⟨some 24, .mv (.t 1), none⟩,
     ⟨some 25, .mv (.t 2), none⟩,
     ⟨some 26, .mv (.t 3), none⟩,
     ⟨some 27, .bld [.nilp, .int .i64 0, .int .i64 0, .int .u64 0, .nils, .int .i64 0, .bool false] [(0, 1, (.t 23)), (1, 1, (.t 24)), (2, 1, (.t 25)), (3, 1, (.t 26))], none⟩,
     ⟨some 28, .box (.t 27), none⟩,
     ⟨some 10, .mv (.t 28), none⟩] [0, 1, 2, 10]) (
    .seq (
     .reg [
      ⟨some 11, .mv (.c (.nils)), none⟩] [0, 1, 2, 10, 11]) (
     .seq (
      .seq (
       .reg [
        ⟨some 12, .mv (.c (.int .i64 0)), none⟩] [0, 1, 2, 10, 11, 12]) (
       .block 0 (
        .loop 1 [0, 1, 2, 10, 11, 12] (
         .seq (
          .seq (
           .reg [
            ⟨some 29, .mv (.t 12), none⟩,
            ⟨some 30, .mv (.t 2), none⟩,
            ⟨some 31, .bin .lss (.t 29) (.t 30), none⟩] [0, 1, 2, 10, 11, 12, 31]) (
           .cond (.t 31) (
            .skip) (
            .no))) (
          .seq (
           .block 1 (
            .seq (
             .reg [
              ⟨some 35, .mv (.t 0), none⟩,
              ⟨some 36, .mv (.t 1), none⟩,
              ⟨some 37, .mv (.t 12), none⟩,
              ⟨some 38, .bin .add (.t 36) (.t 37), none⟩,
              ⟨some 39, .call 137 [none, none] [(.t 35), (.t 38)], none⟩,
              ⟨some 34, .mv (.t 39), none⟩,
              ⟨some 40, .ext (.t 34) 0, none⟩,
              ⟨some 41, .ext (.t 34) 1, none⟩,
              ⟨some 13, .mv (.t 40), none⟩,
              ⟨some 14, .mv (.t 41), none⟩] [0, 1, 2, 10, 11, 12, 13, 14]) (
             .seq (
              .seq (
               .reg [
                ⟨some 42, .mv (.t 14), none⟩,
                ⟨some 43, .bin .neq (.t 42) (.c (.int .i64 0)), none⟩] [0, 1, 2, 10, 11, 12, 13, 43]) (
               .cond (.t 43) (
                .no) (
                .skip))) (
              .seq (
               .reg [
                ⟨some 45, .mv (.t 12), none⟩,
                ⟨some 46, .cv .u32 (.t 45), none⟩,
                ⟨some 47, .mv (.t 13), none⟩,
                ⟨some 48, .call 138 [none, none, none] [(.c (.int .u8 76)), (.t 46), (.t 47)], none⟩,
                ⟨some 44, .mv (.t 48), none⟩,
                ⟨some 49, .ext (.t 44) 0, none⟩,
                ⟨some 50, .ext (.t 44) 1, none⟩,
                ⟨some 15, .mv (.t 49), none⟩,
                ⟨some 16, .mv (.t 50), none⟩] [0, 1, 2, 10, 11, 12, 15, 16]) (
               .seq (
                .seq (
                 .reg [
                  ⟨some 51, .mv (.t 16), none⟩,
                  ⟨some 52, .not (.t 51), none⟩,
                  ⟨some 53, .mv (.t 52), none⟩,
                  ⟨some 54, .mv (.t 15), (some (53, false))⟩,
                  ⟨some 55, .len .s (.t 54), (some (53, false))⟩,
                  ⟨some 56, .bin .lss (.t 55) (.c (.int .i64 10)), (some (53, false))⟩,
                  ⟨some 57, .pick (.t 53) (.c (.bool true)) (.t 56), none⟩] [0, 1, 2, 10, 11, 12, 15, 57]) (
                 .cond (.t 57) (
                  .exit 0) (
                  .no))) (
                .seq (
                 .reg [
                  ⟨some 58, .mv (.t 15), none⟩,
                  ⟨some 59, .ia 1 (.t 58) (.c (.int .i64 8)), none⟩,
                  ⟨some 60, .ld (.t 59), none⟩,
                  ⟨some 61, .bin .eql (.t 60) (.c (.int .u8 1)), none⟩,
                  ⟨some 17, .mv (.t 61), none⟩] [0, 1, 2, 10, 11, 12, 15, 17]) (
                 .seq (
                  .seq (
                   .regD [
                    ⟨some 62, .mv (.t 15), none⟩,
                    ⟨some 63, .slR 1 (.t 62) none (some (.c (.int .i64 9))), none⟩,
                    ⟨some 64, .mv (.t 10), none⟩,
                    ⟨some 65, .mv (.t 17), none⟩,
                    ⟨some 66, .call 151 [none, none] [(.t 64), (.t 65)], none⟩,
                    ⟨some 67, .call 150 [none, none] [(.t 63), (.t 66)], none⟩,
                    ⟨some 68, .not (.t 67), none⟩] [.q 0, .q 1, .q 2, .q 3, .e 4 [0, 1], .e 5 [], .q 6] [0, 1, 2, 10, 11, 12, 15, 17, 68]) (
                   .cond (.t 68) (
                    .no) (
                    .no))) (
                  .seq (
                   .reg [
                    ⟨some 69, .mv (.t 11), none⟩,
                    ⟨some 70, .mv (.t 15), none⟩,
                    ⟨some 71, .slR 1 (.t 70) (some (.c (.int .i64 9))) none, none⟩,
                    ⟨some 72, .app 1 .byte (.t 69) (.t 71), none⟩,
                    ⟨some 11, .mv (.t 72), none⟩] [0, 1, 2, 10, 11, 12, 17]) (
                   .seq (
                    .reg [
                     ⟨some 73, .mv (.t 17), none⟩] [0, 1, 2, 10, 11, 12, 73]) (
                    .cond (.t 73) (
                     .no) (
                     .no))))))))))) (
           .reg [
            ⟨some 32, .mv (.t 12), none⟩,
            ⟨some 33, .bin .add (.t 32) (.c (.int .i64 1)), none⟩,
            ⟨some 12, .mv (.t 33), none⟩] [0, 1, 2, 10, 11, 12])))))) (
      .seq (
       .reg [
        ⟨some 89, .mv (.t 10), none⟩,
        ⟨some 8, .mv (.t 89), none⟩,
        ⟨some 9, .mv (.c (.int .i64 0)), none⟩] [8, 9]) (
       .ret))))))
def xr80 : List RT := [.t 8, .t 9]
def xa81 : AS :=
 .seq (
  .reg [
   ⟨some 4, .box (.t 1), none⟩,
   ⟨some 5, .box (.t 2), none⟩,
   ⟨some 6, .mv (.c (.nils)), none⟩] [0, 4, 5]) (
  .seq (
   .seq (
    .reg [
     ⟨some 8, .mv (.t 0), none⟩,
     ⟨some 9, .eqn false .p (.t 8) (.c (.nilp)), none⟩,
     ⟨some 10, .mv (.t 9), none⟩,
     ⟨some 11, .mv (.t 0), (some (10, false))⟩,
     ⟨some 12, .nck (.t 11), (some (10, false))⟩,
     ⟨some 13, .fa 1 (.t 12), (some (10, false))⟩,
     ⟨some 14, .ld (.t 13), (some (10, false))⟩,
     ⟨some 15, .bin .eql (.t 14) (.c (.int .i64 0)), (some (10, false))⟩,
     ⟨some 16, .pick (.t 10) (.c (.bool true)) (.t 15), none⟩] [0, 4, 5, 16]) (
    .cond (.t 16) (
     .seq (
      .reg [
       ⟨some 6, .mv (.c (.nils)), none⟩] [6]) (
      .ret)) (
     .no))) (
   .seq (
    .reg [
     ⟨some 7, .alc [.nils], none⟩] [0, 4, 5, 7]) (
    .seq (
     .reg [
      ⟨some 17, .mv (.t 0), none⟩,
      ⟨some 18, .mv (.t 0), none⟩,
      ⟨some 19, .nck (.t 18), none⟩,
      ⟨some 20, .fa 1 (.t 19), none⟩,
      ⟨some 21, .ld (.t 20), none⟩,
      ⟨some 22, .mkf 153 [(.t 4), (.t 5), (.t 7)], none⟩,
      ⟨some 23, .call 152 [none, none, none] [(.t 17), (.t 21), (.t 22)], none⟩] [7]) (
     .seq (
      .reg [
       ⟨some 24, .ld (.t 7), none⟩,
       ⟨some 6, .mv (.t 24), none⟩] [6]) (
      .ret)))))
def xr81 : List RT := [.t 6]
def xa83 : AS :=
 .seq (
  .reg [
   ⟨some 2, .mv (.c (.nils)), none⟩] [0]) (
  .seq (
   .seq (
    .reg [
     ⟨some 6, .mv (.t 0), none⟩,
     ⟨some 7, .eqn false .p (.t 6) (.c (.nilp)), none⟩] [0, 7]) (
    .cond (.t 7) (
     .no) (
     .skip))) (
   .seq (
    .reg [
     ⟨some 3, .mv (.c (.nils)), none⟩] [0, 3]) (
    .seq (
     .seq (
      .reg [
       ⟨some 8, .mv (.t 0), none⟩,
       ⟨some 9, .nck (.t 8), none⟩,
       ⟨some 10, .fa 4 (.t 9), none⟩,
       ⟨some 11, .ld (.t 10), none⟩,
       ⟨some 12, .len .s (.t 11), none⟩,
       ⟨some 13, .mv (.c (.int .i64 0)), none⟩] [3, 11, 12, 13]) (
      .block 0 (
       .loop 1 [3, 11, 12, 13] (
        .seq (
         .reg [
          ⟨some 14, .bin .lss (.t 13) (.t 12), none⟩] [3, 11, 12, 13, 14]) (
         .seq (
          .cond (.t 14) (
           .no) (
           .exit 0)) (
          .seq (
           .block 1 (
            .seq (
             .reg [
              ⟨some 15, .ia 1 (.t 11) (.t 13), none⟩,
              ⟨some 16, .ld (.t 15), none⟩,
              ⟨some 5, .mv (.t 16), none⟩] [3, 5, 11, 12, 13]) (
             .reg [
              ⟨some 17, .mv (.t 3), none⟩,
              ⟨some 18, .mv (.t 5), none⟩,
              ⟨some 19, .call 86 [none] [(.t 18)], none⟩,
              ⟨some 20, .bsl 24 (.sl 1 .byte) 1 [(0, (.t 19))], none⟩,
              ⟨some 21, .app 24 (.sl 1 .byte) (.t 17) (.t 20), none⟩,
              ⟨some 3, .mv (.t 21), none⟩] [3, 11, 12, 13]))) (
           .reg [
            ⟨some 22, .bin .add (.t 13) (.c (.int .i64 1)), none⟩,
            ⟨some 13, .mv (.t 22), none⟩] [3, 11, 12, 13]))))))) (
     .seq (
      .reg [
       ⟨some 23, .mv (.t 3), none⟩,
       ⟨some 2, .mv (.t 23), none⟩] [2]) (
      .ret)))))
def xr83 : List RT := [.t 2]
def xa84 : AS :=
 .seq (
  .reg [
   ⟨some 6, .mv (.t 1), none⟩,
   ⟨some 7, .len .s (.t 6), none⟩,
   ⟨some 8, .mv (.c (.int .i64 0)), none⟩] [0, 6, 7, 8]) (
  .block 0 (
   .loop 1 [0, 6, 7, 8] (
    .seq (
     .reg [
      ⟨some 9, .bin .lss (.t 8) (.t 7), none⟩] [0, 6, 7, 8, 9]) (
     .seq (
      .cond (.t 9) (
       .skip) (
       .exit 0)) (
      .seq (
       .block 1 (
        .seq (
         .reg [
          ⟨some 10, .ia 3 (.t 6) (.t 8), none⟩,
          ⟨some 11, .ldA 3 (.t 10), none⟩,
          ⟨some 5, .alc [.str ByteArray.empty, .nils, .bool false], none⟩,
          ⟨none, .st 3 (.t 5) (.t 11), none⟩] [0, 5, 6, 7, 8]) (
         .seq (
          .regD [
           ⟨some 12, .mv (.t 0), none⟩,
           ⟨some 13, .nck (.t 12), none⟩,
           ⟨some 14, .fa 7 (.t 13), none⟩,
           ⟨some 15, .ld (.t 14), none⟩,
           ⟨some 16, .fa 0 (.t 5), none⟩,
           ⟨some 17, .ld (.t 16), none⟩,
           ⟨none, .mu false .str .bool (.t 15) (.t 17) (.c (.bool true)), none⟩] [.q 0, .q 1, .q 2, .q 3, .q 4, .q 5, .e 6 []] [0, 5, 6, 7, 8]) (
          .seq (
           .reg [
            ⟨some 18, .fa 2 (.t 5), none⟩,
            ⟨some 19, .ld (.t 18), none⟩] [0, 5, 6, 7, 8, 19]) (
           .cond (.t 19) (
            .no) (
            .regD [
             ⟨some 26, .mv (.t 0), none⟩,
             ⟨some 27, .nck (.t 26), none⟩,
             ⟨some 28, .fa 6 (.t 27), none⟩,
             ⟨some 29, .ld (.t 28), none⟩,
             ⟨some 30, .fa 0 (.t 5), none⟩,
             ⟨some 31, .ld (.t 30), none⟩,
             ⟨some 32, .fa 1 (.t 5), none⟩,
             ⟨some 33, .ld (.t 32), none⟩,
             ⟨some 34, .call 86 [none] [(.t 33)], none⟩,
             ⟨none, .mu false .str (.sl 1 .byte) (.t 29) (.t 31) (.t 34), none⟩] [.q 0, .q 1, .q 2, .q 3, .q 4, .q 5, .q 6, .q 7, .e 8 [0, 1, 2, 3, 4, 5], .e 9 []] [0, 6, 7, 8])))))) (
       .reg [
        ⟨some 35, .bin .add (.t 8) (.c (.int .i64 1)), none⟩,
        ⟨some 8, .mv (.t 35), none⟩] [0, 6, 7, 8]))))))
def xr84 : List RT := []
def xa86 : AS :=
 .seq (
  .reg [
   ⟨some 2, .mv (.c (.nils)), none⟩] [0]) (
  .seq (
   .seq (
    .reg [
     ⟨some 3, .mv (.t 0), none⟩,
     ⟨some 4, .isn false (.t 3), none⟩] [0, 4]) (
    .cond (.t 4) (
     .seq (
      .reg [
       ⟨some 2, .mv (.c (.nils)), none⟩] [2]) (
      .lift 2 none 1 .byte (
      .ret))) (
     .skip))) (
   .seq (
    .reg [
     ⟨some 5, .bsl 1 .byte 0 [], none⟩,
     ⟨some 6, .mv (.t 0), none⟩,
     ⟨some 7, .app 1 .byte (.t 5) (.t 6), none⟩,
     ⟨some 2, .mv (.t 7), none⟩] [2]) (
    .lift 2 none 1 .byte (
    .ret))))
def xr86 : List RT := [.t 2]
def xa87 : AS :=
 .seq (
  .reg [
   ⟨some 2, .mv (.c (.str ByteArray.empty)), none⟩] [0]) (
  .seq (
   .reg [
    ⟨some 5, .mv (.t 0), none⟩,
    ⟨some 6, .call 75 [none] [(.t 5)], none⟩,
    ⟨some 3, .mv (.t 6), none⟩] [0, 3]) (
   .seq (
    .seq (
     .reg [
      ⟨some 7, .mv (.t 0), none⟩,
      ⟨some 8, .eqn false .p (.t 7) (.c (.nilp)), none⟩,
      ⟨some 9, .mv (.t 8), none⟩,
      ⟨some 10, .mv (.t 0), (some (9, false))⟩,
      ⟨some 11, .nck (.t 10), (some (9, false))⟩,
      ⟨some 12, .fa 1 (.t 11), (some (9, false))⟩,
      ⟨some 13, .ld (.t 12), (some (9, false))⟩,
      ⟨some 14, .pick (.t 9) (.c (.bool true)) (.t 13), none⟩] [0, 3, 14]) (
     .cond (.t 14) (
      .no) (
      .skip))) (
    .seq (
     .seq (
      .reg [
       ⟨some 15, .mv (.t 3), none⟩,
       ⟨some 16, .mv (.t 0), none⟩,
       ⟨some 17, .nck (.t 16), none⟩,
       ⟨some 18, .fa 0 (.t 17), none⟩,
       ⟨some 19, .ld (.t 18), none⟩,
       ⟨some 20, .len .s (.t 19), none⟩,
       ⟨some 21, .cv .u64 (.t 20), none⟩,
       ⟨some 22, .bin .gtr (.t 15) (.t 21), none⟩] [0, 3, 22]) (
      .cond (.t 22) (
       .no) (
       .skip))) (
     .seq (
      .reg [
       ⟨some 25, .mv (.t 0), none⟩,
       ⟨some 26, .nck (.t 25), none⟩,
       ⟨some 27, .fa 0 (.t 26), none⟩,
       ⟨some 28, .ld (.t 27), none⟩,
       ⟨some 29, .mv (.t 3), none⟩,
       ⟨some 30, .slR 1 (.t 28) none (some (.t 29)), none⟩,
       ⟨some 31, .b2s (.t 30), none⟩,
       ⟨some 4, .mv (.t 31), none⟩] [0, 3, 4]) (
      .seq (
       .reg [
        ⟨some 32, .mv (.t 0), none⟩,
        ⟨some 33, .mv (.t 0), none⟩,
        ⟨some 34, .nck (.t 33), none⟩,
        ⟨some 35, .fa 0 (.t 34), none⟩,
        ⟨some 36, .ld (.t 35), none⟩,
        ⟨some 37, .mv (.t 3), none⟩,
        ⟨some 38, .slR 1 (.t 36) (some (.t 37)) none, none⟩,
        ⟨some 39, .nck (.t 32), none⟩,
        ⟨some 40, .fa 0 (.t 39), none⟩,
        ⟨none, .st 1 (.t 40) (.t 38), none⟩] [4]) (
       .seq (
        .reg [
         ⟨some 41, .mv (.t 4), none⟩,
         ⟨some 2, .mv (.t 41), none⟩] [2]) (
        .ret)))))))
def xr87 : List RT := [.t 2]
def xa93 : AS :=
 .seq (
  .reg [
   ⟨some 4, .mv (.c (.bool false)), none⟩] [0, 1]) (
  .seq (
   .reg [
    ⟨some 5, .mv (.t 0), none⟩,
    ⟨some 6, .mv (.t 1), none⟩,
    ⟨some 7, .call 162 [none, none] [(.t 5), (.t 6)], none⟩,
    ⟨some 8, .bin .geq (.t 7) (.c (.int .i64 0)), none⟩,
    ⟨some 4, .mv (.t 8), none⟩] [4]) (
   .ret))
def xr93 : List RT := [.t 4]
def xa94 : AS :=
 .seq (
  .reg [
   ⟨some 2, .mv (.c (.nilp)), none⟩,
   ⟨some 3, .mv (.c (.int .i64 0)), none⟩] [0]) (
  .seq (
   .reg [
    ⟨some 9, .mv (.t 0), none⟩,
    ⟨some 10, .call 27 [none] [(.t 9)], none⟩,
    ⟨some 4, .mv (.t 10), none⟩] [4]) (
   .seq (
    .reg [
     ⟨some 11, .mv (.t 4), none⟩,
     ⟨some 12, .call 75 [none] [(.t 11)], none⟩,
     ⟨some 13, .bld [.arr 8 (.int .i64) (List.replicate 8 (Ty.dflt (.int .i64))), .nils, .int .u64 0] [(9, 1, (.t 12))], none⟩,
     ⟨some 14, .box (.t 13), none⟩,
     ⟨some 5, .mv (.t 14), none⟩] [4, 5]) (
    .seq (
     .seq (
      .reg [
       ⟨some 15, .mv (.c (.int .i64 0)), none⟩] [4, 5, 15]) (
      .block 0 (
       .loop 1 [4, 5, 15] (
        .seq (
         .reg [
          ⟨some 16, .bin .lss (.t 15) (.c (.int .i64 8)), none⟩] [4, 5, 15, 16]) (
         .seq (
          .cond (.t 16) (
           .skip) (
           .exit 0)) (
          .seq (
           .block 1 (
            .seq (
             .reg [
              ⟨some 17, .mv (.t 15), none⟩,
              ⟨some 6, .mv (.t 17), none⟩] [4, 5, 6, 15]) (
             .regD [
              ⟨some 18, .mv (.t 5), none⟩,
              ⟨some 19, .mv (.t 6), none⟩,
              ⟨some 20, .mv (.t 4), none⟩,
              ⟨some 21, .call 28 [none] [(.t 20)], none⟩,
              ⟨some 22, .nck (.t 18), none⟩,
              ⟨some 23, .fa 0 (.t 22), none⟩,
              ⟨some 24, .iaA 8 1 (.t 23) (.t 19), none⟩,
              ⟨none, .st 1 (.t 24) (.t 21), none⟩] [.q 0, .q 1, .q 2, .q 4, .q 5, .e 3 [0, 1, 4, 5], .q 6, .e 7 []] [4, 5, 15]))) (
           .reg [
            ⟨some 25, .bin .add (.t 15) (.c (.int .i64 1)), none⟩,
            ⟨some 15, .mv (.t 25), none⟩] [4, 5, 15]))))))) (
     .seq (
      .reg [
       ⟨some 26, .mv (.t 4), none⟩,
       ⟨some 27, .call 75 [none] [(.t 26)], none⟩,
       ⟨some 7, .mv (.t 27), none⟩] [4, 5, 7]) (
      .seq (
       .seq (
        .reg [
         ⟨some 28, .mv (.t 7), none⟩,
         ⟨some 29, .bin .gtr (.t 28) (.c (.int .u64 16)), none⟩,
         ⟨some 30, .mv (.t 29), none⟩,
         ⟨some 31, .mv (.t 7), (some (30, false))⟩,
         ⟨some 32, .mv (.t 5), (some (30, false))⟩,
         ⟨some 33, .nck (.t 32), (some (30, false))⟩,
         ⟨some 34, .fa 9 (.t 33), (some (30, false))⟩,
         ⟨some 35, .ld (.t 34), (some (30, false))⟩,
         ⟨some 36, .bin .gtr (.t 31) (.t 35), (some (30, false))⟩,
         ⟨some 37, .pick (.t 30) (.c (.bool true)) (.t 36), none⟩] [4, 5, 7, 37]) (
        .cond (.t 37) (
         .no) (
         .skip))) (
       .seq (
        .seq (
         .reg [
          ⟨some 38, .mv (.t 7), none⟩,
          ⟨some 39, .mv (.c (.int .u64 0)), none⟩] [4, 5, 38, 39]) (
         .block 2 (
          .loop 2 [4, 5, 38, 39] (
           .seq (
            .reg [
             ⟨some 40, .bin .lss (.t 39) (.t 38), none⟩] [4, 5, 38, 39, 40]) (
            .seq (
             .cond (.t 40) (
              .no) (
              .exit 2)) (
             .seq (
              .block 3 (
               .seq (
                .reg [
                 ⟨some 41, .mv (.t 4), none⟩,
                 ⟨some 42, .call 75 [none] [(.t 41)], none⟩,
                 ⟨some 8, .mv (.t 42), none⟩] [4, 5, 8, 38, 39]) (
                .seq (
                 .seq (
                  .reg [
                   ⟨some 43, .mv (.t 8), none⟩,
                   ⟨some 44, .bin .geq (.t 43) (.c (.int .u64 8)), none⟩] [4, 5, 8, 38, 39, 44]) (
                  .cond (.t 44) (
                   .no) (
                   .no))) (
                 .regD [
                  ⟨some 45, .mv (.t 5), none⟩,
                  ⟨some 46, .mv (.t 5), none⟩,
                  ⟨some 47, .nck (.t 46), none⟩,
                  ⟨some 48, .fa 8 (.t 47), none⟩,
                  ⟨some 49, .ld (.t 48), none⟩,
                  ⟨some 50, .mv (.t 8), none⟩,
                  ⟨some 51, .cv .i64 (.t 50), none⟩,
                  ⟨some 52, .mv (.t 4), none⟩,
                  ⟨some 53, .call 28 [none] [(.t 52)], none⟩,
                  ⟨some 54, .bld [.int .i64 0, .int .i64 0] [(0, 1, (.t 51)), (1, 1, (.t 53))], none⟩,
                  ⟨some 55, .bsl 16 (.pair (.int .i64) (.int .i64)) 1 [(0, (.t 54))], none⟩,
                  ⟨some 56, .app 16 (.pair (.int .i64) (.int .i64)) (.t 49) (.t 55), none⟩,
                  ⟨some 57, .nck (.t 45), none⟩,
                  ⟨some 58, .fa 8 (.t 57), none⟩,
                  ⟨none, .st 1 (.t 58) (.t 56), none⟩] [.q 0, .q 1, .q 2, .q 3, .q 4, .q 5, .q 6, .q 7, .e 8 [0, 1, 2, 3, 4, 5, 6], .q 9, .e 10 [0, 1, 2, 3, 4], .e 11 [0], .q 12, .q 13, .e 14 []] [4, 5, 38, 39])))) (
              .reg [
               ⟨some 59, .bin .add (.t 39) (.c (.int .u64 1)), none⟩,
               ⟨some 39, .mv (.t 59), none⟩] [4, 5, 38, 39]))))))) (
        .seq (
         .seq (
          .reg [
           ⟨some 60, .mv (.t 4), none⟩,
           ⟨some 61, .call 29 [none] [(.t 60)], none⟩,
           ⟨some 62, .not (.t 61), none⟩] [5, 62]) (
          .cond (.t 62) (
           .no) (
           .skip))) (
         .seq (
          .reg [
           ⟨some 63, .mv (.t 5), none⟩,
           ⟨some 2, .mv (.t 63), none⟩,
           ⟨some 3, .mv (.c (.int .i64 0)), none⟩] [2, 3]) (
          .ret)))))))))
def xr94 : List RT := [.t 2, .t 3]
def xa95 : AS :=
 .seq (
  .reg [
   ⟨some 2, .mv (.c (.nilp)), none⟩,
   ⟨some 3, .mv (.c (.int .i64 0)), none⟩] [0]) (
  .seq (
   .reg [
    ⟨some 7, .mv (.t 0), none⟩,
    ⟨some 8, .call 97 [none] [(.t 7)], none⟩,
    ⟨some 6, .mv (.t 8), none⟩,
    ⟨some 9, .ext (.t 6) 0, none⟩,
    ⟨some 10, .ext (.t 6) 1, none⟩,
    ⟨some 4, .mv (.t 9), none⟩,
    ⟨some 5, .mv (.t 10), none⟩] [4, 5]) (
   .seq (
    .seq (
     .reg [
      ⟨some 11, .mv (.t 5), none⟩,
      ⟨some 12, .bin .neq (.t 11) (.c (.int .i64 0)), none⟩,
      ⟨some 13, .mv (.t 12), none⟩,
      ⟨some 14, .mv (.t 4), (some (13, false))⟩,
      ⟨some 15, .len .s (.t 14), (some (13, false))⟩,
      ⟨some 16, .bin .gtr (.t 15) (.c (.int .i64 8)), (some (13, false))⟩,
      ⟨some 17, .pick (.t 13) (.c (.bool true)) (.t 16), none⟩] [4, 17]) (
     .cond (.t 17) (
      .no) (
      .skip))) (
    .seq (
     .reg [
      ⟨some 18, .mv (.t 4), none⟩,
      ⟨some 19, .bld [.nils] [(0, 1, (.t 18))], none⟩,
      ⟨some 20, .box (.t 19), none⟩,
      ⟨some 2, .mv (.t 20), none⟩,
      ⟨some 3, .mv (.c (.int .i64 0)), none⟩] [2, 3]) (
     .ret))))
def xr95 : List RT := [.t 2, .t 3]
def xa96 : AS :=
 .seq (
  .reg [
   ⟨some 2, .mv (.c (.nilp)), none⟩,
   ⟨some 3, .mv (.c (.int .i64 0)), none⟩] [0]) (
  .seq (
   .reg [
    ⟨some 17, .mv (.t 0), none⟩,
    ⟨some 18, .call 27 [none] [(.t 17)], none⟩,
    ⟨some 4, .mv (.t 18), none⟩] [4]) (
   .seq (
    .reg [
     ⟨some 20, .mv (.t 4), none⟩,
     ⟨some 21, .call 87 [none] [(.t 20)], none⟩,
     ⟨some 22, .call 163 [none] [(.t 21)], none⟩,
     ⟨some 19, .mv (.t 22), none⟩,
     ⟨some 23, .ext (.t 19) 0, none⟩,
     ⟨some 24, .ext (.t 19) 1, none⟩,
     ⟨some 5, .mv (.t 23), none⟩,
     ⟨some 6, .mv (.t 24), none⟩] [4, 5, 6]) (
    .seq (
     .reg [
      ⟨some 25, .mv (.t 4), none⟩,
      ⟨some 26, .call 75 [none] [(.t 25)], none⟩,
      ⟨some 7, .mv (.t 26), none⟩] [4, 5, 6, 7]) (
     .seq (
      .seq (
       .reg [
        ⟨some 27, .mv (.t 6), none⟩,
        ⟨some 28, .bin .neq (.t 27) (.c (.int .i64 0)), none⟩,
        ⟨some 29, .mv (.t 28), none⟩,
        ⟨some 30, .mv (.t 7), (some (29, false))⟩,
        ⟨some 31, .bin .gtr (.t 30) (.c (.int .u64 64)), (some (29, false))⟩,
        ⟨some 32, .pick (.t 29) (.c (.bool true)) (.t 31), none⟩] [4, 5, 7, 32]) (
       .cond (.t 32) (
        .no) (
        .skip))) (
      .seq (
       .reg [
        ⟨some 8, .mv (.c (.str ByteArray.empty)), none⟩] [4, 5, 7, 8]) (
       .seq (
        .seq (
         .reg [
          ⟨some 33, .mv (.t 7), none⟩,
          ⟨some 34, .mv (.c (.int .u64 0)), none⟩] [4, 5, 8, 33, 34]) (
         .block 0 (
          .loop 1 [4, 5, 8, 33, 34] (
           .seq (
            .reg [
             ⟨some 35, .bin .lss (.t 34) (.t 33), none⟩] [4, 5, 8, 33, 34, 35]) (
            .seq (
             .cond (.t 35) (
              .no) (
              .exit 0)) (
             .seq (
              .block 1 (
               .seq (
                .reg [
                 ⟨some 36, .mv (.t 4), none⟩,
                 ⟨some 37, .call 87 [none] [(.t 36)], none⟩,
                 ⟨some 38, .mv (.t 4), none⟩,
                 ⟨some 39, .call 75 [none] [(.t 38)], none⟩,
                 ⟨some 9, .mv (.t 37), none⟩,
                 ⟨some 10, .mv (.t 39), none⟩] [4, 5, 8, 9, 10, 33, 34]) (
                .seq (
                 .seq (
                  .reg [
                   ⟨some 40, .mv (.t 4), none⟩,
                   ⟨some 41, .call 89 [none] [(.t 40)], none⟩,
                   ⟨some 42, .mv (.t 41), none⟩,
                   ⟨some 43, .mv (.t 9), (some (42, false))⟩,
                   ⟨some 44, .call 49 [none] [(.t 43)], (some (42, false))⟩,
                   ⟨some 45, .not (.t 44), (some (42, false))⟩,
                   ⟨some 46, .pick (.t 42) (.c (.bool true)) (.t 45), none⟩,
                   ⟨some 47, .mv (.t 46), none⟩,
                   ⟨some 48, .mv (.t 10), (some (47, false))⟩,
                   ⟨some 49, .bin .eql (.t 48) (.c (.int .u64 0)), (some (47, false))⟩,
                   ⟨some 50, .pick (.t 47) (.c (.bool true)) (.t 49), none⟩,
                   ⟨some 51, .mv (.t 50), none⟩,
                   ⟨some 52, .mv (.t 9), (some (51, false))⟩,
                   ⟨some 53, .mv (.t 8), (some (51, false))⟩,
                   ⟨some 54, .bin .leq (.t 52) (.t 53), (some (51, false))⟩,
                   ⟨some 55, .pick (.t 51) (.c (.bool true)) (.t 54), none⟩] [4, 5, 9, 10, 33, 34, 55]) (
                  .cond (.t 55) (
                   .no) (
                   .no))) (
                 .seq (
                  .reg [
                   ⟨some 56, .mv (.t 9), none⟩,
                   ⟨some 8, .mv (.t 56), none⟩] [4, 5, 8, 9, 10, 33, 34]) (
                  .reg [
                   ⟨some 57, .mv (.t 5), none⟩,
                   ⟨some 58, .nck (.t 57), none⟩,
                   ⟨some 59, .fa 2 (.t 58), none⟩,
                   ⟨some 60, .ld (.t 59), none⟩,
                   ⟨some 61, .mv (.t 9), none⟩,
                   ⟨some 62, .mv (.t 10), none⟩,
                   ⟨none, .mu false .str (.int .u64) (.t 60) (.t 61) (.t 62), none⟩] [4, 5, 8, 33, 34]))))) (
              .reg [
               ⟨some 63, .bin .add (.t 34) (.c (.int .u64 1)), none⟩,
               ⟨some 34, .mv (.t 63), none⟩] [4, 5, 8, 33, 34]))))))) (
        .seq (
         .seq (
          .reg [
           ⟨some 64, .mv (.t 4), none⟩,
           ⟨some 65, .call 75 [none] [(.t 64)], none⟩,
           ⟨some 7, .mv (.t 65), none⟩] [4, 5, 7]) (
          .seq (
           .reg [
            ⟨some 66, .mv (.t 7), none⟩,
            ⟨some 67, .bin .gtr (.t 66) (.c (.int .u64 32)), none⟩] [4, 5, 7, 67]) (
           .cond (.t 67) (
            .no) (
            .skip)))) (
         .seq (
          .reg [
           ⟨some 68, .mkm false .str (.int .u64), none⟩,
           ⟨some 11, .mv (.t 68), none⟩] [4, 5, 7, 11]) (
          .seq (
           .seq (
            .reg [
             ⟨some 69, .mv (.t 7), none⟩,
             ⟨some 70, .mv (.c (.int .u64 0)), none⟩] [4, 5, 11, 69, 70]) (
            .block 2 (
             .loop 2 [4, 5, 11, 69, 70] (
              .seq (
               .reg [
                ⟨some 71, .bin .lss (.t 70) (.t 69), none⟩] [4, 5, 11, 69, 70, 71]) (
               .seq (
                .cond (.t 71) (
                 .no) (
                 .exit 2)) (
                .seq (
                 .block 3 (
                  .seq (
                   .reg [
                    ⟨some 72, .mv (.t 4), none⟩,
                    ⟨some 73, .call 87 [none] [(.t 72)], none⟩,
                    ⟨some 12, .mv (.t 73), none⟩] [4, 5, 11, 12, 69, 70]) (
                   .seq (
                    .reg [
                     ⟨some 75, .mv (.t 4), none⟩,
                     ⟨some 76, .call 87 [none] [(.t 75)], none⟩,
                     ⟨some 77, .s2b (.t 76), none⟩,
                     ⟨some 78, .call 164 [none] [(.t 77)], none⟩,
                     ⟨some 74, .mv (.t 78), none⟩,
                     ⟨some 79, .ext (.t 74) 0, none⟩,
                     ⟨some 80, .ext (.t 74) 1, none⟩,
                     ⟨some 13, .alc [.str ByteArray.empty, .int .u64 0, .int .i64 0, .nils], none⟩,
                     ⟨none, .st 4 (.t 13) (.t 79), none⟩,
                     ⟨some 14, .mv (.t 80), none⟩] [4, 5, 11, 12, 13, 14, 69, 70]) (
                    .seq (
                     .seq (
                      .regD [
                       ⟨some 81, .mv (.t 4), none⟩,
                       ⟨some 82, .call 89 [none] [(.t 81)], none⟩,
                       ⟨some 83, .mv (.t 82), none⟩,
                       ⟨some 84, .mv (.t 14), (some (83, false))⟩,
                       ⟨some 85, .bin .neq (.t 84) (.c (.int .i64 0)), (some (83, false))⟩,
                       ⟨some 86, .pick (.t 83) (.c (.bool true)) (.t 85), none⟩,
                       ⟨some 87, .mv (.t 86), none⟩,
                       ⟨some 88, .fa 0 (.t 13), (some (87, false))⟩,
                       ⟨some 89, .ld (.t 88), (some (87, false))⟩,
                       ⟨some 90, .mv (.t 5), (some (87, false))⟩,
                       ⟨some 91, .nck (.t 90), (some (87, false))⟩,
                       ⟨some 92, .fa 0 (.t 91), (some (87, false))⟩,
                       ⟨some 93, .ld (.t 92), (some (87, false))⟩,
                       ⟨some 94, .bin .neq (.t 89) (.t 93), (some (87, false))⟩,
                       ⟨some 95, .pick (.t 87) (.c (.bool true)) (.t 94), none⟩,
                       ⟨some 96, .mv (.t 95), none⟩,
                       ⟨some 97, .mv (.t 5), (some (96, false))⟩,
                       ⟨some 98, .nck (.t 97), (some (96, false))⟩,
                       ⟨some 99, .fa 2 (.t 98), (some (96, false))⟩,
                       ⟨some 100, .ld (.t 99), (some (96, false))⟩,
                       ⟨some 101, .mv (.t 12), (some (96, false))⟩,
                       ⟨some 102, .lk false .str (.int .u64) false (.t 100) (.t 101), (some (96, false))⟩,
                       ⟨some 103, .bin .eql (.t 102) (.c (.int .u64 0)), (some (96, false))⟩,
                       ⟨some 104, .pick (.t 96) (.c (.bool true)) (.t 103), none⟩] [.q 0, .e 1 [], .q 2, .q 3, .q 4, .q 5, .q 6, .q 7, .q 8, .q 9, .q 10, .q 11, .q 12, .q 13, .q 14, .q 15, .q 16, .q 17, .q 18, .q 19, .q 20, .q 21, .q 22, .q 23] [4, 5, 11, 12, 13, 69, 70, 104]) (
                      .cond (.t 104) (
                       .no) (
                       .no))) (
                     .seq (
                      .reg [
                       ⟨some 105, .mv (.t 11), none⟩,
                       ⟨some 106, .mv (.t 12), none⟩,
                       ⟨some 107, .lk false .str (.int .u64) false (.t 105) (.t 106), none⟩,
                       ⟨some 108, .bin .add (.t 107) (.c (.int .u64 1)), none⟩,
                       ⟨none, .mu false .str (.int .u64) (.t 105) (.t 106) (.t 108), none⟩] [4, 5, 11, 12, 13, 69, 70]) (
                      .regD [
                       ⟨some 109, .mv (.t 5), none⟩,
                       ⟨some 110, .mv (.t 5), none⟩,
                       ⟨some 111, .nck (.t 110), none⟩,
                       ⟨some 112, .fa 1 (.t 111), none⟩,
                       ⟨some 113, .ld (.t 112), none⟩,
                       ⟨some 114, .mv (.t 12), none⟩,
                       ⟨some 115, .ldA 4 (.t 13), none⟩,
                       ⟨some 116, .bld [.str ByteArray.empty, .str ByteArray.empty, .int .u64 0, .int .i64 0, .nils] [(0, 1, (.t 114)), (1, 4, (.t 115))], none⟩,
                       ⟨some 117, .bsl 72 (.pair .str (.pair .str (.pair (.int .u64) (.pair (.int .i64) (.sl 8 (.int .i64)))))) 1 [(0, (.t 116))], none⟩,
                       ⟨some 118, .app 72 (.pair .str (.pair .str (.pair (.int .u64) (.pair (.int .i64) (.sl 8 (.int .i64)))))) (.t 113) (.t 117), none⟩,
                       ⟨some 119, .nck (.t 109), none⟩,
                       ⟨some 120, .fa 1 (.t 119), none⟩,
                       ⟨none, .st 1 (.t 120) (.t 118), none⟩] [.q 0, .q 1, .q 2, .q 3, .q 4, .q 5, .q 6, .q 7, .e 8 [0, 1, 2, 3, 4], .e 9 [0], .q 10, .q 11, .e 12 []] [4, 5, 11, 69, 70])))))) (
                 .reg [
                  ⟨some 121, .bin .add (.t 70) (.c (.int .u64 1)), none⟩,
                  ⟨some 70, .mv (.t 121), none⟩] [4, 5, 11, 69, 70]))))))) (
           .seq (
            .seq (
             .reg [
              ⟨some 122, .mv (.t 5), none⟩,
              ⟨some 123, .nck (.t 122), none⟩,
              ⟨some 124, .fa 1 (.t 123), none⟩,
              ⟨some 125, .ld (.t 124), none⟩,
              ⟨some 126, .len .s (.t 125), none⟩,
              ⟨some 127, .mv (.c (.int .i64 0)), none⟩] [4, 5, 11, 125, 126, 127]) (
             .block 4 (
              .loop 3 [4, 5, 11, 125, 126, 127] (
               .seq (
                .reg [
                 ⟨some 128, .bin .lss (.t 127) (.t 126), none⟩] [4, 5, 11, 125, 126, 127, 128]) (
                .seq (
                 .cond (.t 128) (
                  .no) (
                  .exit 4)) (
                 .seq (
                  .block 5 (
                   .seq (
                    .reg [
                     ⟨some 129, .ia 5 (.t 125) (.t 127), none⟩,
                     ⟨some 130, .ldA 5 (.t 129), none⟩,
                     ⟨some 16, .alc [.str ByteArray.empty, .str ByteArray.empty, .int .u64 0, .int .i64 0, .nils], none⟩,
                     ⟨none, .st 5 (.t 16) (.t 130), none⟩] [4, 5, 11, 16, 125, 126, 127]) (
                    .seq (
                     .seq (
                      .regD [
                       ⟨some 131, .mv (.t 11), none⟩,
                       ⟨some 132, .fa 0 (.t 16), none⟩,
                       ⟨some 133, .ld (.t 132), none⟩,
                       ⟨some 134, .lk false .str (.int .u64) false (.t 131) (.t 133), none⟩,
                       ⟨some 135, .mv (.t 5), none⟩,
                       ⟨some 136, .nck (.t 135), none⟩,
                       ⟨some 137, .fa 2 (.t 136), none⟩,
                       ⟨some 138, .ld (.t 137), none⟩,
                       ⟨some 139, .fa 0 (.t 16), none⟩,
                       ⟨some 140, .ld (.t 139), none⟩,
                       ⟨some 141, .lk false .str (.int .u64) false (.t 138) (.t 140), none⟩,
                       ⟨some 142, .bin .gtr (.t 134) (.t 141), none⟩,
                       ⟨some 143, .mv (.t 142), none⟩,
                       ⟨some 144, .fa 1 (.t 16), (some (143, false))⟩,
                       ⟨some 145, .fa 1 (.t 144), (some (143, false))⟩,
                       ⟨some 146, .ld (.t 145), (some (143, false))⟩,
                       ⟨some 147, .mv (.t 5), (some (143, false))⟩,
                       ⟨some 148, .nck (.t 147), (some (143, false))⟩,
                       ⟨some 149, .fa 2 (.t 148), (some (143, false))⟩,
                       ⟨some 150, .ld (.t 149), (some (143, false))⟩,
                       ⟨some 151, .fa 0 (.t 16), (some (143, false))⟩,
                       ⟨some 152, .ld (.t 151), (some (143, false))⟩,
                       ⟨some 153, .lk false .str (.int .u64) false (.t 150) (.t 152), (some (143, false))⟩,
                       ⟨some 154, .mv (.t 11), (some (143, false))⟩,
                       ⟨some 155, .fa 0 (.t 16), (some (143, false))⟩,
                       ⟨some 156, .ld (.t 155), (some (143, false))⟩,
                       ⟨some 157, .lk false .str (.int .u64) false (.t 154) (.t 156), (some (143, false))⟩,
                       ⟨some 158, .bin .sub (.t 153) (.t 157), (some (143, false))⟩,
                       ⟨some 159, .bin .add (.t 158) (.c (.int .u64 1)), (some (143, false))⟩,
                       ⟨some 160, .bin .neq (.t 146) (.t 159), (some (143, false))⟩,
                       ⟨some 161, .pick (.t 143) (.c (.bool true)) (.t 160), none⟩] [.q 0, .q 1, .q 2, .q 3, .q 4, .q 5, .q 6, .q 7, .q 8, .q 9, .q 10, .q 11, .q 12, .q 13, .q 14, .q 15, .q 16, .q 17, .q 18, .q 19, .q 20, .q 21, .q 22, .q 23, .q 24, .q 25, .q 26, .q 27, .q 28, .q 29, .q 30] [4, 5, 11, 16, 125, 126, 127, 161]) (
                      .cond (.t 161) (
                       .no) (
                       .no))) (
                     .reg [
                      ⟨some 162, .mv (.t 11), none⟩,
                      ⟨some 163, .fa 0 (.t 16), none⟩,
                      ⟨some 164, .ld (.t 163), none⟩,
                      ⟨some 165, .lk false .str (.int .u64) false (.t 162) (.t 164), none⟩,
                      ⟨some 166, .bin .sub (.t 165) (.c (.int .u64 1)), none⟩,
                      ⟨none, .mu false .str (.int .u64) (.t 162) (.t 164) (.t 166), none⟩] [4, 5, 11, 125, 126, 127])))) (
                  .reg [
                   ⟨some 167, .bin .add (.t 127) (.c (.int .i64 1)), none⟩,
                   ⟨some 127, .mv (.t 167), none⟩] [4, 5, 11, 125, 126, 127]))))))) (
            .seq (
             .seq (
              .reg [
               ⟨some 168, .mv (.t 4), none⟩,
               ⟨some 169, .call 29 [none] [(.t 168)], none⟩,
               ⟨some 170, .not (.t 169), none⟩] [5, 170]) (
              .cond (.t 170) (
               .no) (
               .skip))) (
             .seq (
              .reg [
               ⟨some 171, .mv (.t 5), none⟩,
               ⟨some 2, .mv (.t 171), none⟩,
               ⟨some 3, .mv (.c (.int .i64 0)), none⟩] [2, 3]) (
              .ret)))))))))))))
def xr96 : List RT := [.t 2, .t 3]
def xa97 : AS :=
 .seq (
  .reg [
   ⟨some 2, .mv (.c (.nils)), none⟩,
   ⟨some 3, .mv (.c (.int .i64 0)), none⟩] [0]) (
  .seq (
   .reg [
    ⟨some 9, .mv (.t 0), none⟩,
    ⟨some 10, .call 27 [none] [(.t 9)], none⟩,
    ⟨some 4, .mv (.t 10), none⟩] [4]) (
   .seq (
    .reg [
     ⟨some 11, .mv (.t 4), none⟩,
     ⟨some 12, .call 75 [none] [(.t 11)], none⟩,
     ⟨some 5, .mv (.t 12), none⟩] [4, 5]) (
    .seq (
     .seq (
      .reg [
       ⟨some 13, .mv (.t 5), none⟩,
       ⟨some 14, .mv (.t 4), none⟩,
       ⟨some 15, .call 139 [none] [(.t 14)], none⟩,
       ⟨some 16, .cv .u64 (.t 15), none⟩,
       ⟨some 17, .bin .gtr (.t 13) (.t 16), none⟩] [4, 5, 17]) (
      .cond (.t 17) (
       .no) (
       .skip))) (
     .seq (
      .reg [
       ⟨some 6, .mv (.c (.nils)), none⟩] [4, 5, 6]) (
      .seq (
       .seq (
        .reg [
         ⟨some 18, .mv (.t 5), none⟩,
         ⟨some 19, .mv (.c (.int .u64 0)), none⟩] [4, 6, 18, 19]) (
        .block 0 (
         .loop 1 [4, 6, 18, 19] (
          .seq (
           .reg [
            ⟨some 20, .bin .lss (.t 19) (.t 18), none⟩] [4, 6, 18, 19, 20]) (
           .seq (
            .cond (.t 20) (
             .no) (
             .exit 0)) (
            .seq (
             .block 1 (
              .seq (
               .reg [
                ⟨some 22, .mv (.t 4), none⟩,
                ⟨some 23, .call 165 [none] [(.t 22)], none⟩,
                ⟨some 21, .mv (.t 23), none⟩,
                ⟨some 24, .ext (.t 21) 0, none⟩,
                ⟨some 25, .ext (.t 21) 1, none⟩,
                ⟨some 7, .alc [.str ByteArray.empty, .int .u64 0, .int .i64 0, .nils], none⟩,
                ⟨none, .st 4 (.t 7) (.t 24), none⟩,
                ⟨some 8, .mv (.t 25), none⟩] [4, 6, 7, 8, 18, 19]) (
               .seq (
                .seq (
                 .reg [
                  ⟨some 26, .mv (.t 8), none⟩,
                  ⟨some 27, .not (.t 26), none⟩] [4, 6, 7, 18, 19, 27]) (
                 .cond (.t 27) (
                  .no) (
                  .no))) (
                .reg [
                 ⟨some 28, .mv (.t 6), none⟩,
                 ⟨some 29, .ldA 4 (.t 7), none⟩,
                 ⟨some 30, .bsl 56 (.pair .str (.pair (.int .u64) (.pair (.int .i64) (.sl 8 (.int .i64))))) 1 [(0, (.t 29))], none⟩,
                 ⟨some 31, .app 56 (.pair .str (.pair (.int .u64) (.pair (.int .i64) (.sl 8 (.int .i64))))) (.t 28) (.t 30), none⟩,
                 ⟨some 6, .mv (.t 31), none⟩] [4, 6, 18, 19])))) (
             .reg [
              ⟨some 32, .bin .add (.t 19) (.c (.int .u64 1)), none⟩,
              ⟨some 19, .mv (.t 32), none⟩] [4, 6, 18, 19]))))))) (
       .seq (
        .seq (
         .reg [
          ⟨some 33, .mv (.t 4), none⟩,
          ⟨some 34, .call 29 [none] [(.t 33)], none⟩,
          ⟨some 35, .not (.t 34), none⟩] [6, 35]) (
         .cond (.t 35) (
          .no) (
          .skip))) (
        .seq (
         .reg [
          ⟨some 36, .mv (.t 6), none⟩,
          ⟨some 2, .mv (.t 36), none⟩,
          ⟨some 3, .mv (.c (.int .i64 0)), none⟩] [2, 3]) (
         .ret))))))))
def xr97 : List RT := [.t 2, .t 3]
def xa98 : AS :=
 .seq (
  .reg [
   ⟨some 2, .mv (.c (.bool false)), none⟩] [0]) (
  .seq (
   .seq (
    .reg [
     ⟨some 5, .mv (.t 0), none⟩,
     ⟨some 6, .eqn false .p (.t 5) (.c (.nilp)), none⟩,
     ⟨some 7, .mv (.t 6), none⟩,
     ⟨some 8, .mv (.t 0), (some (7, false))⟩,
     ⟨some 9, .nck (.t 8), (some (7, false))⟩,
     ⟨some 10, .fa 0 (.t 9), (some (7, false))⟩,
     ⟨some 11, .ld (.t 10), (some (7, false))⟩,
     ⟨some 12, .eqn false .p (.t 11) (.c (.nilp)), (some (7, false))⟩,
     ⟨some 13, .pick (.t 7) (.c (.bool true)) (.t 12), none⟩,
     ⟨some 14, .mv (.t 13), none⟩,
     ⟨some 15, .mv (.t 0), (some (14, false))⟩,
     ⟨some 16, .nck (.t 15), (some (14, false))⟩,
     ⟨some 17, .fa 1 (.t 16), (some (14, false))⟩,
     ⟨some 18, .ld (.t 17), (some (14, false))⟩,
     ⟨some 19, .eqn false .p (.t 18) (.c (.nilp)), (some (14, false))⟩,
     ⟨some 20, .pick (.t 14) (.c (.bool true)) (.t 19), none⟩,
     ⟨some 21, .mv (.t 20), none⟩,
     ⟨some 22, .mv (.t 0), (some (21, false))⟩,
     ⟨some 23, .call 34 [none] [(.t 22)], (some (21, false))⟩,
     ⟨some 24, .bin .eql (.t 23) (.c (.str ByteArray.empty)), (some (21, false))⟩,
     ⟨some 25, .pick (.t 21) (.c (.bool true)) (.t 24), none⟩,
     ⟨some 26, .mv (.t 25), none⟩,
     ⟨some 27, .mv (.t 0), (some (26, false))⟩,
     ⟨some 28, .nck (.t 27), (some (26, false))⟩,
     ⟨some 29, .fa 3 (.t 28), (some (26, false))⟩,
     ⟨some 30, .ld (.t 29), (some (26, false))⟩,
     ⟨some 31, .bin .lss (.t 30) (.c (.int .i64 0)), (some (26, false))⟩,
     ⟨some 32, .pick (.t 26) (.c (.bool true)) (.t 31), none⟩,
     ⟨some 33, .mv (.t 32), none⟩,
     ⟨some 34, .mv (.t 0), (some (33, false))⟩,
     ⟨some 35, .nck (.t 34), (some (33, false))⟩,
     ⟨some 36, .fa 3 (.t 35), (some (33, false))⟩,
     ⟨some 37, .ld (.t 36), (some (33, false))⟩,
     ⟨some 38, .bin .geq (.t 37) (.c (.int .i64 3)), (some (33, false))⟩,
     ⟨some 39, .pick (.t 33) (.c (.bool true)) (.t 38), none⟩,
     ⟨some 40, .mv (.t 39), none⟩,
     ⟨some 41, .mv (.t 0), (some (40, false))⟩,
     ⟨some 42, .nck (.t 41), (some (40, false))⟩,
     ⟨some 43, .fa 3 (.t 42), (some (40, false))⟩,
     ⟨some 44, .ld (.t 43), (some (40, false))⟩,
     ⟨some 45, .bin .gtr (.t 44) (.c (.int .i64 0)), (some (40, false))⟩,
     ⟨some 46, .mv (.t 45), (some (40, false))⟩,
     ⟨some 47, .mv (.t 0), (some (46, true))⟩,
     ⟨some 48, .nck (.t 47), (some (46, true))⟩,
     ⟨some 49, .fa 1 (.t 48), (some (46, true))⟩,
     ⟨some 50, .ld (.t 49), (some (46, true))⟩,
     ⟨some 51, .call 166 [none] [(.t 50)], (some (46, true))⟩,
     ⟨some 52, .bin .eql (.t 51) (.c (.int .i64 0)), (some (46, true))⟩,
     ⟨some 53, .pick (.t 46) (.t 52) (.c (.bool false)), (some (40, false))⟩,
     ⟨some 54, .pick (.t 40) (.c (.bool true)) (.t 53), none⟩,
     ⟨some 55, .mv (.t 54), none⟩,
     ⟨some 56, .mv (.t 0), (some (55, false))⟩,
     ⟨some 57, .nck (.t 56), (some (55, false))⟩,
     ⟨some 58, .fa 4 (.t 57), (some (55, false))⟩,
     ⟨some 59, .ld (.t 58), (some (55, false))⟩,
     ⟨some 60, .len .s (.t 59), (some (55, false))⟩,
     ⟨some 61, .bin .gtr (.t 60) (.c (.int .i64 8)), (some (55, false))⟩,
     ⟨some 62, .pick (.t 55) (.c (.bool true)) (.t 61), none⟩] [0, 62]) (
    .cond (.t 62) (
     .no) (
     .skip))) (
   .seq (
    .seq (
     .reg [
      ⟨some 63, .mv (.t 0), none⟩,
      ⟨some 64, .nck (.t 63), none⟩,
      ⟨some 65, .fa 4 (.t 64), none⟩,
      ⟨some 66, .ld (.t 65), none⟩,
      ⟨some 67, .len .s (.t 66), none⟩,
      ⟨some 68, .mv (.c (.int .i64 0)), none⟩] [66, 67, 68]) (
     .block 0 (
      .loop 1 [66, 67, 68] (
       .seq (
        .reg [
         ⟨some 69, .bin .lss (.t 68) (.t 67), none⟩] [66, 67, 68, 69]) (
        .seq (
         .cond (.t 69) (
          .no) (
          .exit 0)) (
         .seq (
          .block 1 (
           .seq (
            .reg [
             ⟨some 70, .ia 4 (.t 66) (.t 68), none⟩,
             ⟨some 71, .ldA 4 (.t 70), none⟩,
             ⟨some 4, .alc [.str ByteArray.empty, .int .u64 0, .int .i64 0, .nils], none⟩,
             ⟨none, .st 4 (.t 4) (.t 71), none⟩] [4, 66, 67, 68]) (
            .seq (
             .reg [
              ⟨some 72, .ldA 4 (.t 4), none⟩,
              ⟨some 73, .call 63 [none] [(.t 72)], none⟩,
              ⟨some 74, .not (.t 73), none⟩] [66, 67, 68, 74]) (
             .cond (.t 74) (
              .no) (
              .no))))) (
          .reg [
           ⟨some 75, .bin .add (.t 68) (.c (.int .i64 1)), none⟩,
           ⟨some 68, .mv (.t 75), none⟩] [66, 67, 68]))))))) (
    .seq (
     .reg [
      ⟨some 2, .mv (.c (.bool true)), none⟩] [2]) (
     .ret))))
def xr98 : List RT := [.t 2]
def xa99 : AS :=
 .seq (
  .reg [
   ⟨some 2, .mv (.c (.str ByteArray.empty)), none⟩] [0]) (
  .seq (
   .seq (
    .reg [
     ⟨some 3, .mv (.t 0), none⟩,
     ⟨some 4, .eqn false .p (.t 3) (.c (.nilp)), none⟩] [0, 4]) (
    .cond (.t 4) (
     .no) (
     .skip))) (
   .seq (
    .reg [
     ⟨some 5, .mv (.t 0), none⟩,
     ⟨some 6, .nck (.t 5), none⟩,
     ⟨some 7, .fa 0 (.t 6), none⟩,
     ⟨some 8, .ld (.t 7), none⟩,
     ⟨some 2, .mv (.t 8), none⟩] [2]) (
    .ret)))
def xr99 : List RT := [.t 2]
def xa104 : AS :=
 .seq (
  .reg [
   ⟨some 2, .mv (.c (.nils)), none⟩] [0]) (
  .seq (
   .reg [
    ⟨some 3, .mv (.c (.nils)), none⟩] [0, 3]) (
   .seq (
    .seq (
     .reg [
      ⟨some 5, .mv (.t 0), none⟩,
      ⟨some 6, .len .s (.t 5), none⟩,
      ⟨some 7, .mv (.c (.int .i64 0)), none⟩] [0, 3, 6, 7]) (
     .block 0 (
      .loop 1 [0, 3, 6, 7] (
       .seq (
        .reg [
         ⟨some 8, .bin .lss (.t 7) (.t 6), none⟩] [0, 3, 6, 7, 8]) (
        .seq (
         .cond (.t 8) (
          .no) (
          .exit 0)) (
         .seq (
          .block 1 (
           .seq (
            .reg [
             ⟨some 9, .mv (.t 7), none⟩,
             ⟨some 4, .mv (.t 9), none⟩] [0, 3, 4, 6, 7]) (
            .reg [
             ⟨some 10, .mv (.t 3), none⟩,
             ⟨some 11, .mv (.t 0), none⟩,
             ⟨some 12, .mv (.t 4), none⟩,
             ⟨some 13, .ia 5 (.t 11) (.t 12), none⟩,
             ⟨some 14, .ldA 5 (.t 13), none⟩,
             ⟨some 15, .bsl 48 (.pair .str (.pair .bool (.pair (.int .i64) (.pair (.int .i64) (.int .i64))))) 1 [(0, (.t 14))], none⟩,
             ⟨some 16, .app 48 (.pair .str (.pair .bool (.pair (.int .i64) (.pair (.int .i64) (.int .i64))))) (.t 10) (.t 15), none⟩,
             ⟨some 3, .mv (.t 16), none⟩] [0, 3, 6, 7]))) (
          .reg [
           ⟨some 17, .bin .add (.t 7) (.c (.int .i64 1)), none⟩,
           ⟨some 7, .mv (.t 17), none⟩] [0, 3, 6, 7]))))))) (
    .seq (
     .reg [
      ⟨some 18, .mv (.t 3), none⟩,
      ⟨some 2, .mv (.t 18), none⟩] [2]) (
     .ret))))
def xr104 : List RT := [.t 2]
def xa106 : AS :=
 .seq (
  .reg [
   ⟨some 0, .mv (.c (.nilp)), none⟩] []) (
  .seq (
   .reg [
    ⟨some 1, .bld [.nils] [], none⟩,
    ⟨some 2, .box (.t 1), none⟩,
    ⟨some 0, .mv (.t 2), none⟩] [0]) (
   .ret))
def xr106 : List RT := [.t 0]
def xa107 : AS :=
 .reg [
  ⟨some 4, .mv (.t 0), none⟩,
  ⟨some 5, .mv (.t 1), none⟩,
  ⟨some 6, .cv .u64 (.t 5), none⟩,
  ⟨some 7, .bin .shl (.t 6) (.c (.int .u64 1)), none⟩,
  ⟨some 8, .mv (.t 1), none⟩,
  ⟨some 9, .bin .shr (.t 8) (.c (.int .u64 63)), none⟩,
  ⟨some 10, .cv .u64 (.t 9), none⟩,
  ⟨some 11, .bin .xor (.t 7) (.t 10), none⟩,
  ⟨some 12, .call 129 [none, none] [(.t 4), (.t 11)], none⟩] []
def xr107 : List RT := []
def xa108 : AS :=
 .seq (
  .reg [
   ⟨some 4, .mv (.c (.int .i64 0)), none⟩] [0, 1]) (
  .seq (
   .seq (
    .reg [
     ⟨some 11, .mv (.t 0), none⟩,
     ⟨some 12, .eqn false .p (.t 11) (.c (.nilp)), none⟩] [0, 1, 12]) (
    .cond (.t 12) (
     .no) (
     .skip))) (
   .seq (
    .seq (
     .reg [
      ⟨some 13, .mv (.t 0), none⟩,
      ⟨some 14, .nck (.t 13), none⟩,
      ⟨some 15, .fa 9 (.t 14), none⟩,
      ⟨some 16, .ld (.t 15), none⟩] [0, 1, 16]) (
     .cond (.t 16) (
      .no) (
      .skip))) (
    .seq (
     .seq (
      .reg [
       ⟨some 17, .mv (.t 1), none⟩,
       ⟨some 18, .call 178 [none] [(.t 17)], none⟩,
       ⟨some 5, .mv (.t 18), none⟩] [0, 1, 5]) (
      .seq (
       .reg [
        ⟨some 19, .mv (.t 5), none⟩,
        ⟨some 20, .bin .neq (.t 19) (.c (.int .i64 0)), none⟩] [0, 1, 5, 20]) (
       .cond (.t 20) (
        .no) (
        .skip)))) (
     .seq (
      .reg [
       ⟨some 6, .mv (.c (.int .i64 0)), none⟩] [0, 1, 6]) (
      .seq (
       .seq (
        .reg [
         ⟨some 22, .mv (.t 1), none⟩,
         ⟨some 23, .len .s (.t 22), none⟩,
         ⟨some 24, .mv (.c (.int .i64 0)), none⟩] [0, 1, 6, 22, 23, 24]) (
        .block 0 (
         .loop 1 [0, 1, 6, 22, 23, 24] (
          .seq (
           .reg [
            ⟨some 25, .bin .lss (.t 24) (.t 23), none⟩] [0, 1, 6, 22, 23, 24, 25]) (
           .seq (
            .cond (.t 25) (
             .skip) (
             .exit 0)) (
            .seq (
             .block 1 (
              .seq (
               .reg [
                ⟨some 26, .ia 3 (.t 22) (.t 24), none⟩,
                ⟨some 27, .ldA 3 (.t 26), none⟩,
                ⟨some 8, .alc [.str ByteArray.empty, .nils, .bool false], none⟩,
                ⟨none, .st 3 (.t 8) (.t 27), none⟩] [0, 1, 6, 8, 22, 23, 24]) (
               .reg [
                ⟨some 28, .mv (.t 6), none⟩,
                ⟨some 29, .fa 0 (.t 8), none⟩,
                ⟨some 30, .ld (.t 29), none⟩,
                ⟨some 31, .len .i (.t 30), none⟩,
                ⟨some 32, .fa 1 (.t 8), none⟩,
                ⟨some 33, .ld (.t 32), none⟩,
                ⟨some 34, .len .s (.t 33), none⟩,
                ⟨some 35, .bin .add (.t 31) (.t 34), none⟩,
                ⟨some 36, .bin .add (.t 28) (.t 35), none⟩,
                ⟨some 6, .mv (.t 36), none⟩] [0, 1, 6, 22, 23, 24]))) (
             .reg [
              ⟨some 37, .bin .add (.t 24) (.c (.int .i64 1)), none⟩,
              ⟨some 24, .mv (.t 37), none⟩] [0, 1, 6, 22, 23, 24]))))))) (
       .seq (
        .block 2 (
         .seq (
          .reg [
           ⟨some 39, .mv (.t 6), none⟩,
           ⟨some 40, .bin .gtr (.t 39) (.c (.int .i64 40000)), none⟩,
           ⟨some 38, .mv (.t 40), none⟩] [0, 1, 38]) (
          .cond (.t 38) (
           .no) (
           .seq (
            .reg [
             ⟨some 42, .mv (.t 1), none⟩,
             ⟨some 43, .len .s (.t 42), none⟩,
             ⟨some 44, .bin .eql (.t 43) (.c (.int .i64 0)), none⟩,
             ⟨some 41, .mv (.t 44), none⟩] [0, 1, 41]) (
            .cond (.t 41) (
             .no) (
             .skip)))))) (
        .seq (
         .reg [
          ⟨some 45, .mv (.t 1), none⟩,
          ⟨some 46, .call 179 [none] [(.t 45)], none⟩,
          ⟨some 9, .mv (.t 46), none⟩] [0, 1, 9]) (
         .seq (
          .reg [
           ⟨some 47, .mv (.t 0), none⟩,
           ⟨some 48, .nck (.t 47), none⟩,
           ⟨some 49, .fa 2 (.t 48), none⟩,
           ⟨some 50, .ld (.t 49), none⟩,
           ⟨some 51, .mv (.t 9), none⟩,
           ⟨some 52, .call 180 [none, none] [(.t 50), (.t 51)], none⟩,
           ⟨some 10, .mv (.t 52), none⟩] [0, 1, 9, 10]) (
          .seq (
           .seq (
            .reg [
             ⟨some 53, .mv (.t 10), none⟩,
             ⟨some 54, .bin .eql (.t 53) (.c (.int .i64 6)), none⟩] [0, 1, 9, 10, 54]) (
            .cond (.t 54) (
             .no) (
             .skip))) (
           .seq (
            .seq (
             .reg [
              ⟨some 65, .mv (.t 10), none⟩,
              ⟨some 66, .bin .neq (.t 65) (.c (.int .i64 0)), none⟩] [0, 1, 10, 66]) (
             .cond (.t 66) (
              .no) (
              .skip))) (
            .seq (
             .reg [
              ⟨some 79, .mv (.t 0), none⟩,
              ⟨some 80, .mv (.t 1), none⟩,
              ⟨some 81, .call 84 [none, none] [(.t 79), (.t 80)], none⟩] [0]) (
             .seq (
              .reg [
               ⟨some 82, .mv (.t 0), none⟩,
               ⟨some 83, .nck (.t 82), none⟩,
               ⟨some 84, .fa 8 (.t 83), none⟩,
               ⟨some 85, .ld (.t 84), none⟩,
               ⟨some 86, .bin .add (.t 85) (.c (.int .i64 1)), none⟩,
               ⟨some 87, .nck (.t 82), none⟩,
               ⟨some 88, .fa 8 (.t 87), none⟩,
               ⟨none, .st 1 (.t 88) (.t 86), none⟩] []) (
              .seq (
               .reg [
                ⟨some 4, .mv (.c (.int .i64 0)), none⟩] [4]) (
               .ret))))))))))))))
def xr108 : List RT := [.t 4]
def xa109 : AS :=
 .seq (
  .reg [
   ⟨some 2, .mv (.c (.nils)), none⟩] [0]) (
  .seq (
   .seq (
    .reg [
     ⟨some 3, .mv (.t 0), none⟩,
     ⟨some 4, .eqn false .p (.t 3) (.c (.nilp)), none⟩] [0, 4]) (
    .cond (.t 4) (
     .no) (
     .skip))) (
   .seq (
    .reg [
     ⟨some 5, .bsl 1 .byte 0 [], none⟩,
     ⟨some 6, .mv (.t 0), none⟩,
     ⟨some 7, .nck (.t 6), none⟩,
     ⟨some 8, .fa 0 (.t 7), none⟩,
     ⟨some 9, .ld (.t 8), none⟩,
     ⟨some 10, .app 1 .byte (.t 5) (.t 9), none⟩,
     ⟨some 2, .mv (.t 10), none⟩] [2]) (
    .ret)))
def xr109 : List RT := [.t 2]
def xa113 : AS :=
 .seq (
  .reg [
   ⟨some 2, .mv (.c (.nils)), none⟩,
   ⟨some 3, .mv (.c (.int .i64 0)), none⟩] [0]) (
  .seq (
   .seq (
    .reg [
     ⟨some 9, .mv (.t 0), none⟩,
     ⟨some 10, .call 98 [none] [(.t 9)], none⟩,
     ⟨some 11, .not (.t 10), none⟩] [0, 11]) (
    .cond (.t 11) (
     .no) (
     .skip))) (
   .seq (
    .reg [
     ⟨some 13, .mv (.t 0), none⟩,
     ⟨some 14, .nck (.t 13), none⟩,
     ⟨some 15, .fa 4 (.t 14), none⟩,
     ⟨some 16, .ld (.t 15), none⟩,
     ⟨some 17, .call 188 [none] [(.t 16)], none⟩,
     ⟨some 12, .mv (.t 17), none⟩,
     ⟨some 18, .ext (.t 12) 0, none⟩,
     ⟨some 19, .ext (.t 12) 1, none⟩,
     ⟨some 4, .mv (.t 18), none⟩,
     ⟨some 5, .mv (.t 19), none⟩] [0, 4]) (
    .seq (
     .reg [
      ⟨some 20, .call 106 [] [], none⟩,
      ⟨some 6, .mv (.t 20), none⟩] [0, 4, 6]) (
     .seq (
      .reg [
       ⟨some 21, .mv (.t 6), none⟩,
       ⟨some 22, .mv (.t 0), none⟩,
       ⟨some 23, .nck (.t 22), none⟩,
       ⟨some 24, .fa 3 (.t 23), none⟩,
       ⟨some 25, .ld (.t 24), none⟩,
       ⟨some 26, .cv .u64 (.t 25), none⟩,
       ⟨some 27, .call 129 [none, none] [(.t 21), (.t 26)], none⟩] [0, 4, 6]) (
      .seq (
       .seq (
        .regD [
         ⟨some 28, .mv (.t 0), none⟩,
         ⟨some 29, .nck (.t 28), none⟩,
         ⟨some 30, .fa 0 (.t 29), none⟩,
         ⟨some 31, .ld (.t 30), none⟩,
         ⟨some 32, .call 189 [none] [(.t 31)], none⟩,
         ⟨some 33, .mv (.t 0), none⟩,
         ⟨some 34, .nck (.t 33), none⟩,
         ⟨some 35, .fa 1 (.t 34), none⟩,
         ⟨some 36, .ld (.t 35), none⟩,
         ⟨some 37, .call 190 [none] [(.t 36)], none⟩,
         ⟨some 38, .mv (.t 0), none⟩,
         ⟨some 39, .nck (.t 38), none⟩,
         ⟨some 40, .fa 2 (.t 39), none⟩,
         ⟨some 41, .ld (.t 40), none⟩,
         ⟨some 42, .call 171 [none] [(.t 41)], none⟩,
         ⟨some 43, .mv (.t 4), none⟩,
         ⟨some 44, .bsl 24 (.sl 1 .byte) 4 [(0, (.t 32)), (1, (.t 37)), (2, (.t 42)), (3, (.t 43))], none⟩,
         ⟨some 45, .len .s (.t 44), none⟩,
         ⟨some 46, .mv (.c (.int .i64 0)), none⟩] [.q 0, .q 1, .q 2, .q 3, .q 5, .q 6, .q 7, .q 8, .q 10, .q 11, .q 12, .q 13, .q 15, .q 18, .e 4 [5, 6, 7, 8, 10, 11, 12, 13, 15, 18], .e 9 [10, 11, 12, 13, 15, 18], .e 14 [15, 18], .e 16 [18], .q 17] [6, 44, 45, 46]) (
        .block 0 (
         .loop 1 [6, 44, 45, 46] (
          .seq (
           .reg [
            ⟨some 47, .bin .lss (.t 46) (.t 45), none⟩] [6, 44, 45, 46, 47]) (
           .seq (
            .cond (.t 47) (
             .skip) (
             .exit 0)) (
            .seq (
             .block 1 (
              .seq (
               .reg [
                ⟨some 48, .ia 1 (.t 44) (.t 46), none⟩,
                ⟨some 49, .ld (.t 48), none⟩,
                ⟨some 8, .mv (.t 49), none⟩] [6, 8, 44, 45, 46]) (
               .reg [
                ⟨some 50, .mv (.t 6), none⟩,
                ⟨some 51, .mv (.t 8), none⟩,
                ⟨some 52, .b2s (.t 51), none⟩,
                ⟨some 53, .call 187 [none, none] [(.t 50), (.t 52)], none⟩] [6, 44, 45, 46]))) (
             .reg [
              ⟨some 54, .bin .add (.t 46) (.c (.int .i64 1)), none⟩,
              ⟨some 46, .mv (.t 54), none⟩] [6, 44, 45, 46]))))))) (
       .seq (
        .reg [
         ⟨some 55, .mv (.t 6), none⟩,
         ⟨some 56, .call 109 [none] [(.t 55)], none⟩,
         ⟨some 2, .mv (.t 56), none⟩,
         ⟨some 3, .mv (.c (.int .i64 0)), none⟩] [2, 3]) (
        .ret)))))))
def xr113 : List RT := [.t 2, .t 3]
def xa114 : AS :=
 .seq (
  .reg [
   ⟨some 4, .mv (.c (.str ByteArray.empty)), none⟩,
   ⟨some 5, .mv (.c (.bool false)), none⟩] [0, 1]) (
  .seq (
   .seq (
    .reg [
     ⟨some 7, .mv (.t 0), none⟩,
     ⟨some 8, .eqn false .p (.t 7) (.c (.nilp)), none⟩] [0, 1, 8]) (
    .cond (.t 8) (
     .no) (
     .skip))) (
   .seq (
    .reg [
     ⟨some 9, .mv (.t 0), none⟩,
     ⟨some 10, .mv (.t 1), none⟩,
     ⟨some 11, .call 191 [none, none] [(.t 9), (.t 10)], none⟩] [0, 1]) (
    .seq (
     .reg [
      ⟨some 12, .mv (.t 0), none⟩,
      ⟨some 13, .mv (.t 0), none⟩,
      ⟨some 14, .nck (.t 13), none⟩,
      ⟨some 15, .fa 1 (.t 14), none⟩,
      ⟨some 16, .ld (.t 15), none⟩,
      ⟨some 17, .mv (.t 1), none⟩,
      ⟨some 18, .bsl 16 .str 1 [(0, (.t 17))], none⟩,
      ⟨some 19, .app 16 .str (.t 16) (.t 18), none⟩,
      ⟨some 20, .nck (.t 12), none⟩,
      ⟨some 21, .fa 1 (.t 20), none⟩,
      ⟨none, .st 1 (.t 21) (.t 19), none⟩] [0]) (
     .seq (
      .seq (
       .regD [
        ⟨some 22, .mv (.t 0), none⟩,
        ⟨some 23, .nck (.t 22), none⟩,
        ⟨some 24, .fa 1 (.t 23), none⟩,
        ⟨some 25, .ld (.t 24), none⟩,
        ⟨some 26, .len .s (.t 25), none⟩,
        ⟨some 27, .mv (.t 0), none⟩,
        ⟨some 28, .call 192 [none] [(.t 27)], none⟩,
        ⟨some 29, .bin .leq (.t 26) (.t 28), none⟩] [.q 0, .q 1, .q 2, .q 3, .q 4, .q 5, .e 6 [0, 1, 2, 3, 4], .q 7] [0, 29]) (
       .cond (.t 29) (
        .seq (
         .reg [
          ⟨some 4, .mv (.c (.str ByteArray.empty)), none⟩,
          ⟨some 5, .mv (.c (.bool false)), none⟩] [4, 5]) (
         .ret)) (
        .no))) (
      .seq (
       .reg [
        ⟨some 30, .mv (.t 0), none⟩,
        ⟨some 31, .nck (.t 30), none⟩,
        ⟨some 32, .fa 1 (.t 31), none⟩,
        ⟨some 33, .ld (.t 32), none⟩,
        ⟨some 34, .ia 1 (.t 33) (.c (.int .i64 0)), none⟩,
        ⟨some 35, .ld (.t 34), none⟩,
        ⟨some 6, .mv (.t 35), none⟩] [0, 6]) (
       .seq (
        .reg [
         ⟨some 36, .mv (.t 0), none⟩,
         ⟨some 37, .mv (.t 0), none⟩,
         ⟨some 38, .nck (.t 37), none⟩,
         ⟨some 39, .fa 1 (.t 38), none⟩,
         ⟨some 40, .ld (.t 39), none⟩,
         ⟨some 41, .slR 1 (.t 40) (some (.c (.int .i64 1))) none, none⟩,
         ⟨some 42, .call 123 [none] [(.t 41)], none⟩,
         ⟨some 43, .nck (.t 36), none⟩,
         ⟨some 44, .fa 1 (.t 43), none⟩,
         ⟨none, .st 1 (.t 44) (.t 42), none⟩] [6]) (
        .seq (
         .reg [
          ⟨some 45, .mv (.t 6), none⟩,
          ⟨some 4, .mv (.t 45), none⟩,
          ⟨some 5, .mv (.c (.bool true)), none⟩] [4, 5]) (
         .ret))))))))
def xr114 : List RT := [.t 4, .t 5]
def xa115 : AS :=
 .seq (
  .reg [
   ⟨some 4, .mv (.c (.nilp)), none⟩] [0, 1]) (
  .seq (
   .seq (
    .reg [
     ⟨some 12, .mv (.t 0), none⟩,
     ⟨some 13, .nck (.t 12), none⟩,
     ⟨some 14, .fa 0 (.t 13), none⟩,
     ⟨some 15, .ld (.t 14), none⟩,
     ⟨some 16, .mv (.t 1), none⟩,
     ⟨some 17, .bin .add (.c (.str ⟨#[97]⟩)) (.t 16), none⟩,
     ⟨some 18, .call 26 [none, none] [(.t 15), (.t 17)], none⟩,
     ⟨some 11, .mv (.t 18), none⟩,
     ⟨some 19, .ext (.t 11) 0, none⟩,
     ⟨some 20, .ext (.t 11) 1, none⟩,
     ⟨some 5, .mv (.t 19), none⟩,
     ⟨some 6, .mv (.t 20), none⟩] [1, 5, 6]) (
    .seq (
     .reg [
      ⟨some 21, .mv (.t 6), none⟩] [1, 5, 21]) (
     .cond (.t 21) (
      .no) (
      .skip)))) (
   .seq (
    .reg [
     ⟨some 31, .mv (.t 1), none⟩,
     ⟨some 32, .call 193 [none] [(.t 31)], none⟩,
     ⟨some 30, .mv (.t 32), none⟩,
     ⟨some 33, .ext (.t 30) 0, none⟩,
     ⟨some 34, .ext (.t 30) 1, none⟩,
     ⟨some 9, .mv (.t 33), none⟩,
     ⟨some 10, .mv (.t 34), none⟩] [9]) (
    .seq (
     .reg [
      ⟨some 35, .mv (.t 9), none⟩,
      ⟨some 4, .mv (.t 35), none⟩] [4]) (
     .ret))))
def xr115 : List RT := [.t 4]
def xa122 : AS :=
 .seq (
  .reg [
   ⟨some 1, .box (.t 0), none⟩,
   ⟨some 2, .mv (.c (.nilf)), none⟩] [1]) (
  .seq (
   .reg [
    ⟨some 3, .mkf 201 [(.t 1)], none⟩,
    ⟨some 2, .mv (.t 3), none⟩] [2]) (
   .ret))
def xr122 : List RT := [.t 2]
def xa126 : AS :=
 .seq (
  .reg [
   ⟨some 2, .mv (.c (.nils)), none⟩] [0]) (
  .seq (
   .seq (
    .reg [
     ⟨some 3, .mv (.t 0), none⟩,
     ⟨some 4, .isn false (.t 3), none⟩] [0, 4]) (
    .cond (.t 4) (
     .seq (
      .reg [
       ⟨some 2, .mv (.c (.nils)), none⟩] [2]) (
      .lift 2 none 8 (.int .u64) (
      .ret))) (
     .skip))) (
   .seq (
    .reg [
     ⟨some 5, .bsl 8 (.int .u64) 0 [], none⟩,
     ⟨some 6, .mv (.t 0), none⟩,
     ⟨some 7, .app 8 (.int .u64) (.t 5) (.t 6), none⟩,
     ⟨some 2, .mv (.t 7), none⟩] [2]) (
    .lift 2 none 8 (.int .u64) (
    .ret))))
def xr126 : List RT := [.t 2]
def xa128 : AS :=
 .seq (
  .reg [
   ⟨some 2, .mv (.c (.nils)), none⟩] [0]) (
  .seq (
   .seq (
    .reg [
     ⟨some 3, .mv (.t 0), none⟩,
     ⟨some 4, .isn false (.t 3), none⟩] [0, 4]) (
    .cond (.t 4) (
     .seq (
      .reg [
       ⟨some 2, .mv (.c (.nils)), none⟩] [2]) (
      .lift 2 none 8 (.int .i64) (
      .ret))) (
     .skip))) (
   .seq (
    .reg [
     ⟨some 5, .bsl 8 (.int .i64) 0 [], none⟩,
     ⟨some 6, .mv (.t 0), none⟩,
     ⟨some 7, .app 8 (.int .i64) (.t 5) (.t 6), none⟩,
     ⟨some 2, .mv (.t 7), none⟩] [2]) (
    .lift 2 none 8 (.int .i64) (
    .ret))))
def xr128 : List RT := [.t 2]
def xa129 : AS :=
 .seq (
  .seq (
   .reg [
    ⟨some 6, .mv (.t 0), none⟩,
    ⟨some 7, .eqn false .p (.t 6) (.c (.nilp)), none⟩] [0, 1, 7]) (
   .cond (.t 7) (
    .no) (
    .skip))) (
  .seq (
   .seq (
    .reg [
     ⟨some 8, .mv (.t 1), none⟩,
     ⟨some 9, .bin .lss (.t 8) (.c (.int .u64 248)), none⟩] [0, 1, 9]) (
    .cond (.t 9) (
     .seq (
      .reg [
       ⟨some 10, .mv (.t 0), none⟩,
       ⟨some 11, .mv (.t 0), none⟩,
       ⟨some 12, .nck (.t 11), none⟩,
       ⟨some 13, .fa 0 (.t 12), none⟩,
       ⟨some 14, .ld (.t 13), none⟩,
       ⟨some 15, .mv (.t 1), none⟩,
       ⟨some 16, .cv .u8 (.t 15), none⟩,
       ⟨some 17, .bsl 1 .byte 1 [(0, (.t 16))], none⟩,
       ⟨some 18, .app 1 .byte (.t 14) (.t 17), none⟩,
       ⟨some 19, .nck (.t 10), none⟩,
       ⟨some 20, .fa 0 (.t 19), none⟩,
       ⟨none, .st 1 (.t 20) (.t 18), none⟩] []) (
      .ret)) (
     .no))) (
   .seq (
    .reg [
     ⟨some 21, .mv (.t 1), none⟩,
     ⟨some 22, .call 203 [none] [(.t 21)], none⟩,
     ⟨some 23, .bin .add (.t 22) (.c (.int .i64 7)), none⟩,
     ⟨some 24, .bin .quo (.t 23) (.c (.int .i64 8)), none⟩,
     ⟨some 4, .mv (.t 24), none⟩] [0, 1, 4]) (
    .seq (
     .reg [
      ⟨some 25, .mv (.t 0), none⟩,
      ⟨some 26, .mv (.t 0), none⟩,
      ⟨some 27, .nck (.t 26), none⟩,
      ⟨some 28, .fa 0 (.t 27), none⟩,
      ⟨some 29, .ld (.t 28), none⟩,
      ⟨some 30, .mv (.t 4), none⟩,
      ⟨some 31, .bin .add (.c (.int .i64 247)) (.t 30), none⟩,
      ⟨some 32, .cv .u8 (.t 31), none⟩,
      ⟨some 33, .bsl 1 .byte 1 [(0, (.t 32))], none⟩,
      ⟨some 34, .app 1 .byte (.t 29) (.t 33), none⟩,
      ⟨some 35, .nck (.t 25), none⟩,
      ⟨some 36, .fa 0 (.t 35), none⟩,
      ⟨none, .st 1 (.t 36) (.t 34), none⟩] [0, 1, 4]) (
     .seq (
      .reg [
       ⟨some 37, .mv (.t 4), none⟩,
       ⟨some 38, .bin .sub (.t 37) (.c (.int .i64 1)), none⟩,
       ⟨some 5, .mv (.t 38), none⟩] [0, 1, 5]) (
      .block 0 (
       .loop 1 [0, 1, 5] (
        .seq (
         .seq (
          .reg [
           ⟨some 39, .mv (.t 5), none⟩,
           ⟨some 40, .bin .geq (.t 39) (.c (.int .i64 0)), none⟩] [0, 1, 5, 40]) (
          .cond (.t 40) (
           .no) (
           .no))) (
         .seq (
          .block 1 (
           .regD [
            ⟨some 43, .mv (.t 0), none⟩,
            ⟨some 44, .mv (.t 0), none⟩,
            ⟨some 45, .nck (.t 44), none⟩,
            ⟨some 46, .fa 0 (.t 45), none⟩,
            ⟨some 47, .ld (.t 46), none⟩,
            ⟨some 48, .mv (.t 1), none⟩,
            ⟨some 49, .mv (.t 5), none⟩,
            ⟨some 50, .bin .mul (.c (.int .i64 8)) (.t 49), none⟩,
            ⟨some 51, .bin .shr (.t 48) (.t 50), none⟩,
            ⟨some 52, .cv .u8 (.t 51), none⟩,
            ⟨some 53, .bsl 1 .byte 1 [(0, (.t 52))], none⟩,
            ⟨some 54, .app 1 .byte (.t 47) (.t 53), none⟩,
            ⟨some 55, .nck (.t 43), none⟩,
            ⟨some 56, .fa 0 (.t 55), none⟩,
            ⟨none, .st 1 (.t 56) (.t 54), none⟩] [.q 0, .q 1, .q 2, .q 3, .q 4, .q 5, .q 6, .q 7, .q 8, .q 9, .e 10 [0, 1, 2, 3, 4], .e 11 [0], .q 12, .q 13, .e 14 []] [0, 1, 5])) (
          .reg [
           ⟨some 41, .mv (.t 5), none⟩,
           ⟨some 42, .bin .sub (.t 41) (.c (.int .i64 1)), none⟩,
           ⟨some 5, .mv (.t 42), none⟩] [0, 1, 5])))))))))
def xr129 : List RT := []
def xa130 : AS :=
 .seq (
  .reg [
   ⟨some 4, .mv (.c (.nils)), none⟩] [0, 1]) (
  .seq (
   .reg [
    ⟨some 8, .mv (.t 0), none⟩,
    ⟨some 9, .mv (.t 1), none⟩,
    ⟨some 10, .call 204 [none, none] [(.t 8), (.t 9)], none⟩,
    ⟨some 5, .mv (.t 10), none⟩] [0, 1, 5]) (
   .seq (
    .seq (
     .reg [
      ⟨some 11, .mv (.t 5), none⟩,
      ⟨some 12, .bin .eql (.t 11) (.c (.int .i64 (-1))), none⟩] [0, 1, 5, 12]) (
     .cond (.t 12) (
      .seq (
       .reg [
        ⟨some 13, .mv (.t 0), none⟩,
        ⟨some 4, .mv (.t 13), none⟩] [4]) (
       .ret)) (
      .no))) (
    .seq (
     .seq (
      .reg [
       ⟨some 14, .mv (.t 5), none⟩,
       ⟨some 15, .bin .add (.t 14) (.c (.int .i64 1)), none⟩,
       ⟨some 6, .mv (.t 15), none⟩] [0, 1, 5, 6]) (
      .block 0 (
       .loop 1 [0, 1, 5, 6] (
        .seq (
         .seq (
          .reg [
           ⟨some 16, .mv (.t 6), none⟩,
           ⟨some 17, .mv (.t 0), none⟩,
           ⟨some 18, .len .s (.t 17), none⟩,
           ⟨some 19, .bin .lss (.t 16) (.t 18), none⟩] [0, 1, 5, 6, 19]) (
          .cond (.t 19) (
           .no) (
           .no))) (
         .seq (
          .block 1 (
           .seq (
            .reg [
             ⟨some 22, .mv (.t 0), none⟩,
             ⟨some 23, .mv (.t 6), none⟩,
             ⟨some 24, .ia 1 (.t 22) (.t 23), none⟩,
             ⟨some 25, .ld (.t 24), none⟩,
             ⟨some 7, .mv (.t 25), none⟩] [0, 1, 5, 6, 7]) (
            .seq (
             .reg [
              ⟨some 26, .mv (.t 1), none⟩,
              ⟨some 27, .mv (.t 7), none⟩,
              ⟨some 28, .callv (.t 26) [none] [(.t 27)], none⟩,
              ⟨some 29, .not (.t 28), none⟩] [0, 1, 5, 6, 7, 29]) (
             .cond (.t 29) (
              .no) (
              .no))))) (
          .reg [
           ⟨some 20, .mv (.t 6), none⟩,
           ⟨some 21, .bin .add (.t 20) (.c (.int .i64 1)), none⟩,
           ⟨some 6, .mv (.t 21), none⟩] [0, 1, 5, 6])))))) (
     .seq (
      .no) (
      .seq (
       .reg [
        ⟨some 39, .mv (.t 0), none⟩,
        ⟨some 40, .mv (.t 5), none⟩,
        ⟨some 41, .slR 1 (.t 39) none (some (.t 40)), none⟩,
        ⟨some 4, .mv (.t 41), none⟩] [4]) (
       .ret))))))
def xr130 : List RT := [.t 4]
def xa132 : AS :=
 .seq (
  .reg [
   ⟨some 2, .mv (.c (.bool false)), none⟩] [0]) (
  .seq (
   .reg [
    ⟨some 3, .mv (.t 0), none⟩,
    ⟨some 4, .eqn true .p (.t 3) (.c (.nilp)), none⟩,
    ⟨some 5, .mv (.t 4), none⟩,
    ⟨some 6, .mv (.t 0), (some (5, true))⟩,
    ⟨some 7, .nck (.t 6), (some (5, true))⟩,
    ⟨some 8, .fa 0 (.t 7), (some (5, true))⟩,
    ⟨some 9, .ld (.t 8), (some (5, true))⟩,
    ⟨some 10, .call 205 [none] [(.t 9)], (some (5, true))⟩,
    ⟨some 11, .bin .eql (.t 10) (.c (.int .u64 0)), (some (5, true))⟩,
    ⟨some 12, .pick (.t 5) (.t 11) (.c (.bool false)), none⟩,
    ⟨some 13, .mv (.t 12), none⟩,
    ⟨some 14, .mv (.t 0), (some (13, true))⟩,
    ⟨some 15, .nck (.t 14), (some (13, true))⟩,
    ⟨some 16, .fa 1 (.t 15), (some (13, true))⟩,
    ⟨some 17, .ld (.t 16), (some (13, true))⟩,
    ⟨some 18, .call 166 [none] [(.t 17)], (some (13, true))⟩,
    ⟨some 19, .bin .eql (.t 18) (.c (.int .i64 0)), (some (13, true))⟩,
    ⟨some 20, .pick (.t 13) (.t 19) (.c (.bool false)), none⟩,
    ⟨some 21, .mv (.t 20), none⟩,
    ⟨some 22, .mv (.t 0), (some (21, true))⟩,
    ⟨some 23, .nck (.t 22), (some (21, true))⟩,
    ⟨some 24, .fa 2 (.t 23), (some (21, true))⟩,
    ⟨some 25, .ld (.t 24), (some (21, true))⟩,
    ⟨some 26, .call 206 [none] [(.t 25)], (some (21, true))⟩,
    ⟨some 27, .pick (.t 21) (.t 26) (.c (.bool false)), none⟩,
    ⟨some 28, .mv (.t 27), none⟩,
    ⟨some 29, .mv (.t 0), (some (28, true))⟩,
    ⟨some 30, .nck (.t 29), (some (28, true))⟩,
    ⟨some 31, .fa 3 (.t 30), (some (28, true))⟩,
    ⟨some 32, .ld (.t 31), (some (28, true))⟩,
    ⟨some 33, .bin .eql (.t 32) (.c (.int .i64 0)), (some (28, true))⟩,
    ⟨some 34, .pick (.t 28) (.t 33) (.c (.bool false)), none⟩,
    ⟨some 35, .mv (.t 34), none⟩,
    ⟨some 36, .mv (.t 0), (some (35, true))⟩,
    ⟨some 37, .nck (.t 36), (some (35, true))⟩,
    ⟨some 38, .fa 4 (.t 37), (some (35, true))⟩,
    ⟨some 39, .ld (.t 38), (some (35, true))⟩,
    ⟨some 40, .len .s (.t 39), (some (35, true))⟩,
    ⟨some 41, .bin .eql (.t 40) (.c (.int .i64 0)), (some (35, true))⟩,
    ⟨some 42, .pick (.t 35) (.t 41) (.c (.bool false)), none⟩,
    ⟨some 2, .mv (.t 42), none⟩] [2]) (
   .ret))
def xr132 : List RT := [.t 2]
def xa134 : AS :=
 .seq (
  .reg [
   ⟨some 4, .mv (.c (.bool false)), none⟩] [0, 1]) (
  .seq (
   .reg [
    ⟨some 5, .mv (.t 0), none⟩,
    ⟨some 6, .eqn true .p (.t 5) (.c (.nilp)), none⟩,
    ⟨some 7, .mv (.t 6), none⟩,
    ⟨some 8, .mv (.t 0), (some (7, true))⟩,
    ⟨some 9, .nck (.t 8), (some (7, true))⟩,
    ⟨some 10, .fa 1 (.t 9), (some (7, true))⟩,
    ⟨some 11, .ld (.t 10), (some (7, true))⟩,
    ⟨some 12, .mv (.t 1), (some (7, true))⟩,
    ⟨some 13, .call 207 [none, none] [(.t 11), (.t 12)], (some (7, true))⟩,
    ⟨some 14, .pick (.t 7) (.t 13) (.c (.bool false)), none⟩,
    ⟨some 4, .mv (.t 14), none⟩] [4]) (
   .ret))
def xr134 : List RT := [.t 4]
def xa137 : AS :=
 .seq (
  .reg [
   ⟨some 4, .mv (.c (.nils)), none⟩,
   ⟨some 5, .mv (.c (.int .i64 0)), none⟩] [0, 1]) (
  .seq (
   .block 0 (
    .seq (
     .reg [
      ⟨some 7, .mv (.t 0), none⟩,
      ⟨some 8, .eqn false .p (.t 7) (.c (.nilp)), none⟩,
      ⟨some 9, .mv (.t 8), none⟩,
      ⟨some 10, .mv (.t 0), (some (9, false))⟩,
      ⟨some 11, .nck (.t 10), (some (9, false))⟩,
      ⟨some 12, .fa 3 (.t 11), (some (9, false))⟩,
      ⟨some 13, .ld (.t 12), (some (9, false))⟩,
      ⟨some 14, .pick (.t 9) (.c (.bool true)) (.t 13), none⟩,
      ⟨some 6, .mv (.t 14), none⟩] [0, 1, 6]) (
     .cond (.t 6) (
      .no) (
      .seq (
       .reg [
        ⟨some 16, .mv (.t 1), none⟩,
        ⟨some 17, .bin .lss (.t 16) (.c (.int .i64 0)), none⟩,
        ⟨some 18, .mv (.t 17), none⟩,
        ⟨some 19, .mv (.t 1), (some (18, false))⟩,
        ⟨some 20, .mv (.t 0), (some (18, false))⟩,
        ⟨some 21, .nck (.t 20), (some (18, false))⟩,
        ⟨some 22, .fa 0 (.t 21), (some (18, false))⟩,
        ⟨some 23, .ld (.t 22), (some (18, false))⟩,
        ⟨some 24, .len .s (.t 23), (some (18, false))⟩,
        ⟨some 25, .bin .geq (.t 19) (.t 24), (some (18, false))⟩,
        ⟨some 26, .pick (.t 18) (.c (.bool true)) (.t 25), none⟩,
        ⟨some 15, .mv (.t 26), none⟩] [0, 1, 15]) (
       .cond (.t 15) (
        .no) (
        .seq (
         .reg [
          ⟨some 28, .mv (.t 0), none⟩,
          ⟨some 29, .nck (.t 28), none⟩,
          ⟨some 30, .fa 0 (.t 29), none⟩,
          ⟨some 31, .ld (.t 30), none⟩,
          ⟨some 32, .mv (.t 1), none⟩,
          ⟨some 33, .ia 1 (.t 31) (.t 32), none⟩,
          ⟨some 34, .ld (.t 33), none⟩,
          ⟨some 35, .isn false (.t 34), none⟩,
          ⟨some 27, .mv (.t 35), none⟩] [0, 1, 27]) (
         .cond (.t 27) (
          .seq (
           .reg [
            ⟨some 36, .mks 1 .byte (.c (.int .i64 256)) (.c (.int .i64 256)), none⟩,
            ⟨some 4, .mv (.t 36), none⟩,
            ⟨some 5, .mv (.c (.int .i64 0)), none⟩] [4, 5]) (
           .ret)) (
          .skip)))))))) (
   .seq (
    .reg [
     ⟨some 37, .mv (.t 0), none⟩,
     ⟨some 38, .nck (.t 37), none⟩,
     ⟨some 39, .fa 0 (.t 38), none⟩,
     ⟨some 40, .ld (.t 39), none⟩,
     ⟨some 41, .mv (.t 1), none⟩,
     ⟨some 42, .ia 1 (.t 40) (.t 41), none⟩,
     ⟨some 43, .ld (.t 42), none⟩,
     ⟨some 44, .call 86 [none] [(.t 43)], none⟩,
     ⟨some 4, .mv (.t 44), none⟩,
     ⟨some 5, .mv (.c (.int .i64 0)), none⟩] [4, 5]) (
    .ret)))
def xr137 : List RT := [.t 4, .t 5]
def xa138 : AS :=
 .seq (
  .reg [
   ⟨some 6, .mv (.c (.nils)), none⟩,
   ⟨some 7, .mv (.c (.bool false)), none⟩] [0, 1, 2]) (
  .seq (
   .seq (
    .reg [
     ⟨some 11, .mv (.t 2), none⟩,
     ⟨some 12, .len .s (.t 11), none⟩,
     ⟨some 13, .bin .neq (.t 12) (.c (.int .i64 256)), none⟩,
     ⟨some 14, .mv (.t 13), none⟩,
     ⟨some 15, .mv (.t 2), (some (14, false))⟩,
     ⟨some 16, .ia 1 (.t 15) (.c (.int .i64 13)), (some (14, false))⟩,
     ⟨some 17, .ld (.t 16), (some (14, false))⟩,
     ⟨some 18, .cv .i64 (.t 17), (some (14, false))⟩,
     ⟨some 19, .bin .gtr (.t 18) (.c (.int .i64 242)), (some (14, false))⟩,
     ⟨some 20, .pick (.t 14) (.c (.bool true)) (.t 19), none⟩] [0, 1, 2, 20]) (
    .cond (.t 20) (
     .seq (
      .reg [
       ⟨some 6, .mv (.c (.nils)), none⟩,
       ⟨some 7, .mv (.c (.bool false)), none⟩] [6, 7]) (
      .ret)) (
     .skip))) (
   .seq (
    .reg [
     ⟨some 21, .mv (.t 2), none⟩,
     ⟨some 22, .mv (.t 2), none⟩,
     ⟨some 23, .ia 1 (.t 22) (.c (.int .i64 13)), none⟩,
     ⟨some 24, .ld (.t 23), none⟩,
     ⟨some 25, .cv .i64 (.t 24), none⟩,
     ⟨some 26, .bin .add (.c (.int .i64 14)) (.t 25), none⟩,
     ⟨some 27, .slR 1 (.t 21) (some (.c (.int .i64 14))) (some (.t 26)), none⟩,
     ⟨some 8, .mv (.t 27), none⟩] [0, 1, 2, 8]) (
    .seq (
     .reg [
      ⟨some 29, .mv (.t 0), none⟩,
      ⟨some 30, .mv (.t 1), none⟩,
      ⟨some 31, .mv (.t 8), none⟩,
      ⟨some 32, .call 209 [none, none, none] [(.t 29), (.t 30), (.t 31)], none⟩,
      ⟨some 28, .mv (.t 32), none⟩,
      ⟨some 33, .ext (.t 28) 0, none⟩,
      ⟨some 34, .ext (.t 28) 1, none⟩,
      ⟨some 9, .mv (.t 33), none⟩,
      ⟨some 10, .mv (.t 34), none⟩] [2, 8, 9]) (
     .seq (
      .seq (
       .reg [
        ⟨some 35, .mv (.t 9), none⟩,
        ⟨some 36, .mv (.t 2), none⟩,
        ⟨some 37, .call 210 [none, none] [(.t 35), (.t 36)], none⟩,
        ⟨some 38, .not (.t 37), none⟩] [8, 38]) (
       .cond (.t 38) (
        .seq (
         .reg [
          ⟨some 6, .mv (.c (.nils)), none⟩,
          ⟨some 7, .mv (.c (.bool false)), none⟩] [6, 7]) (
         .ret)) (
        .no))) (
      .seq (
       .reg [
        ⟨some 39, .mv (.t 8), none⟩,
        ⟨some 40, .call 86 [none] [(.t 39)], none⟩,
        ⟨some 6, .mv (.t 40), none⟩,
        ⟨some 7, .mv (.c (.bool true)), none⟩] [6, 7]) (
       .ret))))))
def xr138 : List RT := [.t 6, .t 7]
def xa139 : AS :=
 .seq (
  .reg [
   ⟨some 2, .mv (.c (.int .i64 0)), none⟩] [0]) (
  .seq (
   .seq (
    .reg [
     ⟨some 3, .mv (.t 0), none⟩,
     ⟨some 4, .eqn false .p (.t 3) (.c (.nilp)), none⟩] [0, 4]) (
    .cond (.t 4) (
     .no) (
     .skip))) (
   .seq (
    .reg [
     ⟨some 5, .mv (.t 0), none⟩,
     ⟨some 6, .nck (.t 5), none⟩,
     ⟨some 7, .fa 0 (.t 6), none⟩,
     ⟨some 8, .ld (.t 7), none⟩,
     ⟨some 9, .len .s (.t 8), none⟩,
     ⟨some 2, .mv (.t 9), none⟩] [2]) (
    .ret)))
def xr139 : List RT := [.t 2]
def xa140 : AS :=
 .reg [
  ⟨some 2, .mv (.t 0), none⟩,
  ⟨some 3, .mv (.t 0), none⟩,
  ⟨some 4, .nck (.t 2), none⟩,
  ⟨some 5, .fa 0 (.t 4), none⟩,
  ⟨none, .st 1 (.t 5) (.c (.nils)), none⟩,
  ⟨some 6, .nck (.t 3), none⟩,
  ⟨some 7, .fa 1 (.t 6), none⟩,
  ⟨none, .st 1 (.t 7) (.c (.bool true)), none⟩] []
def xr140 : List RT := []
def xa141 : AS :=
 .seq (
  .reg [
   ⟨some 6, .mv (.c (.bool false)), none⟩] [0, 1, 2]) (
  .seq (
   .reg [
    ⟨some 7, .mv (.t 0), none⟩,
    ⟨some 8, .eqn true .p (.t 7) (.c (.nilp)), none⟩,
    ⟨some 9, .mv (.t 8), none⟩,
    ⟨some 10, .mv (.t 2), (some (9, true))⟩,
    ⟨some 11, .bin .geq (.t 10) (.c (.int .i64 1)), (some (9, true))⟩,
    ⟨some 12, .pick (.t 9) (.t 11) (.c (.bool false)), none⟩,
    ⟨some 13, .mv (.t 12), none⟩,
    ⟨some 14, .mv (.t 1), (some (13, true))⟩,
    ⟨some 15, .bin .geq (.t 14) (.c (.int .i64 0)), (some (13, true))⟩,
    ⟨some 16, .pick (.t 13) (.t 15) (.c (.bool false)), none⟩,
    ⟨some 17, .mv (.t 16), none⟩,
    ⟨some 18, .mv (.t 1), (some (17, true))⟩,
    ⟨some 19, .mv (.t 0), (some (17, true))⟩,
    ⟨some 20, .call 71 [none] [(.t 19)], (some (17, true))⟩,
    ⟨some 21, .bin .leq (.t 18) (.t 20), (some (17, true))⟩,
    ⟨some 22, .pick (.t 17) (.t 21) (.c (.bool false)), none⟩,
    ⟨some 23, .mv (.t 22), none⟩,
    ⟨some 24, .mv (.t 2), (some (23, true))⟩,
    ⟨some 25, .mv (.t 0), (some (23, true))⟩,
    ⟨some 26, .call 71 [none] [(.t 25)], (some (23, true))⟩,
    ⟨some 27, .mv (.t 1), (some (23, true))⟩,
    ⟨some 28, .bin .sub (.t 26) (.t 27), (some (23, true))⟩,
    ⟨some 29, .bin .leq (.t 24) (.t 28), (some (23, true))⟩,
    ⟨some 30, .pick (.t 23) (.t 29) (.c (.bool false)), none⟩,
    ⟨some 6, .mv (.t 30), none⟩] [6]) (
   .ret))
def xr141 : List RT := [.t 6]
def xa142 : AS :=
 .seq (
  .reg [
   ⟨some 2, .mv (.c (.bool false)), none⟩] [0]) (
  .seq (
   .reg [
    ⟨some 3, .mv (.t 0), none⟩,
    ⟨some 4, .eqn false .p (.t 3) (.c (.nilp)), none⟩,
    ⟨some 5, .mv (.t 4), none⟩,
    ⟨some 6, .mv (.t 0), (some (5, false))⟩,
    ⟨some 7, .nck (.t 6), (some (5, false))⟩,
    ⟨some 8, .fa 3 (.t 7), (some (5, false))⟩,
    ⟨some 9, .ld (.t 8), (some (5, false))⟩,
    ⟨some 10, .pick (.t 5) (.c (.bool true)) (.t 9), none⟩,
    ⟨some 2, .mv (.t 10), none⟩] [2]) (
   .ret))
def xr142 : List RT := [.t 2]
def xa148 : AS :=
 .seq (
  .reg [
   ⟨some 2, .mv (.c (.int .i64 0)), none⟩] [0]) (
  .seq (
   .seq (
    .reg [
     ⟨some 3, .mv (.t 0), none⟩,
     ⟨some 4, .eqn false .p (.t 3) (.c (.nilp)), none⟩] [0, 4]) (
    .cond (.t 4) (
     .no) (
     .skip))) (
   .seq (
    .reg [
     ⟨some 5, .mv (.t 0), none⟩,
     ⟨some 6, .nck (.t 5), none⟩,
     ⟨some 7, .fa 1 (.t 6), none⟩,
     ⟨some 8, .ld (.t 7), none⟩,
     ⟨some 2, .mv (.t 8), none⟩] [2]) (
    .ret)))
def xr148 : List RT := [.t 2]
def xa151 : AS :=
 .seq (
  .reg [
   ⟨some 4, .mv (.c (.nils)), none⟩] [0, 1]) (
  .seq (
   .reg [
    ⟨some 7, .mks 1 .byte (.c (.int .i64 9)) (.c (.int .i64 9)), none⟩,
    ⟨some 5, .mv (.t 7), none⟩] [0, 1, 5]) (
   .seq (
    .seq (
     .reg [
      ⟨some 8, .mv (.c (.int .i64 0)), none⟩] [0, 1, 5, 8]) (
     .block 0 (
      .loop 1 [0, 1, 5, 8] (
       .seq (
        .reg [
         ⟨some 9, .bin .lss (.t 8) (.c (.int .i64 8)), none⟩] [0, 1, 5, 8, 9]) (
        .seq (
         .cond (.t 9) (
          .skip) (
          .exit 0)) (
         .seq (
          .block 1 (
           .seq (
            .reg [
             ⟨some 10, .mv (.t 8), none⟩,
             ⟨some 6, .mv (.t 10), none⟩] [0, 1, 5, 6, 8]) (
            .reg [
             ⟨some 11, .mv (.t 5), none⟩,
             ⟨some 12, .mv (.t 6), none⟩,
             ⟨some 13, .mv (.t 0), none⟩,
             ⟨some 14, .nck (.t 13), none⟩,
             ⟨some 15, .fa 3 (.t 14), none⟩,
             ⟨some 16, .ld (.t 15), none⟩,
             ⟨some 17, .mv (.t 6), none⟩,
             ⟨some 18, .bin .mul (.c (.int .i64 8)) (.t 17), none⟩,
             ⟨some 19, .bin .shr (.t 16) (.t 18), none⟩,
             ⟨some 20, .cv .u8 (.t 19), none⟩,
             ⟨some 21, .ia 1 (.t 11) (.t 12), none⟩,
             ⟨none, .st 1 (.t 21) (.t 20), none⟩] [0, 1, 5, 8]))) (
          .reg [
           ⟨some 22, .bin .add (.t 8) (.c (.int .i64 1)), none⟩,
           ⟨some 8, .mv (.t 22), none⟩] [0, 1, 5, 8]))))))) (
    .seq (
     .seq (
      .reg [
       ⟨some 23, .mv (.t 1), none⟩] [5, 23]) (
      .cond (.t 23) (
       .reg [
        ⟨some 24, .mv (.t 5), none⟩,
        ⟨some 25, .ia 1 (.t 24) (.c (.int .i64 8)), none⟩,
        ⟨none, .st 1 (.t 25) (.c (.int .u8 1)), none⟩] [5]) (
       .no))) (
     .seq (
      .reg [
       ⟨some 26, .mv (.t 5), none⟩,
       ⟨some 4, .mv (.t 26), none⟩] [4]) (
      .ret)))))
def xr151 : List RT := [.t 4]
def xa162 : AS :=
 .seq (
  .reg [
   ⟨some 4, .mv (.c (.int .i64 0)), none⟩] [0, 1]) (
  .seq (
   .seq (
    .reg [
     ⟨some 6, .mv (.t 0), none⟩,
     ⟨some 7, .len .s (.t 6), none⟩,
     ⟨some 8, .mv (.c (.int .i64 0)), none⟩] [0, 1, 7, 8]) (
    .block 0 (
     .loop 1 [0, 1, 7, 8] (
      .seq (
       .reg [
        ⟨some 9, .bin .lss (.t 8) (.t 7), none⟩] [0, 1, 7, 8, 9]) (
       .seq (
        .cond (.t 9) (
         .no) (
         .exit 0)) (
        .seq (
         .block 1 (
          .seq (
           .reg [
            ⟨some 10, .mv (.t 8), none⟩,
            ⟨some 5, .mv (.t 10), none⟩] [0, 1, 5, 7, 8]) (
           .seq (
            .reg [
             ⟨some 11, .mv (.t 1), none⟩,
             ⟨some 12, .mv (.t 0), none⟩,
             ⟨some 13, .mv (.t 5), none⟩,
             ⟨some 14, .ia 1 (.t 12) (.t 13), none⟩,
             ⟨some 15, .ld (.t 14), none⟩,
             ⟨some 16, .bin .eql (.t 11) (.t 15), none⟩] [0, 1, 5, 7, 8, 16]) (
            .cond (.t 16) (
             .no) (
             .no))))) (
         .reg [
          ⟨some 18, .bin .add (.t 8) (.c (.int .i64 1)), none⟩,
          ⟨some 8, .mv (.t 18), none⟩] [0, 1, 7, 8]))))))) (
   .seq (
    .reg [
     ⟨some 4, .mv (.c (.int .i64 (-1))), none⟩] [4]) (
    .ret)))
def xr162 : List RT := [.t 4]
def xa163 : AS :=
 .seq (
  .reg [
   ⟨some 2, .mv (.c (.nilp)), none⟩,
   ⟨some 3, .mv (.c (.int .i64 0)), none⟩] [0]) (
  .seq (
   .seq (
    .reg [
     ⟨some 4, .mv (.t 0), none⟩,
     ⟨some 5, .call 49 [none] [(.t 4)], none⟩,
     ⟨some 6, .not (.t 5), none⟩] [0, 6]) (
    .cond (.t 6) (
     .no) (
     .skip))) (
   .seq (
    .reg [
     ⟨some 7, .mv (.t 0), none⟩,
     ⟨some 8, .mkm false .str (.int .u64), none⟩,
     ⟨some 9, .bld [.str ByteArray.empty, .nils, .nilm] [(0, 1, (.t 7)), (2, 1, (.t 8))], none⟩,
     ⟨some 10, .box (.t 9), none⟩,
     ⟨some 2, .mv (.t 10), none⟩,
     ⟨some 3, .mv (.c (.int .i64 0)), none⟩] [2, 3]) (
    .ret)))
def xr163 : List RT := [.t 2, .t 3]
def xa166 : AS :=
 .seq (
  .reg [
   ⟨some 2, .mv (.c (.int .i64 0)), none⟩] [0]) (
  .seq (
   .seq (
    .reg [
     ⟨some 3, .mv (.t 0), none⟩,
     ⟨some 4, .eqn false .p (.t 3) (.c (.nilp)), none⟩] [0, 4]) (
    .cond (.t 4) (
     .no) (
     .skip))) (
   .seq (
    .reg [
     ⟨some 5, .mv (.t 0), none⟩,
     ⟨some 6, .nck (.t 5), none⟩,
     ⟨some 7, .fa 0 (.t 6), none⟩,
     ⟨some 8, .ld (.t 7), none⟩,
     ⟨some 9, .len .s (.t 8), none⟩,
     ⟨some 2, .mv (.t 9), none⟩] [2]) (
    .ret)))
def xr166 : List RT := [.t 2]
def xa171 : AS :=
 .seq (
  .reg [
   ⟨some 2, .mv (.c (.nils)), none⟩] [0]) (
  .seq (
   .seq (
    .reg [
     ⟨some 10, .mv (.t 0), none⟩,
     ⟨some 11, .call 221 [none] [(.t 10)], none⟩] [0, 11]) (
    .cond (.t 11) (
     .no) (
     .skip))) (
   .seq (
    .reg [
     ⟨some 12, .call 106 [] [], none⟩,
     ⟨some 3, .mv (.t 12), none⟩] [0, 3]) (
    .seq (
     .reg [
      ⟨some 13, .mv (.t 3), none⟩,
      ⟨some 14, .mv (.t 0), none⟩,
      ⟨some 15, .nck (.t 14), none⟩,
      ⟨some 16, .fa 0 (.t 15), none⟩,
      ⟨some 17, .ld (.t 16), none⟩,
      ⟨some 18, .call 187 [none, none] [(.t 13), (.t 17)], none⟩] [0, 3]) (
     .seq (
      .reg [
       ⟨some 19, .mv (.t 3), none⟩,
       ⟨some 20, .mv (.t 0), none⟩,
       ⟨some 21, .nck (.t 20), none⟩,
       ⟨some 22, .fa 2 (.t 21), none⟩,
       ⟨some 23, .ld (.t 22), none⟩,
       ⟨some 24, .len .m (.t 23), none⟩,
       ⟨some 25, .cv .u64 (.t 24), none⟩,
       ⟨some 26, .call 129 [none, none] [(.t 19), (.t 25)], none⟩] [0, 3]) (
      .seq (
       .seq (
        .reg [
         ⟨some 27, .mv (.t 0), none⟩,
         ⟨some 28, .nck (.t 27), none⟩,
         ⟨some 29, .fa 2 (.t 28), none⟩,
         ⟨some 30, .ld (.t 29), none⟩,
         ⟨some 31, .call 222 [none] [(.t 30)], none⟩,
         ⟨some 32, .call 121 [none] [(.t 31)], none⟩,
         ⟨some 33, .len .s (.t 32), none⟩,
         ⟨some 34, .mv (.c (.int .i64 0)), none⟩] [0, 3, 32, 33, 34]) (
        .block 0 (
         .loop 1 [0, 3, 32, 33, 34] (
          .seq (
           .reg [
            ⟨some 35, .bin .lss (.t 34) (.t 33), none⟩] [0, 3, 32, 33, 34, 35]) (
           .seq (
            .cond (.t 35) (
             .no) (
             .exit 0)) (
            .seq (
             .block 1 (
              .seq (
               .reg [
                ⟨some 36, .ia 1 (.t 32) (.t 34), none⟩,
                ⟨some 37, .ld (.t 36), none⟩,
                ⟨some 5, .mv (.t 37), none⟩] [0, 3, 5, 32, 33, 34]) (
               .seq (
                .reg [
                 ⟨some 38, .mv (.t 3), none⟩,
                 ⟨some 39, .mv (.t 5), none⟩,
                 ⟨some 40, .call 187 [none, none] [(.t 38), (.t 39)], none⟩] [0, 3, 5, 32, 33, 34]) (
                .reg [
                 ⟨some 41, .mv (.t 3), none⟩,
                 ⟨some 42, .mv (.t 0), none⟩,
                 ⟨some 43, .nck (.t 42), none⟩,
                 ⟨some 44, .fa 2 (.t 43), none⟩,
                 ⟨some 45, .ld (.t 44), none⟩,
                 ⟨some 46, .mv (.t 5), none⟩,
                 ⟨some 47, .lk false .str (.int .u64) false (.t 45) (.t 46), none⟩,
                 ⟨some 48, .call 129 [none, none] [(.t 41), (.t 47)], none⟩] [0, 3, 32, 33, 34])))) (
             .reg [
              ⟨some 49, .bin .add (.t 34) (.c (.int .i64 1)), none⟩,
              ⟨some 34, .mv (.t 49), none⟩] [0, 3, 32, 33, 34]))))))) (
       .seq (
        .reg [
         ⟨some 50, .mv (.t 3), none⟩,
         ⟨some 51, .mv (.t 0), none⟩,
         ⟨some 52, .nck (.t 51), none⟩,
         ⟨some 53, .fa 1 (.t 52), none⟩,
         ⟨some 54, .ld (.t 53), none⟩,
         ⟨some 55, .len .s (.t 54), none⟩,
         ⟨some 56, .cv .u64 (.t 55), none⟩,
         ⟨some 57, .call 129 [none, none] [(.t 50), (.t 56)], none⟩] [0, 3]) (
        .seq (
         .seq (
          .reg [
           ⟨some 58, .mv (.t 0), none⟩,
           ⟨some 59, .nck (.t 58), none⟩,
           ⟨some 60, .fa 1 (.t 59), none⟩,
           ⟨some 61, .ld (.t 60), none⟩,
           ⟨some 62, .len .s (.t 61), none⟩,
           ⟨some 63, .mv (.c (.int .i64 0)), none⟩] [3, 61, 62, 63]) (
          .block 2 (
           .loop 2 [3, 61, 62, 63] (
            .seq (
             .reg [
              ⟨some 64, .bin .lss (.t 63) (.t 62), none⟩] [3, 61, 62, 63, 64]) (
             .seq (
              .cond (.t 64) (
               .no) (
               .exit 2)) (
              .seq (
               .block 3 (
                .seq (
                 .reg [
                  ⟨some 65, .ia 5 (.t 61) (.t 63), none⟩,
                  ⟨some 66, .ldA 5 (.t 65), none⟩,
                  ⟨some 7, .alc [.str ByteArray.empty, .str ByteArray.empty, .int .u64 0, .int .i64 0, .nils], none⟩,
                  ⟨none, .st 5 (.t 7) (.t 66), none⟩] [3, 7, 61, 62, 63]) (
                 .seq (
                  .reg [
                   ⟨some 67, .mv (.t 3), none⟩,
                   ⟨some 68, .fa 0 (.t 7), none⟩,
                   ⟨some 69, .ld (.t 68), none⟩,
                   ⟨some 70, .call 187 [none, none] [(.t 67), (.t 69)], none⟩] [3, 7, 61, 62, 63]) (
                  .seq (
                   .reg [
                    ⟨some 72, .fa 1 (.t 7), none⟩,
                    ⟨some 73, .ldA 4 (.t 72), none⟩,
                    ⟨some 74, .call 223 [none] [(.t 73)], none⟩,
                    ⟨some 71, .mv (.t 74), none⟩,
                    ⟨some 75, .ext (.t 71) 0, none⟩,
                    ⟨some 76, .ext (.t 71) 1, none⟩,
                    ⟨some 8, .mv (.t 75), none⟩,
                    ⟨some 9, .mv (.t 76), none⟩] [3, 8, 61, 62, 63]) (
                   .reg [
                    ⟨some 77, .mv (.t 3), none⟩,
                    ⟨some 78, .mv (.t 8), none⟩,
                    ⟨some 79, .b2s (.t 78), none⟩,
                    ⟨some 80, .call 187 [none, none] [(.t 77), (.t 79)], none⟩] [3, 61, 62, 63]))))) (
               .reg [
                ⟨some 81, .bin .add (.t 63) (.c (.int .i64 1)), none⟩,
                ⟨some 63, .mv (.t 81), none⟩] [3, 61, 62, 63]))))))) (
         .seq (
          .reg [
           ⟨some 82, .mv (.t 3), none⟩,
           ⟨some 83, .call 109 [none] [(.t 82)], none⟩,
           ⟨some 2, .mv (.t 83), none⟩] [2]) (
          .ret)))))))))
def xr171 : List RT := [.t 2]
def xa178 : AS :=
 .seq (
  .reg [
   ⟨some 2, .mv (.c (.int .i64 0)), none⟩] [0]) (
  .seq (
   .reg [
    ⟨some 7, .mkm false .str .bool, none⟩,
    ⟨some 3, .mv (.t 7), none⟩] [0, 3]) (
   .seq (
    .reg [
     ⟨some 4, .mv (.c (.bool false)), none⟩] [0, 3, 4]) (
    .seq (
     .seq (
      .reg [
       ⟨some 8, .mv (.t 0), none⟩,
       ⟨some 9, .len .s (.t 8), none⟩,
       ⟨some 10, .mv (.c (.int .i64 0)), none⟩] [3, 4, 8, 9, 10]) (
      .block 0 (
       .loop 1 [3, 4, 8, 9, 10] (
        .seq (
         .reg [
          ⟨some 11, .bin .lss (.t 10) (.t 9), none⟩] [3, 4, 8, 9, 10, 11]) (
         .seq (
          .cond (.t 11) (
           .skip) (
           .exit 0)) (
          .seq (
           .block 1 (
            .seq (
             .reg [
              ⟨some 12, .ia 3 (.t 8) (.t 10), none⟩,
              ⟨some 13, .ldA 3 (.t 12), none⟩,
              ⟨some 6, .alc [.str ByteArray.empty, .nils, .bool false], none⟩,
              ⟨none, .st 3 (.t 6) (.t 13), none⟩] [3, 4, 6, 8, 9, 10]) (
             .seq (
              .seq (
               .reg [
                ⟨some 14, .fa 0 (.t 6), none⟩,
                ⟨some 15, .ld (.t 14), none⟩,
                ⟨some 16, .bin .eql (.t 15) (.c (.str ByteArray.empty)), none⟩,
                ⟨some 17, .mv (.t 16), none⟩,
                ⟨some 18, .fa 0 (.t 6), (some (17, false))⟩,
                ⟨some 19, .ld (.t 18), (some (17, false))⟩,
                ⟨some 20, .len .i (.t 19), (some (17, false))⟩,
                ⟨some 21, .bin .gtr (.t 20) (.c (.int .i64 64)), (some (17, false))⟩,
                ⟨some 22, .pick (.t 17) (.c (.bool true)) (.t 21), none⟩,
                ⟨some 23, .mv (.t 22), none⟩,
                ⟨some 24, .mv (.t 3), (some (23, false))⟩,
                ⟨some 25, .fa 0 (.t 6), (some (23, false))⟩,
                ⟨some 26, .ld (.t 25), (some (23, false))⟩,
                ⟨some 27, .lk false .str .bool false (.t 24) (.t 26), (some (23, false))⟩,
                ⟨some 28, .pick (.t 23) (.c (.bool true)) (.t 27), none⟩] [3, 4, 6, 8, 9, 10, 28]) (
               .cond (.t 28) (
                .no) (
                .skip))) (
              .seq (
               .reg [
                ⟨some 29, .mv (.t 3), none⟩,
                ⟨some 30, .fa 0 (.t 6), none⟩,
                ⟨some 31, .ld (.t 30), none⟩,
                ⟨none, .mu false .str .bool (.t 29) (.t 31) (.c (.bool true)), none⟩] [3, 4, 6, 8, 9, 10]) (
               .reg [
                ⟨some 32, .mv (.t 4), none⟩,
                ⟨some 33, .mv (.t 32), none⟩,
                ⟨some 34, .fa 1 (.t 6), (some (33, false))⟩,
                ⟨some 35, .ld (.t 34), (some (33, false))⟩,
                ⟨some 36, .len .s (.t 35), (some (33, false))⟩,
                ⟨some 37, .bin .gtr (.t 36) (.c (.int .i64 20000)), (some (33, false))⟩,
                ⟨some 38, .pick (.t 33) (.c (.bool true)) (.t 37), none⟩,
                ⟨some 4, .mv (.t 38), none⟩] [3, 4, 8, 9, 10]))))) (
           .reg [
            ⟨some 39, .bin .add (.t 10) (.c (.int .i64 1)), none⟩,
            ⟨some 10, .mv (.t 39), none⟩] [3, 4, 8, 9, 10]))))))) (
     .seq (
      .seq (
       .reg [
        ⟨some 40, .mv (.t 4), none⟩] [40]) (
       .cond (.t 40) (
        .no) (
        .skip))) (
      .seq (
       .reg [
        ⟨some 2, .mv (.c (.int .i64 0)), none⟩] [2]) (
       .ret))))))
def xr178 : List RT := [.t 2]
def xa179 : AS :=
 .seq (
  .reg [
   ⟨some 2, .mv (.c (.nils)), none⟩] [0]) (
  .seq (
   .reg [
    ⟨some 6, .call 106 [] [], none⟩,
    ⟨some 3, .mv (.t 6), none⟩] [0, 3]) (
   .seq (
    .seq (
     .reg [
      ⟨some 7, .mv (.t 0), none⟩,
      ⟨some 8, .len .s (.t 7), none⟩,
      ⟨some 9, .mv (.c (.int .i64 0)), none⟩] [3, 7, 8, 9]) (
     .block 0 (
      .loop 1 [3, 7, 8, 9] (
       .seq (
        .reg [
         ⟨some 10, .bin .lss (.t 9) (.t 8), none⟩] [3, 7, 8, 9, 10]) (
        .seq (
         .cond (.t 10) (
          .skip) (
          .exit 0)) (
         .seq (
          .block 1 (
           .seq (
            .reg [
             ⟨some 11, .ia 3 (.t 7) (.t 9), none⟩,
             ⟨some 12, .ldA 3 (.t 11), none⟩,
             ⟨some 5, .alc [.str ByteArray.empty, .nils, .bool false], none⟩,
             ⟨none, .st 3 (.t 5) (.t 12), none⟩] [3, 5, 7, 8, 9]) (
            .seq (
             .reg [
              ⟨some 13, .mv (.t 3), none⟩,
              ⟨some 14, .fa 0 (.t 5), none⟩,
              ⟨some 15, .ld (.t 14), none⟩,
              ⟨some 16, .call 187 [none, none] [(.t 13), (.t 15)], none⟩] [3, 5, 7, 8, 9]) (
             .seq (
              .seq (
               .reg [
                ⟨some 17, .fa 2 (.t 5), none⟩,
                ⟨some 18, .ld (.t 17), none⟩] [3, 5, 7, 8, 9, 18]) (
               .cond (.t 18) (
                .no) (
                .skip))) (
              .seq (
               .reg [
                ⟨some 21, .mv (.t 3), none⟩,
                ⟨some 22, .call 129 [none, none] [(.t 21), (.c (.int .u64 1))], none⟩] [3, 5, 7, 8, 9]) (
               .reg [
                ⟨some 23, .mv (.t 3), none⟩,
                ⟨some 24, .fa 1 (.t 5), none⟩,
                ⟨some 25, .ld (.t 24), none⟩,
                ⟨some 26, .b2s (.t 25), none⟩,
                ⟨some 27, .call 187 [none, none] [(.t 23), (.t 26)], none⟩] [3, 7, 8, 9])))))) (
          .reg [
           ⟨some 28, .bin .add (.t 9) (.c (.int .i64 1)), none⟩,
           ⟨some 9, .mv (.t 28), none⟩] [3, 7, 8, 9]))))))) (
    .seq (
     .reg [
      ⟨some 29, .mv (.t 3), none⟩,
      ⟨some 30, .call 109 [none] [(.t 29)], none⟩,
      ⟨some 2, .mv (.t 30), none⟩] [2]) (
     .ret))))
def xr179 : List RT := [.t 2]
def xa180 : AS :=
 .seq (
  .reg [
   ⟨some 4, .mv (.c (.int .i64 0)), none⟩] [0, 1]) (
  .seq (
   .block 0 (
    .seq (
     .reg [
      ⟨some 11, .mv (.t 0), none⟩,
      ⟨some 12, .eqn false .p (.t 11) (.c (.nilp)), none⟩,
      ⟨some 10, .mv (.t 12), none⟩] [0, 1, 10]) (
     .cond (.t 10) (
      .no) (
      .seq (
       .reg [
        ⟨some 14, .mv (.t 0), none⟩,
        ⟨some 15, .nck (.t 14), none⟩,
        ⟨some 16, .fa 6 (.t 15), none⟩,
        ⟨some 17, .ld (.t 16), none⟩,
        ⟨some 13, .mv (.t 17), none⟩] [0, 1, 13]) (
       .cond (.t 13) (
        .no) (
        .seq (
         .reg [
          ⟨some 19, .mv (.t 1), none⟩,
          ⟨some 20, .len .s (.t 19), none⟩,
          ⟨some 21, .bin .eql (.t 20) (.c (.int .i64 0)), none⟩,
          ⟨some 18, .mv (.t 21), none⟩] [0, 1, 18]) (
         .cond (.t 18) (
          .no) (
          .seq (
           .reg [
            ⟨some 23, .mv (.t 1), none⟩,
            ⟨some 24, .len .s (.t 23), none⟩,
            ⟨some 25, .bin .gtr (.t 24) (.c (.int .i64 60000)), none⟩,
            ⟨some 22, .mv (.t 25), none⟩] [0, 1, 22]) (
           .cond (.t 22) (
            .no) (
            .seq (
             .reg [
              ⟨some 27, .mv (.t 1), none⟩,
              ⟨some 28, .len .s (.t 27), none⟩,
              ⟨some 29, .bin .add (.t 28) (.c (.int .i64 233)), none⟩,
              ⟨some 30, .bin .sub (.t 29) (.c (.int .i64 1)), none⟩,
              ⟨some 31, .bin .quo (.t 30) (.c (.int .i64 233)), none⟩,
              ⟨some 32, .mv (.t 0), none⟩,
              ⟨some 33, .call 229 [none] [(.t 32)], none⟩,
              ⟨some 34, .bin .gtr (.t 31) (.t 33), none⟩,
              ⟨some 26, .mv (.t 34), none⟩] [0, 1, 26]) (
             .cond (.t 26) (
              .no) (
              .skip)))))))))))) (
   .seq (
    .reg [
     ⟨some 35, .mv (.t 0), none⟩,
     ⟨some 36, .nck (.t 35), none⟩,
     ⟨some 37, .fa 5 (.t 36), none⟩,
     ⟨some 38, .ld (.t 37), none⟩,
     ⟨some 5, .mv (.t 38), none⟩] [0, 1, 5]) (
    .seq (
     .seq (
      .reg [
       ⟨some 39, .mv (.t 1), none⟩,
       ⟨some 6, .mv (.t 39), none⟩] [0, 1, 5, 6]) (
      .block 1 (
       .loop 1 [0, 1, 5, 6] (
        .seq (
         .seq (
          .reg [
           ⟨some 40, .mv (.t 6), none⟩,
           ⟨some 41, .len .s (.t 40), none⟩,
           ⟨some 42, .bin .gtr (.t 41) (.c (.int .i64 0)), none⟩] [0, 1, 5, 6, 42]) (
          .cond (.t 42) (
           .skip) (
           .exit 1))) (
         .seq (
          .block 2 (
           .seq (
            .reg [
             ⟨some 45, .mv (.t 6), none⟩,
             ⟨some 46, .len .s (.t 45), none⟩,
             ⟨some 47, .mm false (.t 46) (.c (.int .i64 233)), none⟩,
             ⟨some 7, .mv (.t 47), none⟩] [0, 1, 5, 6, 7]) (
            .seq (
             .regD [
              ⟨some 49, .mv (.t 5), none⟩,
              ⟨some 50, .cv .u32 (.t 49), none⟩,
              ⟨some 51, .mv (.t 0), none⟩,
              ⟨some 52, .mv (.t 7), none⟩,
              ⟨some 53, .mv (.t 6), none⟩,
              ⟨some 54, .len .s (.t 53), none⟩,
              ⟨some 55, .bin .eql (.t 52) (.t 54), none⟩,
              ⟨some 56, .call 151 [none, none] [(.t 51), (.t 55)], none⟩,
              ⟨some 57, .mv (.t 6), none⟩,
              ⟨some 58, .mv (.t 7), none⟩,
              ⟨some 59, .slR 1 (.t 57) none (some (.t 58)), none⟩,
              ⟨some 60, .app 1 .byte (.t 56) (.t 59), none⟩,
              ⟨some 61, .call 209 [none, none, none] [(.c (.int .u8 76)), (.t 50), (.t 60)], none⟩,
              ⟨some 48, .mv (.t 61), none⟩,
              ⟨some 62, .ext (.t 48) 0, none⟩,
              ⟨some 63, .ext (.t 48) 1, none⟩,
              ⟨some 8, .mv (.t 62), none⟩,
              ⟨some 9, .mv (.t 63), none⟩] [.q 0, .q 1, .q 2, .q 3, .q 4, .q 5, .q 6, .q 8, .q 9, .q 10, .e 7 [0, 1, 8, 9, 10], .e 11 [0, 1], .e 12 [], .q 13, .q 14, .q 15, .q 16, .q 17] [0, 1, 5, 6, 7, 8]) (
             .seq (
              .seq (
               .regD [
                ⟨some 64, .mv (.t 0), none⟩,
                ⟨some 65, .nck (.t 64), none⟩,
                ⟨some 66, .fa 0 (.t 65), none⟩,
                ⟨some 67, .ld (.t 66), none⟩,
                ⟨some 68, .mv (.t 0), none⟩,
                ⟨some 69, .nck (.t 68), none⟩,
                ⟨some 70, .fa 1 (.t 69), none⟩,
                ⟨some 71, .ld (.t 70), none⟩,
                ⟨some 72, .mv (.t 5), none⟩,
                ⟨some 73, .bin .add (.t 71) (.t 72), none⟩,
                ⟨some 74, .mv (.t 8), none⟩,
                ⟨some 75, .call 230 [none, none, none] [(.t 67), (.t 73), (.t 74)], none⟩,
                ⟨some 76, .bin .neq (.t 75) (.c (.int .i64 0)), none⟩] [.q 0, .q 1, .q 2, .q 3, .q 4, .q 5, .q 6, .q 7, .q 8, .q 9, .q 10, .e 11 [], .q 12] [0, 1, 5, 6, 7, 76]) (
               .cond (.t 76) (
                .no) (
                .skip))) (
              .reg [
               ⟨some 80, .mv (.t 6), none⟩,
               ⟨some 81, .mv (.t 7), none⟩,
               ⟨some 82, .slR 1 (.t 80) (some (.t 81)) none, none⟩,
               ⟨some 6, .mv (.t 82), none⟩] [0, 1, 5, 6]))))) (
          .reg [
           ⟨some 43, .mv (.t 5), none⟩,
           ⟨some 44, .bin .add (.t 43) (.c (.int .i64 1)), none⟩,
           ⟨some 5, .mv (.t 44), none⟩] [0, 1, 5, 6])))))) (
     .seq (
      .reg [
       ⟨some 83, .mv (.t 0), none⟩,
       ⟨some 84, .mv (.t 5), none⟩,
       ⟨some 85, .nck (.t 83), none⟩,
       ⟨some 86, .fa 5 (.t 85), none⟩,
       ⟨none, .st 1 (.t 86) (.t 84), none⟩] [0, 1]) (
      .seq (
       .regD [
        ⟨some 87, .mv (.t 0), none⟩,
        ⟨some 88, .mv (.t 0), none⟩,
        ⟨some 89, .nck (.t 88), none⟩,
        ⟨some 90, .fa 4 (.t 89), none⟩,
        ⟨some 91, .ld (.t 90), none⟩,
        ⟨some 92, .mv (.t 1), none⟩,
        ⟨some 93, .call 86 [none] [(.t 92)], none⟩,
        ⟨some 94, .bsl 24 (.sl 1 .byte) 1 [(0, (.t 93))], none⟩,
        ⟨some 95, .app 24 (.sl 1 .byte) (.t 91) (.t 94), none⟩,
        ⟨some 96, .nck (.t 87), none⟩,
        ⟨some 97, .fa 4 (.t 96), none⟩,
        ⟨none, .st 1 (.t 97) (.t 95), none⟩] [.q 0, .q 1, .q 2, .q 3, .q 4, .q 5, .e 6 [0, 1, 2, 3, 4], .e 7 [0, 1, 2, 3, 4], .e 8 [0], .q 9, .q 10, .e 11 []] []) (
       .seq (
        .reg [
         ⟨some 4, .mv (.c (.int .i64 0)), none⟩] [4]) (
        .ret)))))))
def xr180 : List RT := [.t 4]
def xa187 : AS :=
 .seq (
  .reg [
   ⟨some 4, .mv (.t 0), none⟩,
   ⟨some 5, .eqn true .p (.t 4) (.c (.nilp)), none⟩] [0, 1, 5]) (
  .cond (.t 5) (
   .seq (
    .reg [
     ⟨some 6, .mv (.t 0), none⟩,
     ⟨some 7, .mv (.t 1), none⟩,
     ⟨some 8, .len .i (.t 7), none⟩,
     ⟨some 9, .cv .u64 (.t 8), none⟩,
     ⟨some 10, .call 129 [none, none] [(.t 6), (.t 9)], none⟩] [0, 1]) (
    .reg [
     ⟨some 11, .mv (.t 0), none⟩,
     ⟨some 12, .mv (.t 0), none⟩,
     ⟨some 13, .nck (.t 12), none⟩,
     ⟨some 14, .fa 0 (.t 13), none⟩,
     ⟨some 15, .ld (.t 14), none⟩,
     ⟨some 16, .mv (.t 1), none⟩,
     ⟨some 17, .app 1 .byte (.t 15) (.t 16), none⟩,
     ⟨some 18, .nck (.t 11), none⟩,
     ⟨some 19, .fa 0 (.t 18), none⟩,
     ⟨none, .st 1 (.t 19) (.t 17), none⟩] [])) (
   .no))
def xr187 : List RT := []
def xa188 : AS :=
 .seq (
  .reg [
   ⟨some 2, .mv (.c (.nils)), none⟩,
   ⟨some 3, .mv (.c (.int .i64 0)), none⟩] [0]) (
  .seq (
   .reg [
    ⟨some 7, .call 106 [] [], none⟩,
    ⟨some 4, .mv (.t 7), none⟩] [0, 4]) (
   .seq (
    .reg [
     ⟨some 8, .mv (.t 4), none⟩,
     ⟨some 9, .mv (.t 0), none⟩,
     ⟨some 10, .len .s (.t 9), none⟩,
     ⟨some 11, .cv .u64 (.t 10), none⟩,
     ⟨some 12, .call 129 [none, none] [(.t 8), (.t 11)], none⟩] [0, 4]) (
    .seq (
     .seq (
      .reg [
       ⟨some 13, .mv (.t 0), none⟩,
       ⟨some 14, .len .s (.t 13), none⟩,
       ⟨some 15, .mv (.c (.int .i64 0)), none⟩] [4, 13, 14, 15]) (
      .block 0 (
       .loop 1 [4, 13, 14, 15] (
        .seq (
         .reg [
          ⟨some 16, .bin .lss (.t 15) (.t 14), none⟩] [4, 13, 14, 15, 16]) (
         .seq (
          .cond (.t 16) (
           .skip) (
           .exit 0)) (
          .seq (
           .block 1 (
            .seq (
             .reg [
              ⟨some 17, .ia 4 (.t 13) (.t 15), none⟩,
              ⟨some 18, .ldA 4 (.t 17), none⟩,
              ⟨some 6, .alc [.str ByteArray.empty, .int .u64 0, .int .i64 0, .nils], none⟩,
              ⟨none, .st 4 (.t 6) (.t 18), none⟩] [4, 6, 13, 14, 15]) (
             .seq (
              .seq (
               .reg [
                ⟨some 19, .ldA 4 (.t 6), none⟩,
                ⟨some 20, .call 63 [none] [(.t 19)], none⟩,
                ⟨some 21, .not (.t 20), none⟩] [4, 6, 13, 14, 15, 21]) (
               .cond (.t 21) (
                .no) (
                .skip))) (
              .reg [
               ⟨some 22, .mv (.t 4), none⟩,
               ⟨some 23, .ldA 4 (.t 6), none⟩,
               ⟨some 24, .call 236 [none, none] [(.t 22), (.t 23)], none⟩] [4, 13, 14, 15])))) (
           .reg [
            ⟨some 25, .bin .add (.t 15) (.c (.int .i64 1)), none⟩,
            ⟨some 15, .mv (.t 25), none⟩] [4, 13, 14, 15]))))))) (
     .seq (
      .reg [
       ⟨some 26, .mv (.t 4), none⟩,
       ⟨some 27, .call 109 [none] [(.t 26)], none⟩,
       ⟨some 2, .mv (.t 27), none⟩,
       ⟨some 3, .mv (.c (.int .i64 0)), none⟩] [2, 3]) (
      .ret)))))
def xr188 : List RT := [.t 2, .t 3]
def xa189 : AS :=
 .seq (
  .reg [
   ⟨some 2, .mv (.c (.nils)), none⟩] [0]) (
  .seq (
   .seq (
    .reg [
     ⟨some 8, .mv (.t 0), none⟩,
     ⟨some 9, .eqn false .p (.t 8) (.c (.nilp)), none⟩] [0, 9]) (
    .cond (.t 9) (
     .no) (
     .skip))) (
   .seq (
    .reg [
     ⟨some 10, .call 106 [] [], none⟩,
     ⟨some 3, .mv (.t 10), none⟩] [0, 3]) (
    .seq (
     .reg [
      ⟨some 11, .mv (.t 3), none⟩,
      ⟨some 12, .mv (.t 0), none⟩,
      ⟨some 13, .nck (.t 12), none⟩,
      ⟨some 14, .fa 9 (.t 13), none⟩,
      ⟨some 15, .ld (.t 14), none⟩,
      ⟨some 16, .call 129 [none, none] [(.t 11), (.t 15)], none⟩] [0, 3]) (
     .seq (
      .seq (
       .reg [
        ⟨some 17, .mv (.t 0), none⟩,
        ⟨some 18, .nck (.t 17), none⟩,
        ⟨some 19, .fa 0 (.t 18), none⟩,
        ⟨some 20, .ldA 8 (.t 19), none⟩,
        ⟨some 21, .mv (.c (.int .i64 0)), none⟩] [0, 3, 20, 21]) (
       .block 0 (
        .loop 1 [0, 3, 20, 21] (
         .seq (
          .reg [
           ⟨some 22, .bin .lss (.t 21) (.c (.int .i64 8)), none⟩] [0, 3, 20, 21, 22]) (
          .seq (
           .cond (.t 22) (
            .skip) (
            .exit 0)) (
           .seq (
            .block 1 (
             .seq (
              .reg [
               ⟨some 23, .ixA 8 (.t 20) (.t 21), none⟩,
               ⟨some 5, .mv (.t 23), none⟩] [0, 3, 5, 20, 21]) (
              .reg [
               ⟨some 24, .mv (.t 3), none⟩,
               ⟨some 25, .mv (.t 5), none⟩,
               ⟨some 26, .call 107 [none, none] [(.t 24), (.t 25)], none⟩] [0, 3, 20, 21]))) (
            .reg [
             ⟨some 27, .bin .add (.t 21) (.c (.int .i64 1)), none⟩,
             ⟨some 21, .mv (.t 27), none⟩] [0, 3, 20, 21]))))))) (
      .seq (
       .reg [
        ⟨some 28, .mv (.t 3), none⟩,
        ⟨some 29, .mv (.t 0), none⟩,
        ⟨some 30, .nck (.t 29), none⟩,
        ⟨some 31, .fa 8 (.t 30), none⟩,
        ⟨some 32, .ld (.t 31), none⟩,
        ⟨some 33, .len .s (.t 32), none⟩,
        ⟨some 34, .cv .u64 (.t 33), none⟩,
        ⟨some 35, .call 129 [none, none] [(.t 28), (.t 34)], none⟩] [0, 3]) (
       .seq (
        .seq (
         .reg [
          ⟨some 36, .mv (.t 0), none⟩,
          ⟨some 37, .nck (.t 36), none⟩,
          ⟨some 38, .fa 8 (.t 37), none⟩,
          ⟨some 39, .ld (.t 38), none⟩,
          ⟨some 40, .len .s (.t 39), none⟩,
          ⟨some 41, .mv (.c (.int .i64 0)), none⟩] [3, 39, 40, 41]) (
         .block 2 (
          .loop 2 [3, 39, 40, 41] (
           .seq (
            .reg [
             ⟨some 42, .bin .lss (.t 41) (.t 40), none⟩] [3, 39, 40, 41, 42]) (
            .seq (
             .cond (.t 42) (
              .no) (
              .exit 2)) (
             .seq (
              .block 3 (
               .seq (
                .reg [
                 ⟨some 43, .ia 2 (.t 39) (.t 41), none⟩,
                 ⟨some 44, .ldA 2 (.t 43), none⟩,
                 ⟨some 7, .alc [.int .i64 0, .int .i64 0], none⟩,
                 ⟨none, .st 2 (.t 7) (.t 44), none⟩] [3, 7, 39, 40, 41]) (
                .seq (
                 .reg [
                  ⟨some 45, .mv (.t 3), none⟩,
                  ⟨some 46, .fa 0 (.t 7), none⟩,
                  ⟨some 47, .ld (.t 46), none⟩,
                  ⟨some 48, .cv .u64 (.t 47), none⟩,
                  ⟨some 49, .call 129 [none, none] [(.t 45), (.t 48)], none⟩] [3, 7, 39, 40, 41]) (
                 .reg [
                  ⟨some 50, .mv (.t 3), none⟩,
                  ⟨some 51, .fa 1 (.t 7), none⟩,
                  ⟨some 52, .ld (.t 51), none⟩,
                  ⟨some 53, .call 107 [none, none] [(.t 50), (.t 52)], none⟩] [3, 39, 40, 41])))) (
              .reg [
               ⟨some 54, .bin .add (.t 41) (.c (.int .i64 1)), none⟩,
               ⟨some 41, .mv (.t 54), none⟩] [3, 39, 40, 41]))))))) (
        .seq (
         .reg [
          ⟨some 55, .mv (.t 3), none⟩,
          ⟨some 56, .call 109 [none] [(.t 55)], none⟩,
          ⟨some 2, .mv (.t 56), none⟩] [2]) (
         .ret))))))))
def xr189 : List RT := [.t 2]
def xa190 : AS :=
 .seq (
  .reg [
   ⟨some 2, .mv (.c (.nils)), none⟩] [0]) (
  .seq (
   .seq (
    .reg [
     ⟨some 5, .mv (.t 0), none⟩,
     ⟨some 6, .eqn false .p (.t 5) (.c (.nilp)), none⟩] [0, 6]) (
    .cond (.t 6) (
     .no) (
     .skip))) (
   .seq (
    .reg [
     ⟨some 8, .mv (.t 0), none⟩,
     ⟨some 9, .nck (.t 8), none⟩,
     ⟨some 10, .fa 0 (.t 9), none⟩,
     ⟨some 11, .ld (.t 10), none⟩,
     ⟨some 12, .call 188 [none] [(.t 11)], none⟩,
     ⟨some 7, .mv (.t 12), none⟩,
     ⟨some 13, .ext (.t 7) 0, none⟩,
     ⟨some 14, .ext (.t 7) 1, none⟩,
     ⟨some 3, .mv (.t 13), none⟩,
     ⟨some 4, .mv (.t 14), none⟩] [3]) (
    .seq (
     .reg [
      ⟨some 15, .mv (.t 3), none⟩,
      ⟨some 2, .mv (.t 15), none⟩] [2]) (
     .ret))))
def xr190 : List RT := [.t 2]
def xa191 : AS :=
 .seq (
  .reg [
   ⟨some 3, .box (.t 1), none⟩,
   ⟨some 4, .mv (.c (.bool false)), none⟩] [0, 3]) (
  .seq (
   .seq (
    .reg [
     ⟨some 5, .mv (.t 0), none⟩,
     ⟨some 6, .ld (.t 3), none⟩,
     ⟨some 7, .call 134 [none, none] [(.t 5), (.t 6)], none⟩,
     ⟨some 8, .not (.t 7), none⟩] [0, 3, 8]) (
    .cond (.t 8) (
     .seq (
      .reg [
       ⟨some 4, .mv (.c (.bool false)), none⟩] [4]) (
      .ret)) (
     .no))) (
   .seq (
    .reg [
     ⟨some 9, .mv (.t 0), none⟩,
     ⟨some 10, .mv (.t 0), none⟩,
     ⟨some 11, .nck (.t 10), none⟩,
     ⟨some 12, .fa 1 (.t 11), none⟩,
     ⟨some 13, .ld (.t 12), none⟩,
     ⟨some 14, .mkf 238 [(.t 3)], none⟩,
     ⟨some 15, .call 237 [none, none] [(.t 13), (.t 14)], none⟩,
     ⟨some 16, .nck (.t 9), none⟩,
     ⟨some 17, .fa 1 (.t 16), none⟩,
     ⟨none, .st 1 (.t 17) (.t 15), none⟩] []) (
    .seq (
     .reg [
      ⟨some 4, .mv (.c (.bool true)), none⟩] [4]) (
     .ret))))
def xr191 : List RT := [.t 4]
def xa192 : AS :=
 .seq (
  .reg [
   ⟨some 2, .mv (.c (.int .i64 0)), none⟩] [0]) (
  .seq (
   .seq (
    .reg [
     ⟨some 3, .mv (.t 0), none⟩,
     ⟨some 4, .eqn false .p (.t 3) (.c (.nilp)), none⟩] [0, 4]) (
    .cond (.t 4) (
     .no) (
     .skip))) (
   .seq (
    .reg [
     ⟨some 5, .mv (.t 0), none⟩,
     ⟨some 6, .nck (.t 5), none⟩,
     ⟨some 7, .fa 0 (.t 6), none⟩,
     ⟨some 8, .ld (.t 7), none⟩,
     ⟨some 9, .mm true (.t 8) (.c (.int .i64 1)), none⟩,
     ⟨some 2, .mv (.t 9), none⟩] [2]) (
    .ret)))
def xr192 : List RT := [.t 2]
def xa193 : AS :=
 .seq (
  .reg [
   ⟨some 2, .mv (.c (.nilp)), none⟩,
   ⟨some 3, .mv (.c (.int .i64 0)), none⟩] [0]) (
  .seq (
   .reg [
    ⟨some 7, .mv (.t 0), none⟩,
    ⟨some 8, .call 163 [none] [(.t 7)], none⟩,
    ⟨some 6, .mv (.t 8), none⟩,
    ⟨some 9, .ext (.t 6) 0, none⟩,
    ⟨some 10, .ext (.t 6) 1, none⟩,
    ⟨some 4, .mv (.t 9), none⟩,
    ⟨some 5, .mv (.t 10), none⟩] [4, 5]) (
   .seq (
    .seq (
     .reg [
      ⟨some 11, .mv (.t 5), none⟩,
      ⟨some 12, .bin .neq (.t 11) (.c (.int .i64 0)), none⟩] [4, 5, 12]) (
     .cond (.t 12) (
      .no) (
      .skip))) (
    .seq (
     .reg [
      ⟨some 14, .call 239 [] [], none⟩,
      ⟨some 15, .call 240 [] [], none⟩,
      ⟨some 16, .mv (.t 4), none⟩,
      ⟨some 17, .bld [.nilp, .nilp, .nilp, .int .i64 0, .nils] [(0, 1, (.t 14)), (1, 1, (.t 15)), (2, 1, (.t 16))], none⟩,
      ⟨some 18, .box (.t 17), none⟩,
      ⟨some 2, .mv (.t 18), none⟩,
      ⟨some 3, .mv (.c (.int .i64 0)), none⟩] [2, 3]) (
     .ret))))
def xr193 : List RT := [.t 2, .t 3]
def xa204 : AS :=
 .seq (
  .reg [
   ⟨some 4, .mv (.c (.int .i64 0)), none⟩] [0, 1]) (
  .seq (
   .seq (
    .reg [
     ⟨some 6, .mv (.t 0), none⟩,
     ⟨some 7, .len .s (.t 6), none⟩,
     ⟨some 8, .mv (.c (.int .i64 0)), none⟩] [0, 1, 7, 8]) (
    .block 0 (
     .loop 1 [0, 1, 7, 8] (
      .seq (
       .reg [
        ⟨some 9, .bin .lss (.t 8) (.t 7), none⟩] [0, 1, 7, 8, 9]) (
       .seq (
        .cond (.t 9) (
         .no) (
         .exit 0)) (
        .seq (
         .block 1 (
          .seq (
           .reg [
            ⟨some 10, .mv (.t 8), none⟩,
            ⟨some 5, .mv (.t 10), none⟩] [0, 1, 5, 7, 8]) (
           .seq (
            .reg [
             ⟨some 11, .mv (.t 1), none⟩,
             ⟨some 12, .mv (.t 0), none⟩,
             ⟨some 13, .mv (.t 5), none⟩,
             ⟨some 14, .ia 1 (.t 12) (.t 13), none⟩,
             ⟨some 15, .ld (.t 14), none⟩,
             ⟨some 16, .callv (.t 11) [none] [(.t 15)], none⟩] [0, 1, 5, 7, 8, 16]) (
            .cond (.t 16) (
             .no) (
             .no))))) (
         .reg [
          ⟨some 18, .bin .add (.t 8) (.c (.int .i64 1)), none⟩,
          ⟨some 8, .mv (.t 18), none⟩] [0, 1, 7, 8]))))))) (
   .seq (
    .reg [
     ⟨some 4, .mv (.c (.int .i64 (-1))), none⟩] [4]) (
    .ret)))
def xr204 : List RT := [.t 4]
def xa205 : AS :=
 .seq (
  .reg [
   ⟨some 2, .mv (.c (.int .u64 0)), none⟩] [0]) (
  .seq (
   .seq (
    .reg [
     ⟨some 3, .mv (.t 0), none⟩,
     ⟨some 4, .eqn false .p (.t 3) (.c (.nilp)), none⟩] [0, 4]) (
    .cond (.t 4) (
     .no) (
     .skip))) (
   .seq (
    .reg [
     ⟨some 5, .mv (.t 0), none⟩,
     ⟨some 6, .nck (.t 5), none⟩,
     ⟨some 7, .fa 9 (.t 6), none⟩,
     ⟨some 8, .ld (.t 7), none⟩,
     ⟨some 2, .mv (.t 8), none⟩] [2]) (
    .ret)))
def xr205 : List RT := [.t 2]
def xa207 : AS :=
 .seq (
  .reg [
   ⟨some 4, .mv (.c (.bool false)), none⟩] [0, 1]) (
  .seq (
   .reg [
    ⟨some 5, .mv (.t 0), none⟩,
    ⟨some 6, .mv (.t 1), none⟩,
    ⟨some 7, .call 256 [none, none] [(.t 5), (.t 6)], none⟩,
    ⟨some 8, .bin .geq (.t 7) (.c (.int .i64 0)), none⟩,
    ⟨some 4, .mv (.t 8), none⟩] [4]) (
   .ret))
def xr207 : List RT := [.t 4]
def xa209 : AS :=
 .seq (
  .reg [
   ⟨some 6, .mv (.c (.nils)), none⟩,
   ⟨some 7, .mv (.c (.int .i64 0)), none⟩] [0, 1, 2]) (
  .seq (
   .seq (
    .reg [
     ⟨some 12, .mv (.t 2), none⟩,
     ⟨some 13, .len .s (.t 12), none⟩,
     ⟨some 14, .bin .gtr (.t 13) (.c (.int .i64 242)), none⟩] [0, 1, 2, 14]) (
    .cond (.t 14) (
     .no) (
     .skip))) (
   .seq (
    .reg [
     ⟨some 15, .mks 1 .byte (.c (.int .i64 256)) (.c (.int .i64 256)), none⟩,
     ⟨some 8, .mv (.t 15), none⟩] [0, 1, 2, 8]) (
    .seq (
     .reg [
      ⟨some 16, .mv (.t 8), none⟩,
      ⟨some 17, .mv (.t 0), none⟩,
      ⟨some 18, .ia 1 (.t 16) (.c (.int .i64 8)), none⟩,
      ⟨none, .st 1 (.t 18) (.t 17), none⟩] [1, 2, 8]) (
     .seq (
      .seq (
       .reg [
        ⟨some 19, .mv (.c (.int .i64 0)), none⟩] [1, 2, 8, 19]) (
       .block 0 (
        .loop 1 [1, 2, 8, 19] (
         .seq (
          .reg [
           ⟨some 20, .bin .lss (.t 19) (.c (.int .i64 4)), none⟩] [1, 2, 8, 19, 20]) (
          .seq (
           .cond (.t 20) (
            .skip) (
            .exit 0)) (
           .seq (
            .block 1 (
             .seq (
              .reg [
               ⟨some 21, .mv (.t 19), none⟩,
               ⟨some 9, .mv (.t 21), none⟩] [1, 2, 8, 9, 19]) (
              .reg [
               ⟨some 22, .mv (.t 8), none⟩,
               ⟨some 23, .mv (.t 9), none⟩,
               ⟨some 24, .bin .add (.c (.int .i64 9)) (.t 23), none⟩,
               ⟨some 25, .mv (.t 1), none⟩,
               ⟨some 26, .mv (.t 9), none⟩,
               ⟨some 27, .bin .mul (.c (.int .i64 8)) (.t 26), none⟩,
               ⟨some 28, .bin .sub (.c (.int .i64 24)) (.t 27), none⟩,
               ⟨some 29, .bin .shr (.t 25) (.t 28), none⟩,
               ⟨some 30, .cv .u8 (.t 29), none⟩,
               ⟨some 31, .ia 1 (.t 22) (.t 24), none⟩,
               ⟨none, .st 1 (.t 31) (.t 30), none⟩] [1, 2, 8, 19]))) (
            .reg [
             ⟨some 32, .bin .add (.t 19) (.c (.int .i64 1)), none⟩,
             ⟨some 19, .mv (.t 32), none⟩] [1, 2, 8, 19]))))))) (
      .seq (
       .reg [
        ⟨some 33, .mv (.t 8), none⟩,
        ⟨some 34, .mv (.t 2), none⟩,
        ⟨some 35, .len .s (.t 34), none⟩,
        ⟨some 36, .cv .u8 (.t 35), none⟩,
        ⟨some 37, .ia 1 (.t 33) (.c (.int .i64 13)), none⟩,
        ⟨none, .st 1 (.t 37) (.t 36), none⟩] [2, 8]) (
       .seq (
        .reg [
         ⟨some 38, .mv (.t 8), none⟩,
         ⟨some 39, .slR 1 (.t 38) (some (.c (.int .i64 14))) none, none⟩,
         ⟨some 40, .mv (.t 2), none⟩,
         ⟨some 41, .cpy .byte (.t 39) (.t 40), none⟩] [8]) (
        .seq (
         .reg [
          ⟨some 42, .mv (.t 8), none⟩,
          ⟨some 43, .slR 1 (.t 42) (some (.c (.int .i64 8))) none, none⟩,
          ⟨some 44, .call 257 [(some (1, .byte))] [(.t 43)], none⟩,
          ⟨some 10, .mv (.t 44), none⟩] [8, 10]) (
         .seq (
          .seq (
           .reg [
            ⟨some 45, .mv (.c (.int .i64 0)), none⟩] [8, 10, 45]) (
           .block 2 (
            .loop 2 [8, 10, 45] (
             .seq (
              .reg [
               ⟨some 46, .bin .lss (.t 45) (.c (.int .i64 8)), none⟩] [8, 10, 45, 46]) (
              .seq (
               .cond (.t 46) (
                .skip) (
                .exit 2)) (
               .seq (
                .block 3 (
                 .seq (
                  .reg [
                   ⟨some 47, .mv (.t 45), none⟩,
                   ⟨some 11, .mv (.t 47), none⟩] [8, 10, 11, 45]) (
                  .reg [
                   ⟨some 48, .mv (.t 8), none⟩,
                   ⟨some 49, .mv (.t 11), none⟩,
                   ⟨some 50, .mv (.t 10), none⟩,
                   ⟨some 51, .mv (.t 11), none⟩,
                   ⟨some 52, .bin .mul (.c (.int .i64 8)) (.t 51), none⟩,
                   ⟨some 53, .bin .sub (.c (.int .i64 56)) (.t 52), none⟩,
                   ⟨some 54, .bin .shr (.t 50) (.t 53), none⟩,
                   ⟨some 55, .cv .u8 (.t 54), none⟩,
                   ⟨some 56, .ia 1 (.t 48) (.t 49), none⟩,
                   ⟨none, .st 1 (.t 56) (.t 55), none⟩] [8, 10, 45]))) (
                .reg [
                 ⟨some 57, .bin .add (.t 45) (.c (.int .i64 1)), none⟩,
                 ⟨some 45, .mv (.t 57), none⟩] [8, 10, 45]))))))) (
          .seq (
           .reg [
            ⟨some 58, .mv (.t 8), none⟩,
            ⟨some 6, .mv (.t 58), none⟩,
            ⟨some 7, .mv (.c (.int .i64 0)), none⟩] [6, 7]) (
           .ret))))))))))
def xr209 : List RT := [.t 6, .t 7]
def xa210 : AS :=
 .seq (
  .reg [
   ⟨some 4, .mv (.c (.bool false)), none⟩] [0, 1]) (
  .seq (
   .reg [
    ⟨some 5, .mv (.t 0), none⟩,
    ⟨some 6, .b2s (.t 5), none⟩,
    ⟨some 7, .mv (.t 1), none⟩,
    ⟨some 8, .b2s (.t 7), none⟩,
    ⟨some 9, .bin .eql (.t 6) (.t 8), none⟩,
    ⟨some 4, .mv (.t 9), none⟩] [4]) (
   .ret))
def xr210 : List RT := [.t 4]
def xa221 : AS :=
 .seq (
  .reg [
   ⟨some 2, .mv (.c (.bool false)), none⟩] [0]) (
  .seq (
   .reg [
    ⟨some 3, .mv (.t 0), none⟩,
    ⟨some 4, .eqn false .p (.t 3) (.c (.nilp)), none⟩,
    ⟨some 5, .mv (.t 4), none⟩,
    ⟨some 6, .mv (.t 0), (some (5, false))⟩,
    ⟨some 7, .nck (.t 6), (some (5, false))⟩,
    ⟨some 8, .fa 0 (.t 7), (some (5, false))⟩,
    ⟨some 9, .ld (.t 8), (some (5, false))⟩,
    ⟨some 10, .bin .eql (.t 9) (.c (.str ByteArray.empty)), (some (5, false))⟩,
    ⟨some 11, .pick (.t 5) (.c (.bool true)) (.t 10), none⟩,
    ⟨some 2, .mv (.t 11), none⟩] [2]) (
   .ret))
def xr221 : List RT := [.t 2]
def xa222 : AS :=
 .seq (
  .reg [
   ⟨some 1, .box (.t 0), none⟩,
   ⟨some 2, .mv (.c (.nilf)), none⟩] [1]) (
  .seq (
   .reg [
    ⟨some 3, .mkf 268 [(.t 1)], none⟩,
    ⟨some 2, .mv (.t 3), none⟩] [2]) (
   .ret))
def xr222 : List RT := [.t 2]
def xa229 : AS :=
 .seq (
  .reg [
   ⟨some 2, .mv (.c (.int .i64 0)), none⟩] [0]) (
  .seq (
   .seq (
    .reg [
     ⟨some 3, .mv (.t 0), none⟩,
     ⟨some 4, .eqn false .p (.t 3) (.c (.nilp)), none⟩] [0, 4]) (
    .cond (.t 4) (
     .no) (
     .skip))) (
   .seq (
    .regD [
     ⟨some 5, .mv (.t 0), none⟩,
     ⟨some 6, .nck (.t 5), none⟩,
     ⟨some 7, .fa 2 (.t 6), none⟩,
     ⟨some 8, .ld (.t 7), none⟩,
     ⟨some 9, .mv (.t 0), none⟩,
     ⟨some 10, .nck (.t 9), none⟩,
     ⟨some 11, .fa 5 (.t 10), none⟩,
     ⟨some 12, .ld (.t 11), none⟩,
     ⟨some 13, .bin .sub (.t 8) (.t 12), none⟩,
     ⟨some 2, .mv (.t 13), none⟩] [.q 0, .q 1, .q 2, .q 3, .q 4, .q 5, .q 6, .q 7, .q 8, .q 9] [2]) (
    .ret)))
def xr229 : List RT := [.t 2]
def xa230 : AS :=
 .seq (
  .reg [
   ⟨some 6, .mv (.c (.int .i64 0)), none⟩] [0, 1, 2]) (
  .seq (
   .block 0 (
    .seq (
     .reg [
      ⟨some 8, .mv (.t 0), none⟩,
      ⟨some 9, .eqn false .p (.t 8) (.c (.nilp)), none⟩,
      ⟨some 10, .mv (.t 9), none⟩,
      ⟨some 11, .mv (.t 0), (some (10, false))⟩,
      ⟨some 12, .nck (.t 11), (some (10, false))⟩,
      ⟨some 13, .fa 3 (.t 12), (some (10, false))⟩,
      ⟨some 14, .ld (.t 13), (some (10, false))⟩,
      ⟨some 15, .pick (.t 10) (.c (.bool true)) (.t 14), none⟩,
      ⟨some 7, .mv (.t 15), none⟩] [0, 1, 2, 7]) (
     .cond (.t 7) (
      .no) (
      .seq (
       .reg [
        ⟨some 17, .mv (.t 1), none⟩,
        ⟨some 18, .bin .lss (.t 17) (.c (.int .i64 0)), none⟩,
        ⟨some 19, .mv (.t 18), none⟩,
        ⟨some 20, .mv (.t 1), (some (19, false))⟩,
        ⟨some 21, .mv (.t 0), (some (19, false))⟩,
        ⟨some 22, .nck (.t 21), (some (19, false))⟩,
        ⟨some 23, .fa 0 (.t 22), (some (19, false))⟩,
        ⟨some 24, .ld (.t 23), (some (19, false))⟩,
        ⟨some 25, .len .s (.t 24), (some (19, false))⟩,
        ⟨some 26, .bin .geq (.t 20) (.t 25), (some (19, false))⟩,
        ⟨some 27, .pick (.t 19) (.c (.bool true)) (.t 26), none⟩,
        ⟨some 28, .mv (.t 27), none⟩,
        ⟨some 29, .mv (.t 2), (some (28, false))⟩,
        ⟨some 30, .len .s (.t 29), (some (28, false))⟩,
        ⟨some 31, .bin .neq (.t 30) (.c (.int .i64 256)), (some (28, false))⟩,
        ⟨some 32, .pick (.t 28) (.c (.bool true)) (.t 31), none⟩,
        ⟨some 16, .mv (.t 32), none⟩] [0, 1, 2, 16]) (
       .cond (.t 16) (
        .no) (
        .seq (
         .reg [
          ⟨some 34, .mv (.t 0), none⟩,
          ⟨some 35, .nck (.t 34), none⟩,
          ⟨some 36, .fa 2 (.t 35), none⟩,
          ⟨some 37, .ld (.t 36), none⟩,
          ⟨some 38, .bin .eql (.t 37) (.c (.int .i64 0)), none⟩,
          ⟨some 33, .mv (.t 38), none⟩] [0, 1, 2, 33]) (
         .cond (.t 33) (
          .no) (
          .seq (
           .reg [
            ⟨some 43, .mv (.t 0), none⟩,
            ⟨some 44, .nck (.t 43), none⟩,
            ⟨some 45, .fa 2 (.t 44), none⟩,
            ⟨some 46, .ld (.t 45), none⟩,
            ⟨some 47, .bin .gtr (.t 46) (.c (.int .i64 0)), none⟩,
            ⟨some 42, .mv (.t 47), none⟩] [0, 1, 2, 42]) (
           .cond (.t 42) (
            .no) (
            .skip)))))))))) (
   .seq (
    .regD [
     ⟨some 55, .mv (.t 0), none⟩,
     ⟨some 56, .nck (.t 55), none⟩,
     ⟨some 57, .fa 0 (.t 56), none⟩,
     ⟨some 58, .ld (.t 57), none⟩,
     ⟨some 59, .mv (.t 1), none⟩,
     ⟨some 60, .mv (.t 2), none⟩,
     ⟨some 61, .call 86 [none] [(.t 60)], none⟩,
     ⟨some 62, .ia 1 (.t 58) (.t 59), none⟩,
     ⟨none, .st 1 (.t 62) (.t 61), none⟩] [.q 0, .q 1, .q 2, .q 3, .q 4, .q 5, .e 6 [0, 1, 2, 3, 4], .q 7, .e 8 []] [0, 1]) (
    .seq (
     .regD [
      ⟨some 63, .mv (.t 0), none⟩,
      ⟨some 64, .mv (.t 0), none⟩,
      ⟨some 65, .nck (.t 64), none⟩,
      ⟨some 66, .fa 1 (.t 65), none⟩,
      ⟨some 67, .ld (.t 66), none⟩,
      ⟨some 68, .mv (.t 1), none⟩,
      ⟨some 69, .mv (.t 0), none⟩,
      ⟨some 70, .nck (.t 69), none⟩,
      ⟨some 71, .fa 0 (.t 70), none⟩,
      ⟨some 72, .ld (.t 71), none⟩,
      ⟨some 73, .mv (.t 1), none⟩,
      ⟨some 74, .ia 1 (.t 72) (.t 73), none⟩,
      ⟨some 75, .ld (.t 74), none⟩,
      ⟨some 76, .bld [.int .i64 0, .nils] [(0, 1, (.t 68)), (1, 1, (.t 75))], none⟩,
      ⟨some 77, .bsl 32 (.pair (.int .i64) (.sl 1 .byte)) 1 [(0, (.t 76))], none⟩,
      ⟨some 78, .app 32 (.pair (.int .i64) (.sl 1 .byte)) (.t 67) (.t 77), none⟩,
      ⟨some 79, .nck (.t 63), none⟩,
      ⟨some 80, .fa 1 (.t 79), none⟩,
      ⟨none, .st 1 (.t 80) (.t 78), none⟩] [.q 0, .q 1, .q 2, .q 3, .q 4, .q 5, .q 6, .q 7, .q 8, .q 9, .q 10, .q 11, .q 12, .q 13, .e 14 [0, 1, 2, 3, 4], .e 15 [0], .q 16, .q 17, .e 18 []] []) (
     .seq (
      .reg [
       ⟨some 6, .mv (.c (.int .i64 0)), none⟩] [6]) (
      .ret)))))
def xr230 : List RT := [.t 6]
def xa236 : AS :=
 .seq (
  .reg [
   ⟨some 3, .box (.t 1), none⟩] [0, 3]) (
  .seq (
   .reg [
    ⟨some 6, .mv (.t 0), none⟩,
    ⟨some 7, .fa 0 (.t 3), none⟩,
    ⟨some 8, .ld (.t 7), none⟩,
    ⟨some 9, .call 187 [none, none] [(.t 6), (.t 8)], none⟩] [0, 3]) (
   .seq (
    .reg [
     ⟨some 10, .mv (.t 0), none⟩,
     ⟨some 11, .fa 1 (.t 3), none⟩,
     ⟨some 12, .ld (.t 11), none⟩,
     ⟨some 13, .call 129 [none, none] [(.t 10), (.t 12)], none⟩] [0, 3]) (
    .seq (
     .reg [
      ⟨some 14, .mv (.t 0), none⟩,
      ⟨some 15, .fa 2 (.t 3), none⟩,
      ⟨some 16, .ld (.t 15), none⟩,
      ⟨some 17, .call 107 [none, none] [(.t 14), (.t 16)], none⟩] [0, 3]) (
     .seq (
      .reg [
       ⟨some 18, .mv (.t 0), none⟩,
       ⟨some 19, .fa 3 (.t 3), none⟩,
       ⟨some 20, .ld (.t 19), none⟩,
       ⟨some 21, .len .s (.t 20), none⟩,
       ⟨some 22, .cv .u64 (.t 21), none⟩,
       ⟨some 23, .call 129 [none, none] [(.t 18), (.t 22)], none⟩] [0, 3]) (
      .seq (
       .reg [
        ⟨some 24, .fa 3 (.t 3), none⟩,
        ⟨some 25, .ld (.t 24), none⟩,
        ⟨some 26, .len .s (.t 25), none⟩,
        ⟨some 27, .mv (.c (.int .i64 0)), none⟩] [0, 25, 26, 27]) (
       .block 0 (
        .loop 1 [0, 25, 26, 27] (
         .seq (
          .reg [
           ⟨some 28, .bin .lss (.t 27) (.t 26), none⟩] [0, 25, 26, 27, 28]) (
          .seq (
           .cond (.t 28) (
            .no) (
            .exit 0)) (
           .seq (
            .block 1 (
             .seq (
              .reg [
               ⟨some 29, .ia 1 (.t 25) (.t 27), none⟩,
               ⟨some 30, .ld (.t 29), none⟩,
               ⟨some 5, .mv (.t 30), none⟩] [0, 5, 25, 26, 27]) (
              .reg [
               ⟨some 31, .mv (.t 0), none⟩,
               ⟨some 32, .mv (.t 5), none⟩,
               ⟨some 33, .call 107 [none, none] [(.t 31), (.t 32)], none⟩] [0, 25, 26, 27]))) (
            .reg [
             ⟨some 34, .bin .add (.t 27) (.c (.int .i64 1)), none⟩,
             ⟨some 27, .mv (.t 34), none⟩] [0, 25, 26, 27])))))))))))
def xr236 : List RT := []
def xa239 : AS :=
 .seq (
  .reg [
   ⟨some 0, .mv (.c (.nilp)), none⟩] []) (
  .seq (
   .reg [
    ⟨some 1, .bld [.arr 8 (.int .i64) (List.replicate 8 (Ty.dflt (.int .i64))), .nils, .int .u64 0] [], none⟩,
    ⟨some 2, .box (.t 1), none⟩,
    ⟨some 0, .mv (.t 2), none⟩] [0]) (
   .ret))
def xr239 : List RT := [.t 0]
def xa240 : AS :=
 .seq (
  .reg [
   ⟨some 0, .mv (.c (.nilp)), none⟩] []) (
  .seq (
   .reg [
    ⟨some 1, .bld [.nils] [], none⟩,
    ⟨some 2, .box (.t 1), none⟩,
    ⟨some 0, .mv (.t 2), none⟩] [0]) (
   .ret))
def xr240 : List RT := [.t 0]
def xa256 : AS :=
 .seq (
  .reg [
   ⟨some 4, .mv (.c (.int .i64 0)), none⟩] [0, 1]) (
  .seq (
   .seq (
    .reg [
     ⟨some 6, .mv (.t 0), none⟩,
     ⟨some 7, .len .s (.t 6), none⟩,
     ⟨some 8, .mv (.c (.int .i64 0)), none⟩] [0, 1, 7, 8]) (
    .block 0 (
     .loop 1 [0, 1, 7, 8] (
      .seq (
       .reg [
        ⟨some 9, .bin .lss (.t 8) (.t 7), none⟩] [0, 1, 7, 8, 9]) (
       .seq (
        .cond (.t 9) (
         .skip) (
         .exit 0)) (
        .seq (
         .block 1 (
          .seq (
           .reg [
            ⟨some 10, .mv (.t 8), none⟩,
            ⟨some 5, .mv (.t 10), none⟩] [0, 1, 5, 7, 8]) (
           .seq (
            .reg [
             ⟨some 11, .mv (.t 1), none⟩,
             ⟨some 12, .mv (.t 0), none⟩,
             ⟨some 13, .mv (.t 5), none⟩,
             ⟨some 14, .ia 1 (.t 12) (.t 13), none⟩,
             ⟨some 15, .ld (.t 14), none⟩,
             ⟨some 16, .bin .eql (.t 11) (.t 15), none⟩] [0, 1, 5, 7, 8, 16]) (
            .cond (.t 16) (
             .seq (
              .reg [
               ⟨some 17, .mv (.t 5), none⟩,
               ⟨some 4, .mv (.t 17), none⟩] [4]) (
              .ret)) (
             .no))))) (
         .reg [
          ⟨some 18, .bin .add (.t 8) (.c (.int .i64 1)), none⟩,
          ⟨some 8, .mv (.t 18), none⟩] [0, 1, 7, 8]))))))) (
   .seq (
    .reg [
     ⟨some 4, .mv (.c (.int .i64 (-1))), none⟩] [4]) (
    .ret)))
def xr256 : List RT := [.t 4]
theorem xk4 : okF Tryz.prog 4 xa4 xr4 0 = true := by decide +kernel
theorem xk6 : okF Tryz.prog 6 xa6 xr6 2 = true := by decide +kernel
theorem xk8 : okF Tryz.prog 8 xa8 xr8 2 = true := by decide +kernel
theorem xk9 : okF Tryz.prog 9 xa9 xr9 1 = true := by decide +kernel
theorem xk10 : okF Tryz.prog 10 xa10 xr10 1 = true := by decide +kernel
theorem xk11 : okF Tryz.prog 11 xa11 xr11 1 = true := by decide +kernel
theorem xk12 : okF Tryz.prog 12 xa12 xr12 2 = true := by decide +kernel
theorem xk13 : okF Tryz.prog 13 xa13 xr13 1 = true := by decide +kernel
theorem xk14 : okF Tryz.prog 14 xa14 xr14 1 = true := by decide +kernel
theorem xk15 : okF Tryz.prog 15 xa15 xr15 2 = true := by decide +kernel
theorem xk16 : okF Tryz.prog 16 xa16 xr16 1 = true := by decide +kernel
theorem xk17 : okF Tryz.prog 17 xa17 xr17 1 = true := by decide +kernel
theorem xk18 : okF Tryz.prog 18 xa18 xr18 1 = true := by decide +kernel
theorem xk19 : okF Tryz.prog 19 xa19 xr19 6 = true := by decide +kernel
theorem xk21 : okF Tryz.prog 21 xa21 xr21 1 = true := by decide +kernel
theorem xk22 : okF Tryz.prog 22 xa22 xr22 1 = true := by decide +kernel
theorem xk23 : okF Tryz.prog 23 xa23 xr23 0 = true := by decide +kernel
theorem xk24 : okF Tryz.prog 24 xa24 xr24 0 = true := by decide +kernel
theorem xk25 : okF Tryz.prog 25 xa25 xr25 0 = true := by decide +kernel
theorem xk26 : okF Tryz.prog 26 xa26 xr26 2 = true := by decide +kernel
theorem xk27 : okF Tryz.prog 27 xa27 xr27 1 = true := by decide +kernel
theorem xk28 : okF Tryz.prog 28 xa28 xr28 1 = true := by decide +kernel
theorem xk29 : okF Tryz.prog 29 xa29 xr29 1 = true := by decide +kernel
theorem xk32 : okF Tryz.prog 32 xa32 xr32 1 = true := by decide +kernel
theorem xk33 : okF Tryz.prog 33 xa33 xr33 1 = true := by decide +kernel
theorem xk34 : okF Tryz.prog 34 xa34 xr34 1 = true := by decide +kernel
theorem xk35 : okF Tryz.prog 35 xa35 xr35 1 = true := by decide +kernel
theorem xk36 : okF Tryz.prog 36 xa36 xr36 2 = true := by decide +kernel
theorem xk37 : okF Tryz.prog 37 xa37 xr37 1 = true := by decide +kernel
theorem xk38 : okF Tryz.prog 38 xa38 xr38 1 = true := by decide +kernel
theorem xk39 : okF Tryz.prog 39 xa39 xr39 2 = true := by decide +kernel
theorem xk40 : okF Tryz.prog 40 xa40 xr40 2 = true := by decide +kernel
theorem xk41 : okF Tryz.prog 41 xa41 xr41 1 = true := by decide +kernel
theorem xk42 : okF Tryz.prog 42 xa42 xr42 1 = true := by decide +kernel
theorem xk43 : okF Tryz.prog 43 xa43 xr43 2 = true := by decide +kernel
theorem xk44 : okF Tryz.prog 44 xa44 xr44 3 = true := by decide +kernel
theorem xk45 : okF Tryz.prog 45 xa45 xr45 2 = true := by decide +kernel
theorem xk46 : okF Tryz.prog 46 xa46 xr46 1 = true := by decide +kernel
theorem xk47 : okF Tryz.prog 47 xa47 xr47 2 = true := by decide +kernel
theorem xk49 : okF Tryz.prog 49 xa49 xr49 1 = true := by decide +kernel
theorem xk50 : okF Tryz.prog 50 xa50 xr50 1 = true := by decide +kernel
theorem xk51 : okF Tryz.prog 51 xa51 xr51 2 = true := by decide +kernel
theorem xk53 : okF Tryz.prog 53 xa53 xr53 3 = true := by decide +kernel
theorem xk54 : okF Tryz.prog 54 xa54 xr54 2 = true := by decide +kernel
theorem xk55 : okF Tryz.prog 55 xa55 xr55 2 = true := by decide +kernel
theorem xk58 : okF Tryz.prog 58 xa58 xr58 2 = true := by decide +kernel
theorem xk61 : okF Tryz.prog 61 xa61 xr61 1 = true := by decide +kernel
theorem xk62 : okF Tryz.prog 62 xa62 xr62 1 = true := by decide +kernel
theorem xk63 : okF Tryz.prog 63 xa63 xr63 1 = true := by decide +kernel
theorem xk64 : okF Tryz.prog 64 xa64 xr64 2 = true := by decide +kernel
theorem xk65 : okF Tryz.prog 65 xa65 xr65 3 = true := by decide +kernel
theorem xk66 : okF Tryz.prog 66 xa66 xr66 2 = true := by decide +kernel
theorem xk67 : okF Tryz.prog 67 xa67 xr67 1 = true := by decide +kernel
theorem xk68 : okF Tryz.prog 68 xa68 xr68 3 = true := by decide +kernel
theorem xk69 : okF Tryz.prog 69 xa69 xr69 2 = true := by decide +kernel
theorem xk71 : okF Tryz.prog 71 xa71 xr71 1 = true := by decide +kernel
theorem xk72 : okF Tryz.prog 72 xa72 xr72 1 = true := by decide +kernel
theorem xk73 : okF Tryz.prog 73 xa73 xr73 1 = true := by decide +kernel
theorem xk75 : okF Tryz.prog 75 xa75 xr75 1 = true := by decide +kernel
theorem xk76 : okF Tryz.prog 76 xa76 xr76 1 = true := by decide +kernel
theorem xk77 : okF Tryz.prog 77 xa77 xr77 4 = true := by decide +kernel
theorem xk78 : okF Tryz.prog 78 xa78 xr78 4 = true := by decide +kernel
theorem xk79 : okF Tryz.prog 79 xa79 xr79 2 = true := by decide +kernel
theorem xk80 : okF Tryz.prog 80 xa80 xr80 4 = true := by decide +kernel
theorem xk81 : okF Tryz.prog 81 xa81 xr81 3 = true := by decide +kernel
theorem xk83 : okF Tryz.prog 83 xa83 xr83 1 = true := by decide +kernel
theorem xk84 : okF Tryz.prog 84 xa84 xr84 2 = true := by decide +kernel
theorem xk86 : okF Tryz.prog 86 xa86 xr86 1 = true := by decide +kernel
theorem xk87 : okF Tryz.prog 87 xa87 xr87 1 = true := by decide +kernel
theorem xk93 : okF Tryz.prog 93 xa93 xr93 2 = true := by decide +kernel
theorem xk94 : okF Tryz.prog 94 xa94 xr94 1 = true := by decide +kernel
theorem xk95 : okF Tryz.prog 95 xa95 xr95 1 = true := by decide +kernel
theorem xk96 : okF Tryz.prog 96 xa96 xr96 1 = true := by decide +kernel
theorem xk97 : okF Tryz.prog 97 xa97 xr97 1 = true := by decide +kernel
theorem xk98 : okF Tryz.prog 98 xa98 xr98 1 = true := by decide +kernel
theorem xk99 : okF Tryz.prog 99 xa99 xr99 1 = true := by decide +kernel
theorem xk104 : okF Tryz.prog 104 xa104 xr104 1 = true := by decide +kernel
theorem xk106 : okF Tryz.prog 106 xa106 xr106 0 = true := by decide +kernel
theorem xk107 : okF Tryz.prog 107 xa107 xr107 2 = true := by decide +kernel
theorem xk108 : okF Tryz.prog 108 xa108 xr108 2 = true := by decide +kernel
theorem xk109 : okF Tryz.prog 109 xa109 xr109 1 = true := by decide +kernel
theorem xk113 : okF Tryz.prog 113 xa113 xr113 1 = true := by decide +kernel
theorem xk114 : okF Tryz.prog 114 xa114 xr114 2 = true := by decide +kernel
theorem xk115 : okF Tryz.prog 115 xa115 xr115 2 = true := by decide +kernel
theorem xk122 : okF Tryz.prog 122 xa122 xr122 1 = true := by decide +kernel
theorem xk126 : okF Tryz.prog 126 xa126 xr126 1 = true := by decide +kernel
theorem xk128 : okF Tryz.prog 128 xa128 xr128 1 = true := by decide +kernel
theorem xk129 : okF Tryz.prog 129 xa129 xr129 2 = true := by decide +kernel
theorem xk130 : okF Tryz.prog 130 xa130 xr130 2 = true := by decide +kernel
theorem xk132 : okF Tryz.prog 132 xa132 xr132 1 = true := by decide +kernel
theorem xk134 : okF Tryz.prog 134 xa134 xr134 2 = true := by decide +kernel
theorem xk137 : okF Tryz.prog 137 xa137 xr137 2 = true := by decide +kernel
theorem xk138 : okF Tryz.prog 138 xa138 xr138 3 = true := by decide +kernel
theorem xk139 : okF Tryz.prog 139 xa139 xr139 1 = true := by decide +kernel
theorem xk140 : okF Tryz.prog 140 xa140 xr140 1 = true := by decide +kernel
theorem xk141 : okF Tryz.prog 141 xa141 xr141 3 = true := by decide +kernel
theorem xk142 : okF Tryz.prog 142 xa142 xr142 1 = true := by decide +kernel
theorem xk148 : okF Tryz.prog 148 xa148 xr148 1 = true := by decide +kernel
theorem xk151 : okF Tryz.prog 151 xa151 xr151 2 = true := by decide +kernel
theorem xk162 : okF Tryz.prog 162 xa162 xr162 2 = true := by decide +kernel
theorem xk163 : okF Tryz.prog 163 xa163 xr163 1 = true := by decide +kernel
theorem xk166 : okF Tryz.prog 166 xa166 xr166 1 = true := by decide +kernel
theorem xk171 : okF Tryz.prog 171 xa171 xr171 1 = true := by decide +kernel
theorem xk178 : okF Tryz.prog 178 xa178 xr178 1 = true := by decide +kernel
theorem xk179 : okF Tryz.prog 179 xa179 xr179 1 = true := by decide +kernel
theorem xk180 : okF Tryz.prog 180 xa180 xr180 2 = true := by decide +kernel
theorem xk187 : okF Tryz.prog 187 xa187 xr187 2 = true := by decide +kernel
theorem xk188 : okF Tryz.prog 188 xa188 xr188 1 = true := by decide +kernel
theorem xk189 : okF Tryz.prog 189 xa189 xr189 1 = true := by decide +kernel
theorem xk190 : okF Tryz.prog 190 xa190 xr190 1 = true := by decide +kernel
theorem xk191 : okF Tryz.prog 191 xa191 xr191 2 = true := by decide +kernel
theorem xk192 : okF Tryz.prog 192 xa192 xr192 1 = true := by decide +kernel
theorem xk193 : okF Tryz.prog 193 xa193 xr193 1 = true := by decide +kernel
theorem xk204 : okF Tryz.prog 204 xa204 xr204 2 = true := by decide +kernel
theorem xk205 : okF Tryz.prog 205 xa205 xr205 1 = true := by decide +kernel
theorem xk207 : okF Tryz.prog 207 xa207 xr207 2 = true := by decide +kernel
theorem xk209 : okF Tryz.prog 209 xa209 xr209 3 = true := by decide +kernel
theorem xk210 : okF Tryz.prog 210 xa210 xr210 2 = true := by decide +kernel
theorem xk221 : okF Tryz.prog 221 xa221 xr221 1 = true := by decide +kernel
theorem xk222 : okF Tryz.prog 222 xa222 xr222 1 = true := by decide +kernel
theorem xk229 : okF Tryz.prog 229 xa229 xr229 1 = true := by decide +kernel
theorem xk230 : okF Tryz.prog 230 xa230 xr230 3 = true := by decide +kernel
theorem xk236 : okF Tryz.prog 236 xa236 xr236 2 = true := by decide +kernel
theorem xk239 : okF Tryz.prog 239 xa239 xr239 0 = true := by decide +kernel
theorem xk240 : okF Tryz.prog 240 xa240 xr240 0 = true := by decide +kernel
theorem xk256 : okF Tryz.prog 256 xa256 xr256 2 = true := by decide +kernel
def XT : List (Nat × FX) := [(4, .code xa4 xr4 0), (6, .code xa6 xr6 2), (8, .code xa8 xr8 2), (9, .code xa9 xr9 1), (10, .code xa10 xr10 1), (11, .code xa11 xr11 1), (12, .code xa12 xr12 2), (13, .code xa13 xr13 1), (14, .code xa14 xr14 1), (15, .code xa15 xr15 2), (16, .code xa16 xr16 1), (17, .code xa17 xr17 1), (18, .code xa18 xr18 1), (19, .code xa19 xr19 6), (21, .code xa21 xr21 1), (22, .code xa22 xr22 1), (23, .code xa23 xr23 0), (24, .code xa24 xr24 0), (25, .code xa25 xr25 0), (26, .code xa26 xr26 2), (27, .code xa27 xr27 1), (28, .code xa28 xr28 1), (29, .code xa29 xr29 1), (32, .code xa32 xr32 1), (33, .code xa33 xr33 1), (34, .code xa34 xr34 1), (35, .code xa35 xr35 1), (36, .code xa36 xr36 2), (37, .code xa37 xr37 1), (38, .code xa38 xr38 1), (39, .code xa39 xr39 2), (40, .code xa40 xr40 2), (41, .code xa41 xr41 1), (42, .code xa42 xr42 1), (43, .code xa43 xr43 2), (44, .code xa44 xr44 3), (45, .code xa45 xr45 2), (46, .code xa46 xr46 1), (47, .code xa47 xr47 2), (49, .code xa49 xr49 1), (50, .code xa50 xr50 1), (51, .code xa51 xr51 2), (53, .code xa53 xr53 3), (54, .code xa54 xr54 2), (55, .code xa55 xr55 2), (58, .code xa58 xr58 2), (61, .code xa61 xr61 1), (62, .code xa62 xr62 1), (63, .code xa63 xr63 1), (64, .code xa64 xr64 2), (65, .code xa65 xr65 3), (66, .code xa66 xr66 2), (67, .code xa67 xr67 1), (68, .code xa68 xr68 3), (69, .code xa69 xr69 2), (71, .code xa71 xr71 1), (72, .code xa72 xr72 1), (73, .code xa73 xr73 1), (75, .code xa75 xr75 1), (76, .code xa76 xr76 1), (77, .code xa77 xr77 4), (78, .code xa78 xr78 4), (79, .code xa79 xr79 2), (80, .code xa80 xr80 4), (81, .code xa81 xr81 3), (83, .code xa83 xr83 1), (84, .code xa84 xr84 2), (86, .code xa86 xr86 1), (87, .code xa87 xr87 1), (93, .code xa93 xr93 2), (94, .code xa94 xr94 1), (95, .code xa95 xr95 1), (96, .code xa96 xr96 1), (97, .code xa97 xr97 1), (98, .code xa98 xr98 1), (99, .code xa99 xr99 1), (104, .code xa104 xr104 1), (106, .code xa106 xr106 0), (107, .code xa107 xr107 2), (108, .code xa108 xr108 2), (109, .code xa109 xr109 1), (113, .code xa113 xr113 1), (114, .code xa114 xr114 2), (115, .code xa115 xr115 2), (122, .code xa122 xr122 1), (126, .code xa126 xr126 1), (128, .code xa128 xr128 1), (129, .code xa129 xr129 2), (130, .code xa130 xr130 2), (132, .code xa132 xr132 1), (134, .code xa134 xr134 2), (137, .code xa137 xr137 2), (138, .code xa138 xr138 3), (139, .code xa139 xr139 1), (140, .code xa140 xr140 1), (141, .code xa141 xr141 3), (142, .code xa142 xr142 1), (148, .code xa148 xr148 1), (151, .code xa151 xr151 2), (162, .code xa162 xr162 2), (163, .code xa163 xr163 1), (166, .code xa166 xr166 1), (171, .code xa171 xr171 1), (178, .code xa178 xr178 1), (179, .code xa179 xr179 1), (180, .code xa180 xr180 2), (187, .code xa187 xr187 2), (188, .code xa188 xr188 1), (189, .code xa189 xr189 1), (190, .code xa190 xr190 1), (191, .code xa191 xr191 2), (192, .code xa192 xr192 1), (193, .code xa193 xr193 1), (204, .code xa204 xr204 2), (205, .code xa205 xr205 1), (207, .code xa207 xr207 2), (209, .code xa209 xr209 3), (210, .code xa210 xr210 2), (221, .code xa221 xr221 1), (222, .code xa222 xr222 1), (229, .code xa229 xr229 1), (230, .code xa230 xr230 3), (236, .code xa236 xr236 2), (239, .code xa239 xr239 0), (240, .code xa240 xr240 0), (256, .code xa256 xr256 2), (121, .nat nSort), (70, .nat nAdd), (257, .nat nSum)]
theorem XT_ok : TOk Tryz.prog XT := (.code xk4 (.code xk6 (.code xk8 (.code xk9 (.code xk10 (.code xk11 (.code xk12 (.code xk13 (.code xk14 (.code xk15 (.code xk16 (.code xk17 (.code xk18 (.code xk19 (.code xk21 (.code xk22 (.code xk23 (.code xk24 (.code xk25 (.code xk26 (.code xk27 (.code xk28 (.code xk29 (.code xk32 (.code xk33 (.code xk34 (.code xk35 (.code xk36 (.code xk37 (.code xk38 (.code xk39 (.code xk40 (.code xk41 (.code xk42 (.code xk43 (.code xk44 (.code xk45 (.code xk46 (.code xk47 (.code xk49 (.code xk50 (.code xk51 (.code xk53 (.code xk54 (.code xk55 (.code xk58 (.code xk61 (.code xk62 (.code xk63 (.code xk64 (.code xk65 (.code xk66 (.code xk67 (.code xk68 (.code xk69 (.code xk71 (.code xk72 (.code xk73 (.code xk75 (.code xk76 (.code xk77 (.code xk78 (.code xk79 (.code xk80 (.code xk81 (.code xk83 (.code xk84 (.code xk86 (.code xk87 (.code xk93 (.code xk94 (.code xk95 (.code xk96 (.code xk97 (.code xk98 (.code xk99 (.code xk104 (.code xk106 (.code xk107 (.code xk108 (.code xk109 (.code xk113 (.code xk114 (.code xk115 (.code xk122 (.code xk126 (.code xk128 (.code xk129 (.code xk130 (.code xk132 (.code xk134 (.code xk137 (.code xk138 (.code xk139 (.code xk140 (.code xk141 (.code xk142 (.code xk148 (.code xk151 (.code xk162 (.code xk163 (.code xk166 (.code xk171 (.code xk178 (.code xk179 (.code xk180 (.code xk187 (.code xk188 (.code xk189 (.code xk190 (.code xk191 (.code xk192 (.code xk193 (.code xk204 (.code xk205 (.code xk207 (.code xk209 (.code xk210 (.code xk221 (.code xk222 (.code xk229 (.code xk230 (.code xk236 (.code xk239 (.code xk240 (.code xk256 (.nat nSort_ok nSort_c (.nat nAdd_ok nAdd_c (.nat nSum_ok nSum_c .nil)))))))))))))))))))))))))))))))))))))))))))))))))))))))))))))))))))))))))))))))))))))))))))))))))))))))))))))))))))))))))))))))))
end Go.V
