/- Numbers in decimal digits: the document's reading, and the library's. -/
import Derived.Test.YtaeoiobjddknbaaDoorMA63
import Derived.Test.YtaeoiobjddknbaaDoorMN1
import Derived.Test.YtaeoiobjddknbaaDoorProg
namespace Go.V
open Go.Lib (decDigits itoa parseIntB parseUintB parseUintM)
set_option linter.unusedSimpArgs false
set_option linter.unnecessarySimpa false
set_option linter.unusedVariables false
def natGo : List UInt8 → Nat → Option Nat
 | [], n => some n
 | c :: r, n => if 48 ≤ c.toNat ∧ c.toNat ≤ 57 then (if 18446744073709551615 < 10 * n + (c.toNat - 48) then none else natGo r (10 * n + (c.toNat - 48))) else none
def natF (l : List UInt8) : Option Nat := if l = [] ∨ (1 < l.length ∧ l.head? = some 48) then none else natGo l 0
def numI (l : List UInt8) : Option Int :=
 if l.head? = some 45 then (natF l.tail).bind fun n => if n = 0 ∨ 9223372036854775808 < n then none else some (-(n : Int))
 else (natF l).bind fun n => if 9223372036854775807 < n then none else some (n : Int)
theorem natGo_append : ∀ (l l' : List UInt8) (n : Nat), natGo (l ++ l') n = (natGo l n).bind (natGo l')
 | [], l', n => rfl
 | c :: r, l', n => by
  simp only [List.cons_append, natGo]
  split
  ·split
   ·rfl
   ·exact natGo_append r l' _
  ·rfl
theorem dec_small {u : Nat} (h : u < 10) : decDigits u = [UInt8.ofNat (48 + u)] := by rw [decDigits, dif_pos h]
theorem dec_big {u : Nat} (h : ¬ u < 10) : decDigits u = decDigits (u / 10) ++ [UInt8.ofNat (48 + u % 10)] := by rw [decDigits, dif_neg h]
theorem ofNat_dig {d : Nat} (h : d < 10) : (UInt8.ofNat (48 + d)).toNat = 48 + d := by
 rw [UInt8.toNat_ofNat']
 omega
theorem natGo_dec (u : Nat) : u ≤ 18446744073709551615 → natGo (decDigits u) 0 = some u := by
 induction u using Nat.strongRecOn with
 | ind u ih =>
  intro hu
  by_cases h : u < 10
  ·rw [dec_small h]
   simp only [natGo, ofNat_dig h]
   rw [if_pos (by omega), if_neg (by omega)]
   congr 1
   omega
  ·rw [dec_big h, natGo_append, ih (u / 10) (by omega) (by omega)]
   have hd : u % 10 < 10 := Nat.mod_lt _ (by decide)
   simp only [Option.bind_some, natGo, ofNat_dig hd]
   rw [if_pos (by omega), if_neg (by omega)]
   congr 1
   omega
theorem dec_head (u : Nat) : 0 < u → ∃ c r, decDigits u = c :: r ∧ c ≠ 48 ∧ c ≠ 45 := by
 induction u using Nat.strongRecOn with
 | ind u ih =>
  intro hu
  by_cases h : u < 10
  ·refine ⟨_, [], dec_small h, ?_, ?_⟩
   ·intro e
    have := congrArg UInt8.toNat e
    rw [ofNat_dig h] at this
    simp at this
    omega
   ·intro e
    have := congrArg UInt8.toNat e
    rw [ofNat_dig h] at this
    simp at this
    omega
  ·obtain ⟨c, r, e, h1, h2⟩ := ih (u / 10) (by omega) (by omega)
   exact ⟨c, r ++ [UInt8.ofNat (48 + u % 10)], by rw [dec_big h, e]; rfl, h1, h2⟩
theorem dec_zero : decDigits 0 = [48] := by rw [dec_small (by decide)]; rfl
theorem natF_dec {u : Nat} (hu : u ≤ 18446744073709551615) : natF (decDigits u) = some u := by
 unfold natF
 rw [if_neg, natGo_dec u hu]
 rcases Nat.eq_zero_or_pos u with rfl | h
 ·rw [dec_zero]; simp
 ·obtain ⟨c, r, e, h1, _⟩ := dec_head u h
  rw [e]
  simp [h1]
theorem dig_back {c : UInt8} (h : 48 ≤ c.toNat ∧ c.toNat ≤ 57) : UInt8.ofNat (48 + (c.toNat - 48)) = c := by
 rw [show 48 + (c.toNat - 48) = c.toNat by omega]
 simp
theorem dec_natGo : ∀ (l : List UInt8) (n m : Nat), 0 < n → natGo l n = some m → decDigits m = decDigits n ++ l
 | [], n, m, _, h => by cases h; simp
 | c :: r, n, m, hn, h => by
  simp only [natGo] at h
  split at h
  ·rename_i hc
   split at h
   ·cases h
   ·have ih := dec_natGo r _ m (by omega) h
    rw [ih, dec_big (by omega)]
    have e1 : (10 * n + (c.toNat - 48)) / 10 = n := by omega
    have e2 : (10 * n + (c.toNat - 48)) % 10 = c.toNat - 48 := by omega
    rw [e1, e2, dig_back hc]
    simp
  ·cases h
theorem dec_natF {l : List UInt8} {m : Nat} (h : natF l = some m) : decDigits m = l := by
 unfold natF at h
 split at h
 ·cases h
 ·rename_i hl
  cases l with
  | nil => simp at hl
  | cons c r =>
   simp only [natGo] at h
   split at h
   ·rename_i hc
    split at h
    ·cases h
    ·simp only [Nat.mul_zero, Nat.zero_add] at h
     by_cases hz : c.toNat - 48 = 0
     ·have hc48 : c = 48 := by
       have h1 := dig_back hc
       rw [hz] at h1
       exact h1.symm
      subst hc48
      have hr : r = [] := by
       cases r with
       | nil => rfl
       | cons x y => simp at hl
      subst hr
      rw [hz] at h
      cases h
      exact dec_zero
     ·rw [dec_natGo r _ m (by omega) h, dec_small (by omega), dig_back hc]
      rfl
   ·cases h
theorem natGo_le : ∀ (l : List UInt8) (n m : Nat), n ≤ 18446744073709551615 → natGo l n = some m → m ≤ 18446744073709551615
 | [], n, m, hn, h => by cases h; exact hn
 | c :: r, n, m, hn, h => by
  simp only [natGo] at h
  split at h
  ·split at h
   ·cases h
   ·exact natGo_le r _ m (by omega) h
  ·cases h
theorem parse_natGo : ∀ (l : List UInt8) (n m : Nat), natGo l n = some m → parseUintM (2 ^ 64 - 1) n l = .ok m
 | [], n, m, h => by cases h; rfl
 | c :: r, n, m, h => by
  simp only [natGo] at h
  split at h
  ·rename_i hc
   split at h
   ·cases h
   ·rename_i hlt
    simp only [parseUintM]
    rw [if_pos hc, if_neg (by omega), if_neg (by omega), Nat.mul_comm n 10]
    exact parse_natGo r _ m h
  ·cases h
theorem parse_natF {l : List UInt8} {m : Nat} (h : natF l = some m) : parseUintB 64 l = .ok m ∧ m ≤ 18446744073709551615 := by
 unfold natF at h
 split at h
 ·cases h
 ·rename_i hl
  have h0 : l ≠ [] := fun e => hl (.inl e)
  exact ⟨by unfold parseUintB; rw [if_neg h0]; exact parse_natGo l 0 m h, natGo_le l 0 m (by decide) h⟩
theorem numI_parse {l : List UInt8} {v : Int} (h : numI l = some v) : parseIntB 64 l = .ok v ∧ itoa v = l := by
 unfold numI at h
 split at h
 ·rename_i hh
  cases l with
  | nil => simp at hh
  | cons c r =>
   simp only [List.head?_cons, Option.some.injEq] at hh
   subst hh
   simp only [List.tail_cons] at h
   cases hn : natF r with
   | none => rw [hn] at h; cases h
   | some n =>
    rw [hn] at h
    simp only [Option.bind_some] at h
    split at h
    ·cases h
    ·rename_i hb
     cases h
     obtain ⟨h1, h2⟩ := parse_natF hn
     have e := dec_natF hn
     constructor
     ·rw [Go.Lib.parseIntB_minus, h1]
      simp only [Go.Lib.signedC]
      first
       | (rw [if_neg (by omega)]; done)
       | (rw [if_neg (by omega)])
       | (simp; omega)
     ·unfold itoa
      rw [if_pos (by omega)]
      have : (-(n : Int)).natAbs = n := by omega
      rw [this, e]
 ·rename_i hh
  cases hn : natF l with
  | none => rw [hn] at h; cases h
  | some n =>
   rw [hn] at h
   simp only [Option.bind_some] at h
   split at h
   ·cases h
   ·rename_i hb
    cases h
    obtain ⟨h1, h2⟩ := parse_natF hn
    have e := dec_natF hn
    have e43 : ∀ c r, l = c :: r → 48 ≤ c.toNat ∧ c.toNat ≤ 57 := by
     rintro c r rfl
     unfold natF at hn
     split at hn
     ·cases hn
     ·simp only [natGo] at hn
      split at hn
      ·rename_i hc; exact hc
      ·cases hn
    constructor
    ·cases l with
     | nil => unfold natF at hn; simp at hn
     | cons c r =>
      have hc := e43 c r rfl
      rw [Go.Lib.parseIntB_plain 64 c r (by omega) (by omega), h1]
      simp only [Go.Lib.signlessC]
      first
       | (rw [if_neg (by omega)]; done)
       | (rw [if_neg (by omega)])
       | (simp; omega)
    ·unfold itoa
     rw [if_neg (by omega)]
     have : ((n : Int)).toNat = n := by omega
     rw [this, e]
theorem parse_numI {l : List UInt8} {v : Int} (h1 : parseIntB 64 l = .ok v) (h2 : itoa v = l) : numI l = some v := by
 have hb := Go.Lib.parseIntB_bounds h1
 have e3 : ((2 ^ (64 - 1) : Nat) : Int) = 9223372036854775808 := by decide
 rw [e3] at hb
 unfold itoa at h2
 unfold numI
 split at h2
 ·rename_i hv
  subst h2
  rw [if_pos (by simp), List.tail_cons, natF_dec (by omega)]
  simp only [Option.bind_some]
  rw [if_neg (by omega)]
  congr 1
  omega
 ·rename_i hv
  have hh : ¬ l.head? = some 45 := by
   rw [← h2]
   rcases Nat.eq_zero_or_pos v.toNat with h | h
   ·rw [h, dec_zero]; decide
   ·obtain ⟨c, r, e, _, h4⟩ := dec_head _ h
    rw [e]
    simpa using h4
  rw [if_neg hh, ← h2, natF_dec (by omega)]
  simp only [Option.bind_some]
  rw [if_neg (by omega)]
  congr 1
  omega
theorem intP_numI (s : ByteArray) : intP s = numI s.data.toList := by
 unfold intP
 have hs : ∀ v, itoaB v = s ↔ itoa v = s.data.toList := by
  intro v
  constructor
  ·intro h; rw [← h]; simp [itoaB, bsOf]
  ·intro h; unfold itoaB bsOf; rw [h]
 cases hn : numI s.data.toList with
 | some v =>
  obtain ⟨h1, h2⟩ := numI_parse hn
  rw [h1]
  simp only [(hs v).2 h2, if_true]
 | none =>
  rcases hp : parseIntB 64 s.data.toList with v | _ | _
  ·
   simp only
   split
   ·rename_i h
    rw [parse_numI hp ((hs v).1 h)] at hn
    cases hn
   ·rfl
  ·rfl
  ·rfl
end Go.V
namespace Go.V
set_option linter.unusedSimpArgs false
set_option linter.unnecessarySimpa false
open Go.Proofs
def a3 : AS := qS [q 2 (.mv qf)] [0] (.seq (qS [q 9 (.call 8 [] []), q 10 (.not (.t 9))] [0,10] (.cond (.t 10) (qS [q 2 (.mv qf)] [2] .ret) .skip)) (qS [q0 12 0, qX 9 13 [.t 12], q0 11 13, q 14 (.ext (.t 11) 0), q 15 (.ext (.t 11) 1), q 16 (.ext (.t 11)
 2), q 3 (.alc [.nils, .nils]), q6 2 3 14, q0 4 15, q0 5 16] [0,3,4,5] (qS [q0 18 0, qX 10 19 [.t 18], q0 17 19, q 20 (.ext (.t 17) 0), q 21 (.ext (.t 17) 1), q 22 (.ext (.t 17) 2), q 6 (.alc [.nils, .nils]), q6 2 6 20, q0 7 21, q0 8 22]
 [3,4,5,6,7,8] (.seq (.regD [q 23 (.ldA 2 (.t 3)), qX 12 24 [.t 23], q 25 (.ldA 2 (.t 6)), q 26 (.call 11 [none, none] [.t 24, .t 25]), q0 27 26, q1 28 4 27, q1 29 7 27, qT 30 (.bin .eql (.t 28) (.t 29)) 27, q 31 (.pick (.t 27) (.t 30) qf),
 q0 32 31, q1 33 5 32, q1 34 8 32, qT 35 (.bin .eql (.t 33) (.t 34)) 32, q 36 (.pick (.t 32) (.t 35) qf), q0 2 36] [.q 0, .q 2, .e 1 [2], .e 3 [], .q 4, .q 5, .q 6, .q 7, .q 8, .q 9, .q 10, .q 11, .q 12, .q 13, .q 14] [2]) .ret))))
def r3 : List RT := [.t 2]
def a4 : AS := qS [q 3 (.box (.t 0)), q 6 (.mv qf)] [1,2,3] (.seq (qS [q 16 (.call 8 [] []), q 17 (.not (.t 16)), q0 18 17, qF 19 (.ldA 2 (.t 3)) 18, qF 20 (.call 13 [none] [.t 19]) 18, qF 21 (.not (.t 20)) 18, q 22 (.pick (.t 18) qt (.t 21)), q0 23 22, q2
 24 1 23, qF 25 (.len .i (.t 24)) 23, qF 26 (.bin .gtr (.t 25) (qI 1000)) 23, q 27 (.pick (.t 23) qt (.t 26)), q0 28 27, q2 29 2 28, qF 30 (.len .i (.t 29)) 28, qF 31 (.bin .gtr (.t 30) (qI 5000)) 28, q 32 (.pick (.t 28) qt (.t 31))]
 [1,2,3,32] (.cond (.t 32) (qS [q 33 (.call 8 [] []), q0 6 33] [6] .ret) .skip)) (qS [q 35 (.ldA 2 (.t 3)), qX 15 36 [.t 35], qX 14 37 [.t 36], q0 34 37, q 38 (.ext (.t 34) 0), q 39 (.ext (.t 34) 1), q0 7 38, q0 8 39] [1,2,3,7,8] (.seq (qS
 [q0 40 1, q 41 (.len .i (.t 40)), q 42 (.mv (qI 0))] [1,2,3,7,8,41,42] (.block 0 (.loop 1 [1,2,3,7,8,41,42] (qS [q 43 (.bin .lss (.t 42) (.t 41))] [1,2,3,7,8,41,42,43] (.seq (.cond (.t 43) .skip (.exit 0)) (.seq (.block 1 (qS [q0 44 42, q0 9
 44] [1,2,3,7,8,9,41,42] (qS [q0 45 1, q0 46 9, q 47 (.ixS (.t 45) (.t 46)), q 48 (.bin .eql (.t 47) (.c (.int .u8 10)))] [1,2,3,7,8,41,42,48] (.cond (.t 48) (qS [q 6 (.mv qt)] [6] .ret) .skip)))) (.reg [q 49 (.bin .add (.t 42) (qI 1)), q0 42
 49] [1,2,3,7,8,41,42]))))))) (qS [q0 51 1, q 52 (.bin .add (.t 51) (.c (.str ⟨#[10]⟩))), qX 9 53 [.t 52], q0 50 53, q 54 (.ext (.t 50) 0), q 55 (.ext (.t 50) 1), q 56 (.ext (.t 50) 2), q 10 (.alc [.nils, .nils]), q6 2 10 54, q0 11 55, q0 12
 56] [1,2,3,7,8,11,12] (.seq (qS [q0 57 8, q 58 (.bin .neq (.t 57) (qI 0)), q0 59 58, q2 60 12 59, qF 61 (.bin .neq (.t 60) (qI 2)) 59, q 62 (.pick (.t 59) qt (.t 61)), q0 63 62, q2 64 11 63, qF 65 (.bin .neq (.t 64) (qI 1)) 63, q 66 (.pick
 (.t 63) qt (.t 65))] [1,2,3,7,66] (.cond (.t 66) (qS [q 6 (.mv qt)] [6] .ret) .skip)) (qS [q0 68 7, q0 69 1, q 70 (.bin .add (.t 68) (.t 69)), q 71 (.bin .add (.t 70) (.c (.str ⟨#[10]⟩))), q0 72 2, q 73 (.bin .add (.t 71) (.t 72)), qX 9 74
 [.t 73], q0 67 74, q 75 (.ext (.t 67) 0), q 76 (.ext (.t 67) 1), q 77 (.ext (.t 67) 2), q 13 (.alc [.nils, .nils]), q6 2 13 75, q0 14 76, q0 15 77] [3,13,14,15] (qS [q0 78 15, q 79 (.bin .eql (.t 78) (qI 2)), q0 80 79, q1 81 14 80, qT 82
 (.fa 0 (.t 3)) 80, qT 83 (.ld (.t 82)) 80, qT 84 (.len .s (.t 83)) 80, qT 85 (.fa 1 (.t 3)) 80, qT 86 (.ld (.t 85)) 80, qT 87 (.len .s (.t 86)) 80, qT 88 (.bin .add (.t 84) (.t 87)) 80, qT 89 (.bin .add (.t 88) (qI 1)) 80, qT 90 (.bin .eql
 (.t 81) (.t 89)) 80, q 91 (.pick (.t 80) (.t 90) qf), q0 92 91, qT 93 (.fa 1 (.t 13)) 92, qT 94 (.ld (.t 93)) 92, qT 95 (.len .s (.t 94)) 92, qT 96 (.bin .eql (.t 95) (qI 0)) 92, q 97 (.pick (.t 92) (.t 96) qf), q0 6 97] [6] .ret)))))))
def r4 : List RT := [.t 6]
def a5 : AS := qS [q 2 (.box (.t 0)), q 3 (.box (.t 1)), q 4 (.mv qf)] [2,3] (.seq (qS [q 9 (.call 8 [] []), q 10 (.not (.t 9)), q0 11 10, qF 12 (.ldA 2 (.t 2)) 11, qF 13 (.call 13 [none] [.t 12]) 11, qF 14 (.not (.t 13)) 11, q 15 (.pick (.t 11) qt (.t
 14)), q0 16 15, qF 17 (.ldA 2 (.t 3)) 16, qF 18 (.call 13 [none] [.t 17]) 16, qF 19 (.not (.t 18)) 16, q 20 (.pick (.t 16) qt (.t 19))] [2,3,20] (.cond (.t 20) (qS [q 21 (.call 8 [] []), q0 4 21] [4] .ret) .skip)) (qS [q 23 (.ldA 2 (.t 2)),
 qX 15 24 [.t 23], qX 14 25 [.t 24], q0 22 25, q 26 (.ext (.t 22) 0), q 27 (.ext (.t 22) 1), q0 5 26, q0 6 27] [2,3,5,6] (qS [q 29 (.ldA 2 (.t 2)), qX 16 30 [.t 29], q0 28 30, q 31 (.ext (.t 28) 0), q 32 (.ext (.t 28) 1), q0 7 31, q0 8 32]
 [2,3,5,6,7,8] (.seq (.regD [q0 33 5, q0 34 7, q 35 (.bin .eql (.t 33) (.t 34)), q0 36 35, q1 37 6 36, q1 38 8 36, qT 39 (.bin .eql (.t 37) (.t 38)) 36, q 40 (.pick (.t 36) (.t 39) qf), q0 41 40, qT 42 (.ldA 2 (.t 2)) 41, qT 43 (.call 15
 [none] [.t 42]) 41, qT 44 (.call 17 [none] [.t 43]) 41, qT 45 (.ldA 2 (.t 2)) 41, qT 46 (.call 18 [none] [.t 45]) 41, qT 47 (.binB false (.t 44) (.t 46)) 41, q 48 (.pick (.t 41) (.t 47) qf), q0 49 48, qT 50 (.ldA 2 (.t 2)) 49, qT 51 (.call
 15 [none] [.t 50]) 49, qT 52 (.ldA 2 (.t 3)) 49, qT 53 (.call 15 [none] [.t 52]) 49, qT 54 (.call 19 [none, none] [.t 51, .t 53]) 49, qT 55 (.ldA 2 (.t 2)) 49, qT 56 (.ldA 2 (.t 3)) 49, qT 57 (.call 11 [none, none] [.t 55, .t 56]) 49, qT 58
 (.binB false (.t 54) (.t 57)) 49, q 59 (.pick (.t 49) (.t 58) qf), q0 4 59] [.q 0, .q 1, .q 2, .q 3, .q 4, .q 5, .q 6, .q 7, .q 8, .q 9, .q 12, .e 10 [12], .e 11 [12], .e 13 [], .q 14, .q 15, .q 16, .q 17, .q 19, .q 22, .q 23, .e 18
 [19,22,23], .e 20 [22,23], .e 21 [22,23], .e 24 [], .q 25, .q 26, .q 27] [4]) .ret))))
def r5 : List RT := [.t 4]
def r6 : List RT := [.t 4]
def r7 : List RT := [.t 4]
def a8 : AS := qS [q 0 (.mv qf)] [] (qS [q 5 (.call 9 [none] [(.c (.str ⟨#[110,97,109,101,32,54,50,10,108,111,97,100,32,48,10,112,117,115,104,32,49,10,97,100,100,10,115,116,111,114,101,32,48,10]⟩))]), q0 4 5, q 6 (.ext (.t 4) 0), q 7 (.ext (.t 4) 1), q 8
 (.ext (.t 4) 2), q 1 (.alc [.nils, .nils]), q6 2 1 6, q0 2 7, q0 3 8] [1,2,3] (qS [q0 9 3, q 10 (.bin .eql (.t 9) (qI 0)), q0 11 10, q1 12 2 11, qT 13 (.bin .eql (.t 12) (qI 0)) 11, q 14 (.pick (.t 11) (.t 13) qf), q0 15 14, qT 16 (.fa 0 (.t
 1)) 15, qT 17 (.ld (.t 16)) 15, qT 18 (.len .s (.t 17)) 15, qT 19 (.bin .eql (.t 18) (qI 1)) 15, q 20 (.pick (.t 15) (.t 19) qf), q0 21 20, qT 22 (.fa 0 (.t 1)) 21, qT 23 (.ld (.t 22)) 21, qT 24 (.ia 1 (.t 23) (qI 0)) 21, qT 25 (.ld (.t 24))
 21, qT 26 (.bin .eql (.t 25) (.c (.str ⟨#[98]⟩))) 21, q 27 (.pick (.t 21) (.t 26) qf), q0 28 27, qT 29 (.fa 1 (.t 1)) 28, qT 30 (.ld (.t 29)) 28, qT 31 (.len .s (.t 30)) 28, qT 32 (.bin .eql (.t 31) (qI 4)) 28, q 33 (.pick (.t 28) (.t 32)
 qf), q0 34 33, qT 35 (.fa 1 (.t 1)) 34, qT 36 (.ld (.t 35)) 34, qT 37 (.ia 2 (.t 36) (qI 1)) 34, qT 38 (.fa 1 (.t 37)) 34, qT 39 (.ld (.t 38)) 34, qT 40 (.bin .eql (.t 39) (qI 1)) 34, q 41 (.pick (.t 34) (.t 40) qf), q0 0 41] [0] .ret))
def r8 : List RT := [.t 0]
def a9 : AS := qS [q 2 (.alc [.nils, .nils]), q 3 (.mv (qI 0)), q 4 (.mv (qI 0))] [0,2] (.seq (qS [q0 15 0, q 16 (.len .i (.t 15)), q 17 (.bin .gtr (.t 16) (qI 20000))] [0,2,17] (.cond (.t 17) (qS [q 18 (.bld [.nils, .nils] []), q6 2 2 18, q 3 (.mv (qI
 0)), q 4 (.mv (qI 4))] [2,3,4] .ret) .skip)) (qS [q 5 (.alc [.nils, .nils])] [0,2,5] (qS [q 6 (.mv qf)] [0,2,5,6] (.seq (qS [q 7 (.mv (qI 1))] [0,2,5,6,7] (.block 0 (.lift 5 (some 0) 16 .str (.lift 5 (some 1) 16 qP (.loop 1 [0,2,5,6,7] (.seq
 (qS [q0 19 0, q 20 (.bin .neq (.t 19) (.c (qE)))] [0,2,5,6,7,20] (.cond (.t 20) .skip (.exit 0))) (.seq (.block 1 (qS [q 8 (.mv (.c (qE)))] [0,2,5,6,7] (qS [q0 24 0, q 25 (.call 24 [none, none] [.t 24, (.c (.str ⟨#[10]⟩))]), q0 23 25, q 26
 (.ext (.t 23) 0), q 27 (.ext (.t 23) 1), q 28 (.ext (.t 23) 2), q0 8 26, q0 0 27] [0,2,5,6,7,8] (.seq (qS [q0 30 8, q 31 (.call 25 [none, none] [.t 30, (.c (.str ⟨#[110,97,109,101,32]⟩))]), q0 29 31, q 32 (.ext (.t 29) 0), q 33 (.ext (.t 29)
 1), q0 9 32, q0 10 33] [0,2,5,6,7,8,9,10] (qS [q0 34 10] [0,2,5,6,7,8,9,34] (.cond (.t 34) (qS [q0 36 9, qX 26 37 [.t 36], q0 35 37, q 38 (.ext (.t 35) 0), q 39 (.ext (.t 35) 1), q0 11 38, q0 12 39] [0,2,5,6,7,11,12] (.seq (qS [q0 40 12, q
 41 (.not (.t 40))] [0,2,5,6,7,11,41] (.cond (.t 41) (qS [q 42 (.bld [.nils, .nils] []), q0 43 7, q6 2 2 42, q0 3 43, q 4 (.mv (qI 2))] [2,3,4] .ret) .skip)) (qS [q0 44 6, q0 45 44, qF 46 (.fa 1 (.t 5)) 45, qF 47 (.ld (.t 46)) 45, qF 48 (.len
 .s (.t 47)) 45, qF 49 (.bin .gtr (.t 48) (qI 0)) 45, q 50 (.pick (.t 45) qt (.t 49)), q0 6 50] [0,2,5,6,7,11] (qS [q3 51 0 5, q4 52 51, q0 53 11, q 54 (.bsl 16 .str 1 [(0, (.t 53))]), q 55 (.app 16 .str (.t 52) (.t 54)), q3 56 0 5, q6 1 56
 55] [0,2,5,6,7] (.exit 1))))) .skip))) (qS [q0 58 8, qX 27 59 [.t 58], q0 57 59, q 60 (.ext (.t 57) 0), q 61 (.ext (.t 57) 1), q 13 (.alc [.int .i64 0, .int .i64 0]), q6 2 13 60, q0 14 61] [0,2,5,6,7,13,14] (.seq (qS [q0 62 14, q 63 (.not
 (.t 62))] [0,2,5,6,7,13,63] (.cond (.t 63) (qS [q 64 (.bld [.nils, .nils] []), q0 65 7, q6 2 2 64, q0 3 65, q 4 (.mv (qI 2))] [2,3,4] .ret) .skip)) (.reg [q3 66 1 5, q4 67 66, q 68 (.ldA 2 (.t 13)), q 69 (.bsl 16 qP 1 [(0, (.t 68))]), q 70
 (.app 16 qP (.t 67) (.t 69)), q3 71 1 5, q6 1 71 70] [0,2,5,6,7]))))))) (.reg [q0 21 7, q 22 (.bin .add (.t 21) (qI 1)), q0 7 22] [0,2,5,6,7])))))))) (.seq (.seq (.frz 5 (.reg [q0 72 6, q0 73 72, qF 74 (.ldA 2 (.t 5)) 73, qF 75 (.call 17
 [none] [.t 74]) 73, qF 76 (.not (.t 75)) 73, q 77 (.pick (.t 73) qt (.t 76))] [2,5,77])) (.cond (.t 77) (qS [q 78 (.bld [.nils, .nils] []), q6 2 2 78, q 3 (.mv (qI 0)), q 4 (.mv (qI 2))] [2,3,4] .ret) .skip)) (qS [q 79 (.ldA 2 (.t 5)), q6 2
 2 79, q 3 (.mv (qI 0)), q 4 (.mv (qI 0))] [2,3,4] .ret))))))
def r9 : List RT := [.c 2 (some 2), .t 3, .t 4]
def r10 : List RT := [.c 2 (some 2), .t 3, .t 4]
def a11 : AS := qS [q 2 (.box (.t 0)), q 3 (.box (.t 1)), q 4 (.mv qf)] [2,3] (.seq (qS [q3 7 0 2, q4 8 7, q 9 (.len .s (.t 8)), q3 10 0 3, q4 11 10, q 12 (.len .s (.t 11)), q 13 (.bin .neq (.t 9) (.t 12)), q0 14 13, qF 15 (.fa 1 (.t 2)) 14, qF 16 (.ld (.t
 15)) 14, qF 17 (.len .s (.t 16)) 14, qF 18 (.fa 1 (.t 3)) 14, qF 19 (.ld (.t 18)) 14, qF 20 (.len .s (.t 19)) 14, qF 21 (.bin .neq (.t 17) (.t 20)) 14, q 22 (.pick (.t 14) qt (.t 21))] [2,3,22] (.cond (.t 22) (qS [q 4 (.mv qf)] [4] .ret)
 .skip)) (.seq (qS [q3 23 0 2, q4 24 23, q 25 (.len .s (.t 24)), q 26 (.mv (qI 0))] [2,3,25,26] (.block 0 (.loop 1 [2,3,25,26] (qS [q 27 (.bin .lss (.t 26) (.t 25))] [2,3,25,26,27] (.seq (.cond (.t 27) .skip (.exit 0)) (.seq (.block 1 (qS [q0
 28 26, q0 5 28] [2,3,5,25,26] (.seq (.regD [q3 29 0 2, q4 30 29, q0 31 5, q 32 (.ia 1 (.t 30) (.t 31)), q4 33 32, q3 34 0 3, q4 35 34, q0 36 5, q 37 (.ia 1 (.t 35) (.t 36)), q4 38 37, q 39 (.bin .neq (.t 33) (.t 38))] [.q 0, .q 1, .q 2, .q
 3, .q 4, .q 5, .q 6, .q 7, .q 8, .q 9, .q 10] [2,3,25,26,39]) (.cond (.t 39) (qS [q 4 (.mv qf)] [4] .ret) .skip)))) (.reg [q 40 (.bin .add (.t 26) (qI 1)), q0 26 40] [2,3,25,26]))))))) (.seq (qS [q3 41 1 2, q4 42 41, q 43 (.len .s (.t 42)),
 q 44 (.mv (qI 0))] [2,3,43,44] (.block 2 (.loop 2 [2,3,43,44] (qS [q 45 (.bin .lss (.t 44) (.t 43))] [2,3,43,44,45] (.seq (.cond (.t 45) .skip (.exit 2)) (.seq (.block 3 (qS [q0 46 44, q0 6 46] [2,3,6,43,44] (.seq (.regD [q3 47 1 2, q4 48
 47, q0 49 6, q 50 (.ia 2 (.t 48) (.t 49)), q 51 (.ldA 2 (.t 50)), q3 52 1 3, q4 53 52, q0 54 6, q 55 (.ia 2 (.t 53) (.t 54)), q 56 (.ldA 2 (.t 55)), q 57 (.eqS true [.int .i64, .int .i64] (.t 51) (.t 56))] [.q 0, .q 1, .q 2, .q 3, .q 4, .q
 5, .q 6, .q 7, .q 8, .q 9, .q 10] [2,3,43,44,57]) (.cond (.t 57) (qS [q 4 (.mv qf)] [4] .ret) .skip)))) (.reg [q 58 (.bin .add (.t 44) (qI 1)), q0 44 58] [2,3,43,44]))))))) (qS [q 4 (.mv qt)] [4] .ret))))
def r11 : List RT := [.t 4]
def a12 : AS := qS [q 1 (.box (.t 0)), q 2 (.alc [.nils, .nils])] [1,2] (qS [q 5 (.bsl 16 .str 0 []), q3 6 0 1, q4 7 6, q 8 (.app 16 .str (.t 5) (.t 7)), q 9 (.bld [.nils, .nils] [(0, 1, (.t 8))]), q 3 (.alc [.nils, .nils]), q6 2 3 9] [1,2,3] (.seq (qS [q3
 10 1 1, q4 11 10, q 12 (.len .s (.t 11)), q 13 (.mv (qI 0))] [1,2,3,12,13] (.block 0 (.lift 2 (some 0) 16 .str (.lift 2 (some 1) 16 qP (.lift 3 (some 0) 16 .str (.lift 3 (some 1) 16 qP (.loop 1 [1,2,3,12,13] (qS [q 14 (.bin .lss (.t 13) (.t
 12))] [1,2,3,12,13,14] (.seq (.cond (.t 14) .skip (.exit 0)) (.seq (.block 1 (qS [q0 15 13, q0 4 15] [1,2,3,4,12,13] (.regD [q3 16 1 3, q4 17 16, q3 18 1 1, q4 19 18, q0 20 4, q 21 (.ia 2 (.t 19) (.t 20)), q 22 (.ldA 2 (.t 21)), q 23 (.bsl
 16 qP 1 [(0, (.t 22))]), q 24 (.app 16 qP (.t 17) (.t 23)), q3 25 1 3, q6 1 25 24] [.q 0, .q 1, .q 2, .q 3, .q 4, .q 5, .q 6, .e 7 [0,1], .e 8 [], .q 9, .e 10 []] [1,2,3,12,13]))) (.reg [q 26 (.bin .add (.t 13) (qI 1)), q0 13 26]
 [1,2,3,12,13]))))))))))) (qS [q 27 (.ldA 2 (.t 3)), q6 2 2 27] [2] (.lift 2 (some 0) 16 .str (.lift 2 (some 1) 16 qP .ret)))))
def r12 : List RT := [.c 2 (some 2), .f 2]
def a14 : AS := qS [q 1 (.box (.t 0)), q 2 (.mv (.c (qE))), q 3 (.mv (qI 0))] [1] (.seq (qS [q 12 (.ldA 2 (.t 1)), qX 17 13 [.t 12], q 14 (.not (.t 13))] [1,14] (.cond (.t 14) (qS [q 2 (.mv (.c (qE))), q 3 (.mv (qI 1))] [2,3] .ret) .skip)) (qS [q 4 (.alcT
 71 [.nilp, .nils])] [1,4] (.seq (qS [q3 15 0 1, q4 16 15, q 17 (.len .s (.t 16)), q 18 (.mv (qI 0))] [1,4,16,17,18] (.block 0 (.loop 1 [1,4,16,17,18] (qS [q 19 (.bin .lss (.t 18) (.t 17))] [1,4,16,17,18,19] (.seq (.cond (.t 19) .skip (.exit
 0)) (.seq (.block 1 (qS [q 20 (.ia 1 (.t 16) (.t 18)), q4 21 20, q0 6 21] [1,4,6,16,17,18] (.reg [q0 22 6, qX 31 23 [.t 22], q 24 (.bin .add (.c (.str ⟨#[110,97,109,101,32]⟩)) (.t 23)), q 25 (.bin .add (.t 24) (.c (.str ⟨#[10]⟩))), q 26
 (.call 30 [none, none] [.t 4, .t 25])] [1,4,16,17,18]))) (.reg [q 27 (.bin .add (.t 18) (qI 1)), q0 18 27] [1,4,16,17,18]))))))) (.seq (qS [q3 28 1 1, q4 29 28, q 30 (.len .s (.t 29)), q 31 (.mv (qI 0))] [4,29,30,31] (.block 2 (.loop 2
 [4,29,30,31] (qS [q 32 (.bin .lss (.t 31) (.t 30))] [4,29,30,31,32] (.seq (.cond (.t 32) .skip (.exit 2)) (.seq (.block 3 (qS [q 33 (.ia 2 (.t 29) (.t 31)), q 34 (.ldA 2 (.t 33)), q 8 (.alc [.int .i64 0, .int .i64 0]), q6 2 8 34]
 [4,8,29,30,31] (qS [q3 36 0 8, q4 37 36, qX 32 38 [.t 37], q0 35 38, q 39 (.ext (.t 35) 0), q 40 (.ext (.t 35) 1), q 41 (.ext (.t 35) 2), q0 9 39, q0 10 40, q0 11 41] [4,8,9,10,29,30,31] (qS [q0 42 9, q 43 (.call 30 [none, none] [.t 4, .t
 42])] [4,8,10,29,30,31] (.seq (qS [q0 44 10, q 45 (.bin .neq (.t 44) (qI 0))] [4,8,29,30,31,45] (.cond (.t 45) (.reg [q3 46 1 8, q4 47 46, q 48 (.call 33 [none, none] [.t 47, qI 10]), q 49 (.bin .add (.c (.str ⟨#[32]⟩)) (.t 48)), q 50 (.call
 30 [none, none] [.t 4, .t 49])] [4,29,30,31]) .skip)) (.reg [q 51 (.call 30 [none, none] [.t 4, (.c (.str ⟨#[10]⟩))])] [4,29,30,31])))))) (.reg [q 52 (.bin .add (.t 31) (qI 1)), q0 31 52] [4,29,30,31]))))))) (qS [qX 34 53 [.t 4], q0 2 53, q
 3 (.mv (qI 0))] [2,3] .ret)))))
def r14 : List RT := [.t 2, .t 3]
def a20 : AS := qS [q 1 (.box (.t 0)), q 2 (.mv (.c (.nils))), q 3 (.mv (qI 0))] [1] (.seq (qS [q 9 (.ldA 2 (.t 1)), qX 17 10 [.t 9], q 11 (.not (.t 10))] [1,11] (.cond (.t 11) (qS [q 2 (.mv (.c (.nils))), q 3 (.mv (qI 1))] [2,3] (.lift 2 none 1 .byte
 .ret)) .skip)) (qS [q 12 (.call 42 [] []), q0 4 12] [1,4] (qS [q0 13 4, q3 14 0 1, q4 15 14, q 16 (.len .s (.t 15)), q 17 (.cv .u64 (.t 16)), q 18 (.call 43 [none, none] [.t 13, .t 17])] [1,4] (.seq (qS [q3 19 0 1, q4 20 19, q 21 (.len .s
 (.t 20)), q 22 (.mv (qI 0))] [1,4,20,21,22] (.block 0 (.lift 4 (some 0) 1 .byte (.loop 1 [1,4,20,21,22] (qS [q 23 (.bin .lss (.t 22) (.t 21))] [1,4,20,21,22,23] (.seq (.cond (.t 23) .skip (.exit 0)) (.seq (.block 1 (qS [q 24 (.ia 1 (.t 20)
 (.t 22)), q4 25 24, q0 6 25] [1,4,6,20,21,22] (.reg [q0 26 4, q0 27 6, q 28 (.call 44 [none, none] [.t 26, .t 27])] [1,4,20,21,22]))) (.reg [q 29 (.bin .add (.t 22) (qI 1)), q0 22 29] [1,4,20,21,22])))))))) (qS [q0 30 4, q3 31 1 1, q4 32 31,
 q 33 (.len .s (.t 32)), q 34 (.cv .u64 (.t 33)), q 35 (.call 43 [none, none] [.t 30, .t 34])] [1,4] (.seq (qS [q3 36 1 1, q4 37 36, q 38 (.len .s (.t 37)), q 39 (.mv (qI 0))] [4,37,38,39] (.block 2 (.lift 4 (some 0) 1 .byte (.loop 2
 [4,37,38,39] (qS [q 40 (.bin .lss (.t 39) (.t 38))] [4,37,38,39,40] (.seq (.cond (.t 40) .skip (.exit 2)) (.seq (.block 3 (qS [q 41 (.ia 2 (.t 37) (.t 39)), q 42 (.ldA 2 (.t 41)), q 8 (.alc [.int .i64 0, .int .i64 0]), q6 2 8 42]
 [4,8,37,38,39] (qS [q0 43 4, q3 44 0 8, q4 45 44, q 46 (.cv .u64 (.t 45)), q 47 (.call 43 [none, none] [.t 43, .t 46])] [4,8,37,38,39] (.reg [q0 48 4, q3 49 1 8, q4 50 49, q 51 (.call 45 [none, none] [.t 48, .t 50])] [4,37,38,39])))) (.reg
 [q 52 (.bin .add (.t 39) (qI 1)), q0 39 52] [4,37,38,39])))))))) (qS [q0 53 4, qX 46 54 [.t 53], q0 2 54, q 3 (.mv (qI 0))] [2,3] (.lift 2 none 1 .byte .ret))))))))
def r20 : List RT := [.t 2, .t 3]
def a21 : AS := qS [q 1 (.box (.t 0)), q 2 (.mv (.c (.nils))), q 3 (.mv (qI 0))] [1] (.seq (qS [q 7 (.ldA 2 (.t 1)), qX 18 8 [.t 7], q 9 (.not (.t 8))] [1,9] (.cond (.t 9) (qS [q 2 (.mv (.c (.nils))), q 3 (.mv (qI 1))] [2,3] (.lift 2 none 1 .byte .ret))
 .skip)) (qS [q3 10 0 1, q4 11 10, q 12 (.len .s (.t 11)), q 13 (.cv .u64 (.t 12)), q 14 (.call 47 [none, none] [(.c (.nils)), .t 13]), q0 4 14] [1,4] (.seq (qS [q3 15 0 1, q4 16 15, q 17 (.len .s (.t 16)), q 18 (.mv (qI 0))] [1,4,17,18]
 (.block 0 (.lift 4 none 1 .byte (.loop 1 [1,4,17,18] (qS [q 19 (.bin .lss (.t 18) (.t 17))] [1,4,17,18,19] (.seq (.cond (.t 19) .skip (.exit 0)) (.seq (.block 1 (qS [q0 20 18, q0 5 20] [1,4,5,17,18] (.reg [q0 21 4, q3 22 0 1, q4 23 22, q0 24
 5, q 25 (.ia 1 (.t 23) (.t 24)), q4 26 25, q 27 (.call 48 [none, none] [.t 21, .t 26]), q0 4 27] [1,4,17,18]))) (.reg [q 28 (.bin .add (.t 18) (qI 1)), q0 18 28] [1,4,17,18])))))))) (qS [q0 29 4, q3 30 1 1, q4 31 30, q 32 (.len .s (.t 31)),
 q 33 (.cv .u64 (.t 32)), q 34 (.call 47 [none, none] [.t 29, .t 33]), q0 4 34] [1,4] (.seq (qS [q3 35 1 1, q4 36 35, q 37 (.len .s (.t 36)), q 38 (.mv (qI 0))] [1,4,37,38] (.block 2 (.lift 4 none 1 .byte (.loop 2 [1,4,37,38] (qS [q 39 (.bin
 .lss (.t 38) (.t 37))] [1,4,37,38,39] (.seq (.cond (.t 39) .skip (.exit 2)) (.seq (.block 3 (qS [q0 40 38, q0 6 40] [1,4,6,37,38] (.regD [q0 41 4, q3 42 1 1, q4 43 42, q0 44 6, q 45 (.ia 2 (.t 43) (.t 44)), q3 46 0 45, q4 47 46, q 48 (.cv
 .u64 (.t 47)), q 49 (.call 47 [none, none] [.t 41, .t 48]), q3 50 1 1, q4 51 50, q0 52 6, q 53 (.ia 2 (.t 51) (.t 52)), q3 54 1 53, q4 55 54, q 56 (.call 49 [none, none] [.t 49, .t 55]), q0 4 56] [.q 0, .q 1, .q 2, .q 3, .q 4, .q 5, .q 6, .q
 7, .q 9, .q 10, .q 11, .q 12, .q 13, .q 14, .e 8 [9,10,11,12,13,14], .e 15 [], .e 16 []] [1,4,37,38]))) (.reg [q 57 (.bin .add (.t 38) (qI 1)), q0 38 57] [1,4,37,38])))))))) (qS [q0 58 4, q0 2 58, q 3 (.mv (qI 0))] [2,3] (.lift 2 none 1
 .byte .ret)))))))
def a22 : AS := qS [q 2 (.alc [.nils, .nils]), q 3 (.mv (qI 0))] [0,2] (qS [q0 8 0, q 9 (.call 50 [(some (1, .byte))] [.t 8]), q0 4 9] [2,4] (qS [q 5 (.alc [.nils, .nils])] [2,4,5] (qS [q0 10 4, qX 51 11 [.t 10], q0 6 11] [2,4,5,6] (.seq (qS [q0 12 6, q 13
 (.bin .gtr (.t 12) (.c (.int .u64 8)))] [2,4,5,6,13] (.cond (.t 13) (qS [q 14 (.bld [.nils, .nils] []), q6 2 2 14, q 3 (.mv (qI 2))] [2,3] .ret) .skip)) (.seq (qS [q0 15 6, q 16 (.mv (.c (.int .u64 0)))] [2,4,5,15,16] (.block 0 (.lift 4
 (some 0) 1 .byte (.lift 5 (some 0) 16 .str (.lift 5 (some 1) 16 qP (.loop 1 [2,4,5,15,16] (qS [q 17 (.bin .lss (.t 16) (.t 15))] [2,4,5,15,16,17] (.seq (.cond (.t 17) .skip (.exit 0)) (.seq (.block 1 (.regD [q3 18 0 5, q4 19 18, q0 20 4, qX
 52 21 [.t 20], q 22 (.bsl 16 .str 1 [(0, (.t 21))]), q 23 (.app 16 .str (.t 19) (.t 22)), q3 24 0 5, q6 1 24 23] [.q 0, .q 1, .q 2, .e 3 [0,1], .e 4 [0,1], .e 5 [], .q 6, .e 7 []] [2,4,5,15,16])) (.reg [q 25 (.bin .add (.t 16) (.c (.int .u64
 1))), q0 16 25] [2,4,5,15,16])))))))))) (.seq (qS [q0 26 4, qX 51 27 [.t 26], q0 6 27] [2,4,5,6] (qS [q0 28 6, q 29 (.bin .gtr (.t 28) (.c (.int .u64 200)))] [2,4,5,6,29] (.cond (.t 29) (qS [q 30 (.bld [.nils, .nils] []), q6 2 2 30, q 3 (.mv
 (qI 2))] [2,3] .ret) .skip))) (.seq (qS [q0 31 6, q 32 (.mv (.c (.int .u64 0)))] [2,4,5,31,32] (.block 2 (.lift 4 (some 0) 1 .byte (.lift 5 (some 0) 16 .str (.lift 5 (some 1) 16 qP (.loop 2 [2,4,5,31,32] (qS [q 33 (.bin .lss (.t 32) (.t
 31))] [2,4,5,31,32,33] (.seq (.cond (.t 33) .skip (.exit 2)) (.seq (.block 3 (qS [q0 34 4, qX 51 35 [.t 34], q0 7 35] [2,4,5,7,31,32] (.regD [q3 36 1 5, q4 37 36, q0 38 7, q 39 (.mm false (.t 38) (.c (.int .u64 200))), q 40 (.cv .i64 (.t
 39)), q0 41 4, qX 53 42 [.t 41], q 43 (.bld [.int .i64 0, .int .i64 0] [(0, 1, (.t 40)), (1, 1, (.t 42))]), q 44 (.bsl 16 qP 1 [(0, (.t 43))]), q 45 (.app 16 qP (.t 37) (.t 44)), q3 46 1 5, q6 1 46 45] [.q 0, .q 1, .q 2, .q 3, .q 4, .q 5, .e
 6 [0,1,2,3,4], .q 7, .e 8 [0,1], .e 9 [], .q 10, .e 11 []] [2,4,5,31,32]))) (.reg [q 47 (.bin .add (.t 32) (.c (.int .u64 1))), q0 32 47] [2,4,5,31,32])))))))))) (.seq (.seq (.frz 5 (.reg [q0 48 4, qX 54 49 [.t 48], q 50 (.not (.t 49)), q0
 51 50, qF 52 (.ldA 2 (.t 5)) 51, qF 53 (.call 17 [none] [.t 52]) 51, qF 54 (.not (.t 53)) 51, q 55 (.pick (.t 51) qt (.t 54))] [2,5,55])) (.cond (.t 55) (qS [q 56 (.bld [.nils, .nils] []), q6 2 2 56, q 3 (.mv (qI 2))] [2,3] .ret) .skip)) (qS
 [q 57 (.ldA 2 (.t 5)), q6 2 2 57, q 3 (.mv (qI 0))] [2,3] .ret)))))))))
def r22 : List RT := [.c 2 (some 2), .t 3]
def a26 : AS := qS [q 2 (.mv (.c (qE))), q 3 (.mv qf)] [0] (.seq (qS [q0 8 0, q 9 (.len .i (.t 8)), q 10 (.bin .rem (.t 9) (qI 2)), q 11 (.bin .neq (.t 10) (qI 0))] [0,11] (.cond (.t 11) (qS [q 2 (.mv (.c (qE))), q 3 (.mv qf)] [2,3] .ret) .skip)) (qS [q 4
 (.alcT 71 [.nilp, .nils])] [0,4] (.seq (qS [q 5 (.mv (qI 0))] [0,4,5] (.block 0 (.loop 1 [0,4,5] (.seq (qS [q0 12 5, q0 13 0, q 14 (.len .i (.t 13)), q 15 (.bin .lss (.t 12) (.t 14))] [0,4,5,15] (.cond (.t 15) .skip (.exit 0))) (.seq (.block
 1 (.seq (.regD [q0 18 0, q0 19 5, q 20 (.ixS (.t 18) (.t 19)), q 21 (.call 62 [none, none] [(.c (.str ⟨#[48,49,50,51,52,53,54,55,56,57,97,98,99,100,101,102]⟩)), .t 20]), q0 22 0, q0 23 5, q 24 (.bin .add (.t 23) (qI 1)), q 25 (.ixS (.t 22)
 (.t 24)), q 26 (.call 62 [none, none] [(.c (.str ⟨#[48,49,50,51,52,53,54,55,56,57,97,98,99,100,101,102]⟩)), .t 25]), q0 6 21, q0 7 26] [.q 0, .q 1, .q 2, .q 4, .q 5, .q 6, .q 7, .e 3 [4,5,6,7], .e 8 [], .q 9, .q 10] [0,4,5,6,7]) (.seq (qS
 [q0 27 6, q 28 (.bin .lss (.t 27) (qI 0)), q0 29 28, q2 30 7 29, qF 31 (.bin .lss (.t 30) (qI 0)) 29, q 32 (.pick (.t 29) qt (.t 31))] [0,4,5,6,7,32] (.cond (.t 32) (qS [q 2 (.mv (.c (qE))), q 3 (.mv qf)] [2,3] .ret) .skip)) (.reg [q0 33 6,
 q 34 (.bin .shl (.t 33) (.c (.int .u64 4))), q0 35 7, q 36 (.bin .or (.t 34) (.t 35)), q 37 (.cv .u8 (.t 36)), q 38 (.call 63 [none, none] [.t 4, .t 37])] [0,4,5])))) (.reg [q0 16 5, q 17 (.bin .add (.t 16) (qI 2)), q0 5 17] [0,4,5]))))))
 (qS [qX 34 39 [.t 4], qX 34 40 [.t 4], qX 37 41 [.t 40], q0 2 39, q0 3 41] [2,3] .ret))))
def r26 : List RT := [.t 2, .t 3]
def a27 : AS := qS [q 2 (.alc [.int .i64 0, .int .i64 0]), q 3 (.mv qf)] [0,2] (qS [q0 13 0, q 14 (.call 24 [none, none] [.t 13, (.c (.str ⟨#[32]⟩))]), q0 12 14, q 15 (.ext (.t 12) 0), q 16 (.ext (.t 12) 1), q 17 (.ext (.t 12) 2), q0 4 15, q0 5 16, q0 6 17]
 [2,4,5,6] (qS [q 7 (.mv (qI 0))] [2,4,5,6,7] (.block 0 (.loop 1 [2,4,5,6,7] (.seq (.block 1 (qS [q0 21 7, qX 32 22 [.t 21], q0 20 22, q 23 (.ext (.t 20) 0), q 24 (.ext (.t 20) 1), q 25 (.ext (.t 20) 2), q0 8 23, q0 9 24, q0 10 25]
 [2,4,5,6,7,8,9,10] (.seq (qS [q0 26 10, q 27 (.not (.t 26))] [2,4,5,6,7,8,9,27] (.cond (.t 27) (qS [q 28 (.bld [.int .i64 0, .int .i64 0] []), q6 2 2 28, q 3 (.mv qf)] [2,3] .ret) .skip)) (.seq (qS [q0 29 8, q0 30 4, q 31 (.bin .neq (.t 29)
 (.t 30))] [2,4,5,6,7,9,31] (.cond (.t 31) (.exit 1) .skip)) (.seq (qS [q0 32 9, q 33 (.bin .eql (.t 32) (qI 0))] [2,5,6,7,33] (.cond (.t 33) (qS [q0 34 7, q 35 (.bld [.int .i64 0, .int .i64 0] [(0, 1, (.t 34))]), q0 36 6, q 37 (.not (.t
 36)), q6 2 2 35, q0 3 37] [2,3] .ret) .skip)) (qS [q0 39 5, qX 64 40 [.t 39], q0 38 40, q 41 (.ext (.t 38) 0), q 42 (.ext (.t 38) 1), q0 11 41, q0 10 42] [2,6,7,10,11] (qS [q0 43 7, q0 44 11, q 45 (.bld [.int .i64 0, .int .i64 0] [(0, 1, (.t
 43)), (1, 1, (.t 44))]), q0 46 6, q0 47 46, q1 48 10 47, q 49 (.pick (.t 47) (.t 48) qf), q6 2 2 45, q0 3 49] [2,3] .ret))))))) (.reg [q0 18 7, q 19 (.bin .add (.t 18) (qI 1)), q0 7 19] [2,4,5,6,7]))))))
def r27 : List RT := [.c 2 (some 2), .t 3]
def a31 : AS := qS [q 2 (.mv (.c (qE)))] [0] (qS [q 3 (.alcT 71 [.nilp, .nils])] [0,3] (.seq (qS [q0 5 0, q 6 (.len .i (.t 5)), q 7 (.mv (qI 0))] [0,3,6,7] (.block 0 (.loop 1 [0,3,6,7] (qS [q 8 (.bin .lss (.t 7) (.t 6))] [0,3,6,7,8] (.seq (.cond (.t 8)
 .skip (.exit 0)) (.seq (.block 1 (qS [q0 9 7, q0 4 9] [0,3,4,6,7] (qS [q0 10 0, q0 11 4, q 12 (.ixS (.t 10) (.t 11)), q 13 (.bin .shr (.t 12) (.c (.int .u64 4))), q 14 (.ixS (.c (.str ⟨#[48,49,50,51,52,53,54,55,56,57,97,98,99,100,101,102]⟩))
 (.t 13)), q 15 (.call 63 [none, none] [.t 3, .t 14])] [0,3,4,6,7] (.reg [q0 16 0, q0 17 4, q 18 (.ixS (.t 16) (.t 17)), q 19 (.bin .and (.t 18) (.c (.int .u8 15))), q 20 (.ixS (.c (.str
 ⟨#[48,49,50,51,52,53,54,55,56,57,97,98,99,100,101,102]⟩)) (.t 19)), q 21 (.call 63 [none, none] [.t 3, .t 20])] [0,3,6,7])))) (.reg [q 22 (.bin .add (.t 7) (qI 1)), q0 7 22] [0,3,6,7]))))))) (qS [qX 34 23 [.t 3], q0 2 23] [2] .ret)))
def r31 : List RT := [.t 2]
theorem ok8 : okF Tryd.prog 8 a8 r8 0 = true := by decide +kernel
theorem ok9 : okF Tryd.prog 9 a9 r9 1 = true := by decide +kernel
theorem ok11 : okF Tryd.prog 11 a11 r11 2 = true := by decide +kernel
theorem ok12 : okF Tryd.prog 12 a12 r12 1 = true := by decide +kernel
theorem ok14 : okF Tryd.prog 14 a14 r14 1 = true := by decide +kernel
theorem ok20 : okF Tryd.prog 20 a20 r20 1 = true := by decide +kernel
theorem ok22 : okF Tryd.prog 22 a22 r22 1 = true := by decide +kernel
theorem ok26 : okF Tryd.prog 26 a26 r26 1 = true := by decide +kernel
theorem ok27 : okF Tryd.prog 27 a27 r27 1 = true := by decide +kernel
theorem ok31 : okF Tryd.prog 31 a31 r31 1 = true := by decide +kernel
end Go.V
namespace Go.V
open Go.Proofs
set_option maxRecDepth 100000
set_option maxHeartbeats 4000000
set_option linter.unusedSimpArgs false
set_option linter.unnecessarySimpa false
set_option linter.unusedVariables false
def bS (l : List UInt8) : List SB := match l with
 | [] => [.struct [.nilp, .nils]]
 | x :: r => [.struct [.ptr 0 0, .own 1], .row true 1 .byte (x :: r)]
theorem bS_nil : bS [] = [.struct [.nilp, .nils]] := rfl
theorem bS_cons {x : UInt8} {r : List UInt8} : bS (x :: r) = [.struct [.ptr 0 0, .own 1], .row true 1 .byte (x :: r)] := rfl
theorem hexL_nil : hexL [] = [] := rfl
theorem hexL_take {l : List UInt8} {i : Nat} (h : i < l.length) : hexL (l.take (i + 1)) = hexL (l.take i) ++ hexC (l[i]) := by
 unfold hexL
 rw [List.take_succ_eq_append_getElem h, List.flatMap_append, List.flatMap_cons, List.flatMap_nil, List.append_nil]
theorem and15 {m : Int} (h0 : 0 ≤ m) (h1 : m < 256) : bitsI .and .u8 m 15 = m % 16 := by
 have : ∀ n : Nat, n < 256 → bitsI .and .u8 (n : Int) 15 = (n : Int) % 16 := by decide +kernel
 have := this m.toNat (by omega)
 rwa [Int.toNat_of_nonneg h0] at this
theorem u8_back (x : UInt8) : UInt8.ofNat ((x.toNat : Int)).toNat = x := by simp
theorem swd {c : Bool} {p : Prop} [Decidable p] {A B : Prop} (hc : c = decide p) (h1 : p → A) (h2 : ¬ p → B) : sw c A B := by
 subst hc
 exact sw_intro (fun h => h1 (of_decide_eq_true h)) (fun h => h2 (of_decide_eq_false h))
theorem swn {c : Bool} {p : Prop} [Decidable p] {A B : Prop} (hc : c = !decide p) (h1 : ¬ p → A) (h2 : p → B) : sw c A B := by
 subst hc
 exact sw_intro (fun h => h1 (by simpa using h)) (fun h => h2 (by simpa using h))
theorem hexC_def (c : UInt8) : hexC c = [hexT.getD (c.toNat / 16) 0, hexT.getD (c.toNat % 16) 0] := rfl
theorem getD_eq {l : List UInt8} {i : Nat} (h : i < l.length) : l.getD i 0 = l[i] := by simp [List.getD, h]
theorem hex_two {c : UInt8} {m1 m2 m3 m4 : Int} (h1 : m1 = (c.toNat : Int).fdiv (2 ^ min 4 8)) (h2 : m2 = ((hexT.getD m1.toNat 0).toNat : Int)) (h3 : m3 = bitsI .and .u8 (c.toNat : Int) 15) (h4 : m4 = ((hexT.getD m3.toNat 0).toNat : Int)) :
  (0 ≤ m1 ∧ m1 < 16) ∧ (0 ≤ m3 ∧ m3 < 16) ∧ [UInt8.ofNat m2.toNat, UInt8.ofNat m4.toNat] = hexC c := by
 have hc := UInt8.toNat_lt c
 rw [and15 (by omega) (by omega)] at h3
 have e1 : m1 = (c.toNat : Int) / 16 := by
  rw [h1, Int.fdiv_eq_ediv_of_nonneg _ (by decide)]
  rfl
 refine ⟨by omega, by omega, ?_⟩
 have e2 : m1.toNat = c.toNat / 16 := by omega
 have e3 : m3.toNat = c.toNat % 16 := by omega
 rw [hexC_def, h2, h4, u8_back, u8_back, e2, e3]
def hexB (s : ByteArray) : ByteArray := bsOf (hexL s.data.toList)
def C31 : Contract := fun args hp K => match args, hp with
 | [.str s], [] => s.size ≤ 100000 ∧ K (.str (hexB s)) []
 | _, _ => False
def L31 (s : ByteArray) : LoopAnn := cntA (fun i => ⟨[(0, .str s), (3, .pty 0 71), (6, .int .i64 s.size), (7, .int .i64 i)], bS (hexL (s.data.toList.take i))⟩) s.size
attribute [local irreducible] rc
theorem s31 : Sound Tryd.prog 31 C31 := by
 refine sound_of_okF ok31 (.cons s63 (callable_of_okF ok63) (.cons s34 ⟨_, Tryd.func34, rfl, by decide⟩ .nil)) ?_
 intro args hp K h
 unfold C31 at h
 split at h
 ·rename_i s
  obtain ⟨hs, h⟩ := h
  have hmx := maxLen_val
  have hl : s.data.toList.length = s.size := Array.length_toList
  refine ⟨by simp, [(1, L31 s)], ?_⟩
  simp (maxSteps:=9^9) only [a31, r31, go_sem, Int.reduceLT, Int.reduceLE, Int.reduceEq, Int.reduceNe, Int.reduceAdd, Int.reduceSub, Int.reduceMul, Int.reduceToNat, Int.reduceNeg, Nat.reduceEqDiff, Nat.reduceLeDiff, Nat.reduceSub, Nat.reduceMul, Nat.reduceLT, Nat.reduceBEq, Nat.reduceAdd]
  rintro _ m rfl
  refine loop_intro (A := L31 s) (0 : Nat) ?_ (Nat.zero_le _) ?_
  ·simp (maxSteps:=9^9) only [go_sem, Int.reduceLT, Int.reduceLE, Int.reduceEq, Int.reduceNe, Int.reduceAdd, Int.reduceSub, Int.reduceMul, Int.reduceToNat, Int.reduceNeg, Nat.reduceEqDiff, Nat.reduceLeDiff, Nat.reduceSub, Nat.reduceMul, Nat.reduceLT, Nat.reduceBEq, Nat.reduceAdd]
   rfl
  ·intro (i : Nat) (hi : i ≤ s.size)
   rcases Nat.eq_zero_or_pos i with rfl | hpos
   ·unfold L31
    simp (maxSteps:=9^9) only [cntA_I, List.take_zero, hexL_nil, bS_nil, C63, C34, go_sem, Int.reduceLT, Int.reduceLE, Int.reduceEq, Int.reduceNe, Int.reduceAdd, Int.reduceSub, Int.reduceMul, Int.reduceToNat, Int.reduceNeg, Nat.reduceEqDiff, Nat.reduceLeDiff, Nat.reduceSub, Nat.reduceMul, Nat.reduceLT, Nat.reduceBEq, Nat.reduceAdd]
    intro c hc
    refine swd hc (fun h0 => ?_) (fun h0 => ?_)
    ·refine nd_intro h0 ?_
     rintro m rfl _ _ m1 h1
     have e0 : s.data.toList.getD 0 0 = s.data.toList[0]'(by omega) := getD_eq (by omega)
     obtain ⟨k1, k2, k3⟩ := hex_two h1 rfl rfl rfl
     refine nd_intro k1 ?_
     rintro m2 h2
     refine nd_intro h0 ?_
     rintro _ rfl _ _ m3 h3
     rw [h3]
     refine nd_intro k2 ?_
     rintro m4 h4 _ _ m5 h5
     rw [w64 (by omega)] at h5
     refine cntA_next h0 ?_
     rw [h2, h4, h5]
     have e5 : hexL (s.data.toList.take (0 + 1)) = hexC (s.data.toList.getD 0 0) := by rw [hexL_take (by omega), e0]; rfl
     rw [e5, ← k3]
     rfl
    ·have e : s = ByteArray.empty := by
      have : s.data = #[] := Array.eq_empty_of_size_eq_zero (by show s.size = 0; omega)
      cases s; simp at this; subst this; rfl
     subst e
     exact h
   ·obtain ⟨x, r, e⟩ : ∃ x r, hexL (s.data.toList.take i) = x :: r := by
     obtain ⟨j, rfl⟩ : ∃ j, i = j + 1 := ⟨i - 1, by omega⟩
     rw [hexL_take (by omega)]
     cases hexL (s.data.toList.take j) with
     | nil => exact ⟨_, _, rfl⟩
     | cons x r => exact ⟨x, _, rfl⟩
    have hlen : (x :: r).length ≤ 2 * i := by
     rw [← e]
     have : ∀ l : List UInt8, (hexL l).length = 2 * l.length := by
      intro l
      induction l with
      | nil => rfl
      | cons a l ih => show (hexC a ++ hexL l).length = _; rw [List.length_append, ih, hexC_def]; simp; omega
     rw [this]
     simp
     omega
    unfold L31
    simp (maxSteps:=9^9) only [cntA_I, e, bS_cons, C63, C34, go_sem, Int.reduceLT, Int.reduceLE, Int.reduceEq, Int.reduceNe, Int.reduceAdd, Int.reduceSub, Int.reduceMul, Int.reduceToNat, Int.reduceNeg, Nat.reduceEqDiff, Nat.reduceLeDiff, Nat.reduceSub, Nat.reduceMul, Nat.reduceLT, Nat.reduceBEq, Nat.reduceAdd]
    intro c hc
    refine swd hc (fun h0 => ?_) (fun h0 => ?_)
    ·refine nd_intro h0 ?_
     rintro m rfl _ _ m1 h1
     have e0 : s.data.toList.getD i 0 = s.data.toList[i]'(by omega) := getD_eq (by omega)
     obtain ⟨k1, k2, k3⟩ := hex_two h1 rfl rfl rfl
     refine nd_intro k1 ?_
     rintro m2 h2
     simp only [List.length_cons] at hlen
     refine ⟨by omega, ?_⟩
     refine nd_intro h0 ?_
     rintro _ rfl _ _ m3 h3
     rw [h3]
     refine nd_intro k2 ?_
     rintro m4 h4
     refine ⟨by simp only [List.length_append, List.length_cons, List.length_nil]; omega, ?_⟩
     rintro _ _ m5 h5
     rw [w64 (by omega)] at h5
     refine cntA_next h0 ?_
     rw [h2, h4, h5]
     have e5 : hexL (s.data.toList.take (i + 1)) = (x :: r) ++ hexC (s.data.toList.getD i 0) := by rw [hexL_take (by omega), e0, e]
     rw [e5, ← k3]
     simp only [List.append_assoc, List.cons_append, List.nil_append, bS_cons]
     rfl
    ·have e6 : s.data.toList.take i = s.data.toList := List.take_of_length_le (by omega)
     rw [e6] at e
     unfold hexB at h
     rw [e] at h
     simp only [List.length_cons] at hlen
     exact ⟨⟨by simp, by omega⟩, h⟩
 ·exact h.elim
theorem hexL_len (l : List UInt8) : (hexL l).length = 2 * l.length := by
 induction l with
 | nil => rfl
 | cons a l ih => show (hexC a ++ hexL l).length = _; rw [List.length_append, ih, hexC_def]; simp; omega
def digI (c : UInt8) : Int := match digV c with | some x => (x : Int) | none => -1
def unhexF (s : ByteArray) : Option (List UInt8) := unhexL s.data.toList
theorem unhexL_two : ∀ (l : List UInt8) (i : Nat), 2 * i + 1 < l.length → unhexL (l.drop (2 * i)) = match digV (l.getD (2 * i) 0), digV (l.getD (2 * i + 1) 0) with
  | some x, some y => (unhexL (l.drop (2 * (i + 1)))).map (UInt8.ofNat (16 * x + y) :: ·)
  | _, _ => none := by
 intro l i h
 have e1 : l.drop (2 * i) = l.getD (2 * i) 0 :: l.getD (2 * i + 1) 0 :: l.drop (2 * (i + 1)) := by
  rw [List.drop_eq_getElem_cons (by omega), List.drop_eq_getElem_cons (by omega), getD_eq (by omega), getD_eq (by omega)]
  rfl
 rw [e1]
 rfl
theorem unhexL_len : ∀ (l r : List UInt8), unhexL l = some r → l.length = 2 * r.length
 | [], r, h => by cases h; rfl
 | [_], r, h => by cases h
 | a :: b :: t, r, h => by
  simp only [unhexL] at h
  split at h
  ·cases ht : unhexL t with
   | none => rw [ht] at h; cases h
   | some r' =>
    rw [ht] at h
    cases h
    have := unhexL_len t r' ht
    simp only [List.length_cons, this]
    omega
  ·cases h
theorem idx_hex (u : UInt8) : idxB ⟨#[48, 49, 50, 51, 52, 53, 54, 55, 56, 57, 97, 98, 99, 100, 101, 102]⟩ (u.toNat : Int) = digI u := by
 unfold idxB digI
 have e : ((u.toNat : Int)).toNat.toUInt8 = u := by simp
 rw [e]
 exact digV_idx u
theorem digI_cases (c : UInt8) : (digV c = none ∧ digI c = -1) ∨ ∃ x, digV c = some x ∧ digI c = (x : Int) ∧ x < 16 := by
 unfold digI
 cases h : digV c with
 | none => exact .inl ⟨rfl, rfl⟩
 | some x => exact .inr ⟨x, rfl, rfl, digV_lt h⟩
theorem digI_in (c : UInt8) : inR .i64 (digI c) := by
 unfold inR
 rw [i64_min, i64_max]
 rcases digI_cases c with ⟨_, h⟩ | ⟨x, _, h, hx⟩ <;> rw [h] <;> omega
theorem digI_neg {c : UInt8} (h : digI c < 0) : digV c = none := by
 rcases digI_cases c with ⟨h1, _⟩ | ⟨x, _, h2, hx⟩
 ·exact h1
 ·omega
theorem digI_pos {c : UInt8} (h : ¬ digI c < 0) : ∃ x, digV c = some x := by
 rcases digI_cases c with ⟨_, h1⟩ | ⟨x, h1, _, _⟩
 ·omega
 ·exact ⟨x, h1⟩
theorem or16 {x y : Nat} (hx : x < 16) (hy : y < 16) : bitsI .or .i64 ((16 * x : Nat) : Int) (y : Int) = ((16 * x + y : Nat) : Int) := by
 have : ∀ x : Nat, x < 16 → ∀ y : Nat, y < 16 → bitsI .or .i64 ((16 * x : Nat) : Int) (y : Int) = ((16 * x + y : Nat) : Int) := by decide +kernel
 exact this x hx y hy
def C26 : Contract := fun args hp K => match args, hp with
 | [.str s], [] => s.size ≤ 100000 ∧ (unhexF s = none → K (.tup [.str ByteArray.empty, .bool false]) []) ∧ (∀ l, unhexF s = some l → K (.tup [.str (bsOf l), .bool (keyOk (bsOf l))]) [])
 | _, _ => False
structure U26 where
 i : Nat
 l : List UInt8
def R26 (s : ByteArray) (g : U26) : Prop := 2 * g.i ≤ s.size ∧ g.l.length = g.i ∧ unhexF s = (unhexL (s.data.toList.drop (2 * g.i))).map (g.l ++ ·)
def L26 (s : ByteArray) : LoopAnn := { G := U26, I := fun g => ⟨[(0, .str s), (4, .pty 0 71), (5, .int .i64 (2 * g.i : Nat))], bS g.l⟩, R := fun _ g => R26 s g, μ := fun g => s.size - g.i }
theorem L26_I {s : ByteArray} (g : U26) : (L26 s).I g = ⟨[(0, .str s), (4, .pty 0 71), (5, .int .i64 (2 * g.i : Nat))], bS g.l⟩ := rfl
theorem s26 : Sound Tryd.prog 26 C26 := by
  refine sound_of_okF ok26 (.cons s62 ⟨_, Tryd.func62, rfl, by decide⟩ (.cons s63 (callable_of_okF ok63) (.cons s34 ⟨_, Tryd.func34, rfl, by decide⟩ (.cons s37 (callable_of_okF ok37) .nil)))) ?_
  intro args hp K h
  unfold C26 at h
  split at h
  · rename_i s
    obtain ⟨hs, hn, hk⟩ := h
    have hmx := maxLen_val
    have hl : s.data.toList.length = s.size := Array.length_toList
    refine ⟨by simp, [(1, L26 s)], ?_⟩
    simp (maxSteps:=9^9) only [a26, r26, go_sem, Int.reduceLT, Int.reduceLE, Int.reduceEq, Int.reduceNe, Int.reduceAdd, Int.reduceSub, Int.reduceMul, Int.reduceToNat, Int.reduceNeg, Nat.reduceEqDiff, Nat.reduceLeDiff, Nat.reduceSub, Nat.reduceMul, Nat.reduceLT, Nat.reduceBEq, Nat.reduceAdd]
    rintro _ _ rfl _ _ m1 hm1 c hc
    rw [Int.tmod_eq_emod_of_nonneg (by omega)] at hm1
    refine swn hc (fun h0 => ?_) (fun h0 => ?_)
    · refine hn ?_
      cases hu : unhexF s with
      | none => rfl
      | some r =>
        have := unhexL_len _ _ hu
        omega
    · refine loop_intro (A := L26 s) (⟨0, []⟩ : U26) ?_ ⟨by simp, rfl, by simp [unhexF]⟩ ?_
      · simp (maxSteps:=9^9) only [go_sem, Int.reduceLT, Int.reduceLE, Int.reduceEq, Int.reduceNe, Int.reduceAdd, Int.reduceSub, Int.reduceMul, Int.reduceToNat, Int.reduceNeg, Nat.reduceEqDiff, Nat.reduceLeDiff, Nat.reduceSub, Nat.reduceMul, Nat.reduceLT, Nat.reduceBEq, Nat.reduceAdd]
        rfl
      · rintro (⟨i, l⟩ : U26) (⟨g1, g2, g3⟩ : R26 s ⟨i, l⟩)
        simp only at g1 g2 g3
        cases l with
        | nil =>
          simp (maxSteps:=9^9) only [L26_I, bS_nil, C62, C63, C34, C37, go_sem, Int.reduceLT, Int.reduceLE, Int.reduceEq, Int.reduceNe, Int.reduceAdd, Int.reduceSub, Int.reduceMul, Int.reduceToNat, Int.reduceNeg, Nat.reduceEqDiff, Nat.reduceLeDiff, Nat.reduceSub, Nat.reduceMul, Nat.reduceLT, Nat.reduceBEq, Nat.reduceAdd]
          rintro _ _ rfl c2 hc2
          refine swd hc2 (fun hlt => ?_) (fun hlt => ?_)
          · refine nd_intro (by omega) ?_
            rintro m rfl _ _ n1 hn1
            rw [w64 (by omega)] at hn1
            refine nd_intro (by omega) ?_
            rintro m2 hm2
            have e1 : n1.toNat = 2 * i + 1 := by omega
            rw [e1] at hm2 ⊢
            subst hm2
            rw [idx_hex, idx_hex]
            generalize ea : s.data.toList.getD (2 * i) 0 = a
            generalize eb : s.data.toList.getD (2 * i + 1) 0 = b
            have hu := unhexL_two s.data.toList i (by omega)
            rw [ea, eb] at hu
            rw [hu] at g3
            refine ⟨digI_in a, ⟨fun _ _ m hm => by rw [hm, w64 (by omega), hn1], nd_intro (by omega) (fun m hm => by rw [hm])⟩, digI_in b, ?_⟩
            intro c3 hc3
            refine swd hc3 (fun hx => hn ?_) (fun hx => ?_)
            · rw [g3]
              have : digV a = none := digI_neg hx
              rw [this]
              rfl
            · intro c4 hc4
              obtain ⟨x1, ex⟩ := digI_pos hx
              refine swd hc4 (fun hy => hn ?_) (fun hy => ?_)
              · rw [g3]
                have : digV b = none := digI_neg hy
                rw [this, ex]
                rfl
              · obtain ⟨y1, ey⟩ := digI_pos hy
                have lx := digV_lt ex
                have ly := digV_lt ey
                have dx : digI a = (x1 : Int) := by unfold digI; rw [ex]
                have dy : digI b = (y1 : Int) := by unfold digI; rw [ey]
                rw [dx, dy]
                rintro _ _ n3 hn3 _ _ n4 hn4
                have e16 : (x1 : Int) * 2 ^ min 4 64 = ((16 * x1 : Nat) : Int) := by
                  show (x1 : Int) * 16 = _
                  omega
                rw [e16, w64 (by omega)] at hn3
                rw [hn3, or16 lx ly] at hn4
                rw [ex, ey] at g3
                rintro _ n5 hn5 _ _ n6 hn6
                rw [w64 (by omega)] at hn6
                rw [hn4, wu8 (by omega)] at hn5
                rw [hn5, hn6]
                refine lpE_intro (A := L26 s) (⟨i + 1, ([] : List UInt8) ++ [UInt8.ofNat (16 * x1 + y1)]⟩ : U26) ?_ ⟨by show 2 * (i + 1) ≤ s.size; omega, by simp [← g2], ?_⟩ (by show s.size - (i + 1) < s.size - i; omega)
                · rw [L26_I]
                  have e7 : ((16 * x1 + y1 : Nat) : Int).toNat = 16 * x1 + y1 := Int.toNat_natCast _
                  rw [e7]
                  have e8 : ((2 * i : Nat) : Int) + 2 = ((2 * (i + 1) : Nat) : Int) := by omega
                  rw [e8]
                  rfl
                · rw [g3]
                  simp only [Option.map_map]
                  apply congrArg (fun f => Option.map f _)
                  funext z
                  simp
          · have e9 : s.data.toList.drop (2 * i) = [] := List.drop_of_length_le (by omega)
            rw [e9] at g3
            have hf := hk _ g3
            exact hf
        | cons x r =>
          simp (maxSteps:=9^9) only [L26_I, bS_cons, C62, C63, C34, C37, go_sem, Int.reduceLT, Int.reduceLE, Int.reduceEq, Int.reduceNe, Int.reduceAdd, Int.reduceSub, Int.reduceMul, Int.reduceToNat, Int.reduceNeg, Nat.reduceEqDiff, Nat.reduceLeDiff, Nat.reduceSub, Nat.reduceMul, Nat.reduceLT, Nat.reduceBEq, Nat.reduceAdd]
          rintro _ _ rfl c2 hc2
          refine swd hc2 (fun hlt => ?_) (fun hlt => ?_)
          · refine nd_intro (by omega) ?_
            rintro m rfl _ _ n1 hn1
            rw [w64 (by omega)] at hn1
            refine nd_intro (by omega) ?_
            rintro m2 hm2
            have e1 : n1.toNat = 2 * i + 1 := by omega
            rw [e1] at hm2 ⊢
            subst hm2
            rw [idx_hex, idx_hex]
            generalize ea : s.data.toList.getD (2 * i) 0 = a
            generalize eb : s.data.toList.getD (2 * i + 1) 0 = b
            have hu := unhexL_two s.data.toList i (by omega)
            rw [ea, eb] at hu
            rw [hu] at g3
            refine ⟨digI_in a, ⟨fun _ _ m hm => by rw [hm, w64 (by omega), hn1], nd_intro (by omega) (fun m hm => by rw [hm])⟩, digI_in b, ?_⟩
            intro c3 hc3
            refine swd hc3 (fun hx => hn ?_) (fun hx => ?_)
            · rw [g3]
              have : digV a = none := digI_neg hx
              rw [this]
              rfl
            · intro c4 hc4
              obtain ⟨x1, ex⟩ := digI_pos hx
              refine swd hc4 (fun hy => hn ?_) (fun hy => ?_)
              · rw [g3]
                have : digV b = none := digI_neg hy
                rw [this, ex]
                rfl
              · obtain ⟨y1, ey⟩ := digI_pos hy
                have lx := digV_lt ex
                have ly := digV_lt ey
                have dx : digI a = (x1 : Int) := by unfold digI; rw [ex]
                have dy : digI b = (y1 : Int) := by unfold digI; rw [ey]
                rw [dx, dy]
                rintro _ _ n3 hn3 _ _ n4 hn4
                have e16 : (x1 : Int) * 2 ^ min 4 64 = ((16 * x1 : Nat) : Int) := by
                  show (x1 : Int) * 16 = _
                  omega
                rw [e16, w64 (by omega)] at hn3
                rw [hn3, or16 lx ly] at hn4
                rw [ex, ey] at g3
                have hxl : (x :: r).length ≤ 100000 := by omega
                simp only [List.length_cons] at hxl
                rintro _ n5 hn5
                refine ⟨by omega, ?_⟩
                rintro _ _ n6 hn6
                rw [w64 (by omega)] at hn6
                rw [hn4, wu8 (by omega)] at hn5
                rw [hn5, hn6]
                refine lpE_intro (A := L26 s) (⟨i + 1, (x :: r) ++ [UInt8.ofNat (16 * x1 + y1)]⟩ : U26) ?_ ⟨by show 2 * (i + 1) ≤ s.size; omega, by simp [← g2], ?_⟩ (by show s.size - (i + 1) < s.size - i; omega)
                · rw [L26_I]
                  have e7 : ((16 * x1 + y1 : Nat) : Int).toNat = 16 * x1 + y1 := Int.toNat_natCast _
                  rw [e7]
                  have e8 : ((2 * i : Nat) : Int) + 2 = ((2 * (i + 1) : Nat) : Int) := by omega
                  rw [e8]
                  rfl
                · rw [g3]
                  simp only [Option.map_map]
                  apply congrArg (fun f => Option.map f _)
                  funext z
                  simp
          · have e9 : s.data.toList.drop (2 * i) = [] := List.drop_of_length_le (by omega)
            rw [e9] at g3
            have hf := hk _ g3
            simp only [List.append_nil] at hf
            have hxl : (x :: r).length ≤ 100000 := by omega
            simp only [List.length_cons] at hxl
            exact ⟨⟨by simp, by omega⟩, ⟨by simp, by omega⟩, hf⟩
  · exact h.elim
end Go.V
namespace Go.V
open Go.Proofs
set_option maxRecDepth 100000
set_option maxHeartbeats 4000000
set_option linter.unusedSimpArgs false
set_option linter.unnecessarySimpa false
set_option linter.unusedVariables false
attribute [local irreducible] rc
end Go.V
namespace Go.V
set_option linter.unusedSimpArgs false
set_option linter.unnecessarySimpa false
set_option linter.unusedVariables false
set_option maxRecDepth 100000
def wordB (j : Nat) : ByteArray := (elt WdT opT j).1
def wordL (j : Nat) : List UInt8 := (wordB j).data.toList
def opFind (w : List UInt8) : Option Nat := (List.range 24).find? (fun j => wordL j == w)
def instrF (l : List UInt8) : Option (Int × Int) :=
 match opFind (l.takeWhile (· != 32)) with
 | none => none
 | some j => if opK j = 0 then (if l.contains 32 then none else some ((j : Int), 0)) else if l.contains 32 then (numI ((l.dropWhile (· != 32)).drop 1)).map (fun n => ((j : Int), n)) else none
theorem word_no : ∀ j, j < 24 → (wordL j).contains 32 = false := by decide +kernel
theorem word_ne : ∀ j, j < 24 → ∀ k, k < 24 → wordL j = wordL k → j = k := by decide +kernel
theorem opFind_some {w : List UInt8} {j : Nat} (h : opFind w = some j) : j < 24 ∧ wordL j = w := by
 unfold opFind at h
 have h1 := List.find?_some h
 have h2 := List.mem_of_find?_eq_some h
 exact ⟨List.mem_range.1 h2, by simpa using h1⟩
theorem opFind_word {j : Nat} (h : j < 24) : opFind (wordL j) = some j := by
 cases hf : opFind (wordL j) with
 | none =>
  unfold opFind at hf
  have := List.find?_eq_none.1 hf j (List.mem_range.2 h)
  simp at this
 | some k =>
  obtain ⟨h1, h2⟩ := opFind_some hf
  rw [word_ne k h1 j h h2]
theorem opFind_none {w : List UInt8} (h : ∀ j, j < 24 → wordL j ≠ w) : opFind w = none := by
 unfold opFind
 rw [List.find?_eq_none]
 intro j hj
 simpa using h j (List.mem_range.1 hj)
def opM (l : List UInt8) (j : Nat) : Bool := if opK j = 0 then decide (l = wordL j) else (wordL j ++ [32]).isPrefixOf l
theorem take_no {w : List UInt8} (h : w.contains 32 = false) (r : List UInt8) : (w ++ 32 :: r).takeWhile (· != 32) = w ∧ (w ++ 32 :: r).dropWhile (· != 32) = 32 :: r := by
 induction w with
 | nil => simp [List.takeWhile_cons, List.dropWhile_cons]
 | cons c w ih =>
  simp only [List.contains_cons, Bool.or_eq_false_iff] at h
  obtain ⟨i1, i2⟩ := ih h.2
  have hc : (c != 32) = true := by
   have := h.1
   simp only [bne_iff_ne, ne_eq]
   intro e
   rw [e] at this
   simp at this
  constructor
  ·rw [List.cons_append, List.takeWhile_cons, if_pos hc, i1]
  ·rw [List.cons_append, List.dropWhile_cons, if_pos hc, i2]
theorem take_all {w : List UInt8} (h : w.contains 32 = false) : w.takeWhile (· != 32) = w := by
 induction w with
 | nil => rfl
 | cons c w ih =>
  simp only [List.contains_cons, Bool.or_eq_false_iff] at h
  have hc : (c != 32) = true := by
   have := h.1
   simp only [bne_iff_ne, ne_eq]
   intro e
   rw [e] at this
   simp at this
  rw [List.takeWhile_cons, if_pos hc, ih h.2]
theorem opM_instr {l : List UInt8} {j : Nat} (hj : j < 24) (h : opM l j = true) : instrF l = if opK j = 0 then some ((j : Int), 0) else (numI (l.drop ((wordL j).length + 1))).map (fun n => ((j : Int), n)) := by
 unfold opM at h
 unfold instrF
 have hw := word_no j hj
 split at h
 ·rename_i hk
  have hl : l = wordL j := of_decide_eq_true h
  rw [hl, take_all hw, opFind_word hj]
  simp only [hk, hw, if_true, Bool.false_eq_true, if_false]
 ·rename_i hk
  obtain ⟨r, hr⟩ := List.isPrefixOf_iff_prefix.1 h
  have hl : l = wordL j ++ 32 :: r := by rw [← hr]; simp
  obtain ⟨t1, t2⟩ := take_no hw r
  rw [hl, t1, t2, opFind_word hj]
  have hc : (wordL j ++ 32 :: r).contains 32 = true := by simp
  simp only [hk, hc, if_true, if_false]
  have e : (wordL j ++ 32 :: r).drop ((wordL j).length + 1) = r := by
   rw [← List.drop_drop]
   simp
  rw [e]
  rfl
theorem split_32 : ∀ {l : List UInt8}, l.contains 32 = true → ∃ r, l = l.takeWhile (· != 32) ++ 32 :: r
 | [], h => by simp at h
 | c :: l, h => by
  by_cases hc : c = 32
  ·subst hc
   exact ⟨l, by simp [List.takeWhile_cons]⟩
  ·have h1 : (c != 32) = true := by simpa using hc
   have h2 : l.contains 32 = true := by
    rw [List.contains_cons, Bool.or_eq_true] at h
    rcases h with h | h
    ·exact absurd (by simpa using h : (32 : UInt8) = c) (fun e => hc e.symm)
    ·exact h
   obtain ⟨r, hr⟩ := split_32 h2
   exact ⟨r, by rw [List.takeWhile_cons, if_pos h1, List.cons_append, ← hr]⟩
def nameL : List UInt8 := [110, 97, 109, 101, 32]
def lineF (l : List UInt8) : Option (ByteArray ⊕ (Int × Int)) :=
 if nameL.isPrefixOf l then (unhexL (l.drop 5)).bind fun k => if keyOk (bsOf k) then some (.inl (bsOf k)) else none
 else (instrF l).map .inr
inductive PR where
 | bad (i : Int)
 | fin (ns : List ByteArray) (cs : List EvT.den) (late : Bool)
def parseGo : List (List UInt8) → Int → List ByteArray → List EvT.den → Bool → PR
 | [], _, ns, cs, late => .fin ns cs late
 | l :: r, i, ns, cs, late => match lineF l with
  | none => .bad i
  | some (.inl n) => parseGo r (i + 1) (ns ++ [n]) cs (late || decide (0 < cs.length))
  | some (.inr x) => parseGo r (i + 1) ns (cs ++ [x]) late
end Go.V
