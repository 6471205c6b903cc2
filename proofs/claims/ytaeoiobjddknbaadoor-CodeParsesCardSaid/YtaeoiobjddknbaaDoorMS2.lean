/- Numbers in decimal digits: the document's reading, and the library's. -/
import Derived.Test.YtaeoiobjddknbaaDoorMA71
import Derived.Test.YtaeoiobjddknbaaDoorMN1
import Derived.Test.YtaeoiobjddknbaaDoorProg
namespace Go.V
open Go.Lib (decDigits itoa parseIntB parseUintB parseUintM)
set_option linter.unusedSimpArgs false
set_option linter.unnecessarySimpa false
set_option linter.unusedVariables false
def natGo : List UInt8 → Nat → Option Nat
 | [], n => some n
 | c :: r, n => if 48 ≤ c.toNat ∧ c.toNat ≤ 57 then (if 18446744073709551615 < 10 * n + (c.toNat - 48) then none else natGo r (10 * n + (c.toNat - 48))) else none
def natF (l : List UInt8) : Option Nat := if l = [] ∨ (1 < l.length ∧ l.head? = some 48) then none else natGo l 0
def numI (l : List UInt8) : Option Int :=
 if l.head? = some 45 then (natF l.tail).bind fun n => if n = 0 ∨ 9223372036854775808 < n then none else some (-(n : Int))
 else (natF l).bind fun n => if 9223372036854775807 < n then none else some (n : Int)
theorem natGo_append : ∀ (l l' : List UInt8) (n : Nat), natGo (l ++ l') n = (natGo l n).bind (natGo l')
 | [], l', n => rfl
 | c :: r, l', n => by
  simp only [List.cons_append, natGo]
  split
  ·split
   ·rfl
   ·exact natGo_append r l' _
  ·rfl
theorem dec_small {u : Nat} (h : u < 10) : decDigits u = [UInt8.ofNat (48 + u)] := by rw [decDigits, dif_pos h]
theorem dec_big {u : Nat} (h : ¬ u < 10) : decDigits u = decDigits (u / 10) ++ [UInt8.ofNat (48 + u % 10)] := by rw [decDigits, dif_neg h]
theorem ofNat_dig {d : Nat} (h : d < 10) : (UInt8.ofNat (48 + d)).toNat = 48 + d := by
 rw [UInt8.toNat_ofNat']
 omega
theorem natGo_dec (u : Nat) : u ≤ 18446744073709551615 → natGo (decDigits u) 0 = some u := by
 induction u using Nat.strongRecOn with
 | ind u ih =>
  intro hu
  by_cases h : u < 10
  ·rw [dec_small h]
   simp only [natGo, ofNat_dig h]
   rw [if_pos (by omega), if_neg (by omega)]
   congr 1
   omega
  ·rw [dec_big h, natGo_append, ih (u / 10) (by omega) (by omega)]
   have hd : u % 10 < 10 := Nat.mod_lt _ (by decide)
   simp only [Option.bind_some, natGo, ofNat_dig hd]
   rw [if_pos (by omega), if_neg (by omega)]
   congr 1
   omega
theorem dec_head (u : Nat) : 0 < u → ∃ c r, decDigits u = c :: r ∧ c ≠ 48 ∧ c ≠ 45 := by
 induction u using Nat.strongRecOn with
 | ind u ih =>
  intro hu
  by_cases h : u < 10
  ·refine ⟨_, [], dec_small h, ?_, ?_⟩
   ·intro e
    have := congrArg UInt8.toNat e
    rw [ofNat_dig h] at this
    simp at this
    omega
   ·intro e
    have := congrArg UInt8.toNat e
    rw [ofNat_dig h] at this
    simp at this
    omega
  ·obtain ⟨c, r, e, h1, h2⟩ := ih (u / 10) (by omega) (by omega)
   exact ⟨c, r ++ [UInt8.ofNat (48 + u % 10)], by rw [dec_big h, e]; rfl, h1, h2⟩
theorem dec_zero : decDigits 0 = [48] := by rw [dec_small (by decide)]; rfl
theorem natF_dec {u : Nat} (hu : u ≤ 18446744073709551615) : natF (decDigits u) = some u := by
 unfold natF
 rw [if_neg, natGo_dec u hu]
 rcases Nat.eq_zero_or_pos u with rfl | h
 ·rw [dec_zero]; simp
 ·obtain ⟨c, r, e, h1, _⟩ := dec_head u h
  rw [e]
  simp [h1]
theorem dig_back {c : UInt8} (h : 48 ≤ c.toNat ∧ c.toNat ≤ 57) : UInt8.ofNat (48 + (c.toNat - 48)) = c := by
 rw [show 48 + (c.toNat - 48) = c.toNat by omega]
 simp
theorem dec_natGo : ∀ (l : List UInt8) (n m : Nat), 0 < n → natGo l n = some m → decDigits m = decDigits n ++ l
 | [], n, m, _, h => by cases h; simp
 | c :: r, n, m, hn, h => by
  simp only [natGo] at h
  split at h
  ·rename_i hc
   split at h
   ·cases h
   ·have ih := dec_natGo r _ m (by omega) h
    rw [ih, dec_big (by omega)]
    have e1 : (10 * n + (c.toNat - 48)) / 10 = n := by omega
    have e2 : (10 * n + (c.toNat - 48)) % 10 = c.toNat - 48 := by omega
    rw [e1, e2, dig_back hc]
    simp
  ·cases h
theorem dec_natF {l : List UInt8} {m : Nat} (h : natF l = some m) : decDigits m = l := by
 unfold natF at h
 split at h
 ·cases h
 ·rename_i hl
  cases l with
  | nil => simp at hl
  | cons c r =>
   simp only [natGo] at h
   split at h
   ·rename_i hc
    split at h
    ·cases h
    ·simp only [Nat.mul_zero, Nat.zero_add] at h
     by_cases hz : c.toNat - 48 = 0
     ·have hc48 : c = 48 := by
       have h1 := dig_back hc
       rw [hz] at h1
       exact h1.symm
      subst hc48
      have hr : r = [] := by
       cases r with
       | nil => rfl
       | cons x y => simp at hl
      subst hr
      rw [hz] at h
      cases h
      exact dec_zero
     ·rw [dec_natGo r _ m (by omega) h, dec_small (by omega), dig_back hc]
      rfl
   ·cases h
theorem natGo_le : ∀ (l : List UInt8) (n m : Nat), n ≤ 18446744073709551615 → natGo l n = some m → m ≤ 18446744073709551615
 | [], n, m, hn, h => by cases h; exact hn
 | c :: r, n, m, hn, h => by
  simp only [natGo] at h
  split at h
  ·split at h
   ·cases h
   ·exact natGo_le r _ m (by omega) h
  ·cases h
theorem parse_natGo : ∀ (l : List UInt8) (n m : Nat), natGo l n = some m → parseUintM (2 ^ 64 - 1) n l = .ok m
 | [], n, m, h => by cases h; rfl
 | c :: r, n, m, h => by
  simp only [natGo] at h
  split at h
  ·rename_i hc
   split at h
   ·cases h
   ·rename_i hlt
    simp only [parseUintM]
    rw [if_pos hc, if_neg (by omega), if_neg (by omega), Nat.mul_comm n 10]
    exact parse_natGo r _ m h
  ·cases h
theorem parse_natF {l : List UInt8} {m : Nat} (h : natF l = some m) : parseUintB 64 l = .ok m ∧ m ≤ 18446744073709551615 := by
 unfold natF at h
 split at h
 ·cases h
 ·rename_i hl
  have h0 : l ≠ [] := fun e => hl (.inl e)
  exact ⟨by unfold parseUintB; rw [if_neg h0]; exact parse_natGo l 0 m h, natGo_le l 0 m (by decide) h⟩
theorem numI_parse {l : List UInt8} {v : Int} (h : numI l = some v) : parseIntB 64 l = .ok v ∧ itoa v = l := by
 unfold numI at h
 split at h
 ·rename_i hh
  cases l with
  | nil => simp at hh
  | cons c r =>
   simp only [List.head?_cons, Option.some.injEq] at hh
   subst hh
   simp only [List.tail_cons] at h
   cases hn : natF r with
   | none => rw [hn] at h; cases h
   | some n =>
    rw [hn] at h
    simp only [Option.bind_some] at h
    split at h
    ·cases h
    ·rename_i hb
     cases h
     obtain ⟨h1, h2⟩ := parse_natF hn
     have e := dec_natF hn
     constructor
     ·rw [Go.Lib.parseIntB_minus, h1]
      simp only [Go.Lib.signedC]
      first
       | (rw [if_neg (by omega)]; done)
       | (rw [if_neg (by omega)])
       | (simp; omega)
     ·unfold itoa
      rw [if_pos (by omega)]
      have : (-(n : Int)).natAbs = n := by omega
      rw [this, e]
 ·rename_i hh
  cases hn : natF l with
  | none => rw [hn] at h; cases h
  | some n =>
   rw [hn] at h
   simp only [Option.bind_some] at h
   split at h
   ·cases h
   ·rename_i hb
    cases h
    obtain ⟨h1, h2⟩ := parse_natF hn
    have e := dec_natF hn
    have e43 : ∀ c r, l = c :: r → 48 ≤ c.toNat ∧ c.toNat ≤ 57 := by
     rintro c r rfl
     unfold natF at hn
     split at hn
     ·cases hn
     ·simp only [natGo] at hn
      split at hn
      ·rename_i hc; exact hc
      ·cases hn
    constructor
    ·cases l with
     | nil => unfold natF at hn; simp at hn
     | cons c r =>
      have hc := e43 c r rfl
      rw [Go.Lib.parseIntB_plain 64 c r (by omega) (by omega), h1]
      simp only [Go.Lib.signlessC]
      first
       | (rw [if_neg (by omega)]; done)
       | (rw [if_neg (by omega)])
       | (simp; omega)
    ·unfold itoa
     rw [if_neg (by omega)]
     have : ((n : Int)).toNat = n := by omega
     rw [this, e]
theorem parse_numI {l : List UInt8} {v : Int} (h1 : parseIntB 64 l = .ok v) (h2 : itoa v = l) : numI l = some v := by
 have hb := Go.Lib.parseIntB_bounds h1
 have e3 : ((2 ^ (64 - 1) : Nat) : Int) = 9223372036854775808 := by decide
 rw [e3] at hb
 unfold itoa at h2
 unfold numI
 split at h2
 ·rename_i hv
  subst h2
  rw [if_pos (by simp), List.tail_cons, natF_dec (by omega)]
  simp only [Option.bind_some]
  rw [if_neg (by omega)]
  congr 1
  omega
 ·rename_i hv
  have hh : ¬ l.head? = some 45 := by
   rw [← h2]
   rcases Nat.eq_zero_or_pos v.toNat with h | h
   ·rw [h, dec_zero]; decide
   ·obtain ⟨c, r, e, _, h4⟩ := dec_head _ h
    rw [e]
    simpa using h4
  rw [if_neg hh, ← h2, natF_dec (by omega)]
  simp only [Option.bind_some]
  rw [if_neg (by omega)]
  congr 1
  omega
theorem intP_numI (s : ByteArray) : intP s = numI s.data.toList := by
 unfold intP
 have hs : ∀ v, itoaB v = s ↔ itoa v = s.data.toList := by
  intro v
  constructor
  ·intro h; rw [← h]; simp [itoaB, bsOf]
  ·intro h; unfold itoaB bsOf; rw [h]
 cases hn : numI s.data.toList with
 | some v =>
  obtain ⟨h1, h2⟩ := numI_parse hn
  rw [h1]
  simp only [(hs v).2 h2, if_true]
 | none =>
  rcases hp : parseIntB 64 s.data.toList with v | _ | _
  ·
   simp only
   split
   ·rename_i h
    rw [parse_numI hp ((hs v).1 h)] at hn
    cases hn
   ·rfl
  ·rfl
  ·rfl
end Go.V
namespace Go.V
set_option linter.unusedSimpArgs false
set_option linter.unnecessarySimpa false
open Go.Proofs
def a3 : AS := qS [q 2 (.mv qf)] [0] (.seq (qS [q 9 (.call 8 [] []), q 10 (.not (.t 9))] [0,10] (.cond (.t 10) (qS [q 2 (.mv qf)] [2] .ret) .skip)) (qS [q0 12 0, qX 9 13 [.t 12], q0 11 13, q 14 (.ext (.t 11) 0), q 15 (.ext (.t 11) 1), q 16 (.ext (.t 11)
 2), q 3 (.alc [.nils, .nils]), q6 2 3 14, q0 4 15, q0 5 16] [0,3,4,5] (qS [q0 18 0, qX 10 19 [.t 18], q0 17 19, q 20 (.ext (.t 17) 0), q 21 (.ext (.t 17) 1), q 22 (.ext (.t 17) 2), q 6 (.alc [.nils, .nils]), q6 2 6 20, q0 7 21, q0 8 22]
 [3,4,5,6,7,8] (.seq (.regD [q 23 (.ldA 2 (.t 3)), qX 12 24 [.t 23], q 25 (.ldA 2 (.t 6)), q 26 (.call 11 [none, none] [.t 24, .t 25]), q0 27 26, q1 28 4 27, q1 29 7 27, qT 30 (.bin .eql (.t 28) (.t 29)) 27, q 31 (.pick (.t 27) (.t 30) qf),
 q0 32 31, q1 33 5 32, q1 34 8 32, qT 35 (.bin .eql (.t 33) (.t 34)) 32, q 36 (.pick (.t 32) (.t 35) qf), q0 2 36] [.q 0, .q 2, .e 1 [2], .e 3 [], .q 4, .q 5, .q 6, .q 7, .q 8, .q 9, .q 10, .q 11, .q 12, .q 13, .q 14] [2]) .ret))))
def r3 : List RT := [.t 2]
def a4 : AS := qS [q 3 (.box (.t 0)), q 6 (.mv qf)] [1,2,3] (.seq (qS [q 16 (.call 8 [] []), q 17 (.not (.t 16)), q0 18 17, qF 19 (.ldA 2 (.t 3)) 18, qF 20 (.call 13 [none] [.t 19]) 18, qF 21 (.not (.t 20)) 18, q 22 (.pick (.t 18) qt (.t 21)), q0 23 22, q2
 24 1 23, qF 25 (.len .i (.t 24)) 23, qF 26 (.bin .gtr (.t 25) (qI 1000)) 23, q 27 (.pick (.t 23) qt (.t 26)), q0 28 27, q2 29 2 28, qF 30 (.len .i (.t 29)) 28, qF 31 (.bin .gtr (.t 30) (qI 5000)) 28, q 32 (.pick (.t 28) qt (.t 31))]
 [1,2,3,32] (.cond (.t 32) (qS [q 33 (.call 8 [] []), q0 6 33] [6] .ret) .skip)) (qS [q 35 (.ldA 2 (.t 3)), qX 15 36 [.t 35], qX 14 37 [.t 36], q0 34 37, q 38 (.ext (.t 34) 0), q 39 (.ext (.t 34) 1), q0 7 38, q0 8 39] [1,2,3,7,8] (.seq (qS
 [q0 40 1, q 41 (.len .i (.t 40)), q 42 (.mv (qI 0))] [1,2,3,7,8,41,42] (.block 0 (.loop 1 [1,2,3,7,8,41,42] (qS [q 43 (.bin .lss (.t 42) (.t 41))] [1,2,3,7,8,41,42,43] (.seq (.cond (.t 43) .skip (.exit 0)) (.seq (.block 1 (qS [q0 44 42, q0 9
 44] [1,2,3,7,8,9,41,42] (qS [q0 45 1, q0 46 9, q 47 (.ixS (.t 45) (.t 46)), q 48 (.bin .eql (.t 47) (.c (.int .u8 10)))] [1,2,3,7,8,41,42,48] (.cond (.t 48) (qS [q 6 (.mv qt)] [6] .ret) .skip)))) (.reg [q 49 (.bin .add (.t 42) (qI 1)), q0 42
 49] [1,2,3,7,8,41,42]))))))) (qS [q0 51 1, q 52 (.bin .add (.t 51) (.c (.str ⟨#[10]⟩))), qX 9 53 [.t 52], q0 50 53, q 54 (.ext (.t 50) 0), q 55 (.ext (.t 50) 1), q 56 (.ext (.t 50) 2), q 10 (.alc [.nils, .nils]), q6 2 10 54, q0 11 55, q0 12
 56] [1,2,3,7,8,11,12] (.seq (qS [q0 57 8, q 58 (.bin .neq (.t 57) (qI 0)), q0 59 58, q2 60 12 59, qF 61 (.bin .neq (.t 60) (qI 2)) 59, q 62 (.pick (.t 59) qt (.t 61)), q0 63 62, q2 64 11 63, qF 65 (.bin .neq (.t 64) (qI 1)) 63, q 66 (.pick
 (.t 63) qt (.t 65))] [1,2,3,7,66] (.cond (.t 66) (qS [q 6 (.mv qt)] [6] .ret) .skip)) (qS [q0 68 7, q0 69 1, q 70 (.bin .add (.t 68) (.t 69)), q 71 (.bin .add (.t 70) (.c (.str ⟨#[10]⟩))), q0 72 2, q 73 (.bin .add (.t 71) (.t 72)), qX 9 74
 [.t 73], q0 67 74, q 75 (.ext (.t 67) 0), q 76 (.ext (.t 67) 1), q 77 (.ext (.t 67) 2), q 13 (.alc [.nils, .nils]), q6 2 13 75, q0 14 76, q0 15 77] [3,13,14,15] (qS [q0 78 15, q 79 (.bin .eql (.t 78) (qI 2)), q0 80 79, q1 81 14 80, qT 82
 (.fa 0 (.t 3)) 80, qT 83 (.ld (.t 82)) 80, qT 84 (.len .s (.t 83)) 80, qT 85 (.fa 1 (.t 3)) 80, qT 86 (.ld (.t 85)) 80, qT 87 (.len .s (.t 86)) 80, qT 88 (.bin .add (.t 84) (.t 87)) 80, qT 89 (.bin .add (.t 88) (qI 1)) 80, qT 90 (.bin .eql
 (.t 81) (.t 89)) 80, q 91 (.pick (.t 80) (.t 90) qf), q0 92 91, qT 93 (.fa 1 (.t 13)) 92, qT 94 (.ld (.t 93)) 92, qT 95 (.len .s (.t 94)) 92, qT 96 (.bin .eql (.t 95) (qI 0)) 92, q 97 (.pick (.t 92) (.t 96) qf), q0 6 97] [6] .ret)))))))
def r4 : List RT := [.t 6]
def a5 : AS := qS [q 2 (.box (.t 0)), q 3 (.box (.t 1)), q 4 (.mv qf)] [2,3] (.seq (qS [q 9 (.call 8 [] []), q 10 (.not (.t 9)), q0 11 10, qF 12 (.ldA 2 (.t 2)) 11, qF 13 (.call 13 [none] [.t 12]) 11, qF 14 (.not (.t 13)) 11, q 15 (.pick (.t 11) qt (.t
 14)), q0 16 15, qF 17 (.ldA 2 (.t 3)) 16, qF 18 (.call 13 [none] [.t 17]) 16, qF 19 (.not (.t 18)) 16, q 20 (.pick (.t 16) qt (.t 19))] [2,3,20] (.cond (.t 20) (qS [q 21 (.call 8 [] []), q0 4 21] [4] .ret) .skip)) (qS [q 23 (.ldA 2 (.t 2)),
 qX 15 24 [.t 23], qX 14 25 [.t 24], q0 22 25, q 26 (.ext (.t 22) 0), q 27 (.ext (.t 22) 1), q0 5 26, q0 6 27] [2,3,5,6] (qS [q 29 (.ldA 2 (.t 2)), qX 16 30 [.t 29], q0 28 30, q 31 (.ext (.t 28) 0), q 32 (.ext (.t 28) 1), q0 7 31, q0 8 32]
 [2,3,5,6,7,8] (.seq (.regD [q0 33 5, q0 34 7, q 35 (.bin .eql (.t 33) (.t 34)), q0 36 35, q1 37 6 36, q1 38 8 36, qT 39 (.bin .eql (.t 37) (.t 38)) 36, q 40 (.pick (.t 36) (.t 39) qf), q0 41 40, qT 42 (.ldA 2 (.t 2)) 41, qT 43 (.call 15
 [none] [.t 42]) 41, qT 44 (.call 17 [none] [.t 43]) 41, qT 45 (.ldA 2 (.t 2)) 41, qT 46 (.call 18 [none] [.t 45]) 41, qT 47 (.binB false (.t 44) (.t 46)) 41, q 48 (.pick (.t 41) (.t 47) qf), q0 49 48, qT 50 (.ldA 2 (.t 2)) 49, qT 51 (.call
 15 [none] [.t 50]) 49, qT 52 (.ldA 2 (.t 3)) 49, qT 53 (.call 15 [none] [.t 52]) 49, qT 54 (.call 19 [none, none] [.t 51, .t 53]) 49, qT 55 (.ldA 2 (.t 2)) 49, qT 56 (.ldA 2 (.t 3)) 49, qT 57 (.call 11 [none, none] [.t 55, .t 56]) 49, qT 58
 (.binB false (.t 54) (.t 57)) 49, q 59 (.pick (.t 49) (.t 58) qf), q0 4 59] [.q 0, .q 1, .q 2, .q 3, .q 4, .q 5, .q 6, .q 7, .q 8, .q 9, .q 12, .e 10 [12], .e 11 [12], .e 13 [], .q 14, .q 15, .q 16, .q 17, .q 19, .q 22, .q 23, .e 18
 [19,22,23], .e 20 [22,23], .e 21 [22,23], .e 24 [], .q 25, .q 26, .q 27] [4]) .ret))))
def r5 : List RT := [.t 4]
def a6 : AS := qS [q 2 (.box (.t 0)), q 4 (.mv qf)] [1,2] (.seq (qS [q 13 (.call 8 [] []), q 14 (.not (.t 13)), q0 15 14, qF 16 (.ldA 2 (.t 2)) 15, qF 17 (.call 13 [none] [.t 16]) 15, qF 18 (.not (.t 17)) 15, q 19 (.pick (.t 15) qt (.t 18))] [1,2,19]
 (.cond (.t 19) (qS [q 20 (.call 8 [] []), q0 4 20] [4] .ret) .skip)) (qS [q 22 (.ldA 2 (.t 2)), qX 15 23 [.t 22], qX 20 24 [.t 23], q0 21 24, q 25 (.ext (.t 21) 0), q 26 (.ext (.t 21) 1), q0 5 25, q0 6 26] [1,2,5,6] (qS [q 28 (.ldA 2 (.t
 2)), qX 21 29 [.t 28], q0 27 29, q 30 (.ext (.t 27) 0), q 31 (.ext (.t 27) 1), q0 7 30, q0 8 31] [1,5,6,7,8] (qS [q0 33 1, qX 22 34 [.t 33], q0 32 34, q 35 (.ext (.t 32) 0), q 36 (.ext (.t 32) 1), q 9 (.alc [.nils, .nils]), q6 2 9 35, q0 10
 36] [1,5,6,7,8,9,10] (qS [q0 38 1, qX 23 39 [.t 38], q0 37 39, q 40 (.ext (.t 37) 0), q 41 (.ext (.t 37) 1), q 11 (.alc [.nils, .nils]), q6 2 11 40, q0 12 41] [5,6,7,8,9,10,11,12] (.seq (.regD [q0 42 5, q 43 (.b2s (.t 42)), q0 44 7, q 45
 (.b2s (.t 44)), q 46 (.bin .eql (.t 43) (.t 45)), q0 47 46, q1 48 6 47, q1 49 8 47, qT 50 (.bin .eql (.t 48) (.t 49)) 47, q 51 (.pick (.t 47) (.t 50) qf), q0 52 51, qT 53 (.ldA 2 (.t 9)) 52, qT 54 (.call 12 [none] [.t 53]) 52, qT 55 (.ldA 2
 (.t 11)) 52, qT 56 (.call 11 [none, none] [.t 54, .t 55]) 52, q 57 (.pick (.t 52) (.t 56) qf), q0 58 57, q1 59 10 58, q1 60 12 58, qT 61 (.bin .eql (.t 59) (.t 60)) 58, q 62 (.pick (.t 58) (.t 61) qf), q0 4 62] [.q 0, .q 1, .q 2, .q 3, .q 4,
 .q 5, .q 6, .q 7, .q 8, .q 9, .q 10, .q 11, .q 13, .e 12 [13], .e 14 [], .q 15, .q 16, .q 17, .q 18, .q 19, .q 20, .q 21] [4]) .ret))))))
def r6 : List RT := [.t 4]
def r7 : List RT := [.t 4]
def a8 : AS := qS [q 0 (.mv qf)] [] (qS [q 5 (.call 9 [none] [(.c (.str ⟨#[110,97,109,101,32,54,50,10,108,111,97,100,32,48,10,112,117,115,104,32,49,10,97,100,100,10,115,116,111,114,101,32,48,10]⟩))]), q0 4 5, q 6 (.ext (.t 4) 0), q 7 (.ext (.t 4) 1), q 8
 (.ext (.t 4) 2), q 1 (.alc [.nils, .nils]), q6 2 1 6, q0 2 7, q0 3 8] [1,2,3] (qS [q0 9 3, q 10 (.bin .eql (.t 9) (qI 0)), q0 11 10, q1 12 2 11, qT 13 (.bin .eql (.t 12) (qI 0)) 11, q 14 (.pick (.t 11) (.t 13) qf), q0 15 14, qT 16 (.fa 0 (.t
 1)) 15, qT 17 (.ld (.t 16)) 15, qT 18 (.len .s (.t 17)) 15, qT 19 (.bin .eql (.t 18) (qI 1)) 15, q 20 (.pick (.t 15) (.t 19) qf), q0 21 20, qT 22 (.fa 0 (.t 1)) 21, qT 23 (.ld (.t 22)) 21, qT 24 (.ia 1 (.t 23) (qI 0)) 21, qT 25 (.ld (.t 24))
 21, qT 26 (.bin .eql (.t 25) (.c (.str ⟨#[98]⟩))) 21, q 27 (.pick (.t 21) (.t 26) qf), q0 28 27, qT 29 (.fa 1 (.t 1)) 28, qT 30 (.ld (.t 29)) 28, qT 31 (.len .s (.t 30)) 28, qT 32 (.bin .eql (.t 31) (qI 4)) 28, q 33 (.pick (.t 28) (.t 32)
 qf), q0 34 33, qT 35 (.fa 1 (.t 1)) 34, qT 36 (.ld (.t 35)) 34, qT 37 (.ia 2 (.t 36) (qI 1)) 34, qT 38 (.fa 1 (.t 37)) 34, qT 39 (.ld (.t 38)) 34, qT 40 (.bin .eql (.t 39) (qI 1)) 34, q 41 (.pick (.t 34) (.t 40) qf), q0 0 41] [0] .ret))
def r8 : List RT := [.t 0]
def a9 : AS := qS [q 2 (.alc [.nils, .nils]), q 3 (.mv (qI 0)), q 4 (.mv (qI 0))] [0,2] (.seq (qS [q0 15 0, q 16 (.len .i (.t 15)), q 17 (.bin .gtr (.t 16) (qI 20000))] [0,2,17] (.cond (.t 17) (qS [q 18 (.bld [.nils, .nils] []), q6 2 2 18, q 3 (.mv (qI
 0)), q 4 (.mv (qI 4))] [2,3,4] .ret) .skip)) (qS [q 5 (.alc [.nils, .nils])] [0,2,5] (qS [q 6 (.mv qf)] [0,2,5,6] (.seq (qS [q 7 (.mv (qI 1))] [0,2,5,6,7] (.block 0 (.lift 5 (some 0) 16 .str (.lift 5 (some 1) 16 qP (.loop 1 [0,2,5,6,7] (.seq
 (qS [q0 19 0, q 20 (.bin .neq (.t 19) (.c (qE)))] [0,2,5,6,7,20] (.cond (.t 20) .skip (.exit 0))) (.seq (.block 1 (qS [q 8 (.mv (.c (qE)))] [0,2,5,6,7] (qS [q0 24 0, q 25 (.call 24 [none, none] [.t 24, (.c (.str ⟨#[10]⟩))]), q0 23 25, q 26
 (.ext (.t 23) 0), q 27 (.ext (.t 23) 1), q 28 (.ext (.t 23) 2), q0 8 26, q0 0 27] [0,2,5,6,7,8] (.seq (qS [q0 30 8, q 31 (.call 25 [none, none] [.t 30, (.c (.str ⟨#[110,97,109,101,32]⟩))]), q0 29 31, q 32 (.ext (.t 29) 0), q 33 (.ext (.t 29)
 1), q0 9 32, q0 10 33] [0,2,5,6,7,8,9,10] (qS [q0 34 10] [0,2,5,6,7,8,9,34] (.cond (.t 34) (qS [q0 36 9, qX 26 37 [.t 36], q0 35 37, q 38 (.ext (.t 35) 0), q 39 (.ext (.t 35) 1), q0 11 38, q0 12 39] [0,2,5,6,7,11,12] (.seq (qS [q0 40 12, q
 41 (.not (.t 40))] [0,2,5,6,7,11,41] (.cond (.t 41) (qS [q 42 (.bld [.nils, .nils] []), q0 43 7, q6 2 2 42, q0 3 43, q 4 (.mv (qI 2))] [2,3,4] .ret) .skip)) (qS [q0 44 6, q0 45 44, qF 46 (.fa 1 (.t 5)) 45, qF 47 (.ld (.t 46)) 45, qF 48 (.len
 .s (.t 47)) 45, qF 49 (.bin .gtr (.t 48) (qI 0)) 45, q 50 (.pick (.t 45) qt (.t 49)), q0 6 50] [0,2,5,6,7,11] (qS [q3 51 0 5, q4 52 51, q0 53 11, q 54 (.bsl 16 .str 1 [(0, (.t 53))]), q 55 (.app 16 .str (.t 52) (.t 54)), q3 56 0 5, q6 1 56
 55] [0,2,5,6,7] (.exit 1))))) .skip))) (qS [q0 58 8, qX 27 59 [.t 58], q0 57 59, q 60 (.ext (.t 57) 0), q 61 (.ext (.t 57) 1), q 13 (.alc [.int .i64 0, .int .i64 0]), q6 2 13 60, q0 14 61] [0,2,5,6,7,13,14] (.seq (qS [q0 62 14, q 63 (.not
 (.t 62))] [0,2,5,6,7,13,63] (.cond (.t 63) (qS [q 64 (.bld [.nils, .nils] []), q0 65 7, q6 2 2 64, q0 3 65, q 4 (.mv (qI 2))] [2,3,4] .ret) .skip)) (.reg [q3 66 1 5, q4 67 66, q 68 (.ldA 2 (.t 13)), q 69 (.bsl 16 qP 1 [(0, (.t 68))]), q 70
 (.app 16 qP (.t 67) (.t 69)), q3 71 1 5, q6 1 71 70] [0,2,5,6,7]))))))) (.reg [q0 21 7, q 22 (.bin .add (.t 21) (qI 1)), q0 7 22] [0,2,5,6,7])))))))) (.seq (.seq (.frz 5 (.reg [q0 72 6, q0 73 72, qF 74 (.ldA 2 (.t 5)) 73, qF 75 (.call 17
 [none] [.t 74]) 73, qF 76 (.not (.t 75)) 73, q 77 (.pick (.t 73) qt (.t 76))] [2,5,77])) (.cond (.t 77) (qS [q 78 (.bld [.nils, .nils] []), q6 2 2 78, q 3 (.mv (qI 0)), q 4 (.mv (qI 2))] [2,3,4] .ret) .skip)) (qS [q 79 (.ldA 2 (.t 5)), q6 2
 2 79, q 3 (.mv (qI 0)), q 4 (.mv (qI 0))] [2,3,4] .ret))))))
def r9 : List RT := [.c 2 (some 2), .t 3, .t 4]
def a10 : AS := qS [q 2 (.alc [.nils, .nils]), q 3 (.mv (qI 0)), q 4 (.mv (qI 0))] [0,2] (.seq (qS [q0 12 0, q 13 (.len .i (.t 12)), q 14 (.bin .gtr (.t 13) (qI 20000))] [0,2,14] (.cond (.t 14) (qS [q 15 (.bld [.nils, .nils] []), q6 2 2 15, q 3 (.mv (qI
 0)), q 4 (.mv (qI 4))] [2,3,4] .ret) .skip)) (qS [q 5 (.alc [.nils, .nils])] [0,2,5] (qS [q 6 (.mv qf)] [0,2,5,6] (qS [q0 16 0, qX 28 17 [.t 16], q0 7 17] [2,5,6,7] (.seq (qS [q0 18 7, q 19 (.len .s (.t 18)), q 20 (.mv (qI 0))]
 [2,5,6,7,19,20] (.block 0 (.lift 5 (some 0) 16 .str (.lift 5 (some 1) 16 qP (.loop 1 [2,5,6,7,19,20] (qS [q 21 (.bin .lss (.t 20) (.t 19))] [2,5,6,7,19,20,21] (.seq (.cond (.t 21) .skip (.exit 0)) (.seq (.block 1 (qS [q0 22 20, q0 8 22]
 [2,5,6,7,8,19,20] (qS [q0 24 7, q0 25 8, q 26 (.ia 1 (.t 24) (.t 25)), q4 27 26, qX 29 28 [.t 27], q0 23 28, q 29 (.ext (.t 23) 0), q 30 (.ext (.t 23) 1), q 31 (.ext (.t 23) 2), q 9 (.alc [.int .i64 0, .int .i64 0]), q6 2 9 29, q0 10 30, q0
 11 31] [2,5,6,7,8,9,10,11,19,20] (.seq (qS [q0 32 11, q 33 (.not (.t 32))] [2,5,6,7,8,9,10,19,20,33] (.cond (.t 33) (qS [q 34 (.bld [.nils, .nils] []), q0 35 8, q 36 (.bin .add (.t 35) (qI 1)), q6 2 2 34, q0 3 36, q 4 (.mv (qI 2))] [2,3,4]
 .ret) .skip)) (qS [q3 37 0 9, q4 38 37, q 39 (.bin .lss (.t 38) (qI 0))] [2,5,6,7,9,10,19,20,39] (.cond (.t 39) (qS [q0 40 6, q0 41 40, qF 42 (.fa 1 (.t 5)) 41, qF 43 (.ld (.t 42)) 41, qF 44 (.len .s (.t 43)) 41, qF 45 (.bin .gtr (.t 44) (qI
 0)) 41, q 46 (.pick (.t 41) qt (.t 45)), q0 6 46] [2,5,6,7,10,19,20] (.reg [q3 47 0 5, q4 48 47, q0 49 10, q 50 (.bsl 16 .str 1 [(0, (.t 49))]), q 51 (.app 16 .str (.t 48) (.t 50)), q3 52 0 5, q6 1 52 51] [2,5,6,7,19,20])) (.reg [q3 53 1 5,
 q4 54 53, q 55 (.ldA 2 (.t 9)), q 56 (.bsl 16 qP 1 [(0, (.t 55))]), q 57 (.app 16 qP (.t 54) (.t 56)), q3 58 1 5, q6 1 58 57] [2,5,6,7,19,20]))))))) (.reg [q 59 (.bin .add (.t 20) (qI 1)), q0 20 59] [2,5,6,7,19,20]))))))))) (.seq (.seq (.frz
 5 (.reg [q0 60 6, q0 61 60, qF 62 (.ldA 2 (.t 5)) 61, qF 63 (.call 18 [none] [.t 62]) 61, qF 64 (.not (.t 63)) 61, q 65 (.pick (.t 61) qt (.t 64))] [2,5,65])) (.cond (.t 65) (qS [q 66 (.bld [.nils, .nils] []), q6 2 2 66, q 3 (.mv (qI 0)), q
 4 (.mv (qI 2))] [2,3,4] .ret) .skip)) (qS [q 67 (.ldA 2 (.t 5)), q6 2 2 67, q 3 (.mv (qI 0)), q 4 (.mv (qI 0))] [2,3,4] .ret)))))))
def r10 : List RT := [.c 2 (some 2), .t 3, .t 4]
def a11 : AS := qS [q 2 (.box (.t 0)), q 3 (.box (.t 1)), q 4 (.mv qf)] [2,3] (.seq (qS [q3 7 0 2, q4 8 7, q 9 (.len .s (.t 8)), q3 10 0 3, q4 11 10, q 12 (.len .s (.t 11)), q 13 (.bin .neq (.t 9) (.t 12)), q0 14 13, qF 15 (.fa 1 (.t 2)) 14, qF 16 (.ld (.t
 15)) 14, qF 17 (.len .s (.t 16)) 14, qF 18 (.fa 1 (.t 3)) 14, qF 19 (.ld (.t 18)) 14, qF 20 (.len .s (.t 19)) 14, qF 21 (.bin .neq (.t 17) (.t 20)) 14, q 22 (.pick (.t 14) qt (.t 21))] [2,3,22] (.cond (.t 22) (qS [q 4 (.mv qf)] [4] .ret)
 .skip)) (.seq (qS [q3 23 0 2, q4 24 23, q 25 (.len .s (.t 24)), q 26 (.mv (qI 0))] [2,3,25,26] (.block 0 (.loop 1 [2,3,25,26] (qS [q 27 (.bin .lss (.t 26) (.t 25))] [2,3,25,26,27] (.seq (.cond (.t 27) .skip (.exit 0)) (.seq (.block 1 (qS [q0
 28 26, q0 5 28] [2,3,5,25,26] (.seq (.regD [q3 29 0 2, q4 30 29, q0 31 5, q 32 (.ia 1 (.t 30) (.t 31)), q4 33 32, q3 34 0 3, q4 35 34, q0 36 5, q 37 (.ia 1 (.t 35) (.t 36)), q4 38 37, q 39 (.bin .neq (.t 33) (.t 38))] [.q 0, .q 1, .q 2, .q
 3, .q 4, .q 5, .q 6, .q 7, .q 8, .q 9, .q 10] [2,3,25,26,39]) (.cond (.t 39) (qS [q 4 (.mv qf)] [4] .ret) .skip)))) (.reg [q 40 (.bin .add (.t 26) (qI 1)), q0 26 40] [2,3,25,26]))))))) (.seq (qS [q3 41 1 2, q4 42 41, q 43 (.len .s (.t 42)),
 q 44 (.mv (qI 0))] [2,3,43,44] (.block 2 (.loop 2 [2,3,43,44] (qS [q 45 (.bin .lss (.t 44) (.t 43))] [2,3,43,44,45] (.seq (.cond (.t 45) .skip (.exit 2)) (.seq (.block 3 (qS [q0 46 44, q0 6 46] [2,3,6,43,44] (.seq (.regD [q3 47 1 2, q4 48
 47, q0 49 6, q 50 (.ia 2 (.t 48) (.t 49)), q 51 (.ldA 2 (.t 50)), q3 52 1 3, q4 53 52, q0 54 6, q 55 (.ia 2 (.t 53) (.t 54)), q 56 (.ldA 2 (.t 55)), q 57 (.eqS true [.int .i64, .int .i64] (.t 51) (.t 56))] [.q 0, .q 1, .q 2, .q 3, .q 4, .q
 5, .q 6, .q 7, .q 8, .q 9, .q 10] [2,3,43,44,57]) (.cond (.t 57) (qS [q 4 (.mv qf)] [4] .ret) .skip)))) (.reg [q 58 (.bin .add (.t 44) (qI 1)), q0 44 58] [2,3,43,44]))))))) (qS [q 4 (.mv qt)] [4] .ret))))
def r11 : List RT := [.t 4]
def a12 : AS := qS [q 1 (.box (.t 0)), q 2 (.alc [.nils, .nils])] [1,2] (qS [q 5 (.bsl 16 .str 0 []), q3 6 0 1, q4 7 6, q 8 (.app 16 .str (.t 5) (.t 7)), q 9 (.bld [.nils, .nils] [(0, 1, (.t 8))]), q 3 (.alc [.nils, .nils]), q6 2 3 9] [1,2,3] (.seq (qS [q3
 10 1 1, q4 11 10, q 12 (.len .s (.t 11)), q 13 (.mv (qI 0))] [1,2,3,12,13] (.block 0 (.lift 2 (some 0) 16 .str (.lift 2 (some 1) 16 qP (.lift 3 (some 0) 16 .str (.lift 3 (some 1) 16 qP (.loop 1 [1,2,3,12,13] (qS [q 14 (.bin .lss (.t 13) (.t
 12))] [1,2,3,12,13,14] (.seq (.cond (.t 14) .skip (.exit 0)) (.seq (.block 1 (qS [q0 15 13, q0 4 15] [1,2,3,4,12,13] (.regD [q3 16 1 3, q4 17 16, q3 18 1 1, q4 19 18, q0 20 4, q 21 (.ia 2 (.t 19) (.t 20)), q 22 (.ldA 2 (.t 21)), q 23 (.bsl
 16 qP 1 [(0, (.t 22))]), q 24 (.app 16 qP (.t 17) (.t 23)), q3 25 1 3, q6 1 25 24] [.q 0, .q 1, .q 2, .q 3, .q 4, .q 5, .q 6, .e 7 [0,1], .e 8 [], .q 9, .e 10 []] [1,2,3,12,13]))) (.reg [q 26 (.bin .add (.t 13) (qI 1)), q0 13 26]
 [1,2,3,12,13]))))))))))) (qS [q 27 (.ldA 2 (.t 3)), q6 2 2 27] [2] (.lift 2 (some 0) 16 .str (.lift 2 (some 1) 16 qP .ret)))))
def r12 : List RT := [.c 2 (some 2), .f 2]
def a14 : AS := qS [q 1 (.box (.t 0)), q 2 (.mv (.c (qE))), q 3 (.mv (qI 0))] [1] (.seq (qS [q 12 (.ldA 2 (.t 1)), qX 17 13 [.t 12], q 14 (.not (.t 13))] [1,14] (.cond (.t 14) (qS [q 2 (.mv (.c (qE))), q 3 (.mv (qI 1))] [2,3] .ret) .skip)) (qS [q 4 (.alcT
 71 [.nilp, .nils])] [1,4] (.seq (qS [q3 15 0 1, q4 16 15, q 17 (.len .s (.t 16)), q 18 (.mv (qI 0))] [1,4,16,17,18] (.block 0 (.loop 1 [1,4,16,17,18] (qS [q 19 (.bin .lss (.t 18) (.t 17))] [1,4,16,17,18,19] (.seq (.cond (.t 19) .skip (.exit
 0)) (.seq (.block 1 (qS [q 20 (.ia 1 (.t 16) (.t 18)), q4 21 20, q0 6 21] [1,4,6,16,17,18] (.reg [q0 22 6, qX 31 23 [.t 22], q 24 (.bin .add (.c (.str ⟨#[110,97,109,101,32]⟩)) (.t 23)), q 25 (.bin .add (.t 24) (.c (.str ⟨#[10]⟩))), q 26
 (.call 30 [none, none] [.t 4, .t 25])] [1,4,16,17,18]))) (.reg [q 27 (.bin .add (.t 18) (qI 1)), q0 18 27] [1,4,16,17,18]))))))) (.seq (qS [q3 28 1 1, q4 29 28, q 30 (.len .s (.t 29)), q 31 (.mv (qI 0))] [4,29,30,31] (.block 2 (.loop 2
 [4,29,30,31] (qS [q 32 (.bin .lss (.t 31) (.t 30))] [4,29,30,31,32] (.seq (.cond (.t 32) .skip (.exit 2)) (.seq (.block 3 (qS [q 33 (.ia 2 (.t 29) (.t 31)), q 34 (.ldA 2 (.t 33)), q 8 (.alc [.int .i64 0, .int .i64 0]), q6 2 8 34]
 [4,8,29,30,31] (qS [q3 36 0 8, q4 37 36, qX 32 38 [.t 37], q0 35 38, q 39 (.ext (.t 35) 0), q 40 (.ext (.t 35) 1), q 41 (.ext (.t 35) 2), q0 9 39, q0 10 40, q0 11 41] [4,8,9,10,29,30,31] (qS [q0 42 9, q 43 (.call 30 [none, none] [.t 4, .t
 42])] [4,8,10,29,30,31] (.seq (qS [q0 44 10, q 45 (.bin .neq (.t 44) (qI 0))] [4,8,29,30,31,45] (.cond (.t 45) (.reg [q3 46 1 8, q4 47 46, q 48 (.call 33 [none, none] [.t 47, qI 10]), q 49 (.bin .add (.c (.str ⟨#[32]⟩)) (.t 48)), q 50 (.call
 30 [none, none] [.t 4, .t 49])] [4,29,30,31]) .skip)) (.reg [q 51 (.call 30 [none, none] [.t 4, (.c (.str ⟨#[10]⟩))])] [4,29,30,31])))))) (.reg [q 52 (.bin .add (.t 31) (qI 1)), q0 31 52] [4,29,30,31]))))))) (qS [qX 34 53 [.t 4], q0 2 53, q
 3 (.mv (qI 0))] [2,3] .ret)))))
def r14 : List RT := [.t 2, .t 3]
def a16 : AS := qS [q 1 (.box (.t 0)), q 2 (.mv (.c (qE))), q 3 (.mv (qI 0))] [1] (.seq (qS [q 9 (.ldA 2 (.t 1)), qX 18 10 [.t 9], q 11 (.not (.t 10))] [1,11] (.cond (.t 11) (qS [q 2 (.mv (.c (qE))), q 3 (.mv (qI 1))] [2,3] .ret) .skip)) (qS [q 4 (.mv (.c
 (qE)))] [1,4] (.seq (qS [q3 12 0 1, q4 13 12, q 14 (.len .s (.t 13)), q 15 (.mv (qI 0))] [1,4,14,15] (.block 0 (.loop 1 [1,4,14,15] (qS [q 16 (.bin .lss (.t 15) (.t 14))] [1,4,14,15,16] (.seq (.cond (.t 16) .skip (.exit 0)) (.seq (.block 1
 (qS [q0 17 15, q0 5 17] [1,4,5,14,15] (.reg [q0 18 4, q 19 (.bin .add (.t 18) (.c (.str ⟨#[110,97,109,101,32]⟩))), q3 20 0 1, q4 21 20, q0 22 5, q 23 (.ia 1 (.t 21) (.t 22)), q4 24 23, qX 35 25 [.t 24], q 26 (.bin .add (.t 19) (.t 25)), q 27
 (.bin .add (.t 26) (.c (.str ⟨#[10]⟩))), q0 4 27] [1,4,14,15]))) (.reg [q 28 (.bin .add (.t 15) (qI 1)), q0 15 28] [1,4,14,15]))))))) (.seq (qS [q3 29 1 1, q4 30 29, q 31 (.len .s (.t 30)), q 32 (.mv (qI 0))] [1,4,31,32] (.block 2 (.loop 2
 [1,4,31,32] (qS [q 33 (.bin .lss (.t 32) (.t 31))] [1,4,31,32,33] (.seq (.cond (.t 33) .skip (.exit 2)) (.seq (.block 3 (qS [q0 34 32, q0 6 34] [1,4,6,31,32] (qS [q3 36 1 1, q4 37 36, q0 38 6, q 39 (.ia 2 (.t 37) (.t 38)), q3 40 0 39, q4 41
 40, qX 36 42 [.t 41], q0 35 42, q 43 (.ext (.t 35) 0), q 44 (.ext (.t 35) 1), q0 7 43, q0 8 44] [1,4,6,7,8,31,32] (qS [q0 45 4, q0 46 7, q 47 (.bin .add (.t 45) (.t 46)), q0 4 47] [1,4,6,8,31,32] (.seq (qS [q0 48 8, q 49 (.bin .gtr (.t 48)
 (qI 0))] [1,4,6,31,32,49] (.cond (.t 49) (.reg [q0 50 4, q 51 (.bin .add (.t 50) (.c (.str ⟨#[32]⟩))), q3 52 1 1, q4 53 52, q0 54 6, q 55 (.ia 2 (.t 53) (.t 54)), q3 56 1 55, q4 57 56, q 58 (.call 33 [none, none] [.t 57, qI 10]), q 59 (.bin
 .add (.t 51) (.t 58)), q0 4 59] [1,4,31,32]) .skip)) (.reg [q0 60 4, q 61 (.bin .add (.t 60) (.c (.str ⟨#[10]⟩))), q0 4 61] [1,4,31,32])))))) (.reg [q 62 (.bin .add (.t 32) (qI 1)), q0 32 62] [1,4,31,32]))))))) (qS [q0 63 4, q0 2 63, q 3
 (.mv (qI 0))] [2,3] .ret)))))
def r16 : List RT := [.t 2, .t 3]
def a19 : AS := qS [q 2 (.box (.t 0)), q 3 (.box (.t 1)), q 4 (.mv qf)] [2,3] (qS [q3 5 0 2, q4 6 5, q3 7 0 3, q4 8 7, q 9 (.call 40 [none, none] [.t 6, .t 8]), q0 10 9, qT 11 (.fa 1 (.t 2)) 10, qT 12 (.ld (.t 11)) 10, qT 13 (.fa 1 (.t 3)) 10, qT 14 (.ld
 (.t 13)) 10, qT 15 (.call 41 [none, none] [.t 12, .t 14]) 10, q 16 (.pick (.t 10) (.t 15) qf), q0 4 16] [4] .ret)
def r19 : List RT := [.t 4]
def a20 : AS := qS [q 1 (.box (.t 0)), q 2 (.mv (.c (.nils))), q 3 (.mv (qI 0))] [1] (.seq (qS [q 9 (.ldA 2 (.t 1)), qX 17 10 [.t 9], q 11 (.not (.t 10))] [1,11] (.cond (.t 11) (qS [q 2 (.mv (.c (.nils))), q 3 (.mv (qI 1))] [2,3] (.lift 2 none 1 .byte
 .ret)) .skip)) (qS [q 12 (.call 42 [] []), q0 4 12] [1,4] (qS [q0 13 4, q3 14 0 1, q4 15 14, q 16 (.len .s (.t 15)), q 17 (.cv .u64 (.t 16)), q 18 (.call 43 [none, none] [.t 13, .t 17])] [1,4] (.seq (qS [q3 19 0 1, q4 20 19, q 21 (.len .s
 (.t 20)), q 22 (.mv (qI 0))] [1,4,20,21,22] (.block 0 (.lift 4 (some 0) 1 .byte (.loop 1 [1,4,20,21,22] (qS [q 23 (.bin .lss (.t 22) (.t 21))] [1,4,20,21,22,23] (.seq (.cond (.t 23) .skip (.exit 0)) (.seq (.block 1 (qS [q 24 (.ia 1 (.t 20)
 (.t 22)), q4 25 24, q0 6 25] [1,4,6,20,21,22] (.reg [q0 26 4, q0 27 6, q 28 (.call 44 [none, none] [.t 26, .t 27])] [1,4,20,21,22]))) (.reg [q 29 (.bin .add (.t 22) (qI 1)), q0 22 29] [1,4,20,21,22])))))))) (qS [q0 30 4, q3 31 1 1, q4 32 31,
 q 33 (.len .s (.t 32)), q 34 (.cv .u64 (.t 33)), q 35 (.call 43 [none, none] [.t 30, .t 34])] [1,4] (.seq (qS [q3 36 1 1, q4 37 36, q 38 (.len .s (.t 37)), q 39 (.mv (qI 0))] [4,37,38,39] (.block 2 (.lift 4 (some 0) 1 .byte (.loop 2
 [4,37,38,39] (qS [q 40 (.bin .lss (.t 39) (.t 38))] [4,37,38,39,40] (.seq (.cond (.t 40) .skip (.exit 2)) (.seq (.block 3 (qS [q 41 (.ia 2 (.t 37) (.t 39)), q 42 (.ldA 2 (.t 41)), q 8 (.alc [.int .i64 0, .int .i64 0]), q6 2 8 42]
 [4,8,37,38,39] (qS [q0 43 4, q3 44 0 8, q4 45 44, q 46 (.cv .u64 (.t 45)), q 47 (.call 43 [none, none] [.t 43, .t 46])] [4,8,37,38,39] (.reg [q0 48 4, q3 49 1 8, q4 50 49, q 51 (.call 45 [none, none] [.t 48, .t 50])] [4,37,38,39])))) (.reg
 [q 52 (.bin .add (.t 39) (qI 1)), q0 39 52] [4,37,38,39])))))))) (qS [q0 53 4, qX 46 54 [.t 53], q0 2 54, q 3 (.mv (qI 0))] [2,3] (.lift 2 none 1 .byte .ret))))))))
def r20 : List RT := [.t 2, .t 3]
def a21 : AS := qS [q 1 (.box (.t 0)), q 2 (.mv (.c (.nils))), q 3 (.mv (qI 0))] [1] (.seq (qS [q 7 (.ldA 2 (.t 1)), qX 18 8 [.t 7], q 9 (.not (.t 8))] [1,9] (.cond (.t 9) (qS [q 2 (.mv (.c (.nils))), q 3 (.mv (qI 1))] [2,3] (.lift 2 none 1 .byte .ret))
 .skip)) (qS [q3 10 0 1, q4 11 10, q 12 (.len .s (.t 11)), q 13 (.cv .u64 (.t 12)), q 14 (.call 47 [none, none] [(.c (.nils)), .t 13]), q0 4 14] [1,4] (.seq (qS [q3 15 0 1, q4 16 15, q 17 (.len .s (.t 16)), q 18 (.mv (qI 0))] [1,4,17,18]
 (.block 0 (.lift 4 none 1 .byte (.loop 1 [1,4,17,18] (qS [q 19 (.bin .lss (.t 18) (.t 17))] [1,4,17,18,19] (.seq (.cond (.t 19) .skip (.exit 0)) (.seq (.block 1 (qS [q0 20 18, q0 5 20] [1,4,5,17,18] (.reg [q0 21 4, q3 22 0 1, q4 23 22, q0 24
 5, q 25 (.ia 1 (.t 23) (.t 24)), q4 26 25, q 27 (.call 48 [none, none] [.t 21, .t 26]), q0 4 27] [1,4,17,18]))) (.reg [q 28 (.bin .add (.t 18) (qI 1)), q0 18 28] [1,4,17,18])))))))) (qS [q0 29 4, q3 30 1 1, q4 31 30, q 32 (.len .s (.t 31)),
 q 33 (.cv .u64 (.t 32)), q 34 (.call 47 [none, none] [.t 29, .t 33]), q0 4 34] [1,4] (.seq (qS [q3 35 1 1, q4 36 35, q 37 (.len .s (.t 36)), q 38 (.mv (qI 0))] [1,4,37,38] (.block 2 (.lift 4 none 1 .byte (.loop 2 [1,4,37,38] (qS [q 39 (.bin
 .lss (.t 38) (.t 37))] [1,4,37,38,39] (.seq (.cond (.t 39) .skip (.exit 2)) (.seq (.block 3 (qS [q0 40 38, q0 6 40] [1,4,6,37,38] (.regD [q0 41 4, q3 42 1 1, q4 43 42, q0 44 6, q 45 (.ia 2 (.t 43) (.t 44)), q3 46 0 45, q4 47 46, q 48 (.cv
 .u64 (.t 47)), q 49 (.call 47 [none, none] [.t 41, .t 48]), q3 50 1 1, q4 51 50, q0 52 6, q 53 (.ia 2 (.t 51) (.t 52)), q3 54 1 53, q4 55 54, q 56 (.call 49 [none, none] [.t 49, .t 55]), q0 4 56] [.q 0, .q 1, .q 2, .q 3, .q 4, .q 5, .q 6, .q
 7, .q 9, .q 10, .q 11, .q 12, .q 13, .q 14, .e 8 [9,10,11,12,13,14], .e 15 [], .e 16 []] [1,4,37,38]))) (.reg [q 57 (.bin .add (.t 38) (qI 1)), q0 38 57] [1,4,37,38])))))))) (qS [q0 58 4, q0 2 58, q 3 (.mv (qI 0))] [2,3] (.lift 2 none 1
 .byte .ret)))))))
def r21 : List RT := [.t 2, .t 3]
def a22 : AS := qS [q 2 (.alc [.nils, .nils]), q 3 (.mv (qI 0))] [0,2] (qS [q0 8 0, q 9 (.call 50 [(some (1, .byte))] [.t 8]), q0 4 9] [2,4] (qS [q 5 (.alc [.nils, .nils])] [2,4,5] (qS [q0 10 4, qX 51 11 [.t 10], q0 6 11] [2,4,5,6] (.seq (qS [q0 12 6, q 13
 (.bin .gtr (.t 12) (.c (.int .u64 8)))] [2,4,5,6,13] (.cond (.t 13) (qS [q 14 (.bld [.nils, .nils] []), q6 2 2 14, q 3 (.mv (qI 2))] [2,3] .ret) .skip)) (.seq (qS [q0 15 6, q 16 (.mv (.c (.int .u64 0)))] [2,4,5,15,16] (.block 0 (.lift 4
 (some 0) 1 .byte (.lift 5 (some 0) 16 .str (.lift 5 (some 1) 16 qP (.loop 1 [2,4,5,15,16] (qS [q 17 (.bin .lss (.t 16) (.t 15))] [2,4,5,15,16,17] (.seq (.cond (.t 17) .skip (.exit 0)) (.seq (.block 1 (.regD [q3 18 0 5, q4 19 18, q0 20 4, qX
 52 21 [.t 20], q 22 (.bsl 16 .str 1 [(0, (.t 21))]), q 23 (.app 16 .str (.t 19) (.t 22)), q3 24 0 5, q6 1 24 23] [.q 0, .q 1, .q 2, .e 3 [0,1], .e 4 [0,1], .e 5 [], .q 6, .e 7 []] [2,4,5,15,16])) (.reg [q 25 (.bin .add (.t 16) (.c (.int .u64
 1))), q0 16 25] [2,4,5,15,16])))))))))) (.seq (qS [q0 26 4, qX 51 27 [.t 26], q0 6 27] [2,4,5,6] (qS [q0 28 6, q 29 (.bin .gtr (.t 28) (.c (.int .u64 200)))] [2,4,5,6,29] (.cond (.t 29) (qS [q 30 (.bld [.nils, .nils] []), q6 2 2 30, q 3 (.mv
 (qI 2))] [2,3] .ret) .skip))) (.seq (qS [q0 31 6, q 32 (.mv (.c (.int .u64 0)))] [2,4,5,31,32] (.block 2 (.lift 4 (some 0) 1 .byte (.lift 5 (some 0) 16 .str (.lift 5 (some 1) 16 qP (.loop 2 [2,4,5,31,32] (qS [q 33 (.bin .lss (.t 32) (.t
 31))] [2,4,5,31,32,33] (.seq (.cond (.t 33) .skip (.exit 2)) (.seq (.block 3 (qS [q0 34 4, qX 51 35 [.t 34], q0 7 35] [2,4,5,7,31,32] (.regD [q3 36 1 5, q4 37 36, q0 38 7, q 39 (.mm false (.t 38) (.c (.int .u64 200))), q 40 (.cv .i64 (.t
 39)), q0 41 4, qX 53 42 [.t 41], q 43 (.bld [.int .i64 0, .int .i64 0] [(0, 1, (.t 40)), (1, 1, (.t 42))]), q 44 (.bsl 16 qP 1 [(0, (.t 43))]), q 45 (.app 16 qP (.t 37) (.t 44)), q3 46 1 5, q6 1 46 45] [.q 0, .q 1, .q 2, .q 3, .q 4, .q 5, .e
 6 [0,1,2,3,4], .q 7, .e 8 [0,1], .e 9 [], .q 10, .e 11 []] [2,4,5,31,32]))) (.reg [q 47 (.bin .add (.t 32) (.c (.int .u64 1))), q0 32 47] [2,4,5,31,32])))))))))) (.seq (.seq (.frz 5 (.reg [q0 48 4, qX 54 49 [.t 48], q 50 (.not (.t 49)), q0
 51 50, qF 52 (.ldA 2 (.t 5)) 51, qF 53 (.call 17 [none] [.t 52]) 51, qF 54 (.not (.t 53)) 51, q 55 (.pick (.t 51) qt (.t 54))] [2,5,55])) (.cond (.t 55) (qS [q 56 (.bld [.nils, .nils] []), q6 2 2 56, q 3 (.mv (qI 2))] [2,3] .ret) .skip)) (qS
 [q 57 (.ldA 2 (.t 5)), q6 2 2 57, q 3 (.mv (qI 0))] [2,3] .ret)))))))))
def r22 : List RT := [.c 2 (some 2), .t 3]
def a23 : AS := qS [q 2 (.alc [.nils, .nils]), q 3 (.mv (qI 0))] [0,2] (qS [q0 8 0, qX 55 9 [.t 8], q0 4 9] [2,4] (qS [q 5 (.alc [.nils, .nils])] [2,4,5] (qS [q0 10 4, qX 56 11 [.t 10], q0 6 11] [2,4,5,6] (.seq (qS [q0 12 6, q 13 (.bin .gtr (.t 12) (.c
 (.int .u64 8)))] [2,4,5,6,13] (.cond (.t 13) (qS [q 14 (.bld [.nils, .nils] []), q6 2 2 14, q 3 (.mv (qI 2))] [2,3] .ret) .skip)) (.seq (qS [q0 15 6, q 16 (.mv (.c (.int .u64 0)))] [2,4,5,15,16] (.block 0 (.lift 4 (some 0) 1 .byte (.lift 5
 (some 0) 16 .str (.lift 5 (some 1) 16 qP (.loop 1 [2,4,5,15,16] (qS [q 17 (.bin .lss (.t 16) (.t 15))] [2,4,5,15,16,17] (.seq (.cond (.t 17) .skip (.exit 0)) (.seq (.block 1 (.regD [q3 18 0 5, q4 19 18, q0 20 4, qX 57 21 [.t 20], q 22 (.bsl
 16 .str 1 [(0, (.t 21))]), q 23 (.app 16 .str (.t 19) (.t 22)), q3 24 0 5, q6 1 24 23] [.q 0, .q 1, .q 2, .e 3 [0,1], .e 4 [0,1], .e 5 [], .q 6, .e 7 []] [2,4,5,15,16])) (.reg [q 25 (.bin .add (.t 16) (.c (.int .u64 1))), q0 16 25]
 [2,4,5,15,16])))))))))) (qS [q0 26 4, qX 56 27 [.t 26], q0 6 27] [2,4,5,6] (.seq (qS [q0 28 4, q5 29 28, q3 30 1 29, q4 31 30, q0 32 31, q2 33 6 32, qF 34 (.bin .gtr (.t 33) (.c (.int .u64 200))) 32, q 35 (.pick (.t 32) qt (.t 34))]
 [2,4,5,6,35] (.cond (.t 35) (qS [q 36 (.bld [.nils, .nils] []), q6 2 2 36, q 3 (.mv (qI 2))] [2,3] .ret) .skip)) (.seq (qS [q0 37 6, q 38 (.mv (.c (.int .u64 0)))] [2,4,5,37,38] (.block 2 (.lift 4 (some 0) 1 .byte (.lift 5 (some 0) 16 .str
 (.lift 5 (some 1) 16 qP (.loop 2 [2,4,5,37,38] (qS [q 39 (.bin .lss (.t 38) (.t 37))] [2,4,5,37,38,39] (.seq (.cond (.t 39) .skip (.exit 2)) (.seq (.block 3 (qS [q0 40 4, qX 56 41 [.t 40], q0 7 41] [2,4,5,7,37,38] (.seq (qS [q0 42 7, q 43
 (.bin .gtr (.t 42) (.c (.int .u64 23)))] [2,4,5,7,37,38,43] (.cond (.t 43) (qS [q 44 (.bld [.nils, .nils] []), q6 2 2 44, q 3 (.mv (qI 2))] [2,3] .ret) .skip)) (.regD [q3 45 1 5, q4 46 45, q0 47 7, q 48 (.cv .i64 (.t 47)), q0 49 4, qX 58 50
 [.t 49], q 51 (.bld [.int .i64 0, .int .i64 0] [(0, 1, (.t 48)), (1, 1, (.t 50))]), q 52 (.bsl 16 qP 1 [(0, (.t 51))]), q 53 (.app 16 qP (.t 46) (.t 52)), q3 54 1 5, q6 1 54 53] [.q 0, .q 1, .q 2, .q 3, .q 4, .e 5 [0,1,2,3], .q 6, .e 7
 [0,1], .e 8 [], .q 9, .e 10 []] [2,4,5,37,38])))) (.reg [q 55 (.bin .add (.t 38) (.c (.int .u64 1))), q0 38 55] [2,4,5,37,38])))))))))) (.seq (.seq (.frz 5 (.reg [q0 56 4, qX 59 57 [.t 56], q 58 (.not (.t 57)), q0 59 58, qF 60 (.ldA 2 (.t
 5)) 59, qF 61 (.call 18 [none] [.t 60]) 59, qF 62 (.not (.t 61)) 59, q 63 (.pick (.t 59) qt (.t 62))] [2,5,63])) (.cond (.t 63) (qS [q 64 (.bld [.nils, .nils] []), q6 2 2 64, q 3 (.mv (qI 2))] [2,3] .ret) .skip)) (qS [q 65 (.ldA 2 (.t 5)),
 q6 2 2 65, q 3 (.mv (qI 0))] [2,3] .ret))))))))))
def r23 : List RT := [.c 2 (some 2), .t 3]
def a26 : AS := qS [q 2 (.mv (.c (qE))), q 3 (.mv qf)] [0] (.seq (qS [q0 8 0, q 9 (.len .i (.t 8)), q 10 (.bin .rem (.t 9) (qI 2)), q 11 (.bin .neq (.t 10) (qI 0))] [0,11] (.cond (.t 11) (qS [q 2 (.mv (.c (qE))), q 3 (.mv qf)] [2,3] .ret) .skip)) (qS [q 4
 (.alcT 71 [.nilp, .nils])] [0,4] (.seq (qS [q 5 (.mv (qI 0))] [0,4,5] (.block 0 (.loop 1 [0,4,5] (.seq (qS [q0 12 5, q0 13 0, q 14 (.len .i (.t 13)), q 15 (.bin .lss (.t 12) (.t 14))] [0,4,5,15] (.cond (.t 15) .skip (.exit 0))) (.seq (.block
 1 (.seq (.regD [q0 18 0, q0 19 5, q 20 (.ixS (.t 18) (.t 19)), q 21 (.call 62 [none, none] [(.c (.str ⟨#[48,49,50,51,52,53,54,55,56,57,97,98,99,100,101,102]⟩)), .t 20]), q0 22 0, q0 23 5, q 24 (.bin .add (.t 23) (qI 1)), q 25 (.ixS (.t 22)
 (.t 24)), q 26 (.call 62 [none, none] [(.c (.str ⟨#[48,49,50,51,52,53,54,55,56,57,97,98,99,100,101,102]⟩)), .t 25]), q0 6 21, q0 7 26] [.q 0, .q 1, .q 2, .q 4, .q 5, .q 6, .q 7, .e 3 [4,5,6,7], .e 8 [], .q 9, .q 10] [0,4,5,6,7]) (.seq (qS
 [q0 27 6, q 28 (.bin .lss (.t 27) (qI 0)), q0 29 28, q2 30 7 29, qF 31 (.bin .lss (.t 30) (qI 0)) 29, q 32 (.pick (.t 29) qt (.t 31))] [0,4,5,6,7,32] (.cond (.t 32) (qS [q 2 (.mv (.c (qE))), q 3 (.mv qf)] [2,3] .ret) .skip)) (.reg [q0 33 6,
 q 34 (.bin .shl (.t 33) (.c (.int .u64 4))), q0 35 7, q 36 (.bin .or (.t 34) (.t 35)), q 37 (.cv .u8 (.t 36)), q 38 (.call 63 [none, none] [.t 4, .t 37])] [0,4,5])))) (.reg [q0 16 5, q 17 (.bin .add (.t 16) (qI 2)), q0 5 17] [0,4,5]))))))
 (qS [qX 34 39 [.t 4], qX 34 40 [.t 4], qX 37 41 [.t 40], q0 2 39, q0 3 41] [2,3] .ret))))
def r26 : List RT := [.t 2, .t 3]
def a27 : AS := qS [q 2 (.alc [.int .i64 0, .int .i64 0]), q 3 (.mv qf)] [0,2] (qS [q0 13 0, q 14 (.call 24 [none, none] [.t 13, (.c (.str ⟨#[32]⟩))]), q0 12 14, q 15 (.ext (.t 12) 0), q 16 (.ext (.t 12) 1), q 17 (.ext (.t 12) 2), q0 4 15, q0 5 16, q0 6 17]
 [2,4,5,6] (qS [q 7 (.mv (qI 0))] [2,4,5,6,7] (.block 0 (.loop 1 [2,4,5,6,7] (.seq (.block 1 (qS [q0 21 7, qX 32 22 [.t 21], q0 20 22, q 23 (.ext (.t 20) 0), q 24 (.ext (.t 20) 1), q 25 (.ext (.t 20) 2), q0 8 23, q0 9 24, q0 10 25]
 [2,4,5,6,7,8,9,10] (.seq (qS [q0 26 10, q 27 (.not (.t 26))] [2,4,5,6,7,8,9,27] (.cond (.t 27) (qS [q 28 (.bld [.int .i64 0, .int .i64 0] []), q6 2 2 28, q 3 (.mv qf)] [2,3] .ret) .skip)) (.seq (qS [q0 29 8, q0 30 4, q 31 (.bin .neq (.t 29)
 (.t 30))] [2,4,5,6,7,9,31] (.cond (.t 31) (.exit 1) .skip)) (.seq (qS [q0 32 9, q 33 (.bin .eql (.t 32) (qI 0))] [2,5,6,7,33] (.cond (.t 33) (qS [q0 34 7, q 35 (.bld [.int .i64 0, .int .i64 0] [(0, 1, (.t 34))]), q0 36 6, q 37 (.not (.t
 36)), q6 2 2 35, q0 3 37] [2,3] .ret) .skip)) (qS [q0 39 5, qX 64 40 [.t 39], q0 38 40, q 41 (.ext (.t 38) 0), q 42 (.ext (.t 38) 1), q0 11 41, q0 10 42] [2,6,7,10,11] (qS [q0 43 7, q0 44 11, q 45 (.bld [.int .i64 0, .int .i64 0] [(0, 1, (.t
 43)), (1, 1, (.t 44))]), q0 46 6, q0 47 46, q1 48 10 47, q 49 (.pick (.t 47) (.t 48) qf), q6 2 2 45, q0 3 49] [2,3] .ret))))))) (.reg [q0 18 7, q 19 (.bin .add (.t 18) (qI 1)), q0 7 19] [2,4,5,6,7]))))))
def r27 : List RT := [.c 2 (some 2), .t 3]
def a28 : AS := qS [q 2 (.mv (.c (.nils)))] [0] (qS [q 3 (.mv (.c (.nils)))] [0,3] (qS [q 4 (.mv (qI 0))] [0,3,4] (.seq (qS [q 5 (.mv (qI 0))] [0,3,4,5] (.block 0 (.lift 3 none 16 .str (.loop 1 [0,3,4,5] (.seq (qS [q0 6 5, q0 7 0, q 8 (.len .i (.t 7)), q 9
 (.bin .lss (.t 6) (.t 8))] [0,3,4,5,9] (.cond (.t 9) .skip (.exit 0))) (.seq (.block 1 (qS [q0 12 0, q0 13 5, q 14 (.ixS (.t 12) (.t 13)), q 15 (.bin .eql (.t 14) (.c (.int .u8 10)))] [0,3,4,5,15] (.cond (.t 15) (qS [q0 16 3, q0 17 0, q0 18
 4, q0 19 5, q 20 (.slS (.t 17) (some (.t 18)) (some (.t 19))), q 21 (.bsl 16 .str 1 [(0, (.t 20))]), q 22 (.app 16 .str (.t 16) (.t 21)), q0 3 22] [0,3,5] (.reg [q0 23 5, q 24 (.bin .add (.t 23) (qI 1)), q0 4 24] [0,3,4,5])) .skip))) (.reg
 [q0 10 5, q 11 (.bin .add (.t 10) (qI 1)), q0 5 11] [0,3,4,5]))))))) (.seq (qS [q0 25 4, q0 26 0, q 27 (.len .i (.t 26)), q 28 (.bin .lss (.t 25) (.t 27))] [0,3,4,28] (.cond (.t 28) (.reg [q0 29 3, q0 30 0, q0 31 4, q 32 (.slS (.t 30) (some
 (.t 31)) none), q 33 (.bsl 16 .str 1 [(0, (.t 32))]), q 34 (.app 16 .str (.t 29) (.t 33)), q0 3 34] [3]) .skip)) (qS [q0 35 3, q0 2 35] [2] (.lift 2 none 16 .str .ret))))))
def r28 : List RT := [.t 2]
def a29 : AS := qS [q 2 (.alc [.int .i64 0, .int .i64 0]), q 3 (.mv (.c (qE))), q 4 (.mv qf)] [0,2] (.seq (qS [q0 12 0, q 13 (.len .i (.t 12)), q 14 (.bin .geq (.t 13) (qI 5)), q0 15 14, q1 16 0 15, qT 17 (.slS (.t 16) none (some (qI 5))) 15, qT 18 (.bin
 .eql (.t 17) (.c (.str ⟨#[110,97,109,101,32]⟩))) 15, q 19 (.pick (.t 15) (.t 18) qf)] [0,2,19] (.cond (.t 19) (qS [q0 21 0, q 22 (.slS (.t 21) (some (qI 5)) none), qX 65 23 [.t 22], q0 20 23, q 24 (.ext (.t 20) 0), q 25 (.ext (.t 20) 1), q0
 5 24, q0 6 25] [2,5,6] (qS [q 26 (.bld [.int .i64 0, .int .i64 0] [(0, 1, (qI (-1)))]), q0 27 5, q0 28 6, q6 2 2 26, q0 3 27, q0 4 28] [2,3,4] .ret)) .skip)) (.seq (qS [q 29 (.mv (qI 0))] [0,2,29] (.block 0 (.loop 1 [0,2,29] (qS [q 30 (.bin
 .lss (.t 29) (qI 24))] [0,2,29,30] (.seq (.cond (.t 30) .skip (.exit 0)) (.seq (.block 1 (qS [q0 31 29, q0 7 31] [0,2,7,29] (qS [q0 33 7, qX 36 34 [.t 33], q0 32 34, q 35 (.ext (.t 32) 0), q 36 (.ext (.t 32) 1), q0 8 35, q0 9 36]
 [0,2,7,8,9,29] (.seq (qS [q0 37 9, q 38 (.bin .eql (.t 37) (qI 0)), q0 39 38, q1 40 0 39, q1 41 8 39, qT 42 (.bin .eql (.t 40) (.t 41)) 39, q 43 (.pick (.t 39) (.t 42) qf)] [0,2,7,8,9,29,43] (.cond (.t 43) (qS [q0 44 7, q 45 (.bld [.int .i64
 0, .int .i64 0] [(0, 1, (.t 44))]), q6 2 2 45, q 3 (.mv (.c (qE))), q 4 (.mv qt)] [2,3,4] .ret) .skip)) (qS [q0 46 9, q 47 (.bin .gtr (.t 46) (qI 0)), q0 48 47, q1 49 0 48, qT 50 (.len .i (.t 49)) 48, q1 51 8 48, qT 52 (.len .i (.t 51)) 48,
 qT 53 (.bin .gtr (.t 50) (.t 52)) 48, q 54 (.pick (.t 48) (.t 53) qf), q0 55 54, q1 56 0 55, q1 57 8 55, qT 58 (.len .i (.t 57)) 55, qT 59 (.bin .add (.t 58) (qI 1)) 55, qT 60 (.slS (.t 56) none (some (.t 59))) 55, q1 61 8 55, qT 62 (.bin
 .add (.t 61) (.c (.str ⟨#[32]⟩))) 55, qT 63 (.bin .eql (.t 60) (.t 62)) 55, q 64 (.pick (.t 55) (.t 63) qf)] [0,2,7,8,29,64] (.cond (.t 64) (qS [q0 66 0, q0 67 8, q 68 (.len .i (.t 67)), q 69 (.bin .add (.t 68) (qI 1)), q 70 (.slS (.t 66)
 (some (.t 69)) none), qX 66 71 [.t 70], q0 65 71, q 72 (.ext (.t 65) 0), q 73 (.ext (.t 65) 1), q0 10 72, q0 11 73] [2,7,10,11] (qS [q0 74 7, q0 75 10, q 76 (.bld [.int .i64 0, .int .i64 0] [(0, 1, (.t 74)), (1, 1, (.t 75))]), q0 77 11, q6 2
 2 76, q 3 (.mv (.c (qE))), q0 4 77] [2,3,4] .ret)) .skip)))))) (.reg [q 78 (.bin .add (.t 29) (qI 1)), q0 29 78] [0,2,29]))))))) (qS [q 79 (.bld [.int .i64 0, .int .i64 0] []), q6 2 2 79, q 3 (.mv (.c (qE))), q 4 (.mv qf)] [2,3,4] .ret)))
def r29 : List RT := [.c 2 (some 2), .t 3, .t 4]
def a31 : AS := qS [q 2 (.mv (.c (qE)))] [0] (qS [q 3 (.alcT 71 [.nilp, .nils])] [0,3] (.seq (qS [q0 5 0, q 6 (.len .i (.t 5)), q 7 (.mv (qI 0))] [0,3,6,7] (.block 0 (.loop 1 [0,3,6,7] (qS [q 8 (.bin .lss (.t 7) (.t 6))] [0,3,6,7,8] (.seq (.cond (.t 8)
 .skip (.exit 0)) (.seq (.block 1 (qS [q0 9 7, q0 4 9] [0,3,4,6,7] (qS [q0 10 0, q0 11 4, q 12 (.ixS (.t 10) (.t 11)), q 13 (.bin .shr (.t 12) (.c (.int .u64 4))), q 14 (.ixS (.c (.str ⟨#[48,49,50,51,52,53,54,55,56,57,97,98,99,100,101,102]⟩))
 (.t 13)), q 15 (.call 63 [none, none] [.t 3, .t 14])] [0,3,4,6,7] (.reg [q0 16 0, q0 17 4, q 18 (.ixS (.t 16) (.t 17)), q 19 (.bin .and (.t 18) (.c (.int .u8 15))), q 20 (.ixS (.c (.str
 ⟨#[48,49,50,51,52,53,54,55,56,57,97,98,99,100,101,102]⟩)) (.t 19)), q 21 (.call 63 [none, none] [.t 3, .t 20])] [0,3,6,7])))) (.reg [q 22 (.bin .add (.t 7) (qI 1)), q0 7 22] [0,3,6,7]))))))) (qS [qX 34 23 [.t 3], q0 2 23] [2] .ret)))
def r31 : List RT := [.t 2]
def a35 : AS := qS [q 2 (.mv (.c (qE)))] [0] (qS [q 3 (.mv (.c (.nils)))] [0,3] (.seq (qS [q 4 (.mv (qI 0))] [0,3,4] (.block 0 (.lift 3 none 1 .byte (.loop 1 [0,3,4] (.seq (qS [q0 5 4, q0 6 0, q 7 (.len .i (.t 6)), q 8 (.bin .lss (.t 5) (.t 7))] [0,3,4,8]
 (.cond (.t 8) .skip (.exit 0))) (.seq (.block 1 (.regD [q0 11 3, q0 12 0, q0 13 4, q 14 (.ixS (.t 12) (.t 13)), q 15 (.bin .shr (.t 14) (.c (.int .u64 4))), q 16 (.ixS (.c (.str ⟨#[48,49,50,51,52,53,54,55,56,57,97,98,99,100,101,102]⟩)) (.t
 15)), q0 17 0, q0 18 4, q 19 (.ixS (.t 17) (.t 18)), q 20 (.bin .and (.t 19) (.c (.int .u8 15))), q 21 (.ixS (.c (.str ⟨#[48,49,50,51,52,53,54,55,56,57,97,98,99,100,101,102]⟩)) (.t 20)), q 22 (.bsl 1 .byte 2 [(0, (.t 16)), (1, (.t 21))]), q
 23 (.app 1 .byte (.t 11) (.t 22)), q0 3 23] [.q 0, .q 1, .q 2, .q 3, .q 4, .q 5, .q 6, .q 7, .q 8, .q 9, .q 10, .e 11 [0], .e 12 [], .e 13 []] [0,3,4])) (.reg [q0 9 4, q 10 (.bin .add (.t 9) (qI 1)), q0 4 10] [0,3,4]))))))) (qS [q0 24 3, q
 25 (.b2s (.t 24)), q0 2 25] [2] .ret)))
def r35 : List RT := [.t 2]
def a65 : AS := qS [q 2 (.mv (.c (qE))), q 3 (.mv qf)] [0] (qS [q 4 (.mv (.c (.nils)))] [0,4] (.seq (qS [q 5 (.mv (qI 0))] [0,4,5] (.block 0 (.lift 4 none 1 .byte (.loop 1 [0,4,5] (.seq (qS [q0 8 5, q 9 (.bin .add (.t 8) (qI 1)), q0 10 0, q 11 (.len .i (.t
 10)), q 12 (.bin .lss (.t 9) (.t 11))] [0,4,5,12] (.cond (.t 12) .skip (.exit 0))) (.seq (.block 1 (.seq (.regD [q0 15 0, q0 16 5, q 17 (.ixS (.t 15) (.t 16)), qX 76 18 [.t 17], q0 19 0, q0 20 5, q 21 (.bin .add (.t 20) (qI 1)), q 22 (.ixS
 (.t 19) (.t 21)), qX 76 23 [.t 22], q0 6 18, q0 7 23] [.q 0, .q 1, .q 2, .q 4, .q 5, .q 6, .q 7, .e 3 [4,5,6,7], .e 8 [], .q 9, .q 10] [0,4,5,6,7]) (.seq (qS [q0 24 6, q 25 (.bin .lss (.t 24) (qI 0)), q0 26 25, q2 27 7 26, qF 28 (.bin .lss
 (.t 27) (qI 0)) 26, q 29 (.pick (.t 26) qt (.t 28))] [0,4,5,6,7,29] (.cond (.t 29) (qS [q 2 (.mv (.c (qE))), q 3 (.mv qf)] [2,3] .ret) .skip)) (.reg [q0 30 4, q0 31 6, q 32 (.bin .mul (qI 16) (.t 31)), q0 33 7, q 34 (.bin .add (.t 32) (.t
 33)), q 35 (.cv .u8 (.t 34)), q 36 (.bsl 1 .byte 1 [(0, (.t 35))]), q 37 (.app 1 .byte (.t 30) (.t 36)), q0 4 37] [0,4,5])))) (.reg [q0 13 5, q 14 (.bin .add (.t 13) (qI 2)), q0 5 14] [0,4,5]))))))) (.seq (.regD [q0 38 4, q 39 (.b2s (.t
 38)), q0 40 0, q 41 (.len .i (.t 40)), q 42 (.bin .rem (.t 41) (qI 2)), q 43 (.bin .eql (.t 42) (qI 0)), q0 44 43, q1 45 4 44, qT 46 (.b2s (.t 45)) 44, qT 47 (.call 39 [none] [.t 46]) 44, q 48 (.pick (.t 44) (.t 47) qf), q0 2 39, q0 3 48]
 [.q 0, .q 1, .q 2, .q 3, .q 4, .q 5, .q 6, .q 7, .q 8, .e 9 [0,1], .q 10, .q 11, .q 12] [2,3]) .ret)))
def r65 : List RT := [.t 2, .t 3]
def a66 : AS := qS [q 2 (.mv (qI 0)), q 3 (.mv qf)] [0] (qS [q0 7 0, q 8 (.len .i (.t 7)), q 9 (.bin .gtr (.t 8) (qI 0)), q0 10 9, q1 11 0 10, qT 12 (.ixS (.t 11) (qI 0)) 10, qT 13 (.bin .eql (.t 12) (.c (.int .u8 45))) 10, q 14 (.pick (.t 10) (.t 13) qf),
 q0 4 14] [0,4] (.seq (qS [q0 15 4] [0,4,15] (.cond (.t 15) (.reg [q0 16 0, q 17 (.slS (.t 16) (some (qI 1)) none), q0 0 17] [0,4]) .skip)) (qS [q0 19 0, qX 77 20 [.t 19], q0 18 20, q 21 (.ext (.t 18) 0), q 22 (.ext (.t 18) 1), q0 5 21, q0 6
 22] [4,5,6] (.seq (.block 0 (qS [q0 24 6, q 25 (.not (.t 24)), q0 26 25, q2 27 4 26, q2 28 27 26, q1 29 5 28, qT 30 (.bin .eql (.t 29) (.c (.int .u64 0))) 28, q1 31 30 28, q2 32 5 31, qF 33 (.bin .gtr (.t 32) (.c (.int .u64
 9223372036854775808))) 31, qT 34 (.pick (.t 31) qt (.t 33)) 28, qF 35 (.pick (.t 28) (.t 34) qf) 26, q 36 (.pick (.t 26) qt (.t 35)), q0 37 36, q2 38 4 37, qF 39 (.not (.t 38)) 37, q2 40 39 37, q1 41 5 40, qT 42 (.bin .gtr (.t 41) (.c (.int
 .u64 9223372036854775807))) 40, qF 43 (.pick (.t 40) (.t 42) qf) 37, q 44 (.pick (.t 37) qt (.t 43)), q0 23 44] [4,5,23] (.cond (.t 23) (qS [q 2 (.mv (qI 0)), q 3 (.mv qf)] [2,3] .ret) (qS [q0 46 4, q0 45 46] [5,45] (.cond (.t 45) (qS [q0 47
 5, q 48 (.neg (.t 47)), q 49 (.cv .i64 (.t 48)), q0 2 49, q 3 (.mv qt)] [2,3] .ret) .skip))))) (qS [q0 50 5, q 51 (.cv .i64 (.t 50)), q0 2 51, q 3 (.mv qt)] [2,3] .ret)))))
def r66 : List RT := [.t 2, .t 3]
def a76 : AS := qS [q 2 (.mv (qI 0))] [0] (.seq (.block 0 (qS [q0 4 0, q 5 (.bin .geq (.t 4) (.c (.int .u8 48))), q0 6 5, q1 7 0 6, qT 8 (.bin .leq (.t 7) (.c (.int .u8 57))) 6, q 9 (.pick (.t 6) (.t 8) qf), q0 3 9] [0,3] (.cond (.t 3) (qS [q0 10 0, q 11
 (.bin .sub (.t 10) (.c (.int .u8 48))), q 12 (.cv .i64 (.t 11)), q0 2 12] [2] .ret) (qS [q0 14 0, q 15 (.bin .geq (.t 14) (.c (.int .u8 97))), q0 16 15, q1 17 0 16, qT 18 (.bin .leq (.t 17) (.c (.int .u8 102))) 16, q 19 (.pick (.t 16) (.t
 18) qf), q0 13 19] [0,13] (.cond (.t 13) (qS [q0 20 0, q 21 (.bin .sub (.t 20) (.c (.int .u8 97))), q 22 (.cv .i64 (.t 21)), q 23 (.bin .add (.t 22) (qI 10)), q0 2 23] [2] .ret) .skip))))) (qS [q 2 (.mv (qI (-1)))] [2] .ret))
def r76 : List RT := [.t 2]
def a77 : AS := qS [q 2 (.mv (.c (.int .u64 0))), q 3 (.mv qf)] [0] (.seq (qS [q0 7 0, q 8 (.len .i (.t 7)), q 9 (.bin .eql (.t 8) (qI 0)), q0 10 9, q2 11 0 10, qF 12 (.len .i (.t 11)) 10, qF 13 (.bin .gtr (.t 12) (qI 1)) 10, q2 14 13 10, q1 15 0 14, qT 16
 (.ixS (.t 15) (qI 0)) 14, qT 17 (.bin .eql (.t 16) (.c (.int .u8 48))) 14, qF 18 (.pick (.t 14) (.t 17) qf) 10, q 19 (.pick (.t 10) qt (.t 18))] [0,19] (.cond (.t 19) (qS [q 2 (.mv (.c (.int .u64 0))), q 3 (.mv qf)] [2,3] .ret) .skip)) (qS
 [q 4 (.mv (.c (.int .u64 0)))] [0,4] (.seq (qS [q 5 (.mv (qI 0))] [0,4,5] (.block 0 (.loop 1 [0,4,5] (.seq (qS [q0 20 5, q0 21 0, q 22 (.len .i (.t 21)), q 23 (.bin .lss (.t 20) (.t 22))] [0,4,5,23] (.cond (.t 23) .skip (.exit 0))) (.seq
 (.block 1 (.seq (qS [q0 26 0, q0 27 5, q 28 (.ixS (.t 26) (.t 27)), q 29 (.bin .lss (.t 28) (.c (.int .u8 48))), q0 30 29, q2 31 0 30, q2 32 5 30, qF 33 (.ixS (.t 31) (.t 32)) 30, qF 34 (.bin .gtr (.t 33) (.c (.int .u8 57))) 30, q 35 (.pick
 (.t 30) qt (.t 34))] [0,4,5,35] (.cond (.t 35) (qS [q 2 (.mv (.c (.int .u64 0))), q 3 (.mv qf)] [2,3] .ret) .skip)) (qS [q0 36 0, q0 37 5, q 38 (.ixS (.t 36) (.t 37)), q 39 (.bin .sub (.t 38) (.c (.int .u8 48))), q 40 (.cv .u64 (.t 39)), q0
 6 40] [0,4,5,6] (.seq (qS [q0 41 4, q0 42 6, q 43 (.bin .sub (.c (.int .u64 18446744073709551615)) (.t 42)), q 44 (.bin .quo (.t 43) (.c (.int .u64 10))), q 45 (.bin .gtr (.t 41) (.t 44))] [0,4,5,6,45] (.cond (.t 45) (qS [q 2 (.mv (.c (.int
 .u64 0))), q 3 (.mv qf)] [2,3] .ret) .skip)) (.reg [q0 46 4, q 47 (.bin .mul (.c (.int .u64 10)) (.t 46)), q0 48 6, q 49 (.bin .add (.t 47) (.t 48)), q0 4 49] [0,4,5]))))) (.reg [q0 24 5, q 25 (.bin .add (.t 24) (qI 1)), q0 5 25]
 [0,4,5])))))) (qS [q0 50 4, q0 2 50, q 3 (.mv qt)] [2,3] .ret))))
def r77 : List RT := [.t 2, .t 3]
theorem ok3 : okF Tryd.prog 3 a3 r3 1 = true := by decide +kernel
theorem ok4 : okF Tryd.prog 4 a4 r4 3 = true := by decide +kernel
theorem ok5 : okF Tryd.prog 5 a5 r5 2 = true := by decide +kernel
theorem ok6 : okF Tryd.prog 6 a6 r6 2 = true := by decide +kernel
theorem ok8 : okF Tryd.prog 8 a8 r8 0 = true := by decide +kernel
theorem ok9 : okF Tryd.prog 9 a9 r9 1 = true := by decide +kernel
theorem ok10 : okF Tryd.prog 10 a10 r10 1 = true := by decide +kernel
theorem ok11 : okF Tryd.prog 11 a11 r11 2 = true := by decide +kernel
theorem ok12 : okF Tryd.prog 12 a12 r12 1 = true := by decide +kernel
theorem ok14 : okF Tryd.prog 14 a14 r14 1 = true := by decide +kernel
theorem ok16 : okF Tryd.prog 16 a16 r16 1 = true := by decide +kernel
theorem ok19 : okF Tryd.prog 19 a19 r19 2 = true := by decide +kernel
theorem ok20 : okF Tryd.prog 20 a20 r20 1 = true := by decide +kernel
theorem ok21 : okF Tryd.prog 21 a21 r21 1 = true := by decide +kernel
theorem ok22 : okF Tryd.prog 22 a22 r22 1 = true := by decide +kernel
theorem ok23 : okF Tryd.prog 23 a23 r23 1 = true := by decide +kernel
theorem ok26 : okF Tryd.prog 26 a26 r26 1 = true := by decide +kernel
theorem ok27 : okF Tryd.prog 27 a27 r27 1 = true := by decide +kernel
theorem ok28 : okF Tryd.prog 28 a28 r28 1 = true := by decide +kernel
theorem ok29 : okF Tryd.prog 29 a29 r29 1 = true := by decide +kernel
theorem ok31 : okF Tryd.prog 31 a31 r31 1 = true := by decide +kernel
theorem ok35 : okF Tryd.prog 35 a35 r35 1 = true := by decide +kernel
theorem ok65 : okF Tryd.prog 65 a65 r65 1 = true := by decide +kernel
theorem ok66 : okF Tryd.prog 66 a66 r66 1 = true := by decide +kernel
theorem ok76 : okF Tryd.prog 76 a76 r76 1 = true := by decide +kernel
theorem ok77 : okF Tryd.prog 77 a77 r77 1 = true := by decide +kernel
end Go.V
