/- A part of the proof layer, or functions of the given program in it: contracts and their proofs. -/
import Derived.Test.YtbcmjkfdeikkhaaGreatA23
namespace Go.V
set_option maxRecDepth 100000
set_option linter.unusedSimpArgs false
set_option linter.unnecessarySimpa false
set_option linter.unusedVariables false
theorem beB_succ (k n : Nat) : beB (k + 1) n = UInt8.ofNat (n / 256 ^ k) :: beB k n := by
  unfold beB
  rw [List.range_succ_eq_map, List.map_cons, List.map_map]
  congr 1
  apply List.map_congr_left
  intro j hj
  simp only [Function.comp]
  congr 3
  omega
theorem beN_beB' (n : Nat) : ∀ (k a : Nat), (beB k n).foldl (fun a b => a * 256 + b.toNat) a = a * 256 ^ k + n % 256 ^ k
  | 0, a => by simp [beB, Nat.mod_one]
  | k + 1, a => by
    rw [beB_succ, List.foldl_cons, beN_beB' n k]
    have h1 : (UInt8.ofNat (n / 256 ^ k)).toNat = n / 256 ^ k % 256 := by simp
    rw [h1, Nat.pow_succ, Nat.mod_mul, Nat.add_mul, Nat.mul_assoc, Nat.mul_comm 256 (256 ^ k), Nat.mul_comm (n / 256 ^ k % 256)]
    omega
theorem beN_beB {n k : Nat} (h : n < 256 ^ k) : beN (beB k n) = n := by
  have := beN_beB' n k 0
  rw [Nat.zero_mul, Nat.zero_add, Nat.mod_eq_of_lt h] at this
  exact this

theorem klen_hiN {n : Nat} (h : n ≤ 18446744073709551615) : n < 256 ^ klen n := by
  have := klen_hi (n := (n : Int)) (by omega)
  rw [Int.toNat_natCast] at this
  have e : ((256 : Int) ^ klen n) = ((256 ^ klen n : Nat) : Int) := by simp
  rw [e] at this
  omega
theorem klen_loN {n : Nat} (h : 256 ≤ n) : 256 ^ (klen n - 1) ≤ n := by
  have h2 : 2 ≤ klen n := by unfold klen; (repeat' split) <;> omega
  have := klen_lo (n := (n : Int)) (by omega) (klen n - 2) (by rw [Int.toNat_natCast]; omega)
  have e : ((256 : Int) ^ (klen n - 2 + 1)) = ((256 ^ (klen n - 1) : Nat) : Int) := by rw [show klen n - 2 + 1 = klen n - 1 by omega]; simp
  rw [e] at this
  omega
theorem numR_numB {n : Int} (h : 0 ≤ n ∧ n ≤ 18446744073709551615) (r : List UInt8) : numR (numB n ++ r) = some (n, r) := by
  obtain ⟨a, rfl⟩ := Int.eq_ofNat_of_zero_le h.1
  unfold numB
  by_cases h1 : (a : Int) < 248
  · rw [if_pos h1, Int.toNat_natCast]
    simp only [List.cons_append, List.nil_append, numR]
    have e : (UInt8.ofNat a).toNat = a := by simp; omega
    rw [e, if_pos (by omega)]
  · rw [if_neg h1, Int.toNat_natCast]
    have hk := klen_pos a
    simp only [List.cons_append, numR]
    have e : (UInt8.ofNat (247 + klen a)).toNat = 247 + klen a := by simp; omega
    have e2 : 247 + klen a - 247 = klen a := by omega
    have hl : (beB (klen a) a).length = klen a := beB_length _ _
    rw [e, e2, if_neg (by omega), if_neg (by rw [List.length_append, hl]; omega), List.take_append_of_le_length (by omega), List.take_of_length_le (by omega), beN_beB (klen_hiN (by omega)), List.drop_append_of_le_length (by omega), List.drop_of_length_le (by omega)]
    have hh : (beB (klen a) a ++ r).headD 0 ≠ 0 := by
      obtain ⟨k, hk2⟩ : ∃ k, klen a = k + 1 := ⟨klen a - 1, by omega⟩
      have hlo : 256 ^ k ≤ a := by
        by_cases h9 : 256 ≤ a
        · have := klen_loN h9; rw [hk2] at this; exact this
        · have : klen a = 1 := by unfold klen; rw [if_pos (by omega)]
          obtain rfl : k = 0 := by omega
          simp; omega
      have hhi := klen_hiN (n := a) (by omega)
      rw [hk2, Nat.pow_succ] at hhi
      rw [hk2, beB_succ]
      show UInt8.ofNat (a / 256 ^ k) ≠ 0
      intro h9
      have h10 : (UInt8.ofNat (a / 256 ^ k)).toNat = 0 := by rw [h9]; rfl
      have h11 : a / 256 ^ k % 256 = 0 := by simpa using h10
      have h12 : a / 256 ^ k < 256 := (Nat.div_lt_iff_lt_mul (Nat.pow_pos (by decide))).2 (by rw [Nat.mul_comm]; exact hhi)
      have h13 : 1 ≤ a / 256 ^ k := (Nat.one_le_div_iff (Nat.pow_pos (by decide))).2 hlo
      omega
    rw [if_neg (fun h9 => h9.elim (fun h9 => by omega) (fun h9 => hh h9))]
    rfl

theorem rdNum_numB {n : Int} (h : 0 ≤ n ∧ n ≤ 18446744073709551615) (r : List UInt8) : rdNum (some (numB n ++ r)) = (n, some r) := by
  simp only [rdNum, Option.bind_some, numR_numB h]

theorem toList_toArrayB (s : ByteArray) : (⟨s.data.toList.toArray⟩ : ByteArray) = s := by cases s; simp
theorem szB (s : ByteArray) : s.data.toList.length = s.size := by rw [Array.length_toList]; rfl
theorem rdText_textB {s : ByteArray} (h : s.size ≤ 1000000000) (r : List UInt8) : rdText (some (textB s ++ r)) = (s, some r) := by
  have e : rdNum (some (textB s ++ r)) = ((s.size : Int), some (s.data.toList ++ r)) := by
    unfold textB
    rw [List.append_assoc, rdNum_numB (by omega)]
  have hl := szB s
  unfold rdText
  rw [e]
  simp only [Int.toNat_natCast]
  rw [if_neg (by rw [List.length_append]; omega), List.take_append_of_le_length (by omega), List.take_of_length_le (by omega), List.drop_append_of_le_length (by omega), List.drop_of_length_le (by omega), toList_toArrayB]
  rfl
theorem unz_zig (n : Int) : unz (zig n) = n := by unfold unz zig; split <;> split <;> omega
theorem zig_in {n : Int} (h : -9223372036854775808 ≤ n ∧ n ≤ 9223372036854775807) : 0 ≤ zig n ∧ zig n ≤ 18446744073709551615 := by unfold zig; split <;> omega
theorem rdInt_zig {n : Int} (h : -9223372036854775808 ≤ n ∧ n ≤ 9223372036854775807) (r : List UInt8) : rdInt (some (numB (zig n) ++ r)) = (n, some r) := by
  unfold rdInt
  rw [rdNum_numB (zig_in h), unz_zig]
theorem rdInts_intsB : ∀ (n : Nat) (xs : List Int), n ≤ xs.length → inI xs → ∀ r, rdInts n (some (intsB xs ++ r)) = (xs.take n, some (intsB (xs.drop n) ++ r))
  | 0, xs, _, _, r => by simp [rdInts]
  | n + 1, xs, hn, hi, r => by
    have ih := rdInts_intsB n xs (by omega) hi r
    have hlt : n < xs.length := by omega
    rw [rdInts, ih]
    have hd : xs.drop n = xs[n] :: xs.drop (n + 1) := List.drop_eq_getElem_cons hlt
    have e : intsB (xs.drop n) = numB (zig xs[n]) ++ intsB (xs.drop (n + 1)) := by rw [hd]; simp only [intsB, List.flatMap_cons]
    simp only [e, List.append_assoc]
    rw [rdInt_zig (hi _ (List.getElem_mem hlt)), List.take_append_getElem hlt]
/-- A letter that may be laid and read. -/
def okLet (l : LetT.den) : Prop := l.1.size ≤ 40 ∧ l.2.2.2.length ≤ 4 ∧ (0 ≤ l.2.1 ∧ l.2.1 ≤ 18446744073709551615) ∧ (-9223372036854775808 ≤ l.2.2.1 ∧ l.2.2.1 ≤ 9223372036854775807) ∧ inI l.2.2.2
theorem rdLet_letB {l : LetT.den} (h : okLet l) (r : List UInt8) : rdLet (some (letB l ++ r)) = (some l, some r) := by
  obtain ⟨h1, h2, h3, h4, h5⟩ := h
  unfold rdLet letB
  simp only [List.append_assoc]
  rw [rdText_textB (by omega), rdNum_numB h3]
  simp only
  rw [rdInt_zig h4]
  simp only
  rw [rdNum_numB (by omega)]
  simp only
  rw [if_neg (by omega), Int.toNat_natCast, rdInts_intsB _ _ (Nat.le_refl _) h5, List.take_length, List.drop_length]
  simp only [intsB, List.flatMap_nil, List.nil_append]
  rw [if_neg (fun h9 => h9.elim (fun h9 => by cases h9) (fun h9 => by omega))]
theorem decL_letB {l : LetT.den} (h : okLet l) : decL (letB l) = some l := by
  have := rdLet_letB h []
  rw [List.append_nil] at this
  unfold decL
  rw [this]
  rfl
end Go.V
