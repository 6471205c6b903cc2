/- A part of the proof layer, or functions of the given program in it: contracts and their proofs. -/
import Derived.Test.YtbcmjkfdeikkhaaA23
namespace Go.V
set_option maxRecDepth 100000
set_option linter.unusedSimpArgs false
set_option linter.unnecessarySimpa false
set_option linter.unusedVariables false

theorem beB_succ (k n : Nat) : beB (k + 1) n = UInt8.ofNat (n / 256 ^ k) :: beB k n := by
  unfold beB
  rw [List.range_succ_eq_map, List.map_cons, List.map_map]
  congr 1
  apply List.map_congr_left
  intro j hj
  simp only [Function.comp]
  congr 3
  omega
theorem beN_beB' (n : Nat) : ∀ (k a : Nat), (beB k n).foldl (fun a b => a * 256 + b.toNat) a = a * 256 ^ k + n % 256 ^ k
  | 0, a => by simp [beB, Nat.mod_one]
  | k + 1, a => by
    rw [beB_succ, List.foldl_cons, beN_beB' n k]
    have h1 : (UInt8.ofNat (n / 256 ^ k)).toNat = n / 256 ^ k % 256 := by simp
    rw [h1, Nat.pow_succ, Nat.mod_mul, Nat.add_mul, Nat.mul_assoc, Nat.mul_comm 256 (256 ^ k), Nat.mul_comm (n / 256 ^ k % 256)]
    omega
theorem beN_beB {n k : Nat} (h : n < 256 ^ k) : beN (beB k n) = n := by
  have := beN_beB' n k 0
  rw [Nat.zero_mul, Nat.zero_add, Nat.mod_eq_of_lt h] at this
  exact this

theorem klen_hiN {n : Nat} (h : n ≤ 18446744073709551615) : n < 256 ^ klen n := by
  have := klen_hi (n := (n : Int)) (by omega)
  rw [Int.toNat_natCast] at this
  have e : ((256 : Int) ^ klen n) = ((256 ^ klen n : Nat) : Int) := by simp
  rw [e] at this
  omega
theorem klen_loN {n : Nat} (h : 256 ≤ n) : 256 ^ (klen n - 1) ≤ n := by
  have h2 : 2 ≤ klen n := by unfold klen; (repeat' split) <;> omega
  have := klen_lo (n := (n : Int)) (by omega) (klen n - 2) (by rw [Int.toNat_natCast]; omega)
  have e : ((256 : Int) ^ (klen n - 2 + 1)) = ((256 ^ (klen n - 1) : Nat) : Int) := by rw [show klen n - 2 + 1 = klen n - 1 by omega]; simp
  rw [e] at this
  omega
/-- How many bytes a number has is told by its size. -/
theorem klen_uniq {n k : Nat} (h1 : 1 ≤ k ∧ k ≤ 8) (h2 : n < 256 ^ k) (h3 : k = 1 ∨ 256 ^ (k - 1) ≤ n) : klen n = k := by
  have hk : k = 1 ∨ k = 2 ∨ k = 3 ∨ k = 4 ∨ k = 5 ∨ k = 6 ∨ k = 7 ∨ k = 8 := by omega
  rcases hk with rfl | rfl | rfl | rfl | rfl | rfl | rfl | rfl <;> simp at h2 h3 <;> unfold klen <;> (repeat' split) <;> omega

theorem numR_numB {n : Int} (h : 0 ≤ n ∧ n ≤ 18446744073709551615) (r : List UInt8) : numR (numB n ++ r) = some (n, r) := by
  obtain ⟨a, rfl⟩ := Int.eq_ofNat_of_zero_le h.1
  unfold numB
  by_cases h1 : (a : Int) < 248
  · rw [if_pos h1, Int.toNat_natCast]
    simp only [List.cons_append, List.nil_append, numR]
    have e : (UInt8.ofNat a).toNat = a := by simp; omega
    rw [e, if_pos (by omega)]
  · rw [if_neg h1, Int.toNat_natCast]
    have hk := klen_pos a
    simp only [List.cons_append, numR]
    have e : (UInt8.ofNat (247 + klen a)).toNat = 247 + klen a := by simp; omega
    have e2 : 247 + klen a - 247 = klen a := by omega
    have hl : (beB (klen a) a).length = klen a := beB_length _ _
    rw [e, e2, if_neg (by omega), if_neg (by rw [List.length_append, hl]; omega), List.take_append_of_le_length (by omega), List.take_of_length_le (by omega), beN_beB (klen_hiN (by omega)), List.drop_append_of_le_length (by omega), List.drop_of_length_le (by omega)]
    have hh : (beB (klen a) a ++ r).headD 0 ≠ 0 := by
      obtain ⟨k, hk2⟩ : ∃ k, klen a = k + 1 := ⟨klen a - 1, by omega⟩
      have hlo : 256 ^ k ≤ a := by
        by_cases h9 : 256 ≤ a
        · have := klen_loN h9; rw [hk2] at this; exact this
        · have : klen a = 1 := by unfold klen; rw [if_pos (by omega)]
          obtain rfl : k = 0 := by omega
          simp; omega
      have hhi := klen_hiN (n := a) (by omega)
      rw [hk2, Nat.pow_succ] at hhi
      rw [hk2, beB_succ]
      show UInt8.ofNat (a / 256 ^ k) ≠ 0
      intro h9
      have h10 : (UInt8.ofNat (a / 256 ^ k)).toNat = 0 := by rw [h9]; rfl
      have h11 : a / 256 ^ k % 256 = 0 := by simpa using h10
      have h12 : a / 256 ^ k < 256 := (Nat.div_lt_iff_lt_mul (Nat.pow_pos (by decide))).2 (by rw [Nat.mul_comm]; exact hhi)
      have h13 : 1 ≤ a / 256 ^ k := (Nat.one_le_div_iff (Nat.pow_pos (by decide))).2 hlo
      omega
    rw [if_neg (fun h9 => h9.elim (fun h9 => by omega) (fun h9 => hh h9))]
    rfl

theorem rdNum_numB {n : Int} (h : 0 ≤ n ∧ n ≤ 18446744073709551615) (r : List UInt8) : rdNum (some (numB n ++ r)) = (n, some r) := by
  simp only [rdNum, Option.bind_some, numR_numB h]

theorem beB_beN (l : List UInt8) : beB l.length (beN l) = l := by
  have key : ∀ (l : List UInt8) (a : Nat), beB l.length (l.foldl (fun a b => a * 256 + b.toNat) a) = l := by
    intro l
    induction l with
    | nil => intro a; rfl
    | cons x r ih =>
      intro a
      rw [List.foldl_cons, List.length_cons, beB_succ, ih]
      congr 1
      have h1 : ∀ (r : List UInt8) (a : Nat), r.foldl (fun a b => a * 256 + b.toNat) a / 256 ^ r.length = a := by
        intro r
        induction r with
        | nil => intro a; simp
        | cons y r ih2 =>
          intro a
          rw [List.foldl_cons, List.length_cons, Nat.pow_succ, ← Nat.div_div_eq_div_mul, ih2]
          have := y.toNat_lt
          omega
      rw [h1]
      apply UInt8.toNat_inj.1
      have := x.toNat_lt
      simp
  exact key l 0

/-- What was read of bytes is what is laid for it. -/
theorem numR_back {b : List UInt8} {n : Int} {r : List UInt8} (h : numR b = some (n, r)) : b = numB n ++ r ∧ 0 ≤ n ∧ n ≤ 18446744073709551615 := by
  unfold numR at h
  split at h
  · cases h
  · rename_i x r0
    have hx := x.toNat_lt
    by_cases h1 : x.toNat < 248
    · rw [if_pos h1] at h
      cases h
      refine ⟨?_, by omega, by omega⟩
      unfold numB
      rw [if_pos (by omega), Int.toNat_natCast]
      simp
    · rw [if_neg h1] at h
      by_cases h2 : r0.length < x.toNat - 247
      · rw [if_pos h2] at h; cases h
      · rw [if_neg h2] at h
        generalize hk : x.toNat - 247 = k at *
        split at h
        · cases h
        · rename_i h3
          cases h
          have hl : (r0.take k).length = k := by rw [List.length_take]; omega
          have hlt := beN_lt (r0.take k)
          rw [hl] at hlt
          have h8 : 256 ^ k ≤ 256 ^ 8 := Nat.pow_le_pow_right (by decide) (by omega)
          have h248 : 248 ≤ beN (r0.take k) := by
            rcases Nat.lt_or_ge (beN (r0.take k)) 248 with h | h
            · exact absurd (.inl h) h3
            · exact h
          refine ⟨?_, by omega, by omega⟩
          have hkl : klen (beN (r0.take k)) = k := by
            refine klen_uniq (by omega) hlt ?_
            rcases Nat.lt_or_ge 1 k with h1k | h1k
            · right
              have hb := beB_beN (r0.take k)
              rw [hl] at hb
              obtain ⟨j, rfl⟩ : ∃ j, k = j + 1 := ⟨k - 1, by omega⟩
              rw [beB_succ] at hb
              have hne : r0 ≠ [] := by intro e; rw [e] at h2; simp at h2
              obtain ⟨y, r1, rfl⟩ := List.exists_cons_of_ne_nil hne
              rw [List.take_succ_cons] at hb
              injection hb with hb1 _
              have hy0 : y ≠ 0 := fun e => h3 (.inr e)
              rcases Nat.lt_or_ge (beN ((y :: r1).take (j + 1))) (256 ^ j) with h9 | h9
              · exfalso
                rw [List.take_succ_cons] at h9
                rw [Nat.div_eq_of_lt h9] at hb1
                exact hy0 hb1.symm
              · exact h9
            · left; omega
          unfold numB
          rw [if_neg (by omega), Int.toNat_natCast, hkl]
          have hb := beB_beN (r0.take k)
          rw [hl] at hb
          rw [hb, List.cons_append, List.take_append_drop]
          have hx9 : UInt8.ofNat (247 + k) = x := by
            apply UInt8.toNat_inj.1
            simp
            omega
          rw [hx9]
theorem rdNum_back {st : Option (List UInt8)} {r : List UInt8} {n : Int} (h : rdNum st = (n, some r)) : st = some (numB n ++ r) ∧ 0 ≤ n ∧ n ≤ 18446744073709551615 := by
  cases st with
  | none => simp [rdNum] at h
  | some b =>
    unfold rdNum at h
    simp only [Option.bind_some] at h
    cases hn : numR b with
    | none => rw [hn] at h; simp at h
    | some x =>
      rw [hn] at h
      simp only [Prod.mk.injEq, Option.some.injEq] at h
      obtain ⟨h1, h2⟩ := h
      have := numR_back (n := n) (r := r) (by rw [hn, ← h1, ← h2])
      exact ⟨by rw [this.1], this.2⟩
theorem toList_toArrayB (s : ByteArray) : (⟨s.data.toList.toArray⟩ : ByteArray) = s := by cases s; simp
theorem szB (s : ByteArray) : s.data.toList.length = s.size := by rw [Array.length_toList]; rfl
theorem rdText_textB {s : ByteArray} (h : s.size ≤ 1000000000) (r : List UInt8) : rdText (some (textB s ++ r)) = (s, some r) := by
  have e : rdNum (some (textB s ++ r)) = ((s.size : Int), some (s.data.toList ++ r)) := by
    unfold textB
    rw [List.append_assoc, rdNum_numB (by omega)]
  have hl := szB s
  unfold rdText
  rw [e]
  simp only [Int.toNat_natCast]
  rw [if_neg (by rw [List.length_append]; omega), List.take_append_of_le_length (by omega), List.take_of_length_le (by omega), List.drop_append_of_le_length (by omega), List.drop_of_length_le (by omega), toList_toArrayB]
  rfl
theorem rdText_back {st : Option (List UInt8)} {s : ByteArray} {r : List UInt8} (h : rdText st = (s, some r)) : st = some (textB s ++ r) := by
  unfold rdText at h
  cases hn : (rdNum st).2 with
  | none => rw [hn] at h; cases h
  | some r0 =>
    rw [hn] at h
    simp only at h
    have hb := rdNum_back (st := st) (n := (rdNum st).1) (r := r0) (Prod.ext rfl hn)
    generalize (rdNum st).1 = n at *
    split at h
    · cases h
    · rename_i hc
      simp only [Prod.mk.injEq, Option.some.injEq] at h
      obtain ⟨h1, h2⟩ := h
      obtain ⟨a, rfl⟩ := Int.eq_ofNat_of_zero_le hb.2.1
      rw [Int.toNat_natCast] at h1 h2
      have hsz : s.size = a := by
        rw [← szB, ← h1]
        simp
        omega
      have hsl : s.data.toList = r0.take a := by rw [← h1]
      rw [hb.1]
      unfold textB
      rw [hsz, hsl, ← h2, List.append_assoc, List.take_append_drop]
theorem unz_zig (n : Int) : unz (zig n) = n := by unfold unz zig; split <;> split <;> omega
theorem zig_unz {n : Int} (h : 0 ≤ n) : zig (unz n) = n := by unfold unz zig; split <;> split <;> omega
theorem zig_in {n : Int} (h : -9223372036854775808 ≤ n ∧ n ≤ 9223372036854775807) : 0 ≤ zig n ∧ zig n ≤ 18446744073709551615 := by unfold zig; split <;> omega
theorem rdInt_zig {n : Int} (h : -9223372036854775808 ≤ n ∧ n ≤ 9223372036854775807) (r : List UInt8) : rdInt (some (numB (zig n) ++ r)) = (n, some r) := by
  unfold rdInt
  rw [rdNum_numB (zig_in h), unz_zig]
theorem rdInt_back {st : Option (List UInt8)} {n : Int} {r : List UInt8} (h : rdInt st = (n, some r)) : st = some (numB (zig n) ++ r) ∧ -9223372036854775808 ≤ n ∧ n ≤ 9223372036854775807 := by
  unfold rdInt at h
  simp only [Prod.mk.injEq] at h
  have hb := rdNum_back (st := st) (n := (rdNum st).1) (r := r) (Prod.ext rfl h.2)
  generalize (rdNum st).1 = a at *
  rw [← h.1, zig_unz hb.2.1]
  refine ⟨hb.1, ?_⟩
  unfold unz
  split <;> omega
theorem rdInts_intsB : ∀ (n : Nat) (xs : List Int), n ≤ xs.length → inI xs → ∀ r, rdInts n (some (intsB xs ++ r)) = (xs.take n, some (intsB (xs.drop n) ++ r))
  | 0, xs, _, _, r => by simp [rdInts]
  | n + 1, xs, hn, hi, r => by
    have ih := rdInts_intsB n xs (by omega) hi r
    have hlt : n < xs.length := by omega
    rw [rdInts, ih]
    have hd : xs.drop n = xs[n] :: xs.drop (n + 1) := List.drop_eq_getElem_cons hlt
    have e : intsB (xs.drop n) = numB (zig xs[n]) ++ intsB (xs.drop (n + 1)) := by rw [hd]; simp only [intsB, List.flatMap_cons]
    simp only [e, List.append_assoc]
    rw [rdInt_zig (hi _ (List.getElem_mem hlt)), List.take_append_getElem hlt]
theorem rdInts_back : ∀ (n : Nat) (st : Option (List UInt8)) (xs : List Int) (r : List UInt8), rdInts n st = (xs, some r) → st = some (intsB xs ++ r) ∧ xs.length = n ∧ inI xs
  | 0, st, xs, r, h => by
    simp only [rdInts, Prod.mk.injEq] at h
    obtain ⟨rfl, rfl⟩ := h
    exact ⟨by simp [intsB], rfl, fun x hx => by simp at hx⟩
  | n + 1, st, xs, r, h => by
    simp only [rdInts, Prod.mk.injEq] at h
    obtain ⟨rfl, h2⟩ := h
    have hb := rdInt_back (st := (rdInts n st).2) (n := (rdInt (rdInts n st).2).1) (r := r) (Prod.ext rfl h2)
    obtain ⟨i1, i2, i3⟩ := rdInts_back n st (rdInts n st).1 _ (Prod.ext rfl hb.1)
    refine ⟨?_, by simp [i2], ?_⟩
    · exact i1.trans (by rw [intsB_snoc, List.append_assoc])
    · intro x hx
      rcases List.mem_append.1 hx with hx | hx
      · exact i3 x hx
      · simp at hx; subst hx; exact hb.2

/-- A letter that may be laid and read. -/
def okLet (l : LetT.den) : Prop := l.1.size ≤ 40 ∧ l.2.2.2.length ≤ 4 ∧ (0 ≤ l.2.1 ∧ l.2.1 ≤ 18446744073709551615) ∧ (-9223372036854775808 ≤ l.2.2.1 ∧ l.2.2.1 ≤ 9223372036854775807) ∧ inI l.2.2.2
theorem rdLet_letB {l : LetT.den} (h : okLet l) (r : List UInt8) : rdLet (some (letB l ++ r)) = (some l, some r) := by
  obtain ⟨h1, h2, h3, h4, h5⟩ := h
  unfold rdLet letB
  simp only [List.append_assoc]
  rw [rdText_textB (by omega), rdNum_numB h3]
  simp only
  rw [rdInt_zig h4]
  simp only
  rw [rdNum_numB (by omega)]
  simp only
  rw [if_neg (by omega), Int.toNat_natCast, rdInts_intsB _ _ (Nat.le_refl _) h5, List.take_length, List.drop_length]
  simp only [intsB, List.flatMap_nil, List.nil_append]
  rw [if_neg (fun h9 => h9.elim (fun h9 => by cases h9) (fun h9 => by omega))]
theorem rdLet_back {st : Option (List UInt8)} {l : LetT.den} {r : Option (List UInt8)} (h : rdLet st = (some l, r)) : ∃ r', r = some r' ∧ st = some (letB l ++ r') ∧ okLet l := by
  unfold rdLet at h
  simp only at h
  split at h
  · cases h
  · rename_i h4
    split at h
    · cases h
    · rename_i h5
      simp only [Prod.mk.injEq, Option.some.injEq] at h
      obtain ⟨rfl, rfl⟩ := h
      cases hr : (rdInts (rdNum (rdInt (rdNum (rdText st).2).2).2).1.toNat (rdNum (rdInt (rdNum (rdText st).2).2).2).2).2 with
      | none => exact absurd (.inl hr) h5
      | some r' =>
        obtain ⟨a1, a2, a3⟩ := rdInts_back _ _ _ r' (Prod.ext rfl hr)
        have b := rdNum_back (st := (rdInt (rdNum (rdText st).2).2).2) (n := (rdNum (rdInt (rdNum (rdText st).2).2).2).1) (Prod.ext rfl a1)
        have c := rdInt_back (st := (rdNum (rdText st).2).2) (n := (rdInt (rdNum (rdText st).2).2).1) (Prod.ext rfl b.1)
        have d := rdNum_back (st := (rdText st).2) (n := (rdNum (rdText st).2).1) (Prod.ext rfl c.1)
        have e := rdText_back (st := st) (s := (rdText st).1) (Prod.ext rfl d.1)
        refine ⟨r', rfl, ?_, ?_⟩
        · refine e.trans ?_
          unfold letB
          simp only [List.append_assoc]
          have hn : ((rdInts (rdNum (rdInt (rdNum (rdText st).2).2).2).1.toNat (rdNum (rdInt (rdNum (rdText st).2).2).2).2).1.length : Int) = (rdNum (rdInt (rdNum (rdText st).2).2).2).1 := by rw [a2]; omega
          rw [hn]
        · refine ⟨?_, ?_, d.2, c.2, a3⟩
          · rcases Nat.lt_or_ge 40 (rdText st).1.size with h9 | h9
            · exact absurd (.inr h9) h5
            · exact h9
          · rw [a2]; omega
theorem decL_letB {l : LetT.den} (h : okLet l) : decL (letB l) = some l := by
  have := rdLet_letB h []
  rw [List.append_nil] at this
  unfold decL
  rw [this]
  rfl
theorem decL_back {b : List UInt8} {l : LetT.den} (h : decL b = some l) : b = letB l ∧ okLet l := by
  unfold decL at h
  split at h
  · rename_i h2
    obtain ⟨r', e1, e2, e3⟩ := rdLet_back (st := some b) (l := l) (r := (rdLet (some b)).2) (Prod.ext h rfl)
    rw [h2] at e1
    cases e1
    simp only [Option.some.injEq, List.append_nil] at e2
    exact ⟨e2, e3⟩
  · cases h
end Go.V
