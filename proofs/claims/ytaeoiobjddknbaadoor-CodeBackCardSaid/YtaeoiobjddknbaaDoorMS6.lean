/- What was laid is read as it was. -/
import Derived.Test.YtaeoiobjddknbaaDoorMB14
import Derived.Test.YtaeoiobjddknbaaDoorMS5
import Derived.Test.YtaeoiobjddknbaaDoorMS2
import Derived.Test.YtaeoiobjddknbaaDoorProg
namespace Go.V
open Go.Proofs
set_option maxRecDepth 100000
set_option maxHeartbeats 4000000
set_option linter.unusedSimpArgs false
set_option linter.unnecessarySimpa false
set_option linter.unusedVariables false
theorem beB_succ (k n : Nat) : beB (k + 1) n = UInt8.ofNat (n / 256 ^ k) :: beB k n := by
 unfold beB
 rw [List.range_succ_eq_map, List.map_cons, List.map_map]
 congr 1
 apply List.map_congr_left
 intro j hj
 simp only [Function.comp]
 congr 3
 omega
theorem beN_beB' (n : Nat) : ∀ (k a : Nat), (beB k n).foldl (fun a b => a * 256 + b.toNat) a = a * 256 ^ k + n % 256 ^ k
 | 0, a => by simp [beB, Nat.mod_one]
 | k + 1, a => by
  rw [beB_succ, List.foldl_cons, beN_beB' n k]
  have h1 : (UInt8.ofNat (n / 256 ^ k)).toNat = n / 256 ^ k % 256 := by simp
  rw [h1, Nat.pow_succ, Nat.mod_mul, Nat.add_mul, Nat.mul_assoc, Nat.mul_comm 256 (256 ^ k), Nat.mul_comm (n / 256 ^ k % 256)]
  omega
theorem beN_beB {n k : Nat} (h : n < 256 ^ k) : beN (beB k n) = n := by
 have := beN_beB' n k 0
 rw [Nat.zero_mul, Nat.zero_add, Nat.mod_eq_of_lt h] at this
 exact this
theorem klen_hiN {n : Nat} (h : n ≤ 18446744073709551615) : n < 256 ^ klen n := by
 have := klen_hi (n := (n : Int)) (by omega)
 rw [Int.toNat_natCast] at this
 have e : ((256 : Int) ^ klen n) = ((256 ^ klen n : Nat) : Int) := by simp
 rw [e] at this
 omega
theorem klen_loN {n : Nat} (h : 256 ≤ n) : 256 ^ (klen n - 1) ≤ n := by
 have h2 : 2 ≤ klen n := by unfold klen; (repeat' split) <;> omega
 have := klen_lo (n := (n : Int)) (by omega) (klen n - 2) (by rw [Int.toNat_natCast]; omega)
 have e : ((256 : Int) ^ (klen n - 2 + 1)) = ((256 ^ (klen n - 1) : Nat) : Int) := by rw [show klen n - 2 + 1 = klen n - 1 by omega]; simp
 rw [e] at this
 omega
theorem numR_numB {n : Int} (h : 0 ≤ n ∧ n ≤ 18446744073709551615) (r : List UInt8) : numR (numB n ++ r) = some (n, r) := by
 obtain ⟨a, rfl⟩ := Int.eq_ofNat_of_zero_le h.1
 unfold numB
 by_cases h1 : (a : Int) < 248
 ·rw [if_pos h1, Int.toNat_natCast]
  simp only [List.cons_append, List.nil_append, numR]
  have e : (UInt8.ofNat a).toNat = a := by simp; omega
  rw [e, if_pos (by omega)]
 ·rw [if_neg h1, Int.toNat_natCast]
  have hk := klen_pos a
  simp only [List.cons_append, numR]
  have e : (UInt8.ofNat (247 + klen a)).toNat = 247 + klen a := by simp; omega
  have e2 : 247 + klen a - 247 = klen a := by omega
  have hl : (beB (klen a) a).length = klen a := beB_length _ _
  rw [e, e2, if_neg (by omega), if_neg (by rw [List.length_append, hl]; omega), List.take_append_of_le_length (by omega), List.take_of_length_le (by omega), beN_beB (klen_hiN (by omega)), List.drop_append_of_le_length (by omega), List.drop_of_length_le (by omega)]
  have hh : (beB (klen a) a ++ r).headD 0 ≠ 0 := by
   obtain ⟨k, hk2⟩ : ∃ k, klen a = k + 1 := ⟨klen a - 1, by omega⟩
   have hlo : 256 ^ k ≤ a := by
    by_cases h9 : 256 ≤ a
    ·have := klen_loN h9; rw [hk2] at this; exact this
    ·have : klen a = 1 := by unfold klen; rw [if_pos (by omega)]
     obtain rfl : k = 0 := by omega
     simp; omega
   have hhi := klen_hiN (n := a) (by omega)
   rw [hk2, Nat.pow_succ] at hhi
   rw [hk2, beB_succ]
   show UInt8.ofNat (a / 256 ^ k) ≠ 0
   intro h9
   have h10 : (UInt8.ofNat (a / 256 ^ k)).toNat = 0 := by rw [h9]; rfl
   have h11 : a / 256 ^ k % 256 = 0 := by simpa using h10
   have h12 : a / 256 ^ k < 256 := (Nat.div_lt_iff_lt_mul (Nat.pow_pos (by decide))).2 (by rw [Nat.mul_comm]; exact hhi)
   have h13 : 1 ≤ a / 256 ^ k := (Nat.one_le_div_iff (Nat.pow_pos (by decide))).2 hlo
   omega
  rw [if_neg (fun h9 => h9.elim (fun h9 => by omega) (fun h9 => hh h9))]
  rfl
theorem rdNum_numB {n : Int} (h : 0 ≤ n ∧ n ≤ 18446744073709551615) (r : List UInt8) : rdNum (some (numB n ++ r)) = (n, some r) := by
 simp only [rdNum, Option.bind_some, numR_numB h]
theorem toList_toArrayB (s : ByteArray) : (⟨s.data.toList.toArray⟩ : ByteArray) = s := by cases s; simp
theorem szB (s : ByteArray) : s.data.toList.length = s.size := by rw [Array.length_toList]; rfl
theorem rdText_textB {s : ByteArray} (h : s.size ≤ 1000000000) (r : List UInt8) : rdText (some (textB s ++ r)) = (s, some r) := by
 have e : rdNum (some (textB s ++ r)) = ((s.size : Int), some (s.data.toList ++ r)) := by
  unfold textB
  rw [List.append_assoc, rdNum_numB (by omega)]
 have hl := szB s
 unfold rdText
 rw [e]
 simp only [Int.toNat_natCast]
 rw [if_neg (by rw [List.length_append]; omega), List.take_append_of_le_length (by omega), List.take_of_length_le (by omega), List.drop_append_of_le_length (by omega), List.drop_of_length_le (by omega), toList_toArrayB]
 rfl
theorem unz_zig (n : Int) : unz (zig n) = n := by unfold unz zig; split <;> split <;> omega
theorem zig_in {n : Int} (h : -9223372036854775808 ≤ n ∧ n ≤ 9223372036854775807) : 0 ≤ zig n ∧ zig n ≤ 18446744073709551615 := by unfold zig; split <;> omega
theorem rdInt_zig {n : Int} (h : -9223372036854775808 ≤ n ∧ n ≤ 9223372036854775807) (r : List UInt8) : rdInt (some (numB (zig n) ++ r)) = (n, some r) := by
 unfold rdInt
 rw [rdNum_numB (zig_in h), unz_zig]
theorem nmAt_enN {ns : List ByteArray} (h : ns.all keyOk = true) (r : List UInt8) : ∀ i, i ≤ ns.length → nmAt (some (enN ns ++ r)) i = (ns.take i, some (enN (ns.drop i) ++ r))
 | 0, _ => rfl
 | i + 1, hi => by
  have hlt : i < ns.length := by omega
  have e := nmAt_enN h r i (by omega)
  rw [nmAt_s, e]
  have hd : ns.drop i = ns[i] :: ns.drop (i + 1) := List.drop_eq_getElem_cons hlt
  have hz := key_size (List.all_eq_true.1 h ns[i] (List.getElem_mem hlt))
  have e2 : enN (ns.drop i) ++ r = textB ns[i] ++ (enN (ns.drop (i + 1)) ++ r) := by
   rw [hd]
   show (textB ns[i] ++ enN (ns.drop (i + 1))) ++ r = _
   rw [List.append_assoc]
  simp only [e2]
  rw [rdText_textB (by omega), List.take_succ_eq_append_getElem hlt]
theorem inAt_enC {n c : Nat} {cs : List EvT.den} (h : cs.all (insOk n c) = true) (hr : ∀ x ∈ cs, inR .i64 x.2) (r : List UInt8) : ∀ i, i ≤ cs.length → inAt (some (enC cs ++ r)) i = (cs.take i, some (enC (cs.drop i) ++ r))
 | 0, _ => rfl
 | i + 1, hi => by
  have hlt : i < cs.length := by omega
  have e := inAt_enC h hr r i (by omega)
  rw [inAt_s, e]
  have hd : cs.drop i = cs[i] :: cs.drop (i + 1) := List.drop_eq_getElem_cons hlt
  have h1 := List.all_eq_true.1 h cs[i] (List.getElem_mem hlt)
  have h2 : inR .i64 cs[i].2 := hr cs[i] (List.getElem_mem hlt)
  have hc : ∃ a b : Int, cs[i] = (a, b) := ⟨_, _, rfl⟩
  obtain ⟨a, b, hab⟩ := hc
  rw [hab] at h1 h2
  have h3 := (ins_in (x := (a, b)) h1).1
  have h3' : (0 : Int) ≤ a ∧ a < 24 := h3
  have h4 : -9223372036854775808 ≤ b ∧ b ≤ 9223372036854775807 := h2
  have e2 : enC (cs.drop i) ++ r = numB a ++ (numB (zig b) ++ (enC (cs.drop (i + 1)) ++ r)) := by
   rw [hd, hab]
   show ((numB a ++ numB (zig b)) ++ enC (cs.drop (i + 1))) ++ r = _
   simp only [List.append_assoc]
  simp only [e2]
  rw [rdNum_numB (by omega)]
  simp only
  rw [rdInt_zig h4, List.take_succ_eq_append_getElem hlt, hab]
  have e5 : min a 200 = a := by omega
  simp only [e5]
theorem dec_enc {ns : List ByteArray} {cs : List EvT.den} (h : formP ns cs = true) (hr : ∀ x ∈ cs, inR .i64 x.2) : decP (encL ns cs) = some (ns, cs) := by
 obtain ⟨⟨hn1, hn2⟩, hk, hi2⟩ := formP_iff.1 h
 have e1 : encL ns cs = numB ns.length ++ (enN ns ++ (numB cs.length ++ (enC cs ++ []))) := by
  unfold encL enH
  simp only [List.append_assoc, List.append_nil]
 have e2 := rdNum_numB (n := (ns.length : Int)) (by omega) (enN ns ++ (numB cs.length ++ (enC cs ++ [])))
 have e3 := nmAt_enN hk (numB cs.length ++ (enC cs ++ [])) ns.length (Nat.le_refl _)
 rw [List.take_length, List.drop_length] at e3
 have e3' : nmAt (some (enN ns ++ (numB cs.length ++ (enC cs ++ [])))) ns.length = (ns, some (numB cs.length ++ (enC cs ++ []))) := e3
 have e4 := rdNum_numB (n := (cs.length : Int)) (by omega) (enC cs ++ [])
 have e5 := inAt_enC hi2 hr [] cs.length (Nat.le_refl _)
 rw [List.take_length, List.drop_length] at e5
 have e5' : inAt (some (enC cs ++ [])) cs.length = (cs, some []) := e5
 unfold decP
 rw [e1, e2]
 simp only [Int.toNat_natCast]
 rw [if_neg (by omega), e3']
 unfold decC
 simp only [e4, Int.toNat_natCast]
 rw [if_neg (by omega), e5', if_pos ⟨rfl, h⟩]
end Go.V
namespace Go.V
open Go.Proofs
set_option maxRecDepth 100000
set_option maxHeartbeats 4000000
set_option linter.unusedSimpArgs false
set_option linter.unnecessarySimpa false
set_option linter.unusedVariables false
theorem dig_back1 : ∀ n, n < 256 → 48 ≤ n → n ≤ 57 → (hexT.getD (n - 48) 0).toNat = n := by decide +kernel
theorem dig_back2 : ∀ n, n < 256 → 97 ≤ n → n ≤ 102 → (hexT.getD (n - 87) 0).toNat = n := by decide +kernel
theorem digV_back {a : UInt8} {x : Nat} (h : digV a = some x) : hexT.getD x 0 = a ∧ x < 16 := by
 have ha := UInt8.toNat_lt a
 unfold digV at h
 split at h
 ·rename_i h1
  cases h
  exact ⟨UInt8.toNat_inj.1 (dig_back1 _ ha h1.1 h1.2), by omega⟩
 ·split at h
  ·rename_i h1
   cases h
   exact ⟨UInt8.toNat_inj.1 (dig_back2 _ ha h1.1 h1.2), by omega⟩
  ·cases h
theorem unhex_back : ∀ (l k : List UInt8), unhexL l = some k → hexL k = l
 | [], k, h => by cases h; rfl
 | [_], k, h => by cases h
 | a :: b :: r, k, h => by
  simp only [unhexL] at h
  cases ha : digV a with
  | none => rw [ha] at h; cases h
  | some x =>
   cases hb : digV b with
   | none => rw [ha, hb] at h; cases h
   | some y =>
    rw [ha, hb] at h
    simp only at h
    obtain ⟨k', hk', rfl⟩ := Option.map_eq_some_iff.1 h
    obtain ⟨h1, h2⟩ := digV_back ha
    obtain ⟨h3, h4⟩ := digV_back hb
    have ih := unhex_back r k' hk'
    show hexT.getD ((UInt8.ofNat (16 * x + y)).toNat / 16) 0 :: hexT.getD ((UInt8.ofNat (16 * x + y)).toNat % 16) 0 :: hexL k' = _
    have e : (UInt8.ofNat (16 * x + y)).toNat = 16 * x + y := by
     rw [UInt8.toNat_ofNat']
     omega
    have e1 : (16 * x + y) / 16 = x := by omega
    have e2 : (16 * x + y) % 16 = y := by omega
    rw [e, e1, e2, h1, h3, ih]
theorem instr_back {l : List UInt8} {a b : Int} (h : instrF l = some (a, b)) : l = wordL a.toNat ++ argL (a, b) := by
 unfold instrF at h
 split at h
 ·cases h
 ·rename_i j hj
  obtain ⟨h1, h2⟩ := opFind_some hj
  split at h
  ·rename_i h0
   split at h
   ·cases h
   ·rename_i hc
    cases h
    have hc' : l.contains 32 = false := by simpa using hc
    rw [take_all hc'] at h2
    have e : argL ((j : Int), 0) = [] := if_pos h0
    rw [e, List.append_nil, Int.toNat_natCast]
    exact h2.symm
  ·rename_i h0
   split at h
   ·rename_i hc
    obtain ⟨n, hn, e⟩ := Option.map_eq_some_iff.1 h
    cases e
    obtain ⟨r, hr⟩ := split_32 hc
    have hi := (numI_parse hn).2
    have e2 : argL ((j : Int), b) = 32 :: Lib.itoa b := if_neg h0
    rw [e2, Int.toNat_natCast, h2, hi]
    have hd : (l.dropWhile (· != 32)) = 32 :: r := by
     have h5 := List.takeWhile_append_dropWhile (p := (· != 32)) (l := l)
     have h6 : l.takeWhile (· != 32) ++ l.dropWhile (· != 32) = l.takeWhile (· != 32) ++ 32 :: r := by rw [h5]; exact hr
     exact List.append_cancel_left h6
    rw [hd]
    exact hr
   ·cases h
def lineOf : ByteArray ⊕ (Int × Int) → List UInt8
 | .inl n => nameL ++ hexL n.data.toList
 | .inr x => wordL x.1.toNat ++ argL x
theorem line_back {l : List UInt8} {v} (h : lineF l = some v) : l = lineOf v := by
 unfold lineF at h
 split at h
 ·rename_i hp
  obtain ⟨k, hk, h2⟩ := Option.bind_eq_some_iff.1 h
  split at h2
  ·cases h2
   have := unhex_back _ _ hk
   rw [List.isPrefixOf_iff_prefix] at hp
   obtain ⟨r, hr⟩ := hp
   subst hr
   have e : (nameL ++ r).drop 5 = r := rfl
   rw [e] at this
   show nameL ++ r = nameL ++ hexL (bsOf k).data.toList
   have e2 : (bsOf k).data.toList = k := by simp [bsOf]
   rw [e2, this]
  ·cases h2
 ·obtain ⟨x, hx, h2⟩ := Option.map_eq_some_iff.1 h
  subst h2
  obtain ⟨a, b⟩ := x
  exact instr_back hx
def flatL (ls : List (List UInt8)) : List UInt8 := ls.flatMap (· ++ [10])
theorem flatL_cons (l : List UInt8) (r : List (List UInt8)) : flatL (l :: r) = l ++ [10] ++ flatL r := rfl
theorem parse_back : ∀ (ls : List (List UInt8)) (i : Int) (ns0 : List ByteArray) (cs0 : List EvT.den) (late : Bool) (ns : List ByteArray) (cs : List EvT.den), parseGo ls i ns0 cs0 late = .fin ns cs false →
  late = false ∧ ∃ (n1 : List ByteArray) (c1 : List EvT.den), ns = ns0 ++ n1 ∧ cs = cs0 ++ c1 ∧ flatL ls = prN n1 ++ prC c1 ∧ (cs0 ≠ [] → n1 = [])
 | [], i, ns0, cs0, late, ns, cs, h => by
  simp only [parseGo, PR.fin.injEq] at h
  obtain ⟨rfl, rfl, rfl⟩ := h
  exact ⟨rfl, [], [], by simp, by simp, rfl, fun _ => rfl⟩
 | l :: r, i, ns0, cs0, late, ns, cs, h => by
  simp only [parseGo] at h
  cases hl : lineF l with
  | none => rw [hl] at h; cases h
  | some v =>
   have hb := line_back hl
   rw [hl] at h
   cases v with
   | inl n =>
    simp only at h
    obtain ⟨h1, n1, c1, h2, h3, h4, h5⟩ := parse_back r _ _ _ _ _ _ h
    rw [Bool.or_eq_false_iff] at h1
    have hc0 : cs0 = [] := by
     have := h1.2
     cases cs0 with
     | nil => rfl
     | cons x y => simp at this
    refine ⟨h1.1, n :: n1, c1, by rw [h2]; simp, h3, ?_, fun h => absurd hc0 h⟩
    rw [flatL_cons, h4, hb]
    show nameL ++ hexL n.data.toList ++ [10] ++ (prN n1 ++ prC c1) = ((nameL ++ (hexL n.data.toList ++ [10])) ++ prN n1) ++ prC c1
    simp only [List.append_assoc]
   | inr x =>
    simp only at h
    obtain ⟨h1, n1, c1, h2, h3, h4, h5⟩ := parse_back r _ _ _ _ _ _ h
    have hn1 := h5 (by simp)
    subst hn1
    refine ⟨h1, [], x :: c1, h2, by rw [h3]; simp, ?_, fun _ => rfl⟩
    rw [flatL_cons, h4, hb]
    show wordL (x.1 : Int).toNat ++ argL x ++ [10] ++ ([] ++ prC c1) = [] ++ ((wordL (x.1 : Int).toNat ++ (argL x ++ [10])) ++ prC c1)
    simp only [List.append_assoc, List.nil_append]
theorem lines_join : ∀ (l acc : List UInt8), flatL (linesGo l acc) = acc ++ l ∨ flatL (linesGo l acc) = acc ++ l ++ [10]
 | [], acc => by
  unfold linesGo
  split
  ·rename_i h
   subst h
   exact .inl rfl
  ·right
   show acc ++ [10] ++ [] = _
   simp
 | c :: r, acc => by
  unfold linesGo
  split
  ·rename_i h
   subst h
   rw [flatL_cons]
   rcases lines_join r [] with h | h
   ·left; rw [h]; simp
   ·right; rw [h]; simp
  ·rcases lines_join r (acc ++ [c]) with h | h
   ·left; rw [h]; simp
   ·right; rw [h]; simp
theorem print_parse {s : List UInt8} {ns : List ByteArray} {cs : List EvT.den} (h : parseGo (linesL s) 1 [] [] false = .fin ns cs false) : printL ns cs = s ∨ printL ns cs = s ++ [10] := by
 obtain ⟨_, n1, c1, h2, h3, h4, _⟩ := parse_back _ _ _ _ _ _ _ h
 rw [List.nil_append] at h2 h3
 subst h2
 subst h3
 have := lines_join s []
 rw [List.nil_append] at this
 unfold linesL at h4
 rw [h4] at this
 exact this
end Go.V
namespace Go.V
set_option linter.unusedSimpArgs false
set_option linter.unnecessarySimpa false
open Go.Proofs
def a7x : AS :=
 .seq (
 .reg [
 ⟨some 2, .box (.t 0), none⟩,
 ⟨some 4, .mv (.c (.bool false)), none⟩] [1, 2]) (
 .seq (
 .seq (
 .reg [
 ⟨some 19, .call 8 [] [], none⟩,
 ⟨some 20, .not (.t 19), none⟩,
 ⟨some 21, .mv (.t 20), none⟩,
 ⟨some 22, .ldA 2 (.t 2), (some (21, false))⟩,
 ⟨some 23, .call 13 [none] [(.t 22)], (some (21, false))⟩,
 ⟨some 24, .not (.t 23), (some (21, false))⟩,
 ⟨some 25, .pick (.t 21) (.c (.bool true)) (.t 24), none⟩] [1, 2, 25]) (
 .cond (.t 25) (
 .seq (
 .reg [
 ⟨some 26, .call 8 [] [], none⟩,
 ⟨some 4, .mv (.t 26), none⟩] [4]) (
 .ret)) (
 .skip))) (
 .seq (
 .reg [
 ⟨some 28, .ldA 2 (.t 2), none⟩,
 ⟨some 29, .call 15 [none] [(.t 28)], none⟩,
 ⟨some 30, .call 14 [none] [(.t 29)], none⟩,
 ⟨some 27, .mv (.t 30), none⟩,
 ⟨some 31, .ext (.t 27) 0, none⟩,
 ⟨some 32, .ext (.t 27) 1, none⟩,
 ⟨some 5, .mv (.t 31), none⟩,
 ⟨some 6, .mv (.t 32), none⟩] [1, 2, 5, 6]) (
 .seq (
 .seq (
 .reg [
 ⟨some 33, .mv (.t 6), none⟩,
 ⟨some 34, .bin .eql (.t 33) (.c (.int .i64 0)), none⟩] [1, 2, 5, 34]) (
 .cond (.t 34) (
 .seq (
 .reg [
 ⟨some 36, .mv (.t 5), none⟩,
 ⟨some 37, .call 9 [none] [(.t 36)], none⟩,
 ⟨some 35, .mv (.t 37), none⟩,
 ⟨some 38, .ext (.t 35) 0, none⟩,
 ⟨some 39, .ext (.t 35) 1, none⟩,
 ⟨some 40, .ext (.t 35) 2, none⟩,
 ⟨some 7, .alc [.nils, .nils], none⟩,
 ⟨none, .st 2 (.t 7) (.t 38), none⟩,
 ⟨some 8, .mv (.t 39), none⟩,
 ⟨some 9, .mv (.t 40), none⟩] [1, 2, 7, 8, 9]) (
 .seq (
 .reg [
 ⟨some 42, .ldA 2 (.t 2), none⟩,
 ⟨some 43, .call 15 [none] [(.t 42)], none⟩,
 ⟨some 44, .call 20 [none] [(.t 43)], none⟩,
 ⟨some 41, .mv (.t 44), none⟩,
 ⟨some 45, .ext (.t 41) 0, none⟩,
 ⟨some 46, .ext (.t 41) 1, none⟩,
 ⟨some 10, .mv (.t 45), none⟩,
 ⟨some 11, .mv (.t 46), none⟩] [1, 2, 7, 8, 9, 10, 11]) (
 .seq (
 .frz 10 (
 .reg [
 ⟨some 48, .mv (.t 10), none⟩,
 ⟨some 49, .call 22 [none] [(.t 48)], none⟩,
 ⟨some 47, .mv (.t 49), none⟩,
 ⟨some 50, .ext (.t 47) 0, none⟩,
 ⟨some 51, .ext (.t 47) 1, none⟩,
 ⟨some 12, .alc [.nils, .nils], none⟩,
 ⟨none, .st 2 (.t 12) (.t 50), none⟩,
 ⟨some 13, .mv (.t 51), none⟩] [1, 2, 7, 8, 9, 11, 12, 13])) (
 .seq (
 .regD [
 ⟨some 52, .mv (.t 9), none⟩,
 ⟨some 53, .bin .neq (.t 52) (.c (.int .i64 0)), none⟩,
 ⟨some 54, .mv (.t 53), none⟩,
 ⟨some 55, .mv (.t 8), (some (54, false))⟩,
 ⟨some 56, .bin .neq (.t 55) (.c (.int .i64 0)), (some (54, false))⟩,
 ⟨some 57, .pick (.t 54) (.c (.bool true)) (.t 56), none⟩,
 ⟨some 58, .mv (.t 57), none⟩,
 ⟨some 59, .mv (.t 11), (some (58, false))⟩,
 ⟨some 60, .bin .neq (.t 59) (.c (.int .i64 0)), (some (58, false))⟩,
 ⟨some 61, .pick (.t 58) (.c (.bool true)) (.t 60), none⟩,
 ⟨some 62, .mv (.t 61), none⟩,
 ⟨some 63, .mv (.t 13), (some (62, false))⟩,
 ⟨some 64, .bin .neq (.t 63) (.c (.int .i64 0)), (some (62, false))⟩,
 ⟨some 65, .pick (.t 62) (.c (.bool true)) (.t 64), none⟩,
 ⟨some 66, .mv (.t 65), none⟩,
 ⟨some 67, .ldA 2 (.t 7), (some (66, false))⟩,
 ⟨some 68, .call 12 [none] [(.t 67)], (some (66, false))⟩,
 ⟨some 69, .ldA 2 (.t 2), (some (66, false))⟩,
 ⟨some 70, .call 11 [none, none] [(.t 68), (.t 69)], (some (66, false))⟩,
 ⟨some 71, .not (.t 70), (some (66, false))⟩,
 ⟨some 72, .pick (.t 66) (.c (.bool true)) (.t 71), none⟩,
 ⟨some 73, .mv (.t 72), none⟩,
 ⟨some 74, .ldA 2 (.t 12), (some (73, false))⟩,
 ⟨some 75, .call 12 [none] [(.t 74)], (some (73, false))⟩,
 ⟨some 76, .ldA 2 (.t 2), (some (73, false))⟩,
 ⟨some 77, .call 11 [none, none] [(.t 75), (.t 76)], (some (73, false))⟩,
 ⟨some 78, .not (.t 77), (some (73, false))⟩,
 ⟨some 79, .pick (.t 73) (.c (.bool true)) (.t 78), none⟩] [.q 0, .q 1, .q 2, .q 3, .q 4, .q 5, .q 6, .q 7, .q 8, .q 9, .q 10, .q 11, .q 12, .q 13, .q 14, .q 15, .q 17, .e 16 [17], .e 18 [], .q 19, .q 20, .q 21, .q 22, .q 24, .e 23 [24], .e 25 [], .q 26, .q 27] [1, 79]) (
 .cond (.t 79) (
 .seq (
 .reg [
 ⟨some 4, .mv (.c (.bool false)), none⟩] [4]) (
 .ret)) (
 .skip)))))) (
 .skip))) (
 .seq (
 .reg [
 ⟨some 81, .mv (.t 1), none⟩,
 ⟨some 82, .call 9 [none] [(.t 81)], none⟩,
 ⟨some 80, .mv (.t 82), none⟩,
 ⟨some 83, .ext (.t 80) 0, none⟩,
 ⟨some 84, .ext (.t 80) 1, none⟩,
 ⟨some 85, .ext (.t 80) 2, none⟩,
 ⟨some 14, .alc [.nils, .nils], none⟩,
 ⟨none, .st 2 (.t 14) (.t 83), none⟩,
 ⟨some 15, .mv (.t 84), none⟩,
 ⟨some 16, .mv (.t 85), none⟩] [1, 14, 16]) (
 .seq (
 .seq (
 .reg [
 ⟨some 86, .mv (.t 16), none⟩,
 ⟨some 87, .bin .neq (.t 86) (.c (.int .i64 0)), none⟩] [1, 14, 87]) (
 .cond (.t 87) (
 .seq (
 .reg [
 ⟨some 4, .mv (.c (.bool true)), none⟩] [4]) (
 .ret)) (
 .skip))) (
 .seq (
 .reg [
 ⟨some 89, .ldA 2 (.t 14), none⟩,
 ⟨some 90, .call 14 [none] [(.t 89)], none⟩,
 ⟨some 88, .mv (.t 90), none⟩,
 ⟨some 91, .ext (.t 88) 0, none⟩,
 ⟨some 92, .ext (.t 88) 1, none⟩,
 ⟨some 17, .mv (.t 91), none⟩,
 ⟨some 18, .mv (.t 92), none⟩] [1, 17, 18]) (
 .seq (
 .reg [
 ⟨some 93, .mv (.t 18), none⟩,
 ⟨some 94, .bin .eql (.t 93) (.c (.int .i64 0)), none⟩,
 ⟨some 95, .mv (.t 94), none⟩,
 ⟨some 96, .mv (.t 17), (some (95, true))⟩,
 ⟨some 97, .mv (.t 1), (some (95, true))⟩,
 ⟨some 98, .bin .eql (.t 96) (.t 97), (some (95, true))⟩,
 ⟨some 99, .mv (.t 98), (some (95, true))⟩,
 ⟨some 100, .mv (.t 17), (some (99, false))⟩,
 ⟨some 101, .mv (.t 1), (some (99, false))⟩,
 ⟨some 102, .bin .add (.t 101) (.c (.str ⟨#[10]⟩)), (some (99, false))⟩,
 ⟨some 103, .bin .eql (.t 100) (.t 102), (some (99, false))⟩,
 ⟨some 104, .pick (.t 99) (.c (.bool true)) (.t 103), (some (95, true))⟩,
 ⟨some 105, .pick (.t 95) (.t 104) (.c (.bool false)), none⟩,
 ⟨some 4, .mv (.t 105), none⟩] [4]) (
 .ret))))))))
def r7x : List RT := [.t 4]
theorem ok7x : okF Tryd.prog 7 a7x r7x 2 = true := by decide +kernel
end Go.V
namespace Go.V
open Go.Proofs
set_option maxRecDepth 100000
set_option maxHeartbeats 8000000
set_option linter.unusedSimpArgs false
set_option linter.unnecessarySimpa false
set_option linter.unusedVariables false
theorem parse_printed {ns : List ByteArray} {cs : List EvT.den} (h : formP ns cs = true) (hr : ∀ x ∈ cs, inR .i64 x.2) : parseGo (linesL (bsOf (printL ns cs)).data.toList) 1 [] [] false = .fin ns cs false := by
 have e := parse_print h hr []
 rw [List.append_nil] at e
 rw [bL, e]
 rfl
def C7a : Contract := fun args hp K => match args, hp with
 | [.agg [.sl true 16 .str n1, .sl true 16 (.pair (.int .i64) (.int .i64)) c1], .str s], [] => (∀ x ∈ (c1 : List EvT.den), inR .i64 x.2) ∧ K (.bool true) []
 | _, _ => False
attribute [local irreducible] rc
theorem s7a : Sound Tryd.prog 7 C7a := by
 refine sound_of_okF ok7x (Γ := [(8, C8), (13, C13), (15, C15), (14, C14), (9, C9), (20, C20), (22, C22), (12, C12), (11, C11)]) (.cons s8 (callable_of_okF ok8) (.cons s13 (callable_of_okF ok13) (.cons s15 (callable_of_okF ok15) (.cons s14 (callable_of_okF ok14) (.cons s9 (callable_of_okF ok9) (.cons s20 (callable_of_okF ok20) (.cons s22 (callable_of_okF ok22) (.cons s12 (callable_of_okF ok12) (.cons s11 (callable_of_okF ok11) .nil))))))))) ?_
 intro args hp K h
 unfold C7a at h
 split at h
 ·rename_i n1 c1 s
  obtain ⟨hr, h⟩ := h
  have hmx := maxLen_val
  refine ⟨by simp, [], ?_⟩
  simp (maxSteps:=9^9) only [a7x, r7x, C8, go_sem, Int.reduceLT, Int.reduceLE, Int.reduceEq, Int.reduceNe, Int.reduceAdd, Int.reduceSub, Int.reduceMul, Int.reduceToNat, Int.reduceNeg, Nat.reduceEqDiff, Nat.reduceLeDiff, Nat.reduceSub, Nat.reduceMul, Nat.reduceLT, Nat.reduceBEq, Nat.reduceAdd]
  refine use13 ?_
  cases f1 : fewP n1 c1 with
  | false =>
   simp (maxSteps:=9^9) only [C8, go_sem, Int.reduceLT, Int.reduceLE, Int.reduceEq, Int.reduceNe, Int.reduceAdd, Int.reduceSub, Int.reduceMul, Int.reduceToNat, Int.reduceNeg, Nat.reduceEqDiff, Nat.reduceLeDiff, Nat.reduceSub, Nat.reduceMul, Nat.reduceLT, Nat.reduceBEq, Nat.reduceAdd]
   exact h
  | true =>
   simp (maxSteps:=9^9) only [C8, go_sem, Int.reduceLT, Int.reduceLE, Int.reduceEq, Int.reduceNe, Int.reduceAdd, Int.reduceSub, Int.reduceMul, Int.reduceToNat, Int.reduceNeg, Nat.reduceEqDiff, Nat.reduceLeDiff, Nat.reduceSub, Nat.reduceMul, Nat.reduceLT, Nat.reduceBEq, Nat.reduceAdd]
   obtain ⟨⟨l1, z1⟩, l2⟩ := fewP_iff.1 f1
   refine use15 (by omega) (by omega) ?_
   simp (maxSteps:=9^9) only [go_sem, Int.reduceLT, Int.reduceLE, Int.reduceEq, Int.reduceNe, Int.reduceAdd, Int.reduceSub, Int.reduceMul, Int.reduceToNat, Int.reduceNeg, Nat.reduceEqDiff, Nat.reduceLeDiff, Nat.reduceSub, Nat.reduceMul, Nat.reduceLT, Nat.reduceBEq, Nat.reduceAdd]
   cases fp : formP n1 c1 with
   | false =>
    refine use14 (fun _ => ?_) (fun h' => absurd h' (by rw [fp]; simp))
    simp (maxSteps:=9^9) only [go_sem, Int.reduceLT, Int.reduceLE, Int.reduceEq, Int.reduceNe, Int.reduceAdd, Int.reduceSub, Int.reduceMul, Int.reduceToNat, Int.reduceNeg, Nat.reduceEqDiff, Nat.reduceLeDiff, Nat.reduceSub, Nat.reduceMul, Nat.reduceLT, Nat.reduceBEq, Nat.reduceAdd]
    rcases Nat.lt_or_ge 20000 s.size with hs | hs
    ·refine use9 (fun _ => ?_) (fun h' => absurd h' (by omega))
     simp (maxSteps:=9^9) only [go_sem, Int.reduceLT, Int.reduceLE, Int.reduceEq, Int.reduceNe, Int.reduceAdd, Int.reduceSub, Int.reduceMul, Int.reduceToNat, Int.reduceNeg, Nat.reduceEqDiff, Nat.reduceLeDiff, Nat.reduceSub, Nat.reduceMul, Nat.reduceLT, Nat.reduceBEq, Nat.reduceAdd]
     exact h
    ·refine use9 (fun h' => absurd h' (by omega)) (fun _ => ?_)
     cases hp : parseGo (linesL s.data.toList) 1 [] [] false with
     | bad i =>
      rw [pOut_bad]
      simp (maxSteps:=9^9) only [go_sem, Int.reduceLT, Int.reduceLE, Int.reduceEq, Int.reduceNe, Int.reduceAdd, Int.reduceSub, Int.reduceMul, Int.reduceToNat, Int.reduceNeg, Nat.reduceEqDiff, Nat.reduceLeDiff, Nat.reduceSub, Nat.reduceMul, Nat.reduceLT, Nat.reduceBEq, Nat.reduceAdd]
      exact h
     | fin ns cs late =>
      rw [pOut_fin]
      split
      ·simp (maxSteps:=9^9) only [go_sem, Int.reduceLT, Int.reduceLE, Int.reduceEq, Int.reduceNe, Int.reduceAdd, Int.reduceSub, Int.reduceMul, Int.reduceToNat, Int.reduceNeg, Nat.reduceEqDiff, Nat.reduceLeDiff, Nat.reduceSub, Nat.reduceMul, Nat.reduceLT, Nat.reduceBEq, Nat.reduceAdd]
       exact h
      ·rename_i hc
       have hf : formP ns cs = true := by
        cases hfp : formP ns cs with
        | true => rfl
        | false => exact absurd (.inr hfp) hc
       have hlate : late = false := by
        cases late with
        | false => rfl
        | true => exact absurd (.inl rfl) hc
       subst hlate
       have hpp := print_parse hp
       simp (maxSteps:=9^9) only [go_sem, Int.reduceLT, Int.reduceLE, Int.reduceEq, Int.reduceNe, Int.reduceAdd, Int.reduceSub, Int.reduceMul, Int.reduceToNat, Int.reduceNeg, Nat.reduceEqDiff, Nat.reduceLeDiff, Nat.reduceSub, Nat.reduceMul, Nat.reduceLT, Nat.reduceBEq, Nat.reduceAdd]
       refine use14 (fun h' => absurd h' (by rw [hf]; simp)) (fun _ => ?_)
       simp (maxSteps:=9^9) only [go_sem, Int.reduceLT, Int.reduceLE, Int.reduceEq, Int.reduceNe, Int.reduceAdd, Int.reduceSub, Int.reduceMul, Int.reduceToNat, Int.reduceNeg, Nat.reduceEqDiff, Nat.reduceLeDiff, Nat.reduceSub, Nat.reduceMul, Nat.reduceLT, Nat.reduceBEq, Nat.reduceAdd]
       intro c hc
       refine swd hc (fun _ => h) (fun hne => ?_)
       refine ⟨by show _ + 1 ≤ _; omega, ?_⟩
       intro u hu c2 hc2
       have e : bsOf (printL ns cs) = u := by
        rw [bs_eq, hu, bs_app]
        rcases hpp with hpp | hpp
        ·exact absurd (bs_eq.2 hpp) hne
        ·exact hpp
       rw [hc2, decide_eq_true e]
       exact h
   | true =>
    refine use14 (fun h' => absurd h' (by rw [fp]; simp)) (fun _ => ?_)
    simp (maxSteps:=9^9) only [go_sem, Int.reduceLT, Int.reduceLE, Int.reduceEq, Int.reduceNe, Int.reduceAdd, Int.reduceSub, Int.reduceMul, Int.reduceToNat, Int.reduceNeg, Nat.reduceEqDiff, Nat.reduceLeDiff, Nat.reduceSub, Nat.reduceMul, Nat.reduceLT, Nat.reduceBEq, Nat.reduceAdd]
    have hpl := print_len fp hr
    have hps := bsOf_size (printL n1 c1)
    refine use9 (fun h' => absurd h' (by omega)) (fun _ => ?_)
    rw [parse_printed fp hr, pOut_fin, if_neg (by rw [fp]; simp)]
    simp (maxSteps:=9^9) only [go_sem, Int.reduceLT, Int.reduceLE, Int.reduceEq, Int.reduceNe, Int.reduceAdd, Int.reduceSub, Int.reduceMul, Int.reduceToNat, Int.reduceNeg, Nat.reduceEqDiff, Nat.reduceLeDiff, Nat.reduceSub, Nat.reduceMul, Nat.reduceLT, Nat.reduceBEq, Nat.reduceAdd]
    refine use15 (by omega) (by omega) ?_
    simp (maxSteps:=9^9) only [go_sem, Int.reduceLT, Int.reduceLE, Int.reduceEq, Int.reduceNe, Int.reduceAdd, Int.reduceSub, Int.reduceMul, Int.reduceToNat, Int.reduceNeg, Nat.reduceEqDiff, Nat.reduceLeDiff, Nat.reduceSub, Nat.reduceMul, Nat.reduceLT, Nat.reduceBEq, Nat.reduceAdd]
    refine use20 (fun h' => absurd h' (by rw [fp]; simp)) (fun _ => ?_)
    simp (maxSteps:=9^9) only [go_sem, Int.reduceLT, Int.reduceLE, Int.reduceEq, Int.reduceNe, Int.reduceAdd, Int.reduceSub, Int.reduceMul, Int.reduceToNat, Int.reduceNeg, Nat.reduceEqDiff, Nat.reduceLeDiff, Nat.reduceSub, Nat.reduceMul, Nat.reduceLT, Nat.reduceBEq, Nat.reduceAdd]
    refine use22 ?_
    rw [dec_enc fp hr, dOut_s]
    simp (maxSteps:=9^9) only [go_sem, Int.reduceLT, Int.reduceLE, Int.reduceEq, Int.reduceNe, Int.reduceAdd, Int.reduceSub, Int.reduceMul, Int.reduceToNat, Int.reduceNeg, Nat.reduceEqDiff, Nat.reduceLeDiff, Nat.reduceSub, Nat.reduceMul, Nat.reduceLT, Nat.reduceBEq, Nat.reduceAdd]
    refine use12 (by omega) (by omega) ?_
    simp (maxSteps:=9^9) only [go_sem, Int.reduceLT, Int.reduceLE, Int.reduceEq, Int.reduceNe, Int.reduceAdd, Int.reduceSub, Int.reduceMul, Int.reduceToNat, Int.reduceNeg, Nat.reduceEqDiff, Nat.reduceLeDiff, Nat.reduceSub, Nat.reduceMul, Nat.reduceLT, Nat.reduceBEq, Nat.reduceAdd]
    refine use11 ?_
    simp (maxSteps:=9^9) only [go_sem, Int.reduceLT, Int.reduceLE, Int.reduceEq, Int.reduceNe, Int.reduceAdd, Int.reduceSub, Int.reduceMul, Int.reduceToNat, Int.reduceNeg, Nat.reduceEqDiff, Nat.reduceLeDiff, Nat.reduceSub, Nat.reduceMul, Nat.reduceLT, Nat.reduceBEq, Nat.reduceAdd]
    refine use12 (by omega) (by omega) ?_
    simp (maxSteps:=9^9) only [go_sem, Int.reduceLT, Int.reduceLE, Int.reduceEq, Int.reduceNe, Int.reduceAdd, Int.reduceSub, Int.reduceMul, Int.reduceToNat, Int.reduceNeg, Nat.reduceEqDiff, Nat.reduceLeDiff, Nat.reduceSub, Nat.reduceMul, Nat.reduceLT, Nat.reduceBEq, Nat.reduceAdd]
    refine use11 ?_
    simp (maxSteps:=9^9) only [go_sem, Int.reduceLT, Int.reduceLE, Int.reduceEq, Int.reduceNe, Int.reduceAdd, Int.reduceSub, Int.reduceMul, Int.reduceToNat, Int.reduceNeg, Nat.reduceEqDiff, Nat.reduceLeDiff, Nat.reduceSub, Nat.reduceMul, Nat.reduceLT, Nat.reduceBEq, Nat.reduceAdd]
    rcases Nat.lt_or_ge 20000 s.size with hs | hs
    ·refine use9 (fun _ => ?_) (fun h' => absurd h' (by omega))
     simp (maxSteps:=9^9) only [go_sem, Int.reduceLT, Int.reduceLE, Int.reduceEq, Int.reduceNe, Int.reduceAdd, Int.reduceSub, Int.reduceMul, Int.reduceToNat, Int.reduceNeg, Nat.reduceEqDiff, Nat.reduceLeDiff, Nat.reduceSub, Nat.reduceMul, Nat.reduceLT, Nat.reduceBEq, Nat.reduceAdd]
     exact h
    ·refine use9 (fun h' => absurd h' (by omega)) (fun _ => ?_)
     cases hp : parseGo (linesL s.data.toList) 1 [] [] false with
     | bad i =>
      rw [pOut_bad]
      simp (maxSteps:=9^9) only [go_sem, Int.reduceLT, Int.reduceLE, Int.reduceEq, Int.reduceNe, Int.reduceAdd, Int.reduceSub, Int.reduceMul, Int.reduceToNat, Int.reduceNeg, Nat.reduceEqDiff, Nat.reduceLeDiff, Nat.reduceSub, Nat.reduceMul, Nat.reduceLT, Nat.reduceBEq, Nat.reduceAdd]
      exact h
     | fin ns cs late =>
      rw [pOut_fin]
      split
      ·simp (maxSteps:=9^9) only [go_sem, Int.reduceLT, Int.reduceLE, Int.reduceEq, Int.reduceNe, Int.reduceAdd, Int.reduceSub, Int.reduceMul, Int.reduceToNat, Int.reduceNeg, Nat.reduceEqDiff, Nat.reduceLeDiff, Nat.reduceSub, Nat.reduceMul, Nat.reduceLT, Nat.reduceBEq, Nat.reduceAdd]
       exact h
      ·rename_i hc
       have hf : formP ns cs = true := by
        cases hfp : formP ns cs with
        | true => rfl
        | false => exact absurd (.inr hfp) hc
       have hlate : late = false := by
        cases late with
        | false => rfl
        | true => exact absurd (.inl rfl) hc
       subst hlate
       have hpp := print_parse hp
       simp (maxSteps:=9^9) only [go_sem, Int.reduceLT, Int.reduceLE, Int.reduceEq, Int.reduceNe, Int.reduceAdd, Int.reduceSub, Int.reduceMul, Int.reduceToNat, Int.reduceNeg, Nat.reduceEqDiff, Nat.reduceLeDiff, Nat.reduceSub, Nat.reduceMul, Nat.reduceLT, Nat.reduceBEq, Nat.reduceAdd]
       refine use14 (fun h' => absurd h' (by rw [hf]; simp)) (fun _ => ?_)
       simp (maxSteps:=9^9) only [go_sem, Int.reduceLT, Int.reduceLE, Int.reduceEq, Int.reduceNe, Int.reduceAdd, Int.reduceSub, Int.reduceMul, Int.reduceToNat, Int.reduceNeg, Nat.reduceEqDiff, Nat.reduceLeDiff, Nat.reduceSub, Nat.reduceMul, Nat.reduceLT, Nat.reduceBEq, Nat.reduceAdd]
       intro c hc
       refine swd hc (fun _ => h) (fun hne => ?_)
       refine ⟨by show _ + 1 ≤ _; omega, ?_⟩
       intro u hu c2 hc2
       have e : bsOf (printL ns cs) = u := by
        rw [bs_eq, hu, bs_app]
        rcases hpp with hpp | hpp
        ·exact absurd (bs_eq.2 hpp) hne
        ·exact hpp
       rw [hc2, decide_eq_true e]
       exact h
 ·exact h.elim
def C7 : Contract := fun args hp K => match args, hp with
 | [.agg [.sl true 16 .str n1, .sl true 16 (.pair (.int .i64) (.int .i64)) c1], .str s], [] => K (.bool true) []
 | _, _ => False
theorem s7 : Sound Tryd.prog 7 C7 := by
 intro args hp K h E vs hs hg hd
 unfold C7 at h
 split at h
 ·rename_i ns cs s
  have hr : ∀ x ∈ cs, inR .i64 x.2 := by
   simp only [denL] at hd
   obtain ⟨v, r, rfl, h1, _⟩ := hd
   exact agg2_in rfl h1
  exact s7a [.agg [.sl true 16 .str ns, .sl true 16 (.pair (.int .i64) (.int .i64)) cs], .str s] [] K ⟨hr, h⟩ E vs hs hg hd
 ·exact h.elim
end Go.V
